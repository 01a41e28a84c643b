/- Texts of one's own, merged: the engine, what the functions do, plain laws. -/
import Derived.Test.YtellmabgmnbhcaaGreatPv5
namespace Go.Proofs.YtellmabgmnbhcaaGreat
open Go.RowKit
set_option linter.unusedVariables false
set_option linter.unusedSimpArgs false
set_option maxRecDepth 20000
variable {w:World}{v wv cv:Value}{P:PtD}{X fuel:Nat}{H:HyD}
section
attribute [local irreducible] Hy St Ops DH dI
theorem Yp{ha:Hp}(xs:List jR)(i:Nat)(x:jR)(vb tv:Nat)(hA:Own 173 2 v ha (xs.map dY))(hN:eX ha w)(hvb:w.heap[vb]?=some (.cells (dY x).toArray tv (0,0)))(hne:vb∉ha.map (·.b))(hi:i≤xs.length)(hl:xs.length<100000):
  Fn Tryz.prog 301 [v,.int .i64 (i:Int),.slice (some ⟨vb,0,none⟩) 1 1].toArray w (ha.map (·.b)) (fun u hn=>Own 173 2 u hn ((xs.take i++x::xs.drop i).map dY)):=by
 obtain⟨q,cap,ev⟩:=hA.opened;rw[bE9] at ev;subst ev;refine eP _ hN Tryz.func301 ?_;have Y6:w.rangeAt vb 0 (dY x):=fun j u hj=>by rw[bH5,cell_of_block hvb];simpa using hj
 refine aP ?_;refine jI by5 (zO aB rfl rfl rfl bx6 bx6) ?_;refine aP ?_;refine ah _ rfl (fun hc=>?_) (fun hc=>?_)
 ·have hin:i=xs.length:=by simp at hc;omega
  subst hin;refine aP ?_;refine qC (c:=dY x) [] hA (fun v' ha' hA'=>?_) bx9 (yl Y6 hne) (by rw[bG3]);refine aP ?_;refine fin1 ?_;rw[bG3,bK4,List.drop_length,bG5];exact hA'
 have hlt:i<xs.length:=by simp at hc;omega
 obtain⟨g,cap',cur,ev,rfl,hr⟩:=hA.row (n:=xs.length) bx8 bx6;cases ev;have hsz:=hr.size;have hcap:=hr.le;have hmax:=hr.max;have hall:=hA.1;have hlen:(xs.map dY).flatten.length=xs.length*2:=hr.len;simp only[bI',bL',bJ4] at hne;have hxs:(xs.map dY).flatten=((xs.take i).map dY).flatten++((xs.drop i).map dY).flatten:=by rw[←bR6,←bG5,bW2]
 have hTl:((xs.take i).map dY).flatten.length=i*2:=by rw[dR (sz:=2) _ (fun c hc=>(AP c hc).1),bE9,bI1,bM9 bx6]
 have hDl:((xs.drop i).map dY).flatten.length=(xs.length-i)*2:=by rw[dR (sz:=2) _ (fun c hc=>(AP c hc).1),bE9,bK8]
 have hA0:cur.toList.take (i*2)=((xs.take i).map dY).flatten:=by
  rw[←bM9 (show i*2≤xs.length*2 by omega),←bU2,hr.take,hxs];exact bS0 hTl
 have hD:(cur.toList.drop (i*2)).take ((xs.length-i)*2)=((xs.drop i).map dY).flatten:=by
  have h1:=hr.take;rw[hxs] at h1;have h2:(cur.toList.take (xs.length*2)).drop (i*2)=((xs.drop i).map dY).flatten:=by rw[h1];exact List.drop_left' hTl
  rw[List.drop_take] at h2;rw[←h2];congr 1;omega
 have hD1:(((xs.drop i).map dY).flatten).all (·.oneCell')=true:=by
  rw[List.all_flatten,bF1];exact fun c hc=>(AP c hc).2
 have hlen2:((xs.take i++x::xs.drop i).map dY).length=xs.length+1:=by
  simp only[bE9,bG9,bI1,bI6,bK8];omega
 have hall':∀ c∈(xs.take i++x::xs.drop i).map dY,c.length=2∧c.all (·.oneCell')=true:=AP;refine aP ?_;refine jI by5 (aG4 aB rfl rfl) ?_;refine aP ?_;refine ah _ rfl (fun hroom=>?_) (fun hroom=>?_)
 ·have hroom':cap<xs.length+1:=by simp at hroom;omega
  refine aP ?_;refine jI by5 (pO aB rfl rfl rfl bx6 bx6 (m':=i) bx8 (.inr ⟨_,_,rfl⟩)) ?_;refine aP ?_;rw[show ((xs.length+1:Nat):Int)-(i:Int)=((xs.length+1-i:Nat):Int) by omega];refine Sl (olds:=((xs.take i).map dY).flatten) aB by5 rfl rfl rfl rfl rfl rfl rfl rfl hTl (aX (m:=i*2) mh (by rw[bJ0];exact hA0)) bx6 bx6 bx6 bx6 (fun g2 cap2 Uo hs2 hc2 hm2 ht2=>?_);have hts:i+(xs.length+1-i)=xs.length+1:=by omega
  rw[hts] at hc2 ⊢;refine aP ?_;refine jI by5 (lZ aB rfl rfl rfl bx6 bx6 bx6 (o':=i*2) (m':=xs.length+1-i) (c':=cap2-i) bx8 bx8 bx8) ?_;refine aP ?_;refine Iy (news:=dY x) (cs:=Uo) aB by5 rfl rfl rfl (.refl _) ?_ ?_ rfl ?_ ?_
  ·show 2=_;omega
  ·exact yl Y6 bE5
  ·show i*2+2≤_;omega
  refine aP ?_;refine gQ 8 ?_;refine dJ ?_;refine Nl (lZ aB rfl rfl rfl bx6 bx6 bx6 (o':=i*2+2) (m':=xs.length-i) (c':=cap2-(i+1)) bx6 bx6 bx6) ?_;refine dJ ?_;refine Nl (lZ aB rfl rfl rfl bx6 bx6 bx6 (o':=i*2) (m':=xs.length-i) (c':=cap-i) bx6 bx6 bx6) ?_;refine dJ ?_;refine aP ?_;refine Iy (news:=((xs.drop i).map dY).flatten) aB by5 rfl rfl rfl (.refl _) ?_ (aX (m:=(xs.length-i)*2) (mt mh) hD) ?_ ?_ ?_
  ·rw[hDl];omega
  ·exact hD1
  ·rw[fO,hDl];omega
  refine aS [⟨g2,putAt (putAt Uo (i*2) (dY x)) (i*2+2) ((xs.drop i).map dY).flatten,173⟩] ak ?_;refine aP ?_;refine fin1 ?_;have hfl:((xs.take i++x::xs.drop i).map dY).flatten=((xs.take i).map dY).flatten++dY x++((xs.drop i).map dY).flatten:=by simp
  have hb:=NP (cs:=Uo) (A:=((xs.take i).map dY).flatten) (c:=dY x) (D:=((xs.drop i).map dY).flatten) (by rw[hTl];exact ht2) (by rw[hTl,hDl];show i*2+2+_≤_;omega);rw[hTl,hDl,show (dY x).length=2 from rfl] at hb;refine⟨hall',.inr ⟨g2,cap2,_,by rw[hlen2],rfl,?_⟩⟩;rw[hlen2];refine⟨by rw[hfl,bG9,bG9,hTl,hDl];show i*2+2+_=_;omega,hc2,hm2,by rw[fO,fO];exact hs2,?_⟩;rw[hfl,←hb]
  congr 1;omega
 ·have hroom':xs.length+1≤cap:=by simp at hroom;omega
  refine aP ?_;refine jI by5 (pO aB rfl rfl rfl bx6 bx6 (m':=xs.length+1) bx6 (.inr ⟨_,_,rfl⟩)) ?_;refine aP ?_;refine jI by5 (lZ aB rfl rfl rfl bx6 bx6 bx6 (o':=i*2+2) (m':=xs.length-i) (c':=cap-(i+1)) bx6 bx6 bx6) ?_;refine aP ?_;refine jI by5 (aG3 (v:=.bool false) rfl (fun w' hG=>?_)) ?_
  ·have hg:=hG.here ⟨g,cur,173⟩ bx8
   have hv':w'.heap[vb]?=some (.cells (dY x).toArray tv (0,0)):=by
    rw[hG.old vb ?_ bE5]
    ·exact hvb
    ·exact (bH8.1 hvb).1
   have hr:=Lib.run_overlaps_apart (P:=Tryz.prog) w' 92 4 173 (aB.zC (t:=92) (e:=173) (s:=2) rfl).1 2 (fun w=>run_sizeOf (aB.zC (t:=92) (e:=173) (s:=2) rfl).2 w) ⟨vb,0,none⟩ ⟨g,i*2+2,none⟩ 1 1 (xs.length-i) (cap-(i+1)) bE5 tv 173 2 cur.size (by simp only[World.shape?,hv'];rfl) (by simp only[World.shape?,hg]) bx6 (fQ hv') (fQ hv');rw[run_callFunc_extern Tryz.func338 bz2 bz2 bz2 (e:=Extern.SlicesOverlaps.overlaps #[92,92] #[4]) bz2];rw[show ([Value.slice (some ⟨vb,0,none⟩) 1 1,.slice (some ⟨g,i*2+2,none⟩) (xs.length-i) (cap-(i+1))]:List Value).toArray=#[Value.slice (some ⟨vb,0,none⟩) 1 1,.slice (some ⟨g,i*2+2,none⟩) (xs.length-i) (cap-(i+1))] from rfl,hr];rfl
  refine aP ?_;refine gQ 8 ?_;refine dJ ?_;refine Nl (lZ aB rfl rfl rfl bx6 bx6 bx6 (o':=i*2+2) (m':=xs.length-i) (c':=cap-(i+1)) bx6 bx6 bx6) ?_;refine dJ ?_;refine Nl (lZ aB rfl rfl rfl bx6 bx6 bx6 (o':=i*2) (m':=xs.length+1-i) (c':=cap-i) bx6 bx6 bx6) ?_;refine dJ ?_;refine aP ?_;refine Iy (news:=((xs.drop i).map dY).flatten) aB by5 rfl rfl rfl (.refl _) ?_ (aX (m:=(xs.length-i)*2) mh hD) ?_ ?_ ?_
  ·rw[hDl];omega
  ·exact hD1
  ·rw[hDl];omega
  refine aP ?_;refine jI by5 (lZ aB rfl rfl rfl bx6 bx6 bx6 (o':=i*2) (m':=xs.length+1-i) (c':=cap-i) bx6 bx6 bx6) ?_;refine aP ?_;refine Iy (news:=dY x) aB by5 rfl rfl rfl (.refl _) ?_ ?_ rfl ?_ ?_
  ·show 2=_;omega
  ·exact yl Y6 bE5
  ·rw[fO];show i*2+2≤_;omega
  refine aP ?_;refine fin1 ?_;have hfl:((xs.take i++x::xs.drop i).map dY).flatten=((xs.take i).map dY).flatten++dY x++((xs.drop i).map dY).flatten:=by simp
  have hb:=Sm (cs:=cur) (A:=((xs.take i).map dY).flatten) (c:=dY x) (D:=((xs.drop i).map dY).flatten) (by rw[hTl];exact hA0) (by rw[hTl,hDl];show i*2+2+_≤_;omega);rw[hTl,hDl,show (dY x).length=2 from rfl] at hb;refine⟨hall',.inr ⟨g,cap,_,by rw[hlen2],rfl,?_⟩⟩;rw[hlen2];refine⟨by rw[hfl,bG9,bG9,hTl,hDl];show i*2+2+_=_;omega,hroom',hmax,by rw[fO,fO];exact hsz,?_⟩;rw[hfl,←hb]
  congr 1;omega
namespace PtD
def aY6(l:List jR)(f:Int):List jR:=l.filter fun m=>!decide (m.dX=f)
theorem Ur{p:Nat→Bool}:∀ n,(∀ j,j<n→p j=false)∨∃ k,k<n∧p k=true∧∀ j,j<k→p j=false:=by
 intro n
 induction n with
 | zero=>exact .inl fun j hj=>absurd hj bx6
 | succ n ih=>
  rcases ih with h | ⟨k,hk,h1,h2⟩
  ·cases hn:p n
   ·refine .inl fun j hj=>?_;rcases bG1.1 hj with hj | rfl
    ·exact h j hj
    ·exact hn
   ·exact .inr ⟨n,by omega,hn,h⟩
  ·exact .inr ⟨k,by omega,h1,h2⟩
end PtD
end
section
attribute [local irreducible] Hy St Ops DH dI
namespace PtD
def MG(P:PtD)(f:Int):Except Int PtD:=
 bif !dm f 16 ((P.pages.length:Int)-1) then .error 2 else bif decide ((P.pg f.toNat).own<1)||!(P.gs (ix (P.pg f.toNat).own)).dying then .error 7
 else .ok ((P.kJ f.toNat ⟨0,-2⟩).jL (ix (P.pg f.toNat).own) { P.gs (ix (P.pg f.toNat).own) with dying:=(P.kJ f.toNat ⟨0,-2⟩).owns (P.pg f.toNat).own })
end PtD
section
variable {P : PtD} {Y : Lay} {bx tx : Nat} {w : World}
end
end
section
attribute [local irreducible] Hy St Ops DH dI
section
variable {n : Nat} {w0 : World} {mu : List Nat} {l : Fm} {hp : Hp} {all : Array Oper} {ty : TypeId} {pos : String} {af : Array Edge} {ds : List (Nat × Nat)} {iv : Fm} {i d : Nat} {E : List Nat} {Rs : List (Nat × RT)} {Z : List (Nat × RT) → Prop}
theorem Q7{t len e sz:Nat}{z:Value}{ps:List (Nat×Operand)}{vs:List (Nat×Value)}{zl:List Value}{out:Array Value}{out':List Value}(h:iP Tryz.prog n w0 mu all ds l hp iv Z E ((i,fun v hn=>∃ b,v=.slice (some ⟨b,0,none⟩) len len∧hn=[⟨b,out'.toArray,e⟩])::Rs))(ho:all[i]?=some ⟨some d,.buildSlice t len ps.toArray,ty,pos,af,none⟩:=by rfl)(ht:lk Tb.sl t=some (e,sz):=by rfl)(hz:lk Tb.zs e=some z:=by rfl)(hzc:z.cells=zl.toArray:=by (first | ((simp only[Value.cells])<;>rfl) | rfl))(hzs:Nat.beq zl.length sz=true:=by rfl)(hpos:(Nat.blt 0 (len*sz)&&Nat.ble (len*sz) 16777216)=true:=by rfl)(hv:EY (aT ds iv af.toList++l) ps=some vs:=by rfl)(hf:flS sz (rep zl len).toArray vs=some out:=by rfl)(hn:out=out'.toArray:=by (first | ((simp only[putAt,rep,Value.cells,Nat.reduceMul,bO6,Nat.one_mul,bH6,bM5,bL7,bO3,bO4,bI4,bJ0,bI7,bK1,bF2,bF5,bG3])<;>rfl) | rfl)):iP Tryz.prog n w0 mu all ds l hp iv Z (i::E) Rs:=
 JU ho (zQ aB ht hz hzc hzs hpos hv hf hn) ⟨_,_,0,rfl,rfl⟩ h
end
namespace PtD
def Jr(l:List jR)(mid dX:Int):List jR:=l.take (og l mid)++⟨mid,dX⟩::l.drop (og l mid)
theorem Yq(l:List jR)(mid dX:Int):(Jr l mid dX).length=l.length+1:=by
 have:=Cm l mid;simp only[Jr,bG9,bI1,bI6,bK8];omega
theorem Yr{l:List jR}{mid dX:Int}{x:jR}(h:x∈Jr l mid dX):x∈l∨x=⟨mid,dX⟩:=by
 rw[Jr,bH1,bG7] at h;rcases h with h | h | h
 ·exact .inl (bU7 h)
 ·exact .inr h
 ·exact .inl (List.mem_of_mem_drop h)
theorem Us{l:List jR}(hs:Sorted l)(h0:∀ k,k<l.length→0≤(l.getD k default).mid):∀ k,k<l.length→(k:Int)≤(l.getD k default).mid:=by
 intro k
 induction k with
 | zero=>intro h;exact h0 0 h
 | succ k ih=>intro h;have:=ih bx6;have:=hs k (k+1) bx6 h;omega
theorem EK(hm:P.may=true){i:Nat}(hi:i<4):(P.gs i).maps.length≤16:=by
 rcases bN5 16 (P.gs i).maps.length with h | h
 ·have h1:=Us (DK hm hi) (fun k hk=>(CB hm hi hk).1) 16 h;have h2:=(CB hm hi h).2.1;omega
 ·exact h
def BC(P:PtD)(vm fr mid:Int)(x:oZ):Except Int PtD:=
 bif !P.lives vm then .error 3 else bif !decide ((P.pg fr.toNat).own=0) then .error 7 else bif !(decide ((P.pg fr.toNat).wit= -2)&&!sS (P.gs (ix vm)).maps mid) then .error 4
 else .ok ((P.kJ fr.toNat x).jL (ix vm) { P.gs (ix vm) with maps:=Jr (P.gs (ix vm)).maps mid fr })
end PtD
theorem Good.G6{w0:World}{mu:List Nat}{hi hp:Hp}(h:Good w0 mu (hi++hp) w){e:mO}(he:e∈hp):e.b∉hi.map (·.b):=by
 have hn:=h.nodup;rw[bG5,bJ5] at hn;intro hm;exact hn.2.2 _ hm _ (bF9.2 ⟨e,he,rfl⟩) rfl
section
variable {P : PtD} {Y : Lay} {bx tx : Nat} {w : World}
theorem dZ.aM3(h:dZ P Y){i:Nat}(hi:i<4)(ms:List jR){mv:Value}{hm:Hp}(hA:Own 173 2 mv hm (ms.map dY))(hw:∀ x∈ms,I64 x.mid∧I64 x.dX)(hs:ms.length≤1000):∃ Y',dZ (P.jL i { P.gs i with maps:=ms }) Y'∧Y'.hd (P.jL i { P.gs i with maps:=ms }) bx tx=⟨bx,#[Y.pv P,Y.gv P,Y.ov P],tx⟩::⟨Y.pb,Y.pc,51⟩::⟨Y.gb,putAt Y.gc (i*5+4) [mv],100⟩::⟨Y.ob,Y.oc,104⟩::zG (qU Y.G i ⟨(Y.G i).vv,mv,(Y.G i).hv,hm⟩) 4:=by
 have g4:=h.n.g4;have hf:=h.wf.gs i bx6;have hsm:=h.sm.vc i bx6
 have hg:=h.Ae hi { P.gs i with maps:=ms } ⟨(Y.G i).vv,mv,(Y.G i).hv,hm⟩ (gc:=putAt Y.gc (i*5+4) [mv]) (by
  have:=h.gs.put nJ (h.Jp hi) (k:=4) (vs:=[mv]) bx8
  exact this) (h.vc i hi) hA ⟨hf.1,hf.2.1,hw⟩ ⟨hsm.1,hs⟩
 refine⟨_,hg,?_⟩;rw[hdG]
theorem az3(h:dZ P Y)(hm:P.may=true)(hN:eX (Y.hd P bx 149) w)(c:xR)(hw:c.Wf)(x:oZ)(hx:I64 x.own∧I64 x.wit)(hf:PtD.dm c.frame 16 ((P.pages.length:Int)-1)=true)(hmd:PtD.dm c.mid 0 15=true):Fn Tryz.prog 232 [.pointer (some ⟨bx,0,none⟩),uo c,.agg #[.int .i64 x.own,.int .i64 x.wit]].toArray w ((Y.hd P bx 149).map (·.b)) (jq bx 149 (P.BC c.vm c.frame c.mid x)):=by
 simp only[PtD.dm,bE8,decide_eq_true_eq] at hf hmd;have hk:c.frame.toNat<P.pages.length:=by omega
 have hp0:=h.p0' hk;have hp1:=h.p1' hk;have hsm:=h.sm.pg;have bn7:=h.psz;have hz:=h.zH;have g4:=h.n.g4;refine eP _ hN Tryz.func232 ?_;refine run ?_;intro C;refine run ?_;intro D;refine run ?_;refine az (fun wc hG=>CX (h.Yh (bx:=bx) (tx:=149) (show Here (Lay.hd Y P bx _) wc from hG.here' ak)) _) ?_;cases hb:P.lives c.vm
 ·refine aP ?_;refine fin1 ?_;simp[jq,PtD.BC,hb]
 have hb':=hb;simp only[PtD.lives,PtD.dm,bE8,decide_eq_true_eq] at hb';obtain⟨hv,hl⟩:=hb';have hi:ix c.vm<4:=MB hv;have hlen:=PtD.EK hm hi;refine aP ?_;refine az (fun wc hG=>Mc (bx:=bx) (tx:=149) h (hG.here' ak) hv) ?_;rw[show (c.vm-1).toNat=ix c.vm from rfl];refine aP ?_;refine az (fun wc hG=>ag5 (P.gs (ix c.vm)).maps c.mid Y.gb (ix c.vm*5) (Y.G (ix c.vm)).mv ?_ (h.slM (bx:=bx) (tx:=149) hi (hG.here' ak)) hmd (fun k hk=>⟨(PtD.CB hm hi hk).1,(PtD.CB hm hi hk).2.1⟩) (PtD.DK hm hi) bx6) ?_
 ·have h1:=h.gs.range nJ (hG.here ⟨Y.gb,Y.gc,100⟩ bx8) (h.Jp hi);have:=dh (k:=4) h1 rfl;rwa [bH5] at this
 refine aP ?_;refine gQ 8 ?_;refine dJ ?_;refine aP ?_;refine gQ 16 ?_;refine bg ?_;refine eu (fun wc hG=>lu _ _ wc) ?_;refine bg ?_;refine eu (fun wc hG=>lu _ _ wc) ?_;refine bg ?_;refine run ?_;intro F;refine az (fun wc hG=>C9 [_,_] _ (lits hG mh [_,_] rfl rfl bx8)) ?_
 have hkey:P.BC c.vm c.frame c.mid x=bif !decide ((P.pg c.frame.toNat).own=0) then .error 7 else bif !(decide ((P.pg c.frame.toNat).wit= -2)&&!PtD.sS (P.gs (ix c.vm)).maps c.mid) then .error 4
   else .ok ((P.kJ c.frame.toNat x).jL (ix c.vm) { P.gs (ix c.vm) with maps:=PtD.Jr (P.gs (ix c.vm)).maps c.mid c.frame }):=by
  rw[PtD.BC,hb];rfl
 rw[hkey];cases hA:decide ((P.pg c.frame.toNat).own=0)
 ·rw[show iT [bif false then 0 else 7,bif (decide ((P.pg c.frame.toNat).wit= -2)&&!PtD.sS (P.gs (ix c.vm)).maps c.mid) then 0 else 4]=7 from rfl];refine aP ?_;refine fin1 ?_;rfl
 cases hB:(decide ((P.pg c.frame.toNat).wit= -2)&&!PtD.sS (P.gs (ix c.vm)).maps c.mid)
 ·rw[show iT [bif true then 0 else 7,bif false then 0 else 4]=4 from rfl];refine aP ?_;refine fin1 ?_;rfl
 rw[show iT [bif true then 0 else 7,bif true then 0 else 4]=0 from rfl]
 have h0:=h.aM0 hk x (pc:=(Y.pc.setIfInBounds (c.frame.toNat*2) (.int .i64 x.own)).setIfInBounds (c.frame.toNat*2+1) (.int .i64 x.wit)) (by
  have:=h.pg.put AO (LZ hk) (k:=0) (vs:=sQ x) (by simp[sQ])
  exact this) hx
 have hd0:=hdP Y P c.frame.toNat x ((Y.pc.setIfInBounds (c.frame.toNat*2) (.int .i64 x.own)).setIfInBounds (c.frame.toNat*2+1) (.int .i64 x.wit)) bx 149;obtain⟨Y1,eY⟩:∃ Y1,Y1=({ Y with pc:=(Y.pc.setIfInBounds (c.frame.toNat*2) (.int .i64 x.own)).setIfInBounds (c.frame.toNat*2+1) (.int .i64 x.wit) }:Lay):=⟨_,rfl⟩
 rw[←eY] at h0 hd0;have hn4:=h.g4' hi;refine aP ?_;refine late 12 0 ?_;refine xw 12 [0,1,2,3,4,5,6,7,8,9,10] [11] [] ?_;refine gI ?_;refine Q7 ?_;refine kL ?_;rintro _ _ ⟨V,rfl,rfl⟩;simp only[DN];refine jJ ?_;refine qZ ?_;simp only[bF2,bF5];obtain⟨r,g1,g2⟩:=CZ Y.G hi;refine aS ((Y.G (ix c.vm)).hm++(⟨V,#[.int .i64 c.mid,.int .i64 c.frame],173⟩::⟨bx,#[Y.pv P,Y.gv P,Y.ov P],149⟩::⟨Y.pb,(Y.pc.setIfInBounds (c.frame.toNat*2) (.int .i64 x.own)).setIfInBounds (c.frame.toNat*2+1) (.int .i64 x.wit),51⟩::⟨Y.gb,Y.gc,100⟩::⟨Y.ob,Y.oc,104⟩::((Y.G (ix c.vm)).hv++r))) (cnt1 g1) ?_;refine je (Y.G (ix c.vm)).hm _ (fun wc hG=>Yp (P.gs (ix c.vm)).maps (PtD.og (P.gs (ix c.vm)).maps c.mid) ⟨c.mid,c.frame⟩ V _ (h.mp _ hi) hG.iY (hG.here ⟨V,#[.int .i64 c.mid,.int .i64 c.frame],173⟩ (bF7 _ mh)) (hG.G6 mh) (PtD.Cm _ _) bx6) (fun mv hm' hI=>?_) (.refl _);have hI':Own 173 2 mv hm' ((PtD.Jr (P.gs (ix c.vm)).maps c.mid c.frame).map dY):=hI;obtain⟨q,cap,ev⟩:=hI'.opened;subst ev;refine bZ (_++hm') bG6 ?_;simp only[bF2,bF5];refine aP ?_;refine fin1 ?_;have hwf:=(h.wf.gs _ (show ix c.vm<P.ay.length by omega)).2.2
 obtain⟨Y2,h2,hd2⟩:=h0.aM3 hi (PtD.Jr (P.gs (ix c.vm)).maps c.mid c.frame) hI' (fun y hy=>by
  rcases PtD.Yr hy with h | rfl
  ·exact hwf y h
  ·exact⟨hw.mid,hw.frame⟩) (by rw[PtD.Yq];omega) (bx:=bx) (tx:=149)
 refine⟨rfl,Y2,h2,Wp hd2 ?_⟩;have g3:=g2 (Y.G (ix c.vm)).vv (.slice q (List.map dY (PtD.Jr (P.gs (ix c.vm)).maps c.mid c.frame)).length cap) (Y.G (ix c.vm)).hv hm';rw[(List.cons.inj hd0).1,eY];simp only[putAt]
 (exact cnt1 g3)
end
end
section
attribute [local irreducible] Hy St Ops DH dI
namespace PtD
def Yt(P:PtD)(vm fr mid:Int):Except Int PtD:=
 bif !dm fr 16 ((P.pages.length:Int)-1) then .error 2 else
 bif decide (vm=0) then (bif !decide ((P.pg fr.toNat).own=0) then .error 7 else bif !decide ((P.pg fr.toNat).wit= -2) then .error 4 else .ok (P.kJ fr.toNat ⟨0,-1⟩))
 else bif !dm vm 1 4||!dm mid 0 15 then .error 2 else P.BC vm fr mid ⟨0,vm⟩
def oV(P:PtD)(vm fr mid:Int):Except Int PtD:=
 bif !dm vm 1 4||!dm fr 16 ((P.pages.length:Int)-1)||!dm mid 0 15 then .error 2 else P.BC vm fr mid ⟨vm,-2⟩
def MH(P:PtD)(fr:Int):Except Int PtD:=
 bif !dm fr 16 ((P.pages.length:Int)-1) then .error 2 else bif !decide ((P.pg fr.toNat).own=0) then .error 7 else bif decide ((P.pg fr.toNat).wit= -2) then .error 6
 else bif decide (0<(P.pg fr.toNat).wit) then .ok ((P.jL (ix (P.pg fr.toNat).wit) { P.gs (ix (P.pg fr.toNat).wit) with maps:=aY6 (P.gs (ix (P.pg fr.toNat).wit)).maps fr }).kJ fr.toNat ⟨0,-2⟩)
 else .ok (P.kJ fr.toNat ⟨0,-2⟩)
end PtD
section
variable {P : PtD} {Y : Lay} {bx tx : Nat} {w : World}
theorem Yu(h:dZ P Y)(hm:P.may=true)(hN:eX (Y.hd P bx 149) w)(c:xR)(hw:c.Wf):Fn Tryz.prog 148 [.pointer (some ⟨bx,0,none⟩),uo c].toArray w ((Y.hd P bx 149).map (·.b)) (jq bx 149 (P.oV c.vm c.frame c.mid)):=by
 refine eP _ hN Tryz.func148 ?_;refine run ?_;intro C;refine run ?_;refine gQ 10 ?_;refine dJ ?_;refine eu (fun wc hG=>EG _ wc) ?_;refine dJ ?_;refine eu (fun wc hG=>Me (bx:=bx) (tx:=149) h (hG.here' ak) c.frame) ?_;refine dJ ?_;refine eu (fun wc hG=>Ul _ wc) ?_;refine dJ ?_;refine run ?_;intro F;refine az (fun wc hG=>C9 [_,_,_] _ (lits hG mh [_,_,_] rfl rfl bx8)) ?_;cases hA:PtD.dm c.vm 1 4
 ·rw[show iT [bif false then 0 else 2,bif PtD.dm c.frame 16 ((P.pages.length:Int)-1) then 0 else 2,bif PtD.dm c.mid 0 15 then 0 else 2]=2 from rfl];refine aP ?_;refine fin1 ?_;simp[jq,PtD.oV,hA]
 cases hb:PtD.dm c.frame 16 ((P.pages.length:Int)-1)
 ·rw[show iT [bif true then 0 else 2,bif false then 0 else 2,bif PtD.dm c.mid 0 15 then 0 else 2]=2 from rfl];refine aP ?_;refine fin1 ?_;simp[jq,PtD.oV,hA,hb]
 cases hB:PtD.dm c.mid 0 15
 ·rw[show iT [bif true then 0 else 2,bif true then 0 else 2,bif false then 0 else 2]=2 from rfl];refine aP ?_;refine fin1 ?_;simp[jq,PtD.oV,hA,hb,hB]
 rw[show iT [bif true then 0 else 2,bif true then 0 else 2,bif true then 0 else 2]=0 from rfl];have hkey:P.oV c.vm c.frame c.mid=P.BC c.vm c.frame c.mid ⟨c.vm,-2⟩:=by rw[PtD.oV,hA,hb,hB];rfl
 rw[hkey];refine aP ?_;refine aS (Y.hd P bx 149++[⟨C,#[.int .i64 c.kind,.int .i64 c.vm,.int .i64 c.frame,.int .i64 c.mid,.int .i64 c.kW,.int .i64 c.mM],37⟩]) ak ?_;refine je (Y.hd P bx 149) [⟨C,#[.int .i64 c.kind,.int .i64 c.vm,.int .i64 c.frame,.int .i64 c.mid,.int .i64 c.kW,.int .i64 c.mM],37⟩] (fun wc hG=>az3 h hm hG.iY c hw ⟨c.vm,-2⟩ ⟨hw.vm,(show I64 (-2) from ⟨by decide,by decide⟩)⟩ hb hB) (fun v hn hR=>?_) (.refl _);refine aP ?_;refine fin1 ?_;exact hR.le ak
end
end
section
attribute [local irreducible] Hy St Ops DH dI
namespace PtD
def claim(P:PtD)(f:Nat):Nat→PtD
 | 0=>P
 | k+1=>(claim P f k).kJ (f+k) ⟨-1,-2⟩
theorem Ut(P:PtD)(f k:Nat):(P.claim f k).pages.length=P.pages.length:=by
 induction k with
 | zero=>rfl
 | succ k ih=>rw[claim,kJ];simpa using ih
theorem Yv(P:PtD)(f k:Nat):(P.claim f k).ay=P.ay:=by
 induction k with
 | zero=>rfl
 | succ k ih=>rw[claim,kJ];exact ih
theorem Yw(P:PtD)(f k:Nat):(P.claim f k).on=P.on:=by
 induction k with
 | zero=>rfl
 | succ k ih=>rw[claim,kJ];exact ih
abbrev idle(g:V9):Bool:=!g.live&&!g.dying
def five(P:PtD)(f:Nat):List oZ:=(P.pages.drop f).take 5
def qK(P:PtD)(fr:Int):Except Int PtD:=
 bif !dm fr 16 ((P.pages.length:Int)-1)||decide ((P.pages.length:Int)-5<fr) then .error 2
 else bif (P.five fr.toNat).any (fun x=>!decide (x.own=0)) then .error 7 else bif (P.five fr.toNat).any (fun x=>!decide (x.wit= -2)) then .error 4
 else bif !decide (0≤gU idle P.ay) then .error 5
 else .ok ((P.claim fr.toNat 5).jL (gU idle P.ay).toNat ⟨true,false,fr,[],[]⟩)
end PtD
theorem ag6{α:Type}[Inhabited α](p:α→Bool)(l:List α):gU p l<l.length∨l.length=0:=by
 rcases PtD.Ur (p:=fun j=>p (l.getD j default)) l.length with h | ⟨k,hk,h1,h2⟩
 ·rw[dS h];omega
 ·rw[fF hk h1 h2];omega
theorem Uu(l d:Bool)(fi:Int)(vv mv:Value)(w:World):Fn Tryz.prog 237 ([]++[Value.agg #[.bool l,.bool d,.int .i64 fi,vv,mv]]++[]).toArray w [] (fun u _=>u=.bool (!l&&!d)):=by
 refine enter Tryz.func237 ?_;refine run ?_;intro b;refine aC ?_;exact fin1 rfl
theorem Uw(x:oZ)(w:World):Fn Tryz.prog 239 ([]++[Value.agg #[.int .i64 x.own,.int .i64 x.wit]]++[]).toArray w [] (fun u _=>u=.bool (!decide (x.own=0))):=by
 refine enter Tryz.func239 ?_;refine run ?_;intro b;refine run ?_;exact fin1 rfl
theorem Ux(x:oZ)(w:World):Fn Tryz.prog 240 ([]++[Value.agg #[.int .i64 x.own,.int .i64 x.wit]]++[]).toArray w [] (fun u _=>u=.bool (!decide (x.wit= -2))):=by
 refine enter Tryz.func240 ?_;refine run ?_;intro b;refine run ?_;exact fin1 rfl
section
variable {P : PtD} {Y : Lay} {bx tx : Nat} {w : World}
theorem Js(h:dZ P Y)(hh:Here (Y.hd P bx tx) w):Fn Tryz.prog 236 [Y.gv P,.func (.func 237) [].toArray [].toArray].toArray w [] (fun u _=>u=.int .i64 (gU PtD.idle P.ay)):=by
 have g4:=h.n.g4;have hb:=hh ⟨Y.gb,Y.gc,100⟩ bx8;refine enter Tryz.func236 ?_;refine run ?_;refine aK (σ:=Nat) (fun k=>[(8,.int .i64 (k:Int))]) (fun _=>[]) (fun k=>k≤P.ay.length∧∀ j,j<k→PtD.idle (P.ay.getD j default)=false) (fun k=>P.ay.length-k) 0 ⟨bF4 _,fun j hj=>absurd hj bx6⟩ ?_;rintro k m rfl ⟨hk,hno⟩;refine run ?_;refine ah _ rfl (fun hc=>?_) (fun hc=>?_)
 ·have hlt:k<P.ay.length:=by simp at hc;omega
  have hr:=h.gs.range nJ hb (h.Jp (i:=k) bx6);rw[bH5] at hr;refine run ?_;refine lY (fun wc hG=>Uu (P.gs k).live (P.gs k).dying (P.gs k).first (Y.G k).vv (Y.G k).mv wc) ?_;refine run ?_;refine ah _ rfl (fun hp=>?_) (fun hp=>?_)
  ·refine run ?_;refine fin1 ?_;rw[fF (p:=PtD.idle) hlt hp hno]
  ·refine run ?_;refine aF (k+1) ⟨hlt,fun j hj=>?_⟩;rcases bG1.1 hj with hj | rfl
   ·exact hno j hj
   ·exact hp
 ·have hge:k=P.ay.length:=by simp at hc;omega
  subst hge;refine run ?_;refine fin1 ?_;rw[dS hno]
theorem dZ.slF(h:dZ P Y)(hh:Here (Y.hd P bx tx) w)(f:Nat)(hf:f+5≤P.pages.length)(cap:Nat):aA w (.slice (some ⟨Y.pb,f*2,none⟩) 5 cap) 2 ((P.five f).map sQ):=by
 have hl:((P.five f).map sQ).length=5:=by simp[PtD.five];omega
 have hb:=hh ⟨Y.pb,Y.pc,51⟩ bx8;refine⟨⟨_,cap,by rw[hl],fun _=>⟨Y.pb,f*2,rfl,fun i c hc=>?_⟩⟩,by rw[hl];omega⟩;have hi:i<5:=by rw[←hl];exact (bH0.1 hc).1
 rw[bH4,PtD.five,bK2,if_pos hi,bM8,←bH4] at hc;have:=h.pg.range AO hb hc;rwa [bH5,bO2] at this
theorem Yx(h:dZ P Y)(hm:P.may=true)(hN:eX (Y.hd P bx 149) w)(c:xR)(hw:c.Wf):Fn Tryz.prog 150 [.pointer (some ⟨bx,0,none⟩),uo c].toArray w ((Y.hd P bx 149).map (·.b)) (jq bx 149 (P.qK c.frame)):=by
 have hp1:=h.n.p1;refine eP _ hN Tryz.func150 ?_;refine run ?_;intro C;refine run ?_;refine dF ?_;refine bg ?_;refine eu (fun wc hG=>Me (bx:=bx) (tx:=149) h (hG.here' ak) c.frame) ?_;refine bg ?_;refine aP ?_;cases hb:PtD.dm c.frame 16 ((P.pages.length:Int)-1)
 ·refine ah _ rfl (fun _=>?_) (fun hp=>by simp at hp);refine aP ?_;refine fin1 ?_;simp[jq,PtD.qK,hb]
 cases hb5:decide ((P.pages.length:Int)-5<c.frame)
 rotate_left
 ·refine aP ?_;refine fin1 ?_;simp only[PtD.qK,hb,hb5];rfl
 have hb':=hb;simp only[PtD.dm,bE8,decide_eq_true_eq] at hb';have aY7:=hb5;simp only[decide_eq_false_iff_not] at aY7;have hf5:c.frame.toNat+5≤P.pages.length:=by omega
 have bf6:=h.pg.le;have hsm:=h.sm.pg;have bn8:=h.pg.max
 have hkey:P.qK c.frame=bif (P.five c.frame.toNat).any (fun x=>!decide (x.own=0)) then .error 7 else bif (P.five c.frame.toNat).any (fun x=>!decide (x.wit= -2)) then .error 4
   else bif !decide (0≤gU PtD.idle P.ay) then .error 5
   else .ok ((P.claim c.frame.toNat 5).jL (gU PtD.idle P.ay).toNat ⟨true,false,c.frame,[],[]⟩):=by
  rw[PtD.qK,hb,hb5];rfl
 rw[hkey];refine aP ?_;refine gQ 11 ?_;refine dJ ?_;refine Nl (vZ aB rfl rfl rfl rfl bx6 bx6 bx6 bx6 (o':=c.frame.toNat*2) (m':=5) (c':=Y.zn-c.frame.toNat) bx6 bx6 rfl) ?_;refine dJ ?_;refine aP ?_;refine az (fun wc hG=>Js (bx:=bx) (tx:=149) h (hG.here' ak)) ?_;refine aP ?_;refine az (fun wc hG=>pX (us:=[]) (fun x=>!decide (x.own=0)) (P.five c.frame.toNat) _ (h.slF (bx:=bx) (tx:=149) (hG.here' ak) c.frame.toNat hf5 _) (fun x w' ha=>Uw x w')) ?_;refine aP ?_;refine az (fun wc hG=>pX (us:=[]) (fun x=>!decide (x.wit= -2)) (P.five c.frame.toNat) _ (h.slF (bx:=bx) (tx:=149) (hG.here' ak) c.frame.toNat hf5 _) (fun x w' ha=>Ux x w')) ?_;refine aP ?_;refine az (fun wc hG=>lu _ _ wc) ?_;refine aP ?_;refine az (fun wc hG=>lu _ _ wc) ?_;refine aP ?_;refine az (fun wc hG=>lu _ _ wc) ?_;refine aP ?_;intro F;refine az (fun wc hG=>C9 [_,_,_] _ (lits hG mh [_,_,_] rfl rfl bx8)) ?_;cases hA:(P.five c.frame.toNat).any fun x=>!decide (x.own=0)
 rotate_left
 ·rw[show iT [bif !true then 0 else 7,bif !((P.five c.frame.toNat).any fun x=>!decide (x.wit= -2)) then 0 else 4,bif decide (0≤gU PtD.idle P.ay) then 0 else 5]=7 from rfl];refine aP ?_;refine fin1 ?_;rfl
 cases hB:(P.five c.frame.toNat).any fun x=>!decide (x.wit= -2)
 rotate_left
 ·rw[show iT [bif !false then 0 else 7,bif !true then 0 else 4,bif decide (0≤gU PtD.idle P.ay) then 0 else 5]=4 from rfl];refine aP ?_;refine fin1 ?_;rfl
 cases hC:decide (0≤gU PtD.idle P.ay)
 ·rw[show iT [bif !false then 0 else 7,bif !false then 0 else 4,bif false then 0 else 5]=5 from rfl];refine aP ?_;refine fin1 ?_;rfl
 rw[show iT [bif !false then 0 else 7,bif !false then 0 else 4,bif true then 0 else 5]=0 from rfl];refine aP ?_;have g4:=h.n.g4;refine aK (σ:=Nat×Array Value) (fun s=>[(65,.int .i64 (s.1:Int))]) (fun s=>⟨C,#[.int .i64 c.kind,.int .i64 c.vm,.int .i64 c.frame,.int .i64 c.mid,.int .i64 c.kW,.int .i64 c.mM],37⟩::⟨Y.pb,s.2,51⟩::⟨bx,#[Y.pv P,Y.gv P,Y.ov P],149⟩::⟨Y.gb,Y.gc,100⟩::⟨Y.ob,Y.oc,104⟩::zG Y.G 4) (fun s=>s.1≤5∧dZ (P.claim c.frame.toNat s.1) { Y with pc:=s.2 }) (fun s=>5-s.1) (0,Y.pc) ⟨bF4 _,h⟩ (hh:=by (exact ak)) ?_;rintro⟨k,pc⟩ m hm' ⟨hk,hO⟩;dsimp only at hm' hk hO ⊢;have hcl:=PtD.Ut P c.frame.toNat k;refine aP ?_;refine ah _ rfl (fun hc=>?_) (fun hc=>?_)
 ·have hlt:k<5:=by simp at hc;omega
  have hps:=hO.psz;rw[hcl] at hps;dsimp only at hps;refine aP ?_;refine az (fun wc hG=>Ou wc) ?_;refine aP ?_;have hfk:c.frame.toNat+k<(P.claim c.frame.toNat k).pages.length:=by rw[hcl];omega
  have h1:=hO.aM0 hfk ⟨-1,-2⟩ (pc:=(pc.setIfInBounds (c.frame.toNat*2+k*2) (.int .i64 (-1))).setIfInBounds (c.frame.toNat*2+k*2+1) (.int .i64 (-2))) (by
   have:=hO.pg.put AO (LZ hfk) (k:=0) (vs:=sQ ⟨-1,-2⟩) (by simp[sQ]);rw[bI8,bO2] at this
   exact this) ⟨⟨by decide,by decide⟩,⟨by decide,by decide⟩⟩
  exact aF (k+1,(pc.setIfInBounds (c.frame.toNat*2+k*2) (.int .i64 (-1))).setIfInBounds (c.frame.toNat*2+k*2+1) (.int .i64 (-2))) (hm:=by dsimp only;omega) ⟨hlt,h1⟩ (h2:=by (exact ak))
 ·have hk5:k=5:=by simp at hc;omega
  subst hk5;have hlt4:=ag6 PtD.idle P.ay;have hC':=hC;simp only[decide_eq_true_eq] at hC';have hi:(gU PtD.idle P.ay).toNat<4:=by omega
  have hz:=h.zH;refine aP ?_;refine gQ 9 ?_;refine dJ ?_;refine aP ?_;refine fin1 ?_;have hrow:=hO.gs.put nJ (hO.Jp hi) (k:=0) (vs:=[.bool true,.bool false,.int .i64 c.frame,.slice none 0 0,.slice none 0 0]) bx8;have h1:=hO.Ae hi ⟨true,false,c.frame,[],[]⟩ ⟨.slice none 0 0,.slice none 0 0,[],[]⟩ (gc:=putAt Y.gc ((gU PtD.idle P.ay).toNat*5) [.bool true,.bool false,.int .i64 c.frame,.slice none 0 0,.slice none 0 0]) hrow ⟨by simp,.inl ⟨rfl,rfl,rfl⟩⟩ ⟨by simp,.inl ⟨rfl,rfl,rfl⟩⟩ ⟨hw.frame,by simp,by simp⟩ ⟨by simp,by simp⟩;refine⟨rfl,_,h1,Wp (hdG { Y with pc:=pc } _ _ _ _ _ _ _) ?_⟩;obtain⟨r,g1,g2⟩:=CZ Y.G hi;have g3:=g2 (.slice none 0 0) (.slice none 0 0) [] [];have e1:Lay.pv { Y with pc:=pc } (P.claim c.frame.toNat 5)=Y.pv P:=by unfold Lay.pv;rw[hcl]
  have e2:Lay.gv { Y with pc:=pc } (P.claim c.frame.toNat 5)=Y.gv P:=by unfold Lay.gv;rw[PtD.Yv]
  have e3:Lay.ov { Y with pc:=pc } (P.claim c.frame.toNat 5)=Y.ov P:=by unfold Lay.ov;rw[PtD.Yw]
  rw[e1,e2,e3];simp only[putAt]
  (refine cZ fun a=>?_;have:=aJ.cnt g3 a;have:=aJ.cnt g1 a;simp only[fG,bG,jZ] at *;omega)
end
end
section
attribute [local irreducible] Hy St Ops DH dI
namespace PtD
def aM4(vm:Int)(x:oZ):oZ:=bif decide (x.own=vm)||(decide (x.own=0)&&decide (x.wit=vm)) then ⟨x.own,-2⟩ else x
def sweep(P:PtD)(vm:Int):Nat→PtD
 | 0=>P
 | k+1=>(sweep P vm k).kJ k (aM4 vm (P.pg k))
def frees(P:PtD)(f:Nat):Nat→PtD
 | 0=>P
 | k+1=>(frees P f k).kJ (f+k) ⟨0,-2⟩
variable (P : PtD)
def gone(P:PtD)(vm:Int):PtD:=(P.sweep vm P.pages.length).frees (P.gs (ix vm)).first.toNat 5
def MI(P:PtD)(vm:Int):Except Int PtD:=
 bif !dm vm 1 4 then .error 2 else bif !(P.gs (ix vm)).live then .error 3 else bif (P.gs (ix vm)).aN.any (fun x=>decide (0≤x)) then .error 6
 else .ok ((P.gone vm).jL (ix vm) ⟨false,(P.gone vm).owns vm,0,[],[]⟩)
end PtD
section
variable {P : PtD} {Y : Lay} {bx tx : Nat} {w : World}
end
end
section
attribute [local irreducible] Hy St Ops DH dI
section
variable {P : Program} {T : Tab} {n : Nat} {w0 : World} {mu : List Nat} {l : Fm} {hp : Hp} {dd : Option Tmp} {ty : TypeId} {pos : String} {af : Array Edge} {gg : Option (Nat × Bool)}
end
section
variable {n : Nat} {w0 : World} {mu : List Nat} {l : Fm} {hp : Hp} {Q : Exit → Fm → Hp → Prop} {all : Array Oper} {rest : List Oper} {ty : TypeId} {pos : String} {af : Array Edge} {ds : List (Nat × Nat)} {tail : List Oper} {i : Nat} {iv fr : Fm}
end
theorem aA.aY8{b o cap sz n:Nat}{xs:List (List Value)}(h:aA w (.slice (some ⟨b,o,none⟩) n cap) sz xs){i:Nat}{c:List Value}(hi:xs[i]?=some c):w.rangeAt b (o+i*sz) c:=by
 obtain⟨⟨p,cp,e,hr⟩,_⟩:=h;cases e;obtain⟨b',o',e',hx⟩:=hr (by intro e;subst e;cases hi);cases e';exact hx i c hi
end
section
attribute [local irreducible] Hy St Ops DH dI
section
variable {P : PtD} {Y : Lay} {bx tx : Nat} {w : World}
theorem AQ(h:dZ P Y)(hm:P.may=true)(hN:eX (Y.hd P bx 149) w)(cpu vm fr mid vc cc:Int)(hw:xR.Wf ⟨3,vm,fr,mid,vc,cc⟩):Fn Tryz.prog 68 [.pointer (some ⟨bx,0,none⟩),.int .i64 cpu,uo ⟨3,vm,fr,mid,vc,cc⟩].toArray w ((Y.hd P bx 149).map (·.b)) (jq bx 149 (P.oV vm fr mid)):=by
 refine eP _ hN Tryz.func68 ?_;refine run ?_;intro C;refine aP ?_;refine je (Y.hd P bx 149) [⟨C,#[.int .i64 3,.int .i64 vm,.int .i64 fr,.int .i64 mid,.int .i64 vc,.int .i64 cc],37⟩] (fun wc hG=>Yu h hm hG.iY ⟨3,vm,fr,mid,vc,cc⟩ hw) (fun v hn hR=>?_) bB6;refine aP ?_;refine fin1 ?_;exact hR.le ak
end
end
namespace PtD
structure Yy(l:List jR)(N:Nat):Prop where
 sorted:Sorted l
 rng:∀ x∈l,0≤x.mid∧x.mid≤15∧0≤x.dX∧x.dX<N
 inj:∀ i j,i<j→j<l.length→(l.getD i default).dX≠(l.getD j default).dX
theorem getD_mem{α:Type}[Inhabited α]{l:List α}{k:Nat}(hk:k<l.length):l.getD k default∈l:=by
 rw[bE',bF0 hk];simp
theorem zo{α:Type}[Inhabited α]{l:List α}{x:α}(h:x∈l):∃ k,k<l.length∧l.getD k default=x:=by
 obtain⟨k,hk,rfl⟩:=bJ6.1 h;exact⟨k,hk,by rw[bE',bF0 hk];rfl⟩
theorem EL{l:List jR}{N:Nat}:(∀ k,k<l.length→oC l N k=true)↔Yy l N:=by
 constructor
 ·intro h
  have h':∀ k,k<l.length→((0≤(l.getD k default).mid∧(l.getD k default).mid≤15)∧(k=0∨(l.getD (k-1) default).mid<(l.getD k default).mid)∧(0≤(l.getD k default).dX∧(l.getD k default).dX≤(N:Int)-1)∧∀ m∈l.take k,m.dX≠(l.getD k default).dX):=by
   intro k hk;have:=h k hk;simp only[oC,dm,bE8,bG',decide_eq_true_eq,bG8,bP7] at this;exact⟨this.1.1.1,this.1.1.2,this.1.2,fun m hm=>by simpa using this.2 m hm⟩
  refine⟨Gh fun k hk=>?_,fun x hx=>?_,fun i j hij hj=>?_⟩
  ·have:=(h' (k+1) hk).2.1;rw[bR'] at this;rcases this with h | h
   ·omega
   ·exact h
  ·obtain⟨k,hk,rfl⟩:=zo hx;have:=h' k hk;exact⟨this.1.1,this.1.2,this.2.2.1.1,by omega⟩
  ·refine (h' j hj).2.2.2 _ ?_;rw[bJ6];refine⟨i,by rw[bI1];omega,?_⟩;rw[bQ9,bE',bF0 bx6];rfl
 ·rintro⟨hs,hr,hi⟩ k hk;have h1:=hr _ (getD_mem hk);simp only[oC,dm,bE8,bG',decide_eq_true_eq,bG8,bP7];refine⟨⟨⟨⟨h1.1,h1.2.1⟩,?_⟩,h1.2.2.1,by omega⟩,fun m hm=>?_⟩
  ·rcases bR9 k with rfl | hp
   ·exact .inl rfl
   ·exact .inr (hs (k-1) k bx6 hk)
  ·obtain⟨i,hi2,rfl⟩:=bJ6.1 hm;rw[bI1] at hi2;have:=hi i k bx6 hk;rw[bE',bF0 (show i<l.length by omega)] at this;rw[bQ9];simpa using this
def aY9(P:PtD)(i:Nat)(l:List Int):Prop:=∀ v,v<l.length→l.getD v 0= -1∨(0≤l.getD v 0∧(l.getD v 0).toNat<P.on.length∧(P.st (l.getD v 0).toNat).vm=(i:Int)+1∧(P.st (l.getD v 0).toNat).cpu=v)
structure aM5(P:PtD)(i:Nat):Prop where
 dy:(P.gs i).dying=false
 f0:16≤(P.gs i).first
 f1:(P.gs i).first≤(P.pages.length:Int)-5
 vl:(P.gs i).aN.length≤2
 vc:aY9 P i (P.gs i).aN
 mp:Yy (P.gs i).maps P.pages.length
 us:∀ f,f<P.pages.length→((∃ m∈(P.gs i).maps,m.dX=(f:Int))↔((P.pg f).own=(i:Int)+1∨(P.pg f).wit=(i:Int)+1))
structure az4(P:PtD)(i:Nat):Prop where
 vc:(P.gs i).aN=[]
 mp:(P.gs i).maps=[]
 fi:(P.gs i).first=0
 dy:(P.gs i).dying=true↔∃ f,f<P.pages.length∧(P.pg f).own=(i:Int)+1
def Yz(P:PtD)(c:Nat):Prop:=((P.st c).vm=0∧(P.st c).cpu=0)∨(1≤(P.st c).vm∧(P.st c).vm≤4∧(P.gs (ix (P.st c).vm)).live=true∧0≤(P.st c).cpu∧(P.st c).cpu.toNat<(P.gs (ix (P.st c).vm)).aN.length∧(P.gs (ix (P.st c).vm)).aN.getD (P.st c).cpu.toNat 0=(c:Int))
def aM6(P:PtD)(f:Nat):Prop:=f<16∨∃ i,i<4∧(P.gs i).live=true∧(P.gs i).first≤f∧f<(P.gs i).first+5
def az5(P:PtD)(x:oZ):Prop:=x.own=0→x.wit= -2∨x.wit= -1∨(1≤x.wit∧x.wit≤4∧(P.gs (ix x.wit)).live=true)
def ag7(P:PtD)(x:oZ):Prop:=0<x.own→x.wit= -2∨(x.wit=0∧(P.gs (ix x.own)).live=true)
structure Ok2(P:PtD):Prop where
 n0:24≤P.pages.length
 n1:P.pages.length≤64
 g4:P.ay.length=4
 o1:1≤P.on.length
 o3:P.on.length≤3
 dead:∀ i,i<4→(P.gs i).live=false→az4 P i
 We:∀ i,i<4→(P.gs i).live=true→aM5 P i
 apart:∀ i j,i<j→j<4→(P.gs i).live=true→(P.gs j).live=true→(P.gs i).first+5≤(P.gs j).first∨(P.gs j).first+5≤(P.gs i).first
 hyp:∀ f,f<P.pages.length→((P.pg f).own= -1↔P.aM6 f)
 NK:∀ f,f<P.pages.length→(P.pg f).own= -1→(P.pg f).wit= -2
 who:∀ f,f<P.pages.length→-1≤(P.pg f).own∧(P.pg f).own≤4
 host:∀ f,f<P.pages.length→az5 P (P.pg f)
 Gf:∀ f,f<P.pages.length→ag7 P (P.pg f)
 seat:∀ c,c<P.on.length→Yz P c
theorem MJ{who:Int}:P.owns who=true↔∃ f,f<P.pages.length∧(P.pg f).own=who:=by
 rw[owns,bJ9];constructor
 ·rintro⟨x,hx,h⟩;obtain⟨k,hk,rfl⟩:=zo hx;exact⟨k,hk,of_decide_eq_true h⟩
 ·rintro⟨f,hf,h⟩;exact⟨P.pg f,getD_mem hf,decide_eq_true h⟩
theorem pz{n:Int}:P.lives n=true↔(1≤n∧n≤4∧(P.gs (ix n)).live=true):=by
 simp only[lives,dm,bE8,decide_eq_true_eq,and_assoc];rfl
theorem ag8:Ok P↔Ok2 P:=by
 constructor
 ·intro h;refine⟨h.n0,h.n1,h.g4,h.o1,h.o3,fun i hi hl=>?_,fun i hi hl=>?_,h.apart,h.hyp,h.NK,h.who,fun f hf h0=>?_,fun f hf h0=>?_,fun c hc=>?_⟩
  ·obtain⟨a,b,c,d⟩:=h.dead i hi hl;exact⟨bR4.1 a,bR4.1 b,c,by rw[d,MJ]⟩
  ·obtain⟨a,b,c,d,e,f,g⟩:=h.We i hi hl;refine⟨a,b,c,d,fun v hv=>?_,EL.1 f,fun q hq=>?_⟩
   ·have:=e v hv;simp only[mZ,dm,bG',bE8,decide_eq_true_eq] at this;rcases this with h1 | ⟨⟨h1,h2⟩,h3,h4⟩
    ·exact .inl h1
    ·exact .inr ⟨h1,by omega,h3,h4⟩
   ·have:=g q hq;rw[bF3,bJ9] at this;simpa [uses] using this
  ·have:=h.host f hf h0;rw[pz] at this;exact this
  ·have:=h.Gf f hf h0;rw[pz] at this;rcases this with h1 | ⟨h1,_,_,h2⟩
   ·exact .inl h1
   ·exact .inr ⟨h1,h2⟩
  ·have:=h.seat c hc;unfold Yz;simp only[seated] at this
   cases hv:decide ((P.st c).vm=0) with
   | true=>rw[hv] at this;simp at this hv;exact .inl ⟨hv,this⟩
   | false=>
    rw[hv] at this;simp only[cond_false,bE8,decide_eq_true_eq,pz,dm] at this;obtain⟨⟨⟨a,b,c'⟩,d,e⟩,f⟩:=this;exact .inr ⟨a,b,c',d,by unfold ix;omega,f⟩
 ·intro h;refine⟨h.n0,h.n1,h.g4,h.o1,h.o3,fun i hi hl=>?_,fun i hi hl=>?_,h.apart,h.hyp,h.NK,h.who,fun f hf h0=>?_,fun f hf h0=>?_,fun c hc=>?_⟩
  ·obtain⟨a,b,c,d⟩:=h.dead i hi hl;exact⟨by rw[a];rfl,by rw[b];rfl,c,by rw[bF3,d,MJ]⟩
  ·obtain⟨a,b,c,d,e,f,g⟩:=h.We i hi hl;refine⟨a,b,c,d,fun v hv=>?_,EL.2 f,fun q hq=>?_⟩
   ·simp only[mZ,dm,bG',bE8,decide_eq_true_eq];rcases e v hv with h1 | ⟨h1,h2,h3,h4⟩
    ·exact .inl h1
    ·exact .inr ⟨⟨h1,by omega⟩,h3,h4⟩
   ·rw[bF3,bJ9];simpa [uses] using g q hq
  ·have:=h.host f hf h0;rw[pz];exact this
  ·rw[pz];rcases h.Gf f hf h0 with h1 | ⟨h1,h2⟩
   ·exact .inl h1
   ·exact .inr ⟨h1,by omega,(h.who f hf).2,h2⟩
  ·simp only[seated];rcases h.seat c hc with⟨a,b⟩ | ⟨a,b,c',d,e,f⟩
   ·simp[a,b]
   ·have hv:decide ((P.st c).vm=0)=false:=by simp;omega
    rw[hv];simp only[cond_false,bE8,decide_eq_true_eq,pz,dm];exact⟨⟨⟨a,b,c'⟩,d,by unfold ix at e;omega⟩,f⟩
theorem ag9:P.may=true↔Ok2 P:=sO.trans ag8
end PtD
section
attribute [local irreducible] Hy St Ops DH dI
namespace PtD
end PtD
section
variable {P : PtD} {Y : Lay} {bx tx : Nat} {w : World}
theorem AU(h:dZ P Y)(hm:P.may=true)(hN:eX (Y.hd P bx 149) w)(cpu vm fr mid vc cc:Int)(hw:xR.Wf ⟨5,vm,fr,mid,vc,cc⟩):Fn Tryz.prog 68 [.pointer (some ⟨bx,0,none⟩),.int .i64 cpu,uo ⟨5,vm,fr,mid,vc,cc⟩].toArray w ((Y.hd P bx 149).map (·.b)) (jq bx 149 (P.qK fr)):=by
 refine eP _ hN Tryz.func68 ?_;refine run ?_;intro C;refine aP ?_;refine je (Y.hd P bx 149) [⟨C,#[.int .i64 5,.int .i64 vm,.int .i64 fr,.int .i64 mid,.int .i64 vc,.int .i64 cc],37⟩] (fun wc hG=>Yx h hm hG.iY ⟨5,vm,fr,mid,vc,cc⟩ hw) (fun v hn hR=>?_) bB6;refine aP ?_;refine fin1 ?_;exact hR.le ak
end
end
namespace PtD
def EM(P:PtD)(cpu:Nat)(c:xR):Except Int PtD:=
 bif decide (c.kind=1) then P.Yt c.vm c.frame c.mid else bif decide (c.kind=2) then P.MH c.frame else bif decide (c.kind=3) then P.oV c.vm c.frame c.mid
 else bif decide (c.kind=4) then P.MG c.frame else bif decide (c.kind=5) then P.qK c.frame else bif decide (c.kind=6) then P.MI c.vm
 else bif decide (c.kind=7) then P.moreL c.vm else bif decide (c.kind=8) then P.aM1 cpu c.vm c.kW else .error 9
def xK(P:PtD)(cpu:Nat)(c:xR):Except Int PtD:=
 bif decide (c.kind=10) then P.Yo (P.st cpu).vm c.mid (-2) 0 4 else bif decide (c.kind=11) then P.Yo (P.st cpu).vm c.mid 0 (-2) 6 else bif decide (c.kind=9) then .ok (P.aM2 cpu) else .error 9
def BR(P:PtD)(cpu:Nat)(c:xR):Except Int PtD:=bif decide ((P.st cpu).vm=0) then P.EM cpu c else P.xK cpu c
end PtD
section
def BD(vs:List kP)(n:Int):Bool:=vs.any fun v=>v.live&&decide (v.aO=n)
def Q8(vs:List kP):Nat→Int→Int
 | 0,n=>n
 | k+1,n=>bif BD vs n then Q8 vs k (n+1) else n
def zq(vs:List kP):Int:=Q8 vs (vs.length+1) 1
def EN(vs:List kP)(n:Int):Nat:=(vs.filter fun v=>v.live&&decide (n≤v.aO)).length
theorem EO{vs:List kP}{n:Int}(h:BD vs n=true):EN vs (n+1)<EN vs n:=by
 unfold BD at h;unfold EN
 induction vs with
 | nil=>simp at h
 | cons v vs ih=>
  rw[List.any_cons,bG'] at h
  have hle:∀ l:List kP,(l.filter fun v=>v.live&&decide (n+1≤v.aO)).length≤(l.filter fun v=>v.live&&decide (n≤v.aO)).length:=fun l=>by
   induction l with
   | nil=>exact bG0 _
   | cons x l ihl=>
    simp only[bT4]
    cases hx:(x.live&&decide (n+1≤x.aO)) with
    | true=>
     simp only[bE8,decide_eq_true_eq] at hx;rw[show (x.live&&decide (n≤x.aO))=true by simp only[bE8,decide_eq_true_eq];exact⟨hx.1,by omega⟩]
     simpa using ihl
    | false=>
     simp only[bL6,if_false];split
     ·exact Nat.le_succ_of_le ihl
     ·exact ihl
  simp only[bT4];rcases h with h | h
  ·simp only[bE8,decide_eq_true_eq] at h;rw[show (v.live&&decide (n+1≤v.aO))=false by rw[h.1,decide_eq_false bx6];rfl,show (v.live&&decide (n≤v.aO))=true by rw[h.1,decide_eq_true bx6];rfl];simp only[if_true,bL6,if_false,bI6];exact Nat.lt_succ_of_le (hle vs)
  ·have h2:=ih h
   cases hx:(v.live&&decide (n+1≤v.aO)) with
   | true=>
    simp only[bE8,decide_eq_true_eq] at hx;rw[show (v.live&&decide (n≤v.aO))=true by simp only[bE8,decide_eq_true_eq];exact⟨hx.1,by omega⟩]
    simpa using h2
   | false=>
    simp only[bL6,if_false];split
    ·exact Nat.lt_succ_of_lt h2
    ·exact h2
theorem MK{vs:List kP}:∀ (j k:Nat) (n:Int),EN vs n<k→(∀ i:Nat,i<j→BD vs (n+i)=true)→BD vs (n+j)=false→Q8 vs k n=n+j
 | 0,0,n,h,_,_=>absurd h (bI2 _)
 | j,k+1,n,h,h1,h2=>by
  rw[Q8]
  cases j with
  | zero=>rw[show (n+((0:Nat):Int))=n by omega] at h2 ⊢;rw[h2];rfl
  | succ j=>
   have h0:=h1 0 (Nat.succ_pos _);rw[show n+((0:Nat):Int)=n by omega] at h0;rw[h0,cond_true];have hc:=EO h0;rw[MK j k (n+1) bx6 (fun i hi=>by have:=h1 (i+1) bx6;rwa [show n+((i+1:Nat):Int)=n+1+(i:Int) by omega] at this) (by rwa [show n+((j+1:Nat):Int)=n+1+(j:Int) by omega] at h2)];omega
theorem ML(vs:List kP)(n:Int):EN vs n≤vs.length:=bP3 ..
namespace HyD
variable (H : HyD)
def zu(D:Int→DsD):List Int→HyD→HyD
 | [],H=>H
 | f::r,H=>zu D r (H.hst f.toNat (D f))
def PG(i:Nat)(v:kP):HyD:={ H with vs:=H.vs.set i v }
def ag'(n:Int)(mid:Int)(d:DsD):HyD:=
 let i:=(n-1).toNat
 let r:=Ec H.ws (H.vu i).root (H.vu i).fr mid d
 { H with ws:=r.ws,vs:=H.vs.set i { H.vu i with fr:=r.left } }
def Q9(l:List Int):HyD:={ H with ws:=oq H.ws l }
def BF(n:Int):HyD:=H.PG (n-1).toNat { H.vu (n-1).toNat with vs:=(H.vu (n-1).toNat).vs++[⟨jy,-1⟩] }
def ja(f:Int):List Int:=[f,f+1,f+2,f+3,f+4]
def Uy(was is:PtD):Nat:=(List.range 4).foldl (fun a i=>bif (is.gs i).live&&!(was.gs i).live then i else a) 0
def wJ(f:Int)(a:Nat):HyD:=
 let G:=(zu (fun _=>jK 1) (ja f) H).Q9 (ja f)
 G.PG a ⟨true,false,zq H.vs,ja f,(ja f).drop 1,[]⟩
def zx(vm f mid:Int):HyD:=(H.hst f.toNat (jK (1+vm))).ag' vm mid (aZ f 0)
end HyD
end
section
attribute [local irreducible] Hy St Ops DH dI jr iP gX DS iD lV
section
variable {n : Nat} {w0 : World} {mu : List Nat} {l : Fm} {hp hp' : Hp} {ty : TypeId} {pos : String} {af : Array Edge} {Q : Exit → Fm → Hp → Prop} {all : Array Oper} {rest : List Oper}
end
def HR(X:Nat)(tl:List Value)(ty:TypeId)(H:HyD)(u:Value)(hn:Hp):Prop:=u=.tuple #[]∧∃ L,Bl L H∧aJ (L.hp X tl ty) hn
def G7(L L':HL):Prop:=L'.vv=L.vv∧L'.vs=L.vs∧L'.hv=L.hv∧L'.hz=L.hz
theorem G7.trans{A B C:HL}(h:G7 A B)(h2:G7 B C):G7 A C:=⟨h2.1.trans h.1,h2.2.1.trans h.2.1,h2.2.2.1.trans h.2.2.1,h2.2.2.2.trans h.2.2.2⟩
def HRk(L:HL)(X:Nat)(tl:List Value)(ty:TypeId)(H:HyD)(u:Value)(hn:Hp):Prop:=u=.tuple #[]∧∃ L',Bl L' H∧G7 L L'∧aJ (L'.hp X tl ty) hn
theorem HRk.r{L:HL}{tl:List Value}{ty:TypeId}{u:Value}{hn:Hp}(h:HRk L X tl ty H u hn):HR X tl ty H u hn:=by
 obtain⟨e,L',h1,_,h2⟩:=h;exact⟨e,L',h1,h2⟩
theorem EP:∀ (ls:List (List fE×List jv)),(∀ t∈ls,t.1.length<100000∧t.2.length<100000)→∃ (ts:List uk) (h:Hp),fP wM ts h∧ts.map uk.p=ls
 | [],_=>⟨[],[],trivial,rfl⟩
 | x::r,hx=>by
  obtain⟨ts,h,h1,h2⟩:=EP r fun t ht=>hx t (bF8 _ ht);obtain⟨b1,b2⟩:=hx x (bF' ..);obtain⟨a1,g1,o1⟩:=dW (e:=80) (xs:=x.1.map iw) sZ bx9;obtain⟨a2,g2,o2⟩:=dW (e:=127) (xs:=x.2.map kZ) Ar bx9;obtain⟨q1,c1,e1⟩:=o1.opened;obtain⟨q2,c2,e2⟩:=o2.opened;rw[bE9] at e1 e2;subst e1 e2;exact⟨⟨x.1,x.2,q1,c1,q2,c2⟩::ts,(g1++g2)++h,⟨g1++g2,h,⟨g1,g2,o1,o2,⟨b1,b2⟩,aJ.refl _⟩,h1,aJ.refl _⟩,by rw[bI',h2]⟩
theorem w_all(xs:List Nat):∀ c∈xs.map uV,c.length=1∧c.all (·.oneCell')=true:=an5 xs
theorem PI(xs:List uk):∀ c∈xs.map Tj,c.length=2∧c.all (·.oneCell')=true:=by
 intro c hc;obtain⟨x,_,rfl⟩:=bF9.1 hc;exact⟨rfl,rfl⟩
theorem AV{a b c d:Value}{tl:List Value}{ty:TypeId}(h:w.heap[X]?=some (.cells (a::b::c::d::tl).toArray ty (0,0))):w.rangeAt X 0 [a,b,c,d]:=by
 have:=aV (k:=0) (n:=4) (qJ h) rfl;simpa using this
theorem Rh(ws:List Nat)(root:Int)(page level:Nat)(d:DsD):(fB ws root page level d).ws.length≤ws.length:=by
 unfold fB;dsimp only
 cases (!(aQ ws root page level).ok) with
 | true=>exact bF4 _
 | false=>
  rw[cond_false]
  cases (!decide ((aQ ws root page level).lv=level)) with
  | true=>exact bF4 _
  | false=>exact Nat.le_of_eq (kE ..)
theorem Own.blk{e sz:Nat}{h:Hp}{xs:List (List Value)}(hA:Own e sz v h xs){b o n k:Nat}(hv:v=.slice (some ⟨b,o,none⟩) n k):∃ x∈h,x.b=b:=by
 subst hv;rcases hA.2 with⟨_,h2,_⟩ | ⟨g,cap,cur,h2,rfl,_⟩
 ·cases h2
 ·cases h2;exact⟨_,bJ4.2 rfl,rfl⟩
theorem Dc(cs:List jH)(ts:List uk):∀ k j,(TJ cs ts k)[j]?=(cs[j]?).map fun c=>if j<k then { c with t:=ts.getD j default } else c
 | 0,j=>by
  simp only[TJ,bI2,if_false]
  cases cs[j]?<;>rfl
 | k+1,j=>by
  rw[TJ,bQ',CW];by_cases h:k=j
  ·subst h;by_cases hk:k<cs.length
   ·rw[if_pos rfl,if_pos hk,bF0 hk,bJ1,if_pos (bV' k),bE',Dc cs ts k k,bF0 hk,bJ1,if_neg (Nat.lt_irrefl k)];rfl
   ·rw[if_pos rfl,if_neg hk,bL9 bx6];rfl
  ·rw[if_neg h,Dc cs ts k j];by_cases h2:j<k
   ·simp[h2,Nat.lt_succ_of_lt h2]
   ·simp[h2,show ¬ j<k+1 by omega]
theorem aM7{cs:List jH}{ts:List uk}(h:ts.length=cs.length):(TJ cs ts cs.length).map (·.t)=ts:=by
 apply bO9;intro j;rw[bH4,Dc];by_cases hj:j<cs.length
 ·rw[bF0 hj,bJ1,bJ1,if_pos hj,bF0 bx6,bE',bF0 bx6];rfl
 ·rw[bL9 bx6,bL9 bx6];rfl
theorem aM8{cs:List jH}{us:List Nr}{ts:List uk}{f:uk→List fE×List jv}{F:Nr→Nr}(h:ts.map uk.p=(cs.map (·.t)).map f)(hu:cs.map jH.u=us)(hF:∀ c:jH,F c.u=⟨c.r,c.vm,c.vc,(f c.t).1,(f c.t).2⟩):(TJ cs ts cs.length).map jH.u=us.map F:=by
 subst hu;have hl:ts.length=cs.length:=by have:=congrArg List.length h;simpa using this
 apply bO9;intro j;rw[bH4,Dc,bU1,bH4];by_cases hj:j<cs.length
 ·have h9:=congrArg (fun l=>l[j]?) h;simp only[bH4,bF0 hj,bF0 (show j<ts.length by omega),bJ1,bH2] at h9;rw[bF0 hj,bJ1,bJ1,bJ1,if_pos hj,bE',bF0 (show j<ts.length by omega),bM1,Function.comp,hF,←h9];rfl
 ·rw[bL9 bx6];rfl
def ah0(ws':List Nat)(ts:List uk)(aO mid:Int)(u:Value)(hn:Hp):Prop:=∃ v1 h1 v ha hs ts',u=.tuple #[.agg #[v1],v,.int .i64 0]∧Own 53 1 v1 h1 (ws'.map uV)∧Own 72 2 v ha (ts'.map Tj)∧fP wM ts' hs∧ts'.map uk.p=ts.map (fun t=>(mG t.es (tC aO mid),t.ds))∧aJ (h1++(ha++hs)) hn
theorem Uz(ws':List Nat)(hw:ws'.length<100000)(ts:List uk)(aO mid:Int)(hl:ts.length<100000)(ht:∀ t∈ts,t.es.length<100000∧t.ds.length<100000):∃ u hn,ah0 ws' ts aO mid u hn:=by
 obtain⟨v1,h1,o1⟩:=dW (e:=53) (w_all ws') bx9
 obtain⟨ts',hs,r1,r2⟩:=EP (ts.map (fun t=>(mG t.es (tC aO mid),t.ds))) (fun x hx=>by
  obtain⟨t,h,rfl⟩:=bF9.1 hx;have:=ht t h
  exact⟨bL1 (bP3 ..) this.1,this.2⟩)
 have hl':ts'.length=ts.length:=by have:=congrArg List.length r2;simpa using this
 obtain⟨v,ha,o2⟩:=dW (e:=72) (PI ts') bx9;exact⟨_,_,v1,h1,v,ha,hs,ts',rfl,o1,o2,r1,r2,aJ.refl _⟩
theorem PL(L:HL)(H:HyD)(h:Bl L H)(hW:H.lI)(root aO:Int)(mid:Nat)(hv:PtD.dm aO 0 15=true)(hmid:mid≤4095)(d:DsD)(hd:d.may 2 3=true)(hg:(iE H.ws root mid).e=0)(hg3:(iE H.ws root mid).level=3){pv gv ov:Value}(hN:eX (L.hp X [pv,gv,ov] 90) w):
  Fn Tryz.prog 162 [.pointer (some ⟨X,0,none⟩),.int .i64 root,.int .i64 aO,.int .i64 (mid:Int),ug d].toArray w ((L.hp X [pv,gv,ov] 90).map (·.b)) (HRk L X [pv,gv,ov] 90 (H.chg root aO mid d)):=by
 obtain⟨wv,cv,vv,rv,cs,vs,hw,hc,ht,hvv,hz,hr⟩:=L;obtain⟨Ri,gw,gc,gt,Fg,gz,gr,ec,ev⟩:=h;dsimp only at gw gc gt Fg gz gr ec ev;have ecl:cs.length=H.cs.length:=by rw[←ec,bE9]
 have hc1:=hW.c1;obtain⟨g,cap,cur,rfl,rfl,hrow⟩:=gc.row (n:=cs.length) bx8 bx6;obtain⟨wp,U1,e1⟩:=gw.opened;rw[bE9] at e1;subst e1;simp only[HL.hp,HL.rest] at hN ⊢;refine eP _ hN Tryz.func162 ?_;refine run ?_;intro Db;have hlt:=fun (wc:World) (hH:Here ht wc) (c:jH) (hc:c∈cs)=>gt.each (Q:=fun t=>aA wc t.ev 14 (t.es.map iw)∧aA wc t.dv 4 (t.ds.map kZ)) (fun t a ha hw=>ha.lie hw) hH c.t (bF9.2 ⟨c,hc,rfl⟩)
 have hok:∀ t∈cs.map (·.t),dP t.es t.ds=true:=fun t ht'=>by
  obtain⟨c,hc,rfl⟩:=bF9.1 ht';exact hW.tl c.u (by rw[←ec];exact bF9.2 ⟨c,hc,rfl⟩)
 have hc3:=hW.c3;have rX:=bP hW.m
 have hex:∃ u hn,ah0 (fB (fB H.ws root mid 3 dG).ws root mid 3 d).ws (cs.map (·.t)) aO mid u hn:=by
  refine Uz _ ?_ _ _ _ bx9 (fun t ht'=>?_)
  ·have a1:=Rh H.ws root mid 3 dG;have a2:=Rh (fB H.ws root mid 3 dG).ws root mid 3 d;omega
  ·have:=pq (hok t ht');omega
 refine as9 17 [0,1,2,3,4,5,7,8,9,10] [6,11,16] [12,13,14,15] [18,19] [17] ?_;refine gI ?_;refine mE ?_;refine ku (fun wc hG=>ac5 cs (wv:=.slice wp H.ws.length U1) (cv:=.slice (some ⟨g,0,none⟩) cs.length cap) (vv:=vv) (rv:=rv) ?_ (gc.lie (fun e he=>hG.here e bE0) bx9) bx6) ?_ ?_
 ·exact AV (tl:=[pv,gv,ov]) (hG.here ⟨X,#[.slice wp H.ws.length U1,.slice (some ⟨g,0,none⟩) cs.length cap,vv,rv,pv,gv,ov],90⟩ bx8)
 ·obtain⟨v,ha,o2⟩:=dW (e:=72) (PI (cs.map (·.t))) bC3;exact⟨v,ha,ha,o2,aJ.refl _⟩
 refine kL ?_;refine mOn 6 (R:=ah0 (fB (fB H.ws root mid 3 dG).ws root mid 3 d).ws (cs.map (·.t)) aO mid) ?_ ?_ ?_
 ·rintro v hn ⟨ha,hA,hle⟩;obtain⟨tp,tc,et⟩:=hA.opened;rw[bE9,bE9] at et;subst et;refine ku (R:=ah0 (fB (fB H.ws root mid 3 dG).ws root mid 3 d).ws (cs.map (·.t)) aO mid) (fun wc hG=>TI (cs.map (·.t)) H.ws hW.CS hW.m root aO mid hv hmid d hd hg hg3 (gw.lie (fun e he=>hG.here e bz8) bx9) ⟨hA.lie (fun e he=>hG.here e (by have:=hle.mem he;simp[this])) bC3,fun t ht'=>?_,fun t ht'=>?_⟩ gt.caps hok bx9) hex ?_
  ·obtain⟨c,hc,rfl⟩:=bF9.1 ht';exact (hlt wc (fun e he=>hG.here e bz8) c hc).1
  ·obtain⟨c,hc,rfl⟩:=bF9.1 ht';exact (hlt wc (fun e he=>hG.here e bz8) c hc).2
  exact kL rfl
 ·obtain⟨v,ha,o2⟩:=dW (e:=72) (PI (cs.map (·.t))) bC3;exact⟨v,ha,ha,o2,aJ.refl _⟩
 refine mE ?_;refine sN ?_;refine kL ?_;refine aS' ?_;rintro _ _ ⟨Mb,rfl,rfl⟩ u hn ⟨v1,h1,v2,ha,hs,ts',rfl,o1,o2,r1,r2,hle⟩ tv htl hTl;obtain⟨pw,c1,e1⟩:=o1.opened;obtain⟨pt,c2,e2⟩:=o2.opened;rw[bE9] at e1 e2;subst e1 e2;have hl':ts'.length=cs.length:=by have:=congrArg List.length r2;simpa using this
 refine yC ?_;refine dV ?_;refine dV ?_;refine dV ?_;refine jJ ?_;refine oO ?_;refine oO ?_;refine jJ ?_;simp only[DN,bF2,bF5,bG3];refine WB (b:=Mb) (tb:=24) (cs:=#[.slice none 0 0]) (cs':=#[.slice pw (fB (fB H.ws root mid 3 dG).ws root mid 3 d).ws.length c1]) (hp':=hn++htl++⟨Db,#[.int .i64 d.kind,.int .i64 d.frame,.bool d.r,.bool d.w,.bool d.x,.bool d.af,.bool d.ng,.int .i64 d.soft,.int .i64 d.note],95⟩::⟨X,#[.slice wp H.ws.length U1,.slice (some ⟨g,0,none⟩) cs.length cap,vv,rv,pv,gv,ov],90⟩::(hw++⟨g,cur,74⟩::(ht++(hvv++(hz++hr))))) ?_ (hput:=rfl) (hperm:=by (exact aU));refine di ?_;refine kN ?_;refine aS (⟨Mb,#[.slice pw (fB (fB H.ws root mid 3 dG).ws root mid 3 d).ws.length c1],24⟩::⟨X,#[.slice wp H.ws.length U1,.slice (some ⟨g,0,none⟩) cs.length cap,vv,rv,pv,gv,ov],90⟩::⟨g,cur,74⟩::(h1++(ha++(hs++(hvv++(hz++hr)))))) (cnt1 hle) ?_;refine run ?_;refine je [⟨g,cur,74⟩] (⟨X,#[.slice pw (fB (fB H.ws root mid 3 dG).ws root mid 3 d).ws.length c1,.slice (some ⟨g,0,none⟩) cs.length cap,vv,rv,pv,gv,ov],90⟩::⟨Mb,#[.slice pw (fB (fB H.ws root mid 3 dG).ws root mid 3 d).ws.length c1],24⟩::(h1++(ha++(hs++(hvv++(hz++hr)))))) (fun wc hG=>Lh cs ts' hl' bx6 (AV (tl:=[pv,gv,ov]) (hG.here ⟨X,#[.slice pw (fB (fB H.ws root mid 3 dG).ws root mid 3 d).ws.length c1,.slice (some ⟨g,0,none⟩) cs.length cap,vv,rv,pv,gv,ov],90⟩ bx8)) (fun e=>(hG.G6 (e:=⟨X,#[.slice pw (fB (fB H.ws root mid 3 dG).ws root mid 3 d).ws.length c1,.slice (some ⟨g,0,none⟩) cs.length cap,vv,rv,pv,gv,ov],90⟩) bx8) (by simpa using e)) gc (o2.lie (fun e he=>hG.here e bz8) bx9) (fun b o n k hv' e=>?_) hG.iY) (fun v hn3 hv3=>?_) aU
 ·obtain⟨x,hx,hxb⟩:=o2.blk hv';exact (hG.G6 (e:=x) (by simp[hx])) (by simp[hxb,e])
 obtain⟨rfl,uY,o3,hle3⟩:=hv3;refine run ?_;refine fin0 ⟨rfl,⟨.slice pw (fB (fB H.ws root mid 3 dG).ws root mid 3 d).ws.length c1,.slice (some ⟨g,0,none⟩) cs.length cap,vv,rv,TJ cs ts' cs.length,vs,h1,[⟨g,uY,74⟩],hs,hvv,hz,hr⟩,?_,⟨rfl,rfl,rfl,rfl⟩,?_⟩
 ·refine⟨Ew (Ew hW.CS _ _ _ _) _ _ _ _,o1,o3,by dsimp only;rw[aM7 hl'];exact r1,Fg,gz,gr,aM8 r2 ec fun c=>rfl,ev⟩
 ·simp only[HL.hp,HL.rest]
  (exact cnt1 hle3)
end
section
attribute [local irreducible] Hy St Ops DH dI jr iP gX DS iD lV
theorem G8(D:Int→DsD)(f:Int):∀ (l:List Int) (H:HyD),HyD.zu D (l++[f]) H=(HyD.zu D l H).hst f.toNat (D f)
 | [],_=>rfl
 | x::l,H=>G8 D f l _
theorem AX{D:Int→DsD}:∀ {l:List Int} {H:HyD},H.lI→(HyD.zu D l H).lI
 | [],_,h=>h
 | x::l,H,h=>AX (l:=l) (h.hst _)
theorem MM{D:Int→DsD}:∀ {l:List Int} {H:HyD},(HyD.zu D l H).ws.length=H.ws.length
 | [],_=>rfl
 | x::l,H=>by rw[HyD.zu,MM];exact kE ..
theorem YA(L:HL)(H:HyD)(h:Bl L H)(hW:H.lI){F:Nat}{us:List Value}(D:Int→DsD)(fs:List Int)(hf:∀ f∈fs,0≤f∧f<64)(hd:∀ f∈fs,(D f).may 2 3=true){pv gv ov:Value}(hv:aA w v 1 (fs.map bY))(hvo:∀ b o n k,v=.slice (some ⟨b,o,none⟩) n k→b∉(L.hp X [pv,gv,ov] 90).map (·.b))
  (hF:∀ f∈fs,∀ w' hp,Good w ((L.hp X [pv,gv,ov] 90).map (·.b)) hp w'→Fn Tryz.prog F ([]++[Value.int .i64 f]++us).toArray w' [] (fun u _=>u=ug (D f))) (hN:eX (L.hp X [pv,gv,ov] 90) w) (bM:mem iR F=true:=by rfl):
  Fn Tryz.prog 78 [.pointer (some ⟨X,0,none⟩),.func (.func F) [].toArray us.toArray,v].toArray w ((L.hp X [pv,gv,ov] 90).map (·.b)) (HRk L X [pv,gv,ov] 90 (HyD.zu D fs H)):=by
 have hv':=hv;obtain⟨q,cap,rfl,hne,_⟩:=hv.opened;refine eP _ hN Tryz.func78 ?_;refine run ?_;refine aK (σ:=Nat×HL) (fun s=>[(10,.int .i64 (s.1:Int))]) (fun s=>s.2.hp X [pv,gv,ov] 90) (fun s=>s.1≤fs.length∧Bl s.2 (HyD.zu D (fs.take s.1) H)∧G7 L s.2) (fun s=>fs.length-s.1) (0,L) ⟨bF4 _,h,⟨rfl,rfl,rfl,rfl⟩⟩ ?_ (hh:=aJ.refl _);rintro⟨k,L1⟩ m hm ⟨hk,hL,hSV⟩;dsimp only at hm hk hL hSV ⊢;refine run ?_;refine ah _ rfl (fun hc=>?_) (fun hc=>?_)
 ·have hlt:k<fs.length:=by simpa using hc
  obtain⟨b,o,rfl⟩:=hne by0;have hb:=hvo _ _ _ _ rfl;have hr:=aj (hv.row hlt);have hfk:=hf _ (getD_mem hlt);have hdk:=hd _ (getD_mem hlt);have hFk:=hF _ (getD_mem hlt);have htn:=dU hlt;generalize fs.getD k default=f at hr hfk hdk hFk htn;simp only[bH6] at hr;refine run ?_;refine lY (fs:=[]) (vs:=[.int .i64 f]) (us:=us) (fun wc hG=>hFk wc _ hG) ?_ (bM:=bM);refine run ?_;have hW1:(HyD.zu D (fs.take k) H).lI:=AX hW;have rX:=bP hW1.m;have hg:=hW1.t.get (k:=f.toNat) bx6;have hch:=fun (wc:World) (hN1:eX (L1.hp X [pv,gv,ov] 90) wc)=>PL L1 _ hL hW1 0 0 f.toNat rfl bx6 (D f) hdk (by rw[hg]) (by rw[hg]) hN1;rw[show ((f.toNat:Nat):Int)=f by omega] at hch;refine je (L1.hp X [pv,gv,ov] 90) [] (fun wc hG=>hch wc hG.iY) (fun v hn hR=>?_) (by rw[bG3]);obtain⟨rfl,L2,h2,aZ0,hle⟩:=hR;rw[HyD.af8 hW1.t bx6] at h2;refine aS (L2.hp X [pv,gv,ov] 90) (by rw[bG3];exact hle) ?_;refine run ?_;refine aF (k+1,L2) ⟨hlt,?_,hSV.trans aZ0⟩ (hm:=by dsimp only;omega) (h2:=aJ.refl _);dsimp only;rw[htn,G8];exact h2
 ·have hge:k=fs.length:=by simp at hc;omega
  subst hge;rw[bK4] at hL;refine run ?_;exact fin0 ⟨rfl,L1,hL,hSV,aJ.refl _⟩
theorem Rj(L:HL)(H:HyD)(h:Bl L H)(hW:H.lI){F:Nat}{us:List Value}(D:Int→DsD)(fs:List Int)(hf:∀ f∈fs,0≤f∧f<64)(hd:∀ f∈fs,(D f).may 2 3=true){pv gv ov:Value}(hv:aA w v 1 (fs.map bY))(hvo:∀ b o n k,v=.slice (some ⟨b,o,none⟩) n k→b∉(L.hp X [pv,gv,ov] 90).map (·.b))
  (hF:∀ f∈fs,∀ w' hp,Good w ((L.hp X [pv,gv,ov] 90).map (·.b)) hp w'→Fn Tryz.prog F ([]++[Value.int .i64 f]++us).toArray w' [] (fun u _=>u=ug (D f))) (hN:eX (L.hp X [pv,gv,ov] 90) w) (bM:mem iR F=true:=by rfl):
  Fn Tryz.prog 78 [.pointer (some ⟨X,0,none⟩),.func (.func F) [].toArray us.toArray,v].toArray w ((L.hp X [pv,gv,ov] 90).map (·.b)) (HR X [pv,gv,ov] 90 (HyD.zu D fs H)):=
 Fn.mono (YA L H h hW D fs hf hd hv hvo hF hN bM) fun _ _ h=>h.r
theorem aA.aM9{w':World}{mu:List Nat}{hp:Hp}{sz:Nat}{xs:List (List Value)}(h:aA w v sz xs)(ho:∀ b o n k,v=.slice (some ⟨b,o,none⟩) n k→b∉mu)(hG:Good w mu hp w'):aA w' v sz xs:=by
 obtain⟨⟨p,c,rfl,hp⟩,hl⟩:=h;refine⟨⟨p,c,rfl,fun hne=>?_⟩,hl⟩;obtain⟨b,off',rfl,hr⟩:=hp hne;exact⟨b,off',rfl,fun i c hc j u hj=>hG.cell (hr i c hc j u hj) (ho _ _ _ _ rfl)⟩
theorem ER:∀ {l:List Int} {ws:List Nat},lT ws→lT (oq ws l)
 | [],_,h=>h
 | f::l,_,h=>ER (l:=l) (h.kR f)
theorem MN(n:Int)(w:World):Fn Tryz.prog 79 [.int .i64 n].toArray w [] (fun u hn=>∃ C,u=.func (.func 163) [].toArray [.pointer (some ⟨C,0,none⟩)].toArray∧aJ [⟨C,#[.int .i64 n],3⟩] hn):=by
 refine enter Tryz.func79 ?_;refine run ?_;intro C;exact fin1 ⟨C,rfl,aJ.refl _⟩
theorem ah1(L:HL)(H:HyD)(h:Bl L H)(hW:H.lI)(fs:List Int)(hf:fs.all (bK H.ws.length)=true){pv gv ov:Value}(hv:aA w v 1 (fs.map bY))(hvo:∀ b o n k,v=.slice (some ⟨b,o,none⟩) n k→b∉(L.hp X [pv,gv,ov] 90).map (·.b))(hN:eX (L.hp X [pv,gv,ov] 90) w):
  Fn Tryz.prog 82 [.pointer (some ⟨X,0,none⟩),v].toArray w ((L.hp X [pv,gv,ov] 90).map (·.b)) (HR X [pv,gv,ov] 90 (H.Q9 fs)):=by
 obtain⟨wv,cv,vv,rv,cs,vs,hw,hc,ht,hvv,hz,hr⟩:=L;obtain⟨Ri,gw,gc,gt,Fg,gz,gr,ec,ev⟩:=h;dsimp only at gw gc gt Fg gz gr ec ev;have rX:=bP hW.m;have g3:=gw.oL;rw[bE9] at g3;obtain⟨wp,U1,rfl,hwc⟩:=g3;simp only[HL.hp,HL.rest] at hN hvo ⊢;refine eP _ hN Tryz.func82 ?_;refine run ?_;refine bI (fun wc hG=>af' H.ws (gw.lie (fun e he=>hG.here e bz8) bx9) fs (hv.aM9 hvo hG) hW.m hf) ?_;rintro u hn ⟨v1,h1,rfl,o1,hle⟩;obtain⟨pw,c1,e1⟩:=o1.opened;rw[bE9] at e1;subst e1;refine aS (⟨X,#[.slice wp H.ws.length U1,cv,vv,rv,pv,gv,ov],90⟩::(h1++(hc++(ht++(hvv++(hz++hr)))))) (cnt1 hle) ?_;dsimp only;refine run ?_;exact fin0 ⟨rfl,⟨.slice pw (oq H.ws fs).length c1,cv,vv,rv,cs,vs,h1,hc,ht,hvv,hz,hr⟩,⟨ER Ri,o1,gc,gt,Fg,gz,gr,ec,ev⟩,aJ.refl _⟩
theorem YB{g cap m:Nat}{rv:Value}(hX:w.rangeAt X 0 [wv,cv,.slice (some ⟨g,0,none⟩) m cap,rv])(n:Int)(hn:1≤n∧n≤(m:Int))(hm:m<100000):
  Fn Tryz.prog 83 [.pointer (some ⟨X,0,none⟩),.int .i64 n].toArray w [] (fun u _=>u=.pointer (some ⟨g,(n-1).toNat*6,none⟩)):=by
 have h1:w.cell? ⟨X,2,none⟩=some (.slice (some ⟨g,0,none⟩) m cap):=aj (aV (k:=2) (n:=1) hX rfl);refine enter Tryz.func83 ?_;refine run ?_;exact fin1 rfl
theorem ah2(m:fA)(n:Int)(C:Nat)(w:World)(hC:w.cell? ⟨C,0,none⟩=some (.int .i64 n)):Fn Tryz.prog 252 ([]++[Value.agg (mQ m).toArray]++[Value.pointer (some ⟨C,0,none⟩)]).toArray w [] (fun u _=>u=.bool (m.live&&decide (m.aO=n))):=by
 refine enter Tryz.func252 ?_;refine run ?_;intro B;refine aC ?_;exact fin1 rfl
theorem ah3{vv rv:Value}(vs:List fA)(hX:w.rangeAt X 0 [wv,cv,vv,rv])(hV:aA w vv 6 (vs.map mQ))(hl:vs.length<100000):
  Fn Tryz.prog 168 [.pointer (some ⟨X,0,none⟩)].toArray w [] (fun u hn=>u=.int .i64 (zq (vs.map fA.u))):=by
 have h1:w.cell? ⟨X,2,none⟩=some vv:=aj (aV (k:=2) (n:=1) hX rfl);have hV':=hV;obtain⟨q,cap,rfl,hne,_⟩:=hV.opened;refine enter Tryz.func168 ?_;refine run ?_;intro Nb;refine aK (σ:=Nat) (fun _=>[]) (fun j=>[⟨Nb,#[.int .i64 (1+(j:Int))],3⟩]) (fun j=>(∀ i:Nat,i<j→BD (vs.map fA.u) (1+(i:Int))=true)∧j+EN (vs.map fA.u) (1+(j:Int))≤vs.length) (fun j=>EN (vs.map fA.u) (1+(j:Int))) 0 ⟨fun i hi=>absurd hi (bI2 _),by have:=ML (vs.map fA.u) (1+((0:Nat):Int));rw[bE9] at this;omega⟩ ?_;rintro j m hm ⟨hj,hlen⟩;refine run ?_;have hcell:=fun (wc:World) (hG:Good w [] [⟨Nb,#[.int .i64 (1+(j:Int))],3⟩] wc)=>hG.cell1 (bJ4.2 rfl);refine az (fun wc hG=>wX (us:=[.pointer (some ⟨Nb,0,none⟩)]) (fun m=>m.live&&decide (m.aO=1+(j:Int))) vs _ (hV'.good hG) (fun m _ w' ha=>ah2 m (1+(j:Int)) Nb w' ?_)) ?_
 ·obtain⟨hp2,hg⟩:=ha;exact hg.cell (hcell wc hG) bx8
 have hany:(vs.any fun m=>m.live&&decide (m.aO=1+(j:Int)))=BD (vs.map fA.u) (1+(j:Int)):=by unfold BD;rw[List.any_map];rfl
 rw[hany];refine run ?_;refine ah _ rfl (fun hc=>?_) (fun hc=>?_)
 ·refine run ?_;rw[show 1+(j:Int)+1=1+((j+1:Nat):Int) by omega];have hnx:=EO hc;rw[show 1+(j:Int)+1=1+((j+1:Nat):Int) by omega] at hnx;refine aF (j+1) ⟨fun i hi=>?_,by omega⟩ (hm:=by omega);by_cases e:i=j
  ·subst e;exact hc
  ·exact hj i bx6
 ·refine run ?_;refine fin1 ?_;unfold zq;rw[MK j _ 1 (by have:=ML (vs.map fA.u) 1;omega) hj hc]
theorem ES(xs:List Int):∀ c∈xs.map bY,c.length=1∧c.all (·.oneCell')=true:=by
 intro c hc;obtain⟨x,_,rfl⟩:=bF9.1 hc;exact⟨rfl,rfl⟩
theorem UA(r:IL)(h1:r.ws.length<100000)(h2:r.left.length<100000):∃ u hn,SS r u hn:=by
 obtain⟨v,h,hO⟩:=dW (e:=53) (w_all r.ws) bx9;obtain⟨v2,h3,hO2⟩:=dW (e:=3) (ES r.left) bx9;exact⟨_,_,v,h,v2,h3,rfl,hO,hO2,aJ.refl _⟩
theorem ah4{ws:List Nat}(hw:lT ws)(root:Int)(free:List Int)(page:Int)(d:DsD):TOk ws.length free.length (Ec ws root free page d):=by
 unfold Ec;exact mD (Qy hw _ _ _ _) (IX _ _ _)
theorem UB(L:HL)(H:HyD)(h:Bl L H)(hW:H.lI)(n:Int)(hn:1≤n∧n≤4)(hfs:0<(H.vu (n-1).toNat).fs.length)(mid:Int)(d:DsD){pv gv ov:Value}(hN:eX (L.hp X [pv,gv,ov] 90) w):
  Fn Tryz.prog 80 [.pointer (some ⟨X,0,none⟩),.int .i64 n,.int .i64 mid,ug d].toArray w ((L.hp X [pv,gv,ov] 90).map (·.b)) (HR X [pv,gv,ov] 90 (H.ag' n mid d)):=by
 obtain⟨wv,cv,vv,rv,cs,vs,hw,hc,ht,hvv,hz,hr⟩:=L;obtain⟨Ri,gw,gc,gt,Fg,gz,gr,ec,ev⟩:=h;dsimp only at gw gc gt Fg gz gr ec ev;have evl:vs.length=4:=by rw[←hW.v,←ev,bE9]
 have rX:=bP hW.m;obtain⟨i,hi⟩:∃ i,i=(n-1).toNat:=⟨_,rfl⟩
 have hi4:i<vs.length:=by omega
 have hu:=rG ev i;rw[show H.vs.getD i default=H.vu i from rfl] at hu;rw[←hi,←hu] at hfs;have g3:=gw.oL;rw[bE9] at g3;obtain⟨wp,U1,rfl,hwc⟩:=g3;obtain⟨g,cap,cur,rfl,rfl,hsz,mg,hput⟩:=Fg.tH hi4;obtain⟨za,zb,⟨z1,z2,z3,o1,o2,o3,zl,hza⟩,hzz,wZ⟩:=gz.out hi4;generalize hvm:vs.getD i default=vm at hfs hu mg hput o1 o2 o3 zl wZ;simp only[HL.hp,HL.rest] at hN ⊢;refine eP _ hN Tryz.func80 ?_;refine run ?_;intro Db;refine run ?_;obtain⟨g1,cap1,YC,e1,rfl,hsz1,aM',_⟩:=o1.tH (k:=0) hfs;obtain⟨qr,cr,er,hcr⟩:=o2.oL;rw[bE9] at er hcr;have bn9:0<vm.fs.length:=hfs;have n3:=mg 3 _ rfl;have n4:=mg 4 _ rfl;have n0:=aM' 0 _ rfl;rw[e1] at n3;rw[er] at n4;simp only[bO6,Nat.mul_zero,bI8] at n0;have hroot:vm.fs.getD 0 default=(H.vu i).root:=by rw[←hu];rfl
 rw[hroot] at n0;refine az (fun wc hG=>YB (m:=vs.length) (AV (tl:=[pv,gv,ov]) (hG.here ⟨X,#[.slice wp H.ws.length U1,cv,.slice (some ⟨g,0,none⟩) vs.length cap,rv,pv,gv,ov],90⟩ bx8)) n bx6 bx6) ?_;rw[←hi];refine aS (⟨X,#[.slice wp H.ws.length U1,cv,.slice (some ⟨g,0,none⟩) vs.length cap,rv,pv,gv,ov],90⟩::⟨g,cur,62⟩::⟨g1,YC,3⟩::⟨Db,#[.int .i64 d.kind,.int .i64 d.frame,.bool d.r,.bool d.w,.bool d.x,.bool d.af,.bool d.ng,.int .i64 d.soft,.int .i64 d.note],95⟩::(z2++(z3++(zb++(hw++(hc++(ht++hr))))))) bz' ?_;refine run ?_;refine zY 24 [0,2,3,4,5,6,7,8,9,10,11,12,13,14,15,16,17,18] [19] [1,20,21,22,23] [24,25,26,28,29] [27,30] ?_;refine gI ?_;have hM:=ah4 (root:=(H.vu i).root) (free:=vm.fr) (page:=mid) (d:=d) Ri;obtain⟨M,hMe⟩:∃ M,M=Ec H.ws (H.vu i).root vm.fr mid d:=⟨_,rfl⟩
 rw[←hMe] at hM;refine ku (R:=SS M) (fun wc hG=>by rw[hMe];exact au8 (vl:=.slice qr vm.fr.length cr) H.ws Ri (gw.lie (fun e he=>hG.here e bz8) bx9) bx6 vm.fr (by rw[←er];exact o2.lie (fun e he=>hG.here e bz8) bx9) (by rw[←er];exact o2.Qx) bx6 (H.vu i).root mid d) (UA M (bL1 hM.2.1 bx6) (bL1 hM.2.2 bx6)) ?_;refine kL ?_;rintro u hn ⟨v1,h1,v2,h2,rfl,m1,m2,hle⟩;obtain⟨pw,c1,ew⟩:=m1.opened;obtain⟨pf,c2,ef⟩:=m2.opened;rw[bE9] at ew ef;subst ew ef;refine yC ?_;refine yC ?_;refine dV ?_;refine dV ?_;refine dV ?_;refine jJ ?_;refine Gu ?_;refine IU ?_;refine IU ?_;refine Gu ?_;refine IU ?_;refine jJ ?_;simp only[DN,bF2,bF5,bG3];have hnew:=hput 4 [.slice pf M.left.length c2] { vm with fr:=M.left,rp:=pf,rc:=c2 } bx8 rfl ⟨rfl,rfl⟩;refine jd (b:=X) (tb:=90) (cs:=#[.slice wp H.ws.length U1,cv,.slice (some ⟨g,0,none⟩) vs.length cap,rv,pv,gv,ov]) (cs':=#[.slice pw M.ws.length c1,cv,.slice (some ⟨g,0,none⟩) vs.length cap,rv,pv,gv,ov]) (hp':=hn++(⟨g,cur,62⟩::⟨g1,YC,3⟩::⟨Db,#[.int .i64 d.kind,.int .i64 d.frame,.bool d.r,.bool d.w,.bool d.x,.bool d.af,.bool d.ng,.int .i64 d.soft,.int .i64 d.note],95⟩::(z2++(z3++(zb++(hw++(hc++(ht++hr)))))))) ?_ aU;refine BN (v:=.slice pf M.left.length c2) aB (b:=g) (cs:=cur) (cs':=putAt cur (i*6+4) [.slice pf M.left.length c2]) (tb:=62) (off:=i*6+4) (vs:=[.slice pf M.left.length c2]) (hp':=⟨X,#[.slice pw M.ws.length c1,cv,.slice (some ⟨g,0,none⟩) vs.length cap,rv,pv,gv,ov],90⟩::(hn++(⟨g1,YC,3⟩::⟨Db,#[.int .i64 d.kind,.int .i64 d.frame,.bool d.r,.bool d.w,.bool d.x,.bool d.af,.bool d.ng,.int .i64 d.soft,.int .i64 d.note],95⟩::(z2++(z3++(zb++(hw++(hc++(ht++hr))))))))) rfl rfl rfl rfl rfl rfl aU rfl (by show i*6+4+1≤_;omega) rfl ak ?_;refine di ?_;refine kN ?_;refine run ?_
 have hmap:H.ag' n mid d=⟨M.ws,H.cs,H.vs.set i { H.vu i with fr:=M.left },H.rs⟩:=by
  have hfr:(H.vu i).fr=vm.fr:=by rw[←hu];rfl
  unfold HyD.ag';rw[←hi,hMe];dsimp only;rw[hfr]
 rw[hmap];refine fin0 ⟨rfl,⟨.slice pw M.ws.length c1,cv,.slice (some ⟨g,0,none⟩) vs.length cap,rv,cs,vs.set i { vm with fr:=M.left,rp:=pf,rc:=c2 },h1,hc,ht,[⟨g,putAt cur (i*6+4) [.slice pf M.left.length c2],62⟩],([⟨g1,YC,3⟩]++(h2++z3))++zb,hr⟩,⟨hM.1,m1,gc,gt,hnew,wZ _ _ ⟨[⟨g1,YC,3⟩],h2,z3,o1,m2,o3,⟨zl.1,bL1 hM.2.2 zl.2.1,zl.2.2⟩,aJ.refl _⟩,gr,ec,?_⟩,?_⟩
 ·dsimp only;rw[bN6,ev,←hu];rfl
 ·simp only[HL.hp,HL.rest]
  (exact cnt1 hle)
theorem ah5(n:Int)(h0:-100≤n∧n≤1000)(w:World):Fn Tryz.prog 164 [.int .i64 n].toArray w [] (fun u _=>u=ug (jK (1+n))):=by
 refine enter Tryz.func164 ?_;refine run ?_;intro B;refine run ?_;exact dQ (cs:=#[.int .i64 0,.int .i64 0,.bool false,.bool false,.bool false,.bool false,.bool false,.int .i64 0,.int .i64 (1+n)]) rfl
theorem az6(f:Int)(w:World):Fn Tryz.prog 81 [.int .i64 f].toArray w [] (fun u _=>u=ug (aZ f 0)):=by
 refine enter Tryz.func81 ?_;refine run ?_;intro B;refine run ?_;refine az (fun wc hG=>yS f 0 wc) ?_;refine run ?_;exact dQ (cs:=dsC (aZ f 0)) rfl
theorem G9(C:Nat)(n:Int)(f:Int)(h0:-100≤n∧n≤1000)(w:World)(hC:w.cell? ⟨C,0,none⟩=some (.int .i64 n)):Fn Tryz.prog 163 ([]++[Value.int .i64 f]++[Value.pointer (some ⟨C,0,none⟩)]).toArray w [] (fun u _=>u=ug (jK (1+n))):=by
 refine enter Tryz.func163 ?_;refine run ?_;intro B;refine run ?_;refine az (fun wc hG=>ah5 n h0 wc) ?_;refine run ?_;exact dQ (cs:=dsC (jK (1+n))) rfl
end
section
section
variable {n : Nat} {w0 : World} {mu : List Nat} {l : Fm} {hp : Hp} {all : Array Oper} {iv : Fm} {i d : Nat} {ds : List (Nat × Nat)} {D : List Nat} {Y : Fm → Prop} {ty : TypeId} {pos : String} {af : Array Edge}
theorem YD{t e:TypeId}{x y:Operand}{b off m c s j off':Nat}{k:IntKind}{dd:Option Tmp}{lf:Fm}(hx:ev lf x=some (.slice (some ⟨b,off,none⟩) m c))(hy:ev lf y=some (.int k ((j:Nat):Int)))(ht:lk Tb.sl t=some (e,s))(h1:j<m)(he:off+j*s=off'):EZ Tryz.prog n w0 mu lf hp ⟨dd,.indexAddr t x y,ty,pos,af,none⟩ (.pointer (some ⟨b,off',none⟩)):=by
 obtain⟨hu,hs⟩:=aB.zC ht;subst he;refine⟨rfl,fun a w hk _=>?_⟩;simp only[execOp,hk.ev hx,hk.ev hy];simp[Instr.indexAt,run_underlying hu w,asIntOf,h1,run_sizeOf hs w,add_lit]
theorem YE{t e:TypeId}{x y:Operand}{b off m c s j off':Nat}{k:IntKind}(h1:j<m)(he:off+j*s=off')(h:gX Tryz.prog n w0 mu all ds l hp Y D ((i,.pointer (some ⟨b,off',none⟩))::iv))(ho:all[i]?=some ⟨some d,.indexAddr t x y,ty,pos,af,none⟩:=by rfl)(hx:ev (aT ds iv af.toList++l) x=some (.slice (some ⟨b,off,none⟩) m c):=by rfl)(hy:ev (aT ds iv af.toList++l) y=some (.int k ((j:Nat):Int)):=by rfl)(ht:lk Tb.sl t=some (e,s):=by rfl):gX Tryz.prog n w0 mu all ds l hp Y (i::D) iv:=Dv ho (YD hx hy ht h1 he) h
end
section
variable {n : Nat} {w0 : World} {mu : List Nat} {l : Fm} {h0 hp hc : Hp} {all : Array Oper} {ds : List (Nat × Nat)} {t0 : Nat} {aY bz : Fm} {Y : Fm → Fm → Hp → Prop} {i d : Nat} {r : List (Nat × Bool)} {ty : TypeId} {pos : String} {af : Array Edge}
theorem an9{t e sz jc cc a:Nat}{x y:Operand}{z:Value}{c:List Value}{ha hp':Hp}{xs:List (List Value)}(hA:Own e sz v ha xs)(hnews:kU w0 mu hc a 0 c)(h63:xs.length<1000000)(hperm:(ha++hp').Perm hc)(hle:aJ h0 hp')
  (h:∀ v' ha',Acc e sz v' ha' (xs++[c])→Fe Tryz.prog n w0 mu all ds l h0 hp t0 Y r aY ((i,v')::bz) (ha'++hp')) (ho:all[i]?=some ⟨some d,.call { callee:=.builtin .append,args:=#[x,y],argTypes:=#[t,t] },ty,pos,af,none⟩:=by rfl) (hit:(i=t0∨Region.waitsFor .any all i t0=true)∨aJ hp hp':=by exact .inl (.inl rfl))
  (hx:ev (aT ds (bz++aY) af.toList++l) x=some v:=by rfl) (hy:ev (aT ds (bz++aY) af.toList++l) y=some (.slice (some ⟨a,0,none⟩) 1 cc):=by rfl) (ht:lk Tb.sl t=some (e,sz):=by rfl)
  (hz:lk Tb.zs e=some z:=by rfl) (hzs:z.cells.size=sz:=by rfl) (hb:lk Tb.eb e=some jc:=by rfl) (hby:Nat.ble jc 4096=true:=by rfl) (hl:c.length=sz:=by rfl) (h1:c.all (·.oneCell')=true:=by rfl):Fe Tryz.prog n w0 mu all ds l h0 hp t0 Y ((i,false)::r) aY bz hc:=by
 have uw:jc≤4096:=bJ2 hby
 have hall:∀ c'∈xs++[c],c'.length=sz∧c'.all (·.oneCell')=true:=by
  intro c' hc';rcases bH1.1 hc' with hc' | hc'
  ·exact hA.1 c' hc'
  ·obtain rfl:=bJ4.1 hc';exact⟨hl,h1⟩
 rcases hA.2 with⟨rfl,rfl,rfl⟩ | ⟨g,cap,cur,rfl,rfl,hrow⟩
 ·refine⟨_,ho,.inr (.inr ⟨rfl,fun v h'=>∃ g cap cur,Row g cap cur sz 1 c∧v=.slice (some ⟨g,0,none⟩) 1 cap∧h'=⟨g,cur,e⟩::hp',QF (Eh aB hx hy ht hz hzs hb bx6 bA9 hnews bx6 bx6) ?_,?_⟩)⟩
  ·rintro _ _ ⟨g,cap,cur,hr,rfl,rfl⟩;exact⟨_,⟨g,cap,cur,hr,rfl,rfl⟩,(hperm.cons _:(⟨g,cur,e⟩::([]++hp')).Perm (⟨g,cur,e⟩::hc))⟩
  rintro _ _ ⟨g,cap,cur,hr,rfl,rfl⟩;refine⟨?_,hit.imp id fun h2=>cZ fun b=>?_,?_⟩
  ·refine cZ fun b=>?_;have:=hle.cnt b;rw[bG];omega
  ·have:=h2.cnt b;show _≤nP b (⟨g,cur,e⟩::hp');rw[bG];omega
  ·exact h (.slice (some ⟨g,0,none⟩) 1 cap) [⟨g,cur,e⟩] ⟨hall,.inr ⟨by simp,g,cap,cur,rfl,rfl,by simpa using hr⟩⟩
 ·refine⟨_,ho,.inr (.inr ⟨rfl,_,Ei aB hx hy ht hz hzs hb hperm hrow bA9 hnews h1 bx6 ?_,?_⟩)⟩
  ·have h2:(xs.length+1+(xs.length+1)/4+192)≤2000000:=by omega
   calc _≤2000000*jc:=bH' _ h2
    _≤2000000*4096:=bO' _ uw
    _≤_:=by decide
  rintro _ _ ⟨g,cap,cur,hr,rfl,rfl⟩;refine⟨?_,hit.imp id fun h2=>cZ fun b=>?_,?_⟩
  ·refine cZ fun b=>?_;have:=hle.cnt b;show _≤nP b (⟨g,cur,e⟩::hp');rw[bG];omega
  ·have:=h2.cnt b;show _≤nP b (⟨g,cur,e⟩::hp');rw[bG];omega
  ·exact h (.slice (some ⟨g,0,none⟩) (xs.length+1) cap) [⟨g,cur,e⟩] ⟨hall,.inr ⟨by simp,g,cap,cur,by simp,rfl,by simpa using hr⟩⟩
end
end
section
attribute [local irreducible] Hy St Ops DH dI jr iP gX DS iD lV
theorem YF(f:Int):∀ k,k<5→(HyD.ja f).getD k default=f+(k:Int):=by
 intro k hk
 match k,hk with
 | 0,_=>exact (Int.add_zero f).symm
 | 1,_=>rfl
 | 2,_=>rfl
 | 3,_=>rfl
 | 4,_=>rfl
theorem Rk{f x:Int}(h:x∈HyD.ja f):f≤x∧x<f+5:=by
 simp only[HyD.ja,bG7,bO5,or_false] at h;omega
theorem Rl{D:Int→DsD}:∀ {l:List Int} {H:HyD},(HyD.zu D l H).vs=H.vs
 | [],_=>rfl
 | x::l,H=>by rw[HyD.zu,Rl];rfl
theorem YG(H:HyD)(l:List Int):(H.Q9 l).vs=H.vs:=rfl
def zy(was is:PtD)(k:Nat):Nat:=(List.range k).foldl (fun a i=>bif (is.gs i).live&&!(was.gs i).live then i else a) 0
theorem xM(was is:PtD)(k:Nat):zy was is (k+1)=bif (is.gs k).live&&!(was.gs k).live then k else zy was is k:=by
 unfold zy;rw[bL4,List.foldl_append];rfl
theorem MO(was is:PtD):∀ k,zy was is k≤k-1
 | 0=>bG0 0
 | k+1=>by
  rw[xM];have:=MO was is k
  cases (is.gs k).live&&!(was.gs k).live with
  | true=>exact bG0 k
  | false=>rw[cond_false];omega
structure CrS where
 k:Nat
 v:Value
 h:Hp
theorem UC(L:HL)(H:HyD)(h:Bl L H)(hW:H.lI)(c:xR)(hf:16≤c.frame∧c.frame+5≤((H.ws.length/8:Nat):Int)){pv gv ov pv2 gv2 ov2:Value}{P2:PtD}(hN:eX (L.hp X [pv,gv,ov] 90) w)
  (hP:dN w pv gv ov P) (hPn:P.Len) (hPo:∀ b o n k,gv=.slice (some ⟨b,o,none⟩) n k→b∉(L.hp X [pv,gv,ov] 90).map (·.b)) (hP2:dN w pv2 gv2 ov2 P2) (ah6:P2.Len) (UD:∀ b o n k,gv2=.slice (some ⟨b,o,none⟩) n k→b∉(L.hp X [pv,gv,ov] 90).map (·.b)):
  Fn Tryz.prog 84 [.pointer (some ⟨X,0,none⟩),uo c,.agg #[pv2,gv2,ov2]].toArray w ((L.hp X [pv,gv,ov] 90).map (·.b)) (HR X [pv,gv,ov] 90 (H.wJ c.frame (HyD.Uy P P2))):=by
 obtain⟨V,rfl,rfl,rfl,hV⟩:=hP.open hPn;obtain⟨V2,rfl,rfl,rfl,hV2⟩:=hP2.open ah6;have hb:=hPo _ _ _ _ rfl;have hb2:=UD _ _ _ _ rfl;refine eP _ hN Tryz.func84 ?_;refine run ?_;intro Cb Ib;refine run ?_;have rX:=bP hW.m;refine aK (σ:=CrS) (fun s=>[(11,.int .i64 (s.k:Int)),(6,s.v)]) (fun s=>⟨Ib,#[V2.pv P2.pages.length,V2.gv P2.ay.length,V2.ov P2.on.length],48⟩::⟨Cb,#[.int .i64 c.kind,.int .i64 c.vm,.int .i64 c.frame,.int .i64 c.mid,.int .i64 c.kW,.int .i64 c.mM],37⟩::(s.h++(L.hp X [V.pv P.pages.length,V.gv P.ay.length,V.ov P.on.length] 90))) (fun s=>s.k≤5∧Acc 3 1 s.v s.h (((HyD.ja c.frame).take s.k).map bY)) (fun s=>5-s.k) ⟨0,.slice none 0 0,[]⟩ ⟨bF4 _,Acc.nil _ _⟩ ?_;rintro⟨k,fv,hx⟩ m hm ⟨hk,hA⟩;dsimp only at hm hk hA ⊢;refine run ?_;refine ah _ rfl (fun hc=>?_) (fun hc=>?_)
 ·have hk5:k<5:=by have:=of_decide_eq_true hc;omega
  refine run ?_;intro Z
  have htn:(HyD.ja c.frame).take (k+1)=(HyD.ja c.frame).take k++[c.frame+(k:Int)]:=by
   rw[dU (xs:=HyD.ja c.frame) (k:=k) hk5,YF _ _ hk5]
  refine dK (c:=[.int .i64 (c.frame+(k:Int))]) hA (fun v' ha' hA2=>?_) by6 (aX (m:=1) mh rfl) (hp':=⟨Z,#[.int .i64 (c.frame+(k:Int))],3⟩::⟨Ib,#[V2.pv P2.pages.length,V2.gv P2.ay.length,V2.ov P2.on.length],48⟩::⟨Cb,#[.int .i64 c.kind,.int .i64 c.vm,.int .i64 c.frame,.int .i64 c.mid,.int .i64 c.kW,.int .i64 c.mM],37⟩::(L.hp X [V.pv P.pages.length,V.gv P.ay.length,V.ov P.on.length] 90)) (hperm:=by (exact aU));refine run ?_;refine aF ⟨k+1,v',ha'⟩ ⟨hk5,?_⟩ (hm:=by dsimp only;omega) (h2:=by (exact ak));dsimp only;rw[htn,bG5];exact hA2
 ·have hk5:k=5:=by have:=of_decide_eq_false hc;omega
  subst hk5;refine run ?_;refine bI (fun wc hG=>MN 0 wc) ?_;rintro _ hn ⟨C,rfl,az7⟩;refine aS (⟨Ib,#[V2.pv P2.pages.length,V2.gv P2.ay.length,V2.ov P2.on.length],48⟩::⟨Cb,#[.int .i64 c.kind,.int .i64 c.vm,.int .i64 c.frame,.int .i64 c.mid,.int .i64 c.kW,.int .i64 c.mM],37⟩::⟨C,#[.int .i64 0],3⟩::(hx++(L.hp X [V.pv P.pages.length,V.gv P.ay.length,V.ov P.on.length] 90))) (cnt1 az7) ?_;rw[show (HyD.ja c.frame).take 5=HyD.ja c.frame from rfl] at hA;have hAo:=hA.own;refine run ?_;refine je (L.hp X [V.pv P.pages.length,V.gv P.ay.length,V.ov P.on.length] 90) (⟨Ib,#[V2.pv P2.pages.length,V2.gv P2.ay.length,V2.ov P2.on.length],48⟩::⟨Cb,#[.int .i64 c.kind,.int .i64 c.vm,.int .i64 c.frame,.int .i64 c.mid,.int .i64 c.kW,.int .i64 c.mM],37⟩::⟨C,#[.int .i64 0],3⟩::hx) (fun wc hG=>Rj L H h hW (F:=163) (us:=[.pointer (some ⟨C,0,none⟩)]) (fun _=>jK 1) (HyD.ja c.frame) (fun f hf=>by have:=Rk hf;omega) (fun _ _=>rfl) (hAo.lie (fun e he=>hG.here e bz8) bC8) (fun b o n k e hm=>?_) (fun f hf w' hp hg=>?_) hG.iY) (fun v hn2 hR=>?_) aU
  ·obtain⟨x,hx,rfl⟩:=hAo.blk e;exact hG.G6 (e:=x) (by simp[hx]) hm
  ·have:=G9 C 0 f bx7 w' ((hG.lG hg).cell1 (t:=3) bx8);exact this
  obtain⟨rfl,L2,h2,hle2⟩:=hR;refine aS (⟨Ib,#[V2.pv P2.pages.length,V2.gv P2.ay.length,V2.ov P2.on.length],48⟩::⟨Cb,#[.int .i64 c.kind,.int .i64 c.vm,.int .i64 c.frame,.int .i64 c.mid,.int .i64 c.kW,.int .i64 c.mM],37⟩::(hx++(L2.hp X [V.pv P.pages.length,V.gv P.ay.length,V.ov P.on.length] 90))) (cnt1 hle2) ?_;refine run ?_;have hW2:=AX (D:=fun _=>jK 1) (l:=HyD.ja c.frame) hW;have hl2:=MM (D:=fun _=>jK 1) (l:=HyD.ja c.frame) (H:=H);obtain⟨H2,hH2⟩:∃ H2,H2=HyD.zu (fun _=>jK 1) (HyD.ja c.frame) H:=⟨_,rfl⟩
  rw[←hH2] at h2 hW2 hl2;refine je (L2.hp X [V.pv P.pages.length,V.gv P.ay.length,V.ov P.on.length] 90) (⟨Ib,#[V2.pv P2.pages.length,V2.gv P2.ay.length,V2.ov P2.on.length],48⟩::⟨Cb,#[.int .i64 c.kind,.int .i64 c.vm,.int .i64 c.frame,.int .i64 c.mid,.int .i64 c.kW,.int .i64 c.mM],37⟩::hx) (fun wc hG=>ah1 L2 H2 h2 hW2 (HyD.ja c.frame) (bF1.2 fun f hf=>by have:=Rk hf;rw[hl2];simp only[bK,bE8,decide_eq_true_eq];omega) (hAo.lie (fun e he=>hG.here e bz8) bC8) (fun b o n k e hm=>?_) hG.iY) (fun v hn3 hR=>?_) aU
  ·obtain⟨x,hx,rfl⟩:=hAo.blk e;exact hG.G6 (e:=x) (by simp[hx]) hm
  obtain⟨rfl,L3,h3,hle3⟩:=hR;obtain⟨wv3,Rn,vv3,rv3,cs3,vs3,hw3,hc3,ht3,hv3,hz3,hr3⟩:=L3;simp only[HL.hp,HL.rest] at hle3;refine aS (⟨Ib,#[V2.pv P2.pages.length,V2.gv P2.ay.length,V2.ov P2.on.length],48⟩::⟨X,#[wv3,Rn,vv3,rv3,V.pv P.pages.length,V.gv P.ay.length,V.ov P.on.length],90⟩::(hx++(hw3++(hc3++(ht3++(hv3++(hz3++hr3))))))) (cnt1 hle3) ?_;refine run ?_;have g4:=hPn.g4;have g42:=ah6.g4;refine aK (σ:=Nat) (fun k=>[(32,.int .i64 (k:Int)),(8,.int .i64 (zy P P2 k:Int))]) (fun _=>⟨Ib,#[V2.pv P2.pages.length,V2.gv P2.ay.length,V2.ov P2.on.length],48⟩::⟨X,#[wv3,Rn,vv3,rv3,V.pv P.pages.length,V.gv P.ay.length,V.ov P.on.length],90⟩::(hx++(hw3++(hc3++(ht3++(hv3++(hz3++hr3))))))) (fun k=>k≤4) (fun k=>4-k) 0 (bF4 _) ?_;rintro k m2 hm2 hk4;refine run ?_;refine ah _ rfl (fun hc2=>?_) (fun hc2=>?_)
  ·have hkl:k<4:=by have:=of_decide_eq_true hc2;omega
   have r1:=hV2.gs k bx6;have r2:=aj (aV (k:=0) (n:=1) (hV.gs k bx6) rfl);simp only[bI8] at r2;have hkP:k<P.ay.length:=by omega
   obtain⟨q5,c5,e5,_⟩:=(hV2.vc k bx6).opened;obtain⟨q6,c6,e6,_⟩:=(hV2.mp k bx6).opened;rw[e5,e6] at r1;refine run ?_;intro Gb;refine aC ?_;refine ah _ rfl (fun hd=>?_) (fun hd=>?_)
   ·have e9:zy P P2 (k+1)=k:=by rw[xM,hd];rfl
    refine run ?_;exact aF (k+1) hkl (hm:=by omega) (h1:=by rw[e9];(repeat (first | exact True.intro | (refine And.intro bz0 ?_))))
   ·have e9:zy P P2 (k+1)=zy P P2 k:=by rw[xM,hd];rfl
    refine run ?_;exact aF (k+1) hkl (hm:=by omega) (h1:=by rw[e9];(repeat (first | exact True.intro | (refine And.intro bz0 ?_))))
  ·have hk5:k=4:=by have:=of_decide_eq_false hc2;omega
   subst hk5;refine run ?_;obtain⟨H3,hH3⟩:∃ H3,H3=H2.Q9 (HyD.ja c.frame):=⟨_,rfl⟩
   rw[←hH3] at h3;have aN1:H3.vs=H.vs:=by rw[hH3,YG,hH2,Rl]
   have hcr:H.wJ c.frame (HyD.Uy P P2)=H3.PG (HyD.Uy P P2) ⟨true,false,zq H.vs,HyD.ja c.frame,(HyD.ja c.frame).drop 1,[]⟩:=by
    unfold HyD.wJ;rw[hH3,hH2]
   rw[hcr];clear hcr hH3;obtain⟨k64,kw,kc,kt,kv,kz,kr,kec,kev⟩:=h3;dsimp only at kw kc kt kv kz kr kec kev
   have az8:vs3.map fA.u=H.vs:=by
    rw[kev,aN1]
   have kvl:vs3.length=4:=by
    rw[←hW.v,←az8,bE9]
   obtain⟨at_,hat⟩:∃ a,a=zy P P2 4:=⟨_,rfl⟩
   have az9:at_<vs3.length:=by have:=MO P P2 4;omega
   obtain⟨g3,cap3,uY,rfl,rfl,hsz,mg,hput⟩:=kv.tH az9;rw[←hat];obtain⟨fg,PM,az',rfl,rfl,aN2⟩:=hAo.row (n:=5) rfl bx7;refine zY 13 [0,1,2,3,4,5,6,7,8,9,10] [11] [12] [13] [14] ?_;refine gI ?_;refine D9 (fun wc hx9 hG=>ah3 vs3 (AV (tl:=[V.pv P.pages.length,V.gv P.ay.length,V.ov P.on.length]) (hG.here ⟨X,#[wv3,Rn,.slice (some ⟨g3,0,none⟩) vs3.length cap3,rv3,V.pv P.pages.length,V.gv P.ay.length,V.ov P.on.length],90⟩ bx8)) (kv.lie (fun e he=>hG.here e bE0) bx9) bx6) ?_;refine gI ?_;have hfc:=aN2.le;refine jY rfl (fun hx9=>lZ aB rfl rfl rfl bx7 bx7 bx6 (o':=1) (m':=4) (c':=PM-1) rfl rfl rfl) ?_;refine gI ?_;have l4:(((HyD.ja c.frame).drop 1).map bY).length=4:=rfl;have l5:((HyD.ja c.frame).map bY).length=5:=rfl;have l5':(HyD.ja c.frame).length=5:=rfl;have an':=ES ((HyD.ja c.frame).drop 1);refine ku (R:=fun u hn=>Own 3 1 u hn (((HyD.ja c.frame).drop 1).map bY)) (fun wc hG=>qG _ _ ?_ an' bx6) (dW an' bx6) ?_
   ·have:=(hAo.lie (w:=wc) (fun e he=>hG.here e bE0) bx6).aK8 (i:=1) (k:=4) (c':=PM-1) bx6;exact this
   refine kL ?_;intro cv9 h9 hO9;obtain⟨q9,c9,e9⟩:=hO9.opened;rw[show ((HyD.ja c.frame).drop 1).map bY=[bY (c.frame+1),bY (c.frame+2),bY (c.frame+3),bY (c.frame+4)] from rfl,show ([bY (c.frame+1),bY (c.frame+2),bY (c.frame+3),bY (c.frame+4)]:List (List Value)).length=4 from rfl] at e9;subst e9;refine uF ?_;refine jJ ?_;refine YE az9 (bH5 (at_*6)) ?_;refine jJ ?_;simp only[DN,bF2,bF5,bG3];obtain⟨m9,hm9⟩:∃ m9:fA,m9=⟨true,false,zq (vs3.map fA.u),HyD.ja c.frame,some ⟨fg,0,none⟩,PM,(HyD.ja c.frame).drop 1,q9,c9,[],none,0⟩:=⟨_,rfl⟩
   have hnew:=hput 0 [.bool true,.bool false,.int .i64 (zq (vs3.map fA.u)),.slice (some ⟨fg,0,none⟩) 5 PM,.slice q9 4 c9,.slice none 0 0] m9 bx8 (by
    rw[bK1,bJ3 bx8,bG3,bF5,hm9];rfl) ⟨rfl,rfl⟩
   obtain⟨za,zb,_,hzz,wZ⟩:=kz.out az9;refine BN (v:=.agg #[.bool true,.bool false,.int .i64 (zq (vs3.map fA.u)),.slice (some ⟨fg,0,none⟩) 5 PM,.slice q9 4 c9,.slice none 0 0]) aB (b:=g3) (cs:=uY) (cs':=putAt uY (at_*6+0) [.bool true,.bool false,.int .i64 (zq (vs3.map fA.u)),.slice (some ⟨fg,0,none⟩) 5 PM,.slice q9 4 c9,.slice none 0 0]) (tb:=62) (off:=at_*6) (vs:=[.bool true,.bool false,.int .i64 (zq (vs3.map fA.u)),.slice (some ⟨fg,0,none⟩) 5 PM,.slice q9 4 c9,.slice none 0 0]) (hp':=⟨X,#[wv3,Rn,.slice (some ⟨g3,0,none⟩) vs3.length cap3,rv3,V.pv P.pages.length,V.gv P.ay.length,V.ov P.on.length],90⟩::(h9++(⟨Ib,#[V2.pv P2.pages.length,V2.gv P2.ay.length,V2.ov P2.on.length],48⟩::⟨fg,az',3⟩::(hw3++(hc3++(ht3++(hz3++hr3))))))) rfl rfl rfl rfl rfl rfl aU rfl (by show at_*6+6≤_;omega) rfl ak ?_;refine di ?_;refine kN ?_;refine run ?_;refine fin0 ⟨rfl,⟨wv3,Rn,.slice (some ⟨g3,0,none⟩) vs3.length cap3,rv3,cs3,vs3.set at_ m9,hw3,hc3,ht3,[⟨g3,_,62⟩],([⟨fg,az',3⟩]++(h9++[]))++zb,hr3⟩,⟨k64,kw,kc,kt,hnew,wZ _ _ ⟨[⟨fg,az',3⟩],h9,[],?_,?_,?_,?_,aJ.refl _⟩,kr,kec,?_⟩,?_⟩
   ·rw[hm9];exact hAo
   ·rw[hm9];exact hO9
   ·rw[hm9];exact Own.nil _ _
   ·rw[hm9];exact⟨(by decide:(5:Nat)<100000),(by decide:(4:Nat)<100000),(by decide:(0:Nat)<100000)⟩
   ·dsimp only;rw[bN6,az8,hm9];unfold HyD.PG;dsimp only;rw[aN1,hat,az8];rfl
   ·simp only[HL.hp,HL.rest]
    (exact cnt1 hzz)
theorem aA0(xs:List Am):∀ c∈xs.map nY,c.length=15∧c.all (·.oneCell')=true:=by
 intro c hc;obtain⟨x,_,rfl⟩:=bF9.1 hc;exact⟨rfl,rfl⟩
theorem aA1(xs:List jH):∀ c∈xs.map qV,c.length=19∧c.all (·.oneCell')=true:=by
 intro c hc;obtain⟨x,_,rfl⟩:=bF9.1 hc;exact⟨rfl,rfl⟩
theorem aA2(xs:List fA):∀ c∈xs.map mQ,c.length=6∧c.all (·.oneCell')=true:=by
 intro c hc;obtain⟨x,_,rfl⟩:=bF9.1 hc;exact⟨rfl,rfl⟩
theorem YH(es:List fE)(ds:List jv)(h1:es.length<100000)(h2:ds.length<100000):∃ (r:Value) (hn:Hp),∃ v1 h1 v2 h2,r=.agg #[v1,v2]∧Own 80 14 v1 h1 (es.map iw)∧Own 127 4 v2 h2 (ds.map kZ)∧aJ (h1++h2) hn:=by
 obtain⟨a1,g1,o1⟩:=dW (e:=80) (xs:=es.map iw) sZ bx9;obtain⟨a2,g2,o2⟩:=dW (e:=127) (xs:=ds.map kZ) Ar bx9;exact⟨_,_,a1,g1,a2,g2,rfl,o1,o2,aJ.refl _⟩
theorem UE{α:Type}[Inhabited α]{xs ys:List α}{k:Nat}(h:xs.drop k=ys.drop k):xs.getD k default=ys.getD k default:=by
 have:=congrArg (fun l:List α=>l[0]?) h;simp only[bM8,bI8] at this;rw[bE',bE',this]
theorem xe{α:Type}{l:List α}{k:Nat}{y:α}(h:k<l.length):(l.set k y).take (k+1)=l.take k++[y]:=by
 apply bO9;intro i;simp only[bK2,bQ',List.getElem?_append,bI1,bM9 (Nat.le_of_lt h)];by_cases h1:i<k
 ·simp[h1,show i<k+1 by omega,show ¬ k=i by omega]
 ·by_cases h2:i=k
  ·subst h2;simp[h]
  ·simp[h1,show ¬ i<k+1 by omega,show i-k≠0 by omega,bL9 (show ([y]:List α).length≤i-k by simp;omega)]
theorem YI(xs:List ve):∀ c∈xs.map zF,c.length=16∧c.all (·.oneCell')=true:=by
 intro c hc;obtain⟨x,_,rfl⟩:=bF9.1 hc;exact⟨rfl,rfl⟩
structure CdS where
 k:Nat
 xs:List jH
 cur:Array Value
 h:Hp
structure CvS where
 k:Nat
 xs:List fA
 cur:Array Value
 h:Hp
theorem UF{vv rv:Value}(h:vw w wv cv vv rv H)(hw0:0<H.ws.length)(hc0:0<H.cs.length)(hv0:0<H.vs.length)(pp gp Y8:Option Addr)(n1 n2 n3 k1 k2 k3:Nat):
  Fn Tryz.prog 34 [.agg #[wv,cv,vv,rv],.agg #[.slice pp n1 k1,.slice gp n2 k2,.slice Y8 n3 k3]].toArray w [] (fun u hn=>∃ X L,u=.pointer (some ⟨X,0,none⟩)∧Bl L H∧aJ (L.hp X [.slice pp n1 k1,.slice gp n2 k2,.slice Y8 n3 k3] 90) hn):=by
 have h':=h;have hfit:=h.fit;obtain⟨cs,vs,e1,e2,e3,hH⟩:=h.ex;have hcl:cs.length=H.cs.length:=by rw[←e1,bE9]
 have hvl:vs.length=H.vs.length:=by rw[←e2,bE9]
 have hl:=hfit.l;obtain⟨q,cap,rfl,hne,_⟩:=hH.ws.opened;have FP:=hH.cs.rows.opened;obtain⟨q2,cap2,rfl,hne2,_⟩:=FP;obtain⟨q3,cap3,rfl,jF,_⟩:=hH.vs.rows.opened;obtain⟨q4,cap4,rfl,oQ,_⟩:=hH.rs.opened;refine enter Tryz.func34 ?_;refine run ?_;intro Hb Pb;refine qP 19 3 [0,1,2,5,6,8,9,11,12,15] [(3,false),(4,true),(7,false),(10,false),(13,false),(14,true),(16,true),(17,false),(18,true)] [⟨Pb,#[.slice pp n1 k1,.slice gp n2 k2,.slice Y8 n3 k3],48⟩,⟨Hb,#[.slice q H.ws.length cap,.slice q2 cs.length cap2,.slice q3 vs.length cap3,.slice q4 H.rs.length cap4],29⟩] ?_;refine jV ?_;refine xC ?_;refine yF (fun wc hG=>oN _ _ (hH.ws.good hG) (w_all _) bx9) ?_;intro v1 h1 o1;obtain⟨y1,d1,e1'⟩:=o1.opened;rw[bE9] at e1';subst e1';refine di ?_;refine xD ?_;refine uF ?_;refine jJ ?_;refine⟨_,rfl,?_⟩;refine xC ?_;refine yF (fun wc hG=>Lu _ _ (hH.cs.rows.good hG) (aA1 _) bx9) ?_;intro v2 h2 o2;obtain⟨y2,d2,e2'⟩:=o2.opened;rw[bE9] at e2';subst e2';refine di ?_;refine xC ?_;refine yF (fun wc hG=>OX _ _ (hH.vs.rows.good hG) (aA2 _) bx9) ?_;intro v3 h3 o3;obtain⟨y3,d3,e3'⟩:=o3.opened;rw[bE9] at e3';subst e3';refine di ?_;refine xC ?_;refine yF (fun wc hG=>LC _ _ (hH.rs.good hG) (aA0 _) bx9) ?_;intro v4 h4 o4;obtain⟨y4,d4,e4'⟩:=o4.opened;rw[bE9] at e4';subst e4';refine di ?_;refine xD ?_;refine uF ?_;refine jJ ?_;refine⟨_,rfl,?_⟩;refine xD ?_;refine uF ?_;refine jJ ?_;refine⟨_,rfl,?_⟩;refine xC ?_;refine aW8 (fun X=>?_);refine di ?_;refine xD ?_;refine oO ?_;refine jJ ?_;refine⟨_,rfl,?_⟩;refine Eg ?_;refine kN ?_;obtain⟨g2,d2',Uo,e2',rfl,hrow2⟩:=o2.row (n:=cs.length) bx8 bx6;cases e2';obtain⟨g3,d3',uY,e3',rfl,hrow3⟩:=o3.row (n:=vs.length) bx8 bx6;cases e3';refine aS (⟨X,#[.slice y1 H.ws.length d1,.slice (some ⟨g2,0,none⟩) cs.length d2,.slice (some ⟨g3,0,none⟩) vs.length d3,.slice y4 H.rs.length d4,.slice pp n1 k1,.slice gp n2 k2,.slice Y8 n3 k3],90⟩::⟨Hb,#[.slice q H.ws.length cap,.slice q2 cs.length cap2,.slice q3 vs.length cap3,.slice q4 H.rs.length cap4],29⟩::⟨g2,Uo,74⟩::⟨g3,uY,62⟩::(h1++h4)) ak ?_;refine run ?_;refine aK (σ:=CdS) (fun s=>[(33,.int .i64 (s.k:Int))]) (fun s=>⟨X,#[.slice y1 H.ws.length d1,.slice (some ⟨g2,0,none⟩) cs.length d2,.slice (some ⟨g3,0,none⟩) vs.length d3,.slice y4 H.rs.length d4,.slice pp n1 k1,.slice gp n2 k2,.slice Y8 n3 k3],90⟩::⟨Hb,#[.slice q H.ws.length cap,.slice q2 cs.length cap2,.slice q3 vs.length cap3,.slice q4 H.rs.length cap4],29⟩::⟨g2,s.cur,74⟩::⟨g3,uY,62⟩::(s.h++(h1++h4))) (fun s=>s.k≤cs.length∧s.xs.length=cs.length∧Own 74 19 (.slice (some ⟨g2,0,none⟩) cs.length d2) [⟨g2,s.cur,74⟩] (s.xs.map qV)∧fP wM ((s.xs.take s.k).map (·.t)) s.h∧s.xs.map jH.u=H.cs) (fun s=>cs.length-s.k) ⟨0,cs,Uo,[]⟩ ⟨bF4 _,rfl,o2,trivial,e1⟩ ?_;rintro⟨k,xs,cu,ht⟩ m hm ⟨hk,hxl,hU,hT,hE⟩;dsimp only at hm hk hxl hU hT hE ⊢;refine run ?_;refine ah _ rfl (fun hc=>?_) (fun hc=>?_)
 ·have hlt:k<cs.length:=by simpa using hc
  obtain⟨b2,o2_,rfl⟩:=hne2 (by intro e;rw[e] at hlt;cases hlt);have hr:=hH.cs.rows.row hlt;have hen:=hH.cs.en _ (getD_mem (l:=cs) hlt);have hiv:=hH.cs.iv _ (getD_mem (l:=cs) hlt);have hfc:=hfit.c (H.cs.getD k default) (getD_mem bx6);rw[←Lc e1 k] at hfc;obtain⟨g',cap',cur',q1_,q2_,hsz,mg,hput⟩:=hU.tH (k:=k) bx6;rw[hxl] at q1_ hput;cases q1_;cases q2_;have hxu:(xs.getD k default).u=(cs.getD k default).u:=by rw[Lc hE k,Lc e1 k]
  have aN4:=aV (k:=17) (n:=2) hr rfl;generalize cs.getD k default=c at aN4 hen hiv hfc hxu;refine run ?_;refine zY 13 [0,1,2,3,4,5,6,7,8,9,10,11] [12] [] [13,14] [15] ?_;refine gI ?_;refine ku (R:=fun r hn=>∃ v1 h1 v2 h2,r=.agg #[v1,v2]∧Own 80 14 v1 h1 (c.t.es.map iw)∧Own 127 4 v2 h2 (c.t.ds.map kZ)∧aJ (h1++h2) hn) (fun wc hG=>GK c.t.es c.t.ds _ _ (hen.good hG) (hiv.good hG) (bT6 hfc.1 bx7) (bT6 hfc.2.1 bx7)) (YH _ _ hfc.1 hfc.2.1) ?_;refine kL ?_;rintro u hn ⟨v5,h5,v6,h6,rfl,a5,a6,hle⟩;obtain⟨q5,c5,e5⟩:=a5.opened;obtain⟨q6,c6,e6⟩:=a6.opened;rw[bE9] at e5 e6;subst e5 e6;refine jJ ?_;refine YE hlt (bH5 (k*19)) ?_;refine IU ?_;refine jJ ?_;simp only[DN,bF2,bF5,bG3];have hnew:=hput 17 [.slice q5 c.t.es.length c5,.slice q6 c.t.ds.length c6] { xs.getD k default with t:=⟨c.t.es,c.t.ds,q5,c5,q6,c6⟩ } bx8 rfl ⟨rfl,rfl⟩;refine BN (v:=.agg #[.slice q5 c.t.es.length c5,.slice q6 c.t.ds.length c6]) aB (b:=g2) (cs:=cu) (cs':=putAt cu (k*19+17) [.slice q5 c.t.es.length c5,.slice q6 c.t.ds.length c6]) (tb:=74) (off:=k*19+17) (vs:=[.slice q5 c.t.es.length c5,.slice q6 c.t.ds.length c6]) (hp':=⟨X,#[.slice y1 H.ws.length d1,.slice (some ⟨g2,0,none⟩) cs.length d2,.slice (some ⟨g3,0,none⟩) vs.length d3,.slice y4 H.rs.length d4,.slice pp n1 k1,.slice gp n2 k2,.slice Y8 n3 k3],90⟩::(hn++(⟨Hb,#[.slice q H.ws.length cap,.slice (some ⟨b2,o2_,none⟩) cs.length cap2,.slice q3 vs.length cap3,.slice q4 H.rs.length cap4],29⟩::⟨g3,uY,62⟩::(ht++(h1++h4))))) rfl rfl rfl rfl rfl rfl aU rfl (by show k*19+17+2≤_;omega) rfl ak ?_;refine di ?_;refine kN ?_;refine run ?_;refine aF ⟨k+1,xs.set k { xs.getD k default with t:=⟨c.t.es,c.t.ds,q5,c5,q6,c6⟩ },putAt cu (k*19+17) [.slice q5 c.t.es.length c5,.slice q6 c.t.ds.length c6],(h5++h6)++ht⟩ ⟨hlt,by dsimp only;rw[bL5];exact hxl,hnew,?_,?_⟩ (hm:=by dsimp only;omega) (h2:=by (exact cnt1 hle))
  ·dsimp only;rw[xe bx6,bG5];exact hT.snoc (y:=⟨c.t.es,c.t.ds,q5,c5,q6,c6⟩) ⟨h5,h6,a5,a6,⟨hfc.1,hfc.2.1⟩,aJ.refl _⟩
  ·dsimp only;have hxk:k<xs.length:=by omega
   have e9:jH.u { xs.getD k default with t:=⟨c.t.es,c.t.ds,q5,c5,q6,c6⟩ }=(xs.getD k default).u:=by
    rw[hxu];have h9:=congrArg Nr.r hxu;have h10:=congrArg Nr.vm hxu;have h11:=congrArg Nr.vc hxu;simp only[jH.u] at h9 h10 h11 ⊢;rw[h9,h10,h11]
   rw[bN6,e9,←hE];refine J7 ?_;rw[bH4,bE',bF0 hxk];rfl
 ·have hge:k=cs.length:=by simp at hc;omega
  subst hge;rw[←hxl,bK4] at hT;refine run ?_;refine aK (σ:=CvS) (fun s=>[(58,.int .i64 (s.k:Int))]) (fun s=>⟨X,#[.slice y1 H.ws.length d1,.slice (some ⟨g2,0,none⟩) cs.length d2,.slice (some ⟨g3,0,none⟩) vs.length d3,.slice y4 H.rs.length d4,.slice pp n1 k1,.slice gp n2 k2,.slice Y8 n3 k3],90⟩::⟨g2,cu,74⟩::⟨g3,s.cur,62⟩::(s.h++(ht++(h1++h4)))) (fun s=>s.k≤vs.length∧s.xs.length=vs.length∧Own 62 6 (.slice (some ⟨g3,0,none⟩) vs.length d3) [⟨g3,s.cur,62⟩] (s.xs.map mQ)∧fP TF (s.xs.take s.k) s.h∧s.xs.map fA.u=H.vs∧s.xs.drop s.k=vs.drop s.k) (fun s=>vs.length-s.k) ⟨0,vs,uY,[]⟩ ⟨bF4 _,rfl,o3,trivial,e2,rfl⟩ ?_;rintro⟨k,ys,Rn,hz⟩ m2 hm2 ⟨hk2,hyl,hV,hZ,hEv,hdr⟩;dsimp only at hm2 hk2 hyl hV hZ hEv hdr ⊢;refine run ?_;refine ah _ rfl (fun hc2=>?_) (fun hc2=>?_)
  ·have hlt:k<vs.length:=by simpa using hc2
   have hfv:=hfit.v (H.vs.getD k default) (getD_mem bx6);rw[←rG e2 k] at hfv;have hf1:=hH.vs.fs _ (getD_mem (l:=vs) hlt);have hf2:=hH.vs.fr _ (getD_mem (l:=vs) hlt);have hf3:=hH.vs.vs _ (getD_mem (l:=vs) hlt);obtain⟨g',cap',cur',q1_,q2_,hsz,mg,hput⟩:=hV.tH (k:=k) bx6;rw[hyl] at q1_ hput;cases q1_;cases q2_;have hyk:=UE hdr;rw[hyk] at mg hput;generalize hmv:vs.getD k default=mv at hf1 hf2 hf3 hfv mg hput hyk;obtain⟨qf,cf,ef,_,_⟩:=hf1.opened;obtain⟨qr,cr,er,_,_⟩:=hf2.opened;obtain⟨qv,cvv,ev,_,_⟩:=hf3.opened;have nn3:=mg 3 _ rfl;have nn4:=mg 4 _ rfl;have nn5:=mg 5 _ rfl;rw[ef] at nn3;rw[er] at nn4;rw[ev] at nn5;refine run ?_;refine DX 27 20 [0,1,2,3,4,5,6,8,9,10,11,13,14,15,16,18,19,21,22,24,25] [7,12,17] [20,23,26] [] ?_;refine jV ?_;refine ku (R:=fun u hn=>Own 3 1 u hn (mv.fs.map bY)) (fun wc hG=>qG (.slice qf mv.fs.length cf) _ (by rw[←ef];exact hf1.good hG) (ES _) (by rw[bE9];have:=hfv.1;show mv.fs.length<_;exact bT6 this bx7)) (dW (ES _) (by rw[bE9];exact Nat.le_of_lt (bT6 hfv.1 bx7))) ?_;refine ku (R:=fun u hn=>Own 3 1 u hn (mv.fr.map bY)) (fun wc hG=>qG (.slice qr mv.fr.length cr) _ (by rw[←er];exact hf2.good hG) (ES _) (by rw[bE9];exact bT6 hfv.2.1 bx7)) (dW (ES _) (by rw[bE9];exact Nat.le_of_lt (bT6 hfv.2.1 bx7))) ?_;refine ku (R:=fun u hn=>Own 102 16 u hn (mv.vs.map zF)) (fun wc hG=>Jb (.slice qv mv.vs.length cvv) _ (by rw[←ev];exact hf3.good hG) (YI _) (by rw[bE9];exact bT6 hfv.2.2.1 bx7)) (dW (YI _) (by rw[bE9];exact Nat.le_of_lt (bT6 hfv.2.2.1 bx7))) ?_;refine kL ?_;intro w7 a7 b7 w8 a8 b8 w9 a9 b9;obtain⟨q7,c7,e7⟩:=b9.opened;obtain⟨q8,c8,e8⟩:=b8.opened;obtain⟨q9,c9,e9⟩:=b7.opened;rw[bE9] at e7 e8 e9;subst e7 e8 e9;simp only[DN,bF2,bF5,bG3];refine BN (v:=.slice q7 mv.fs.length c7) aB (b:=g3) (cs:=Rn) (cs':=putAt Rn (k*6+3) [.slice q7 mv.fs.length c7]) (tb:=62) (off:=k*6+3) (vs:=[.slice q7 mv.fs.length c7]) (hp':=⟨X,#[.slice y1 H.ws.length d1,.slice (some ⟨g2,0,none⟩) cs.length d2,.slice (some ⟨g3,0,none⟩) vs.length d3,.slice y4 H.rs.length d4,.slice pp n1 k1,.slice gp n2 k2,.slice Y8 n3 k3],90⟩::(a7++(a8++a9)++(⟨g2,cu,74⟩::(hz++(ht++(h1++h4)))))) rfl rfl rfl rfl rfl rfl aU rfl bC4 rfl ak ?_;refine BN (v:=.slice q8 mv.fr.length c8) aB (b:=g3) (cs:=putAt Rn (k*6+3) [.slice q7 mv.fs.length c7]) (cs':=putAt (putAt Rn (k*6+3) [.slice q7 mv.fs.length c7]) (k*6+4) [.slice q8 mv.fr.length c8]) (tb:=62) (off:=k*6+4) (vs:=[.slice q8 mv.fr.length c8]) (hp':=⟨X,#[.slice y1 H.ws.length d1,.slice (some ⟨g2,0,none⟩) cs.length d2,.slice (some ⟨g3,0,none⟩) vs.length d3,.slice y4 H.rs.length d4,.slice pp n1 k1,.slice gp n2 k2,.slice Y8 n3 k3],90⟩::(a7++(a8++a9)++(⟨g2,cu,74⟩::(hz++(ht++(h1++h4)))))) rfl rfl rfl rfl rfl rfl aU rfl bC4 rfl ak ?_;refine BN (v:=.slice q9 mv.vs.length c9) aB (b:=g3) (cs:=putAt (putAt Rn (k*6+3) [.slice q7 mv.fs.length c7]) (k*6+4) [.slice q8 mv.fr.length c8]) (cs':=putAt (putAt (putAt Rn (k*6+3) [.slice q7 mv.fs.length c7]) (k*6+4) [.slice q8 mv.fr.length c8]) (k*6+5) [.slice q9 mv.vs.length c9]) (tb:=62) (off:=k*6+5) (vs:=[.slice q9 mv.vs.length c9]) (hp':=⟨X,#[.slice y1 H.ws.length d1,.slice (some ⟨g2,0,none⟩) cs.length d2,.slice (some ⟨g3,0,none⟩) vs.length d3,.slice y4 H.rs.length d4,.slice pp n1 k1,.slice gp n2 k2,.slice Y8 n3 k3],90⟩::(a7++(a8++a9)++(⟨g2,cu,74⟩::(hz++(ht++(h1++h4)))))) rfl rfl rfl rfl rfl rfl aU rfl bC4 rfl ak ?_;refine di ?_;refine kN ?_;have hnew:=hput 3 [.slice q7 mv.fs.length c7,.slice q8 mv.fr.length c8,.slice q9 mv.vs.length c9] { mv with fp:=q7,fc:=c7,rp:=q8,rc:=c8,vp:=q9,vk:=c9 } bx8 rfl ⟨rfl,rfl⟩;refine run ?_;refine aF ⟨k+1,ys.set k { mv with fp:=q7,fc:=c7,rp:=q8,rc:=c8,vp:=q9,vk:=c9 },putAt (putAt (putAt Rn (k*6+3) [.slice q7 mv.fs.length c7]) (k*6+4) [.slice q8 mv.fr.length c8]) (k*6+5) [.slice q9 mv.vs.length c9],(a9++(a8++a7))++hz⟩ ⟨hlt,by dsimp only;rw[bL5];exact hyl,hnew,?_,?_,?_⟩ (hm:=by dsimp only;omega) (h2:=by (exact ak))
   ·dsimp only;rw[xe bx6];exact hZ.snoc ⟨a9,a8,a7,b9,b8,b7,⟨hfv.1,hfv.2.1,hfv.2.2.1⟩,aJ.refl _⟩
   ·dsimp only;have UG:k<ys.length:=by omega
    rw[bN6,←hEv];refine J7 ?_;rw[bH4,bF0 UG];rw[bE',bF0 UG] at hyk;rw[show ys[k]=mv from hyk];rfl
   ·dsimp only;rw[List.drop_set_of_lt (bV' k)];have:=congrArg (List.drop 1) hdr;rwa [bN4,bN4] at this
  ·have hge:k=vs.length:=by simp at hc2;omega
   subst hge;rw[←hyl,bK4] at hZ;refine run ?_;exact fin1 ⟨X,⟨.slice y1 H.ws.length d1,.slice (some ⟨g2,0,none⟩) cs.length d2,.slice (some ⟨g3,0,none⟩) vs.length d3,.slice y4 H.rs.length d4,xs,ys,h1,[⟨g2,cu,74⟩],ht,[⟨g3,Rn,62⟩],hz,h4⟩,rfl,⟨hH.CS,o1,hU,hT,hV,hZ,o4,hE,hEv⟩,by simp only[HL.hp,HL.rest];(exact ak)⟩
end
section
attribute [local irreducible] Hy St Ops DH dI jr iP gX DS iD lV
section
variable {L : HL} {H : HyD} {cpu : Nat} {c : xR} {X : Nat} {pv gv ov : Value} {w : World} {p7 p8 p9 : Option Addr} {n7 n8 n9 k7 k8 k9 : Nat}
theorem MP(h:Bl L H)(hW:H.lI)(qo:cpu<H.cs.length)(hk:c.kind=5)(hf:16≤c.frame∧c.frame+5≤((H.ws.length/8:Nat):Int)){P2:PtD}(hPn:P.Len)(ah6:P2.Len)
  (hP:∀ w' hp,Good w ((L.hp X [pv,gv,ov] 90).map (·.b)) hp w'→dN w' pv gv ov P) (hPo:∀ b o n k,gv=.slice (some ⟨b,o,none⟩) n k→b∉(L.hp X [pv,gv,ov] 90).map (·.b)) (hP2:∀ w' hp,Good w ((L.hp X [pv,gv,ov] 90).map (·.b)) hp w'→dN w' (.slice p7 n7 k7) (.slice p8 n8 k8) (.slice p9 n9 k9) P2) (UD:∀ b o n k,Value.slice p8 n8 k8=.slice (some ⟨b,o,none⟩) n k→b∉(L.hp X [pv,gv,ov] 90).map (·.b)) (hN:eX (L.hp X [pv,gv,ov] 90) w):
  Fn Tryz.prog 35 [.pointer (some ⟨X,0,none⟩),.int .i64 (cpu:Int),uo c,.agg #[.slice p7 n7 k7,.slice p8 n8 k8,.slice p9 n9 k9]].toArray w ((L.hp X [pv,gv,ov] 90).map (·.b)) (HR X [pv,gv,ov] 90 (H.wJ c.frame (HyD.Uy P P2))):=by
 obtain⟨K_,n_,rW,lC,xN,qy⟩:=c;dsimp only at hk;subst hk;obtain⟨wv,cv,vv,rv,cs,vs,hw,hc,ht,hvv,hz,hr⟩:=L;have h':=h;obtain⟨Ri,gw,MQ,gt,Fg,gz,gr,ec,ev⟩:=h;dsimp only at gw MQ gt Fg gz gr ec ev;have ecl:cs.length=H.cs.length:=bD8;obtain⟨gc,cc,wO,rfl,rfl,csz,ET,PN⟩:=MQ.tH (k:=cpu) bx6;generalize aA3:cs.getD cpu default=cp at ET PN;have aA4:=ET 15 _ rfl;have aA5:cpu<cs.length:=bx6;have hc3:=hW.c3;refine eP _ hN Tryz.func35 ?_;simp only[HL.hp,HL.rest] at hN ⊢;refine tZ (⟨X,#[wv,.slice (some ⟨gc,0,none⟩) cs.length cc,vv,rv,pv,gv,ov],90⟩::⟨gc,wO,74⟩::(hw++(ht++(hvv++(hz++hr))))) ak ?_;refine run ?_;intro Cb Ib;refine aP ?_;refine je ((⟨wv,.slice (some ⟨gc,0,none⟩) cs.length cc,vv,rv,cs,vs,hw,[⟨gc,wO,74⟩],ht,hvv,hz,hr⟩:HL).hp X [pv,gv,ov] 90) [⟨Ib,#[.slice p7 n7 k7,.slice p8 n8 k8,.slice p9 n9 k9],48⟩,⟨Cb,#[.int .i64 5,.int .i64 n_,.int .i64 rW,.int .i64 lC,.int .i64 xN,.int .i64 qy],37⟩] (fun wc hG=>UC _ H h' hW ⟨5,n_,rW,lC,xN,qy⟩ hf hG.iY (hP wc _ hG) hPn hPo (hP2 wc _ hG) ah6 UD) (fun v hn hR=>?_) (by simp only[HL.hp,HL.rest];(exact aU));obtain⟨rfl,L2,h2,hle⟩:=hR;refine run ?_;exact fin0 ⟨rfl,L2,h2,QL hle ak⟩
theorem MR(h:Bl L H)(hW:H.lI)(qo:cpu<H.cs.length)(hk:c.kind=3)(hvm:1≤c.vm∧c.vm≤4)(hf:0≤c.frame∧c.frame<64)(hfs:0<(H.vu (c.vm-1).toNat).fs.length)(hN:eX (L.hp X [pv,gv,ov] 90) w):
  Fn Tryz.prog 35 [.pointer (some ⟨X,0,none⟩),.int .i64 (cpu:Int),uo c,.agg #[.slice p7 n7 k7,.slice p8 n8 k8,.slice p9 n9 k9]].toArray w ((L.hp X [pv,gv,ov] 90).map (·.b)) (HR X [pv,gv,ov] 90 (H.zx c.vm c.frame c.mid)):=by
 obtain⟨K_,n_,rW,lC,xN,qy⟩:=c;dsimp only at hk;subst hk;obtain⟨wv,cv,vv,rv,cs,vs,hw,hc,ht,hvv,hz,hr⟩:=L;have h':=h;obtain⟨Ri,gw,MQ,gt,Fg,gz,gr,ec,ev⟩:=h;dsimp only at gw MQ gt Fg gz gr ec ev;have ecl:cs.length=H.cs.length:=bD8;obtain⟨gc,cc,wO,rfl,rfl,csz,ET,PN⟩:=MQ.tH (k:=cpu) bx6;generalize aA3:cs.getD cpu default=cp at ET PN;have aA4:=ET 15 _ rfl;have aA5:cpu<cs.length:=bx6;have hc3:=hW.c3;dsimp only at hvm hf hfs ⊢;refine eP _ hN Tryz.func35 ?_;simp only[HL.hp,HL.rest] at hN ⊢;refine tZ (⟨X,#[wv,.slice (some ⟨gc,0,none⟩) cs.length cc,vv,rv,pv,gv,ov],90⟩::⟨gc,wO,74⟩::(hw++(ht++(hvv++(hz++hr))))) ak ?_;refine run ?_;intro Cb Ib;refine aP ?_;refine drawM 7 [0,1,2,4,5] [3,6] [] ?_;refine gI ?_;refine ku (R:=fun u hn=>∃ C,u=.func (.func 163) [].toArray [.pointer (some ⟨C,0,none⟩)].toArray∧aJ [⟨C,#[.int .i64 n_],3⟩] hn) (fun wc hG=>MN n_ wc) ⟨_,_,0,rfl,aJ.refl _⟩ ?_;refine Q7 ?_;refine kL ?_;rintro _ _ ⟨Z,rfl,rfl⟩ _ hnC ⟨C,rfl,az7⟩;refine jJ ?_;refine qZ ?_;simp only[bF2,bF5];refine aS (⟨Z,#[.int .i64 rW],3⟩::⟨C,#[.int .i64 n_],3⟩::⟨Ib,#[.slice p7 n7 k7,.slice p8 n8 k8,.slice p9 n9 k9],48⟩::⟨Cb,#[.int .i64 3,.int .i64 n_,.int .i64 rW,.int .i64 lC,.int .i64 xN,.int .i64 qy],37⟩::⟨X,#[wv,.slice (some ⟨gc,0,none⟩) cs.length cc,vv,rv,pv,gv,ov],90⟩::⟨gc,wO,74⟩::(hw++(ht++(hvv++(hz++hr))))) (cnt1 az7) ?_;refine je ((⟨wv,.slice (some ⟨gc,0,none⟩) cs.length cc,vv,rv,cs,vs,hw,[⟨gc,wO,74⟩],ht,hvv,hz,hr⟩:HL).hp X [pv,gv,ov] 90) (⟨Z,#[.int .i64 rW],3⟩::⟨C,#[.int .i64 n_],3⟩::⟨Ib,#[.slice p7 n7 k7,.slice p8 n8 k8,.slice p9 n9 k9],48⟩::[⟨Cb,#[.int .i64 3,.int .i64 n_,.int .i64 rW,.int .i64 lC,.int .i64 xN,.int .i64 qy],37⟩]) (fun wc hG=>Rj _ H h' hW (F:=163) (us:=[.pointer (some ⟨C,0,none⟩)]) (fun _=>jK (1+n_)) [rW] (fun f hf'=>by rw[bJ4.1 hf'];exact hf) (fun _ _=>Gp bx6 bx6) (iH (xs:=[rW].map bY) (hG.here ⟨Z,#[.int .i64 rW],3⟩ bx8) (fun c hc=>(ES _ c hc).1) bx8) (fun b o n k e hm=>?_) (fun f hf' w' hp hg=>?_) hG.iY) (fun v hn2 hR=>?_) (by simp only[HL.hp,HL.rest];(exact aU))
 ·cases e;exact hG.G6 (e:=⟨Z,#[.int .i64 rW],3⟩) bx8 hm
 ·exact G9 C n_ f ⟨by omega,by omega⟩ w' ((hG.lG hg).cell1 (t:=3) bx8)
 obtain⟨rfl,L2,h2,hle2⟩:=hR;refine aS (⟨Ib,#[.slice p7 n7 k7,.slice p8 n8 k8,.slice p9 n9 k9],48⟩::⟨Cb,#[.int .i64 3,.int .i64 n_,.int .i64 rW,.int .i64 lC,.int .i64 xN,.int .i64 qy],37⟩::(L2.hp X [pv,gv,ov] 90)) (cnt1 hle2) ?_;refine run ?_;refine drawM 8 [0,1,2,3,4,5,6,7] [] [] ?_;refine gI ?_;refine D9 (fun wc hx9 hG=>az6 rW wc) ?_;refine gI ?_;refine kL ?_;refine jJ ?_;refine qZ ?_;simp only[bF2,bF5];have hW2:(H.hst rW.toNat (jK (1+n_))).lI:=hW.hst _;refine je (L2.hp X [pv,gv,ov] 90) (⟨Ib,#[.slice p7 n7 k7,.slice p8 n8 k8,.slice p9 n9 k9],48⟩::[⟨Cb,#[.int .i64 3,.int .i64 n_,.int .i64 rW,.int .i64 lC,.int .i64 xN,.int .i64 qy],37⟩]) (fun wc hG=>UB L2 _ h2 hW2 n_ hvm hfs lC (aZ rW 0) hG.iY) (fun v hn3 hR=>?_) aU;obtain⟨rfl,L3,h3,hle3⟩:=hR;refine run ?_;exact fin0 ⟨rfl,L3,h3,QL hle3 ak⟩
theorem UH(h:Bl L H)(hW:H.lI)(qo:cpu<H.cs.length)(hk:c.kind=7)(hvm:1≤c.vm∧c.vm≤4)(hv1:(H.vu (c.vm-1).toNat).vs.length<10000)(hN:eX (L.hp X [pv,gv,ov] 90) w):
  Fn Tryz.prog 35 [.pointer (some ⟨X,0,none⟩),.int .i64 (cpu:Int),uo c,.agg #[.slice p7 n7 k7,.slice p8 n8 k8,.slice p9 n9 k9]].toArray w ((L.hp X [pv,gv,ov] 90).map (·.b)) (HR X [pv,gv,ov] 90 (H.BF c.vm)):=by
 obtain⟨K_,n_,rW,lC,xN,qy⟩:=c;dsimp only at hk;subst hk;obtain⟨wv,cv,vv,rv,cs,vs,hw,hc,ht,hvv,hz,hr⟩:=L;have h':=h;obtain⟨Ri,gw,MQ,gt,Fg,gz,gr,ec,ev⟩:=h;dsimp only at gw MQ gt Fg gz gr ec ev;have ecl:cs.length=H.cs.length:=bD8;obtain⟨gc,cc,wO,rfl,rfl,csz,ET,PN⟩:=MQ.tH (k:=cpu) bx6;generalize aA3:cs.getD cpu default=cp at ET PN;have aA4:=ET 15 _ rfl;have aA5:cpu<cs.length:=bx6;have hc3:=hW.c3;dsimp only at hvm hv1 ⊢;have evl:vs.length=4:=by rw[←hW.v,←ev,bE9]
 obtain⟨i,hi⟩:∃ i,i=(n_-1).toNat:=⟨_,rfl⟩
 have hi4:i<vs.length:=by omega
 have hu:=rG ev i;rw[show H.vs.getD i default=H.vu i from rfl] at hu;obtain⟨g,cap,cur,rfl,rfl,hsz,mg,hput⟩:=Fg.tH hi4;obtain⟨za,zb,⟨z1,z2,z3,o1,o2,o3,zl,hza⟩,hzz,wZ⟩:=gz.out hi4;rw[←hi,←hu] at hv1;generalize aZ5:vs.getD i default=vm at hu mg hput o1 o2 o3 zl wZ hv1;simp only[fA.u] at hv1;obtain⟨qv,cvv,ev3,aA7⟩:=o3.oL;rw[bE9] at ev3 aA7;have nv5:=mg 5 _ rfl;rw[ev3] at nv5;have o3':=o3;rw[ev3] at o3';refine eP _ hN Tryz.func35 ?_;simp only[HL.hp,HL.rest] at hN ⊢;refine tZ (⟨X,#[wv,.slice (some ⟨gc,0,none⟩) cs.length cc,.slice (some ⟨g,0,none⟩) vs.length cap,rv,pv,gv,ov],90⟩::⟨gc,wO,74⟩::⟨g,cur,62⟩::(z3++(z1++(z2++(zb++(hw++(ht++hr))))))) bz' ?_;refine run ?_;intro Cb Ib;refine aP ?_;refine qP 17 13 [0,1,2,3,4,5,6,7,8,9,10,11,14,15] [(12,false),(13,false),(16,false)] [⟨X,#[wv,.slice (some ⟨gc,0,none⟩) cs.length cc,.slice (some ⟨g,0,none⟩) vs.length cap,rv,pv,gv,ov],90⟩,⟨Cb,#[.int .i64 7,.int .i64 n_,.int .i64 rW,.int .i64 lC,.int .i64 xN,.int .i64 qy],37⟩] ?_;refine jV ?_;refine as6 (fun wc hx9 hG=>YB (m:=vs.length) (AV (tl:=[pv,gv,ov]) (hG.here ⟨X,#[wv,.slice (some ⟨gc,0,none⟩) cs.length cc,.slice (some ⟨g,0,none⟩) vs.length cap,rv,pv,gv,ov],90⟩ bx8)) n_ bx6 bx6) ?_;rw[←hi];refine jV ?_;refine zW (fun wc hx9 hG=>YB (m:=vs.length) (AV (tl:=[pv,gv,ov]) (hG.here ⟨X,#[wv,.slice (some ⟨gc,0,none⟩) cs.length cc,.slice (some ⟨g,0,none⟩) vs.length cap,rv,pv,gv,ov],90⟩ bx8)) n_ bx6 bx6) ?_;rw[←hi];refine jV ?_;refine xC ?_;refine uQ [.int .u64 0,.int .u64 0,.int .u64 0,.int .u64 0,.int .u64 0,.int .u64 0,.int .u64 0,.int .u64 0,.int .u64 0,.int .u64 0,.int .u64 0,.int .u64 0,.int .u64 0,.int .u64 0,.int .u64 0,.int .i64 (-1)] (fun Z=>?_);refine di ?_;refine an9 (c:=[.int .u64 0,.int .u64 0,.int .u64 0,.int .u64 0,.int .u64 0,.int .u64 0,.int .u64 0,.int .u64 0,.int .u64 0,.int .u64 0,.int .u64 0,.int .u64 0,.int .u64 0,.int .u64 0,.int .u64 0,.int .i64 (-1)]) (hp':=⟨Z,([.int .u64 0,.int .u64 0,.int .u64 0,.int .u64 0,.int .u64 0,.int .u64 0,.int .u64 0,.int .u64 0,.int .u64 0,.int .u64 0,.int .u64 0,.int .u64 0,.int .u64 0,.int .u64 0,.int .u64 0,.int .i64 (-1)]:List Value).toArray,102⟩::⟨Ib,#[.slice p7 n7 k7,.slice p8 n8 k8,.slice p9 n9 k9],48⟩::⟨Cb,#[.int .i64 7,.int .i64 n_,.int .i64 rW,.int .i64 lC,.int .i64 xN,.int .i64 qy],37⟩::⟨X,#[wv,.slice (some ⟨gc,0,none⟩) cs.length cc,.slice (some ⟨g,0,none⟩) vs.length cap,rv,pv,gv,ov],90⟩::⟨gc,wO,74⟩::⟨g,cur,62⟩::(z1++(z2++(zb++(hw++(ht++hr)))))) o3' (aX (m:=16) mh rfl) bx9 aU ak (fun v' ha' hA2=>?_)
 have hA3:Own 102 16 v' ha' ((vm.vs++([⟨jy,-1⟩]:List ve)).map zF):=by
  rw[bG5];exact hA2.own
 obtain⟨q9,c9,e9⟩:=hA3.opened;rw[bE9,bG9,bM4] at e9;subst e9;have hnew:=hput 5 [(.slice q9 (vm.vs.length+1) c9)] { vm with vs:=vm.vs++([⟨jy,-1⟩]:List ve),vp:=q9,vk:=c9 } bx8 bC5 ⟨rfl,rfl⟩;refine xC ?_;refine BN (v:=(.slice q9 (vm.vs.length+1) c9)) aB (b:=g) (cs:=cur) (cs':=putAt cur (i*6+5) [(.slice q9 (vm.vs.length+1) c9)]) (tb:=62) (off:=i*6+5) (vs:=[(.slice q9 (vm.vs.length+1) c9)]) (hp':=ha'++(⟨Z,([.int .u64 0,.int .u64 0,.int .u64 0,.int .u64 0,.int .u64 0,.int .u64 0,.int .u64 0,.int .u64 0,.int .u64 0,.int .u64 0,.int .u64 0,.int .u64 0,.int .u64 0,.int .u64 0,.int .u64 0,.int .i64 (-1)]:List Value).toArray,102⟩::⟨Ib,#[.slice p7 n7 k7,.slice p8 n8 k8,.slice p9 n9 k9],48⟩::⟨Cb,#[.int .i64 7,.int .i64 n_,.int .i64 rW,.int .i64 lC,.int .i64 xN,.int .i64 qy],37⟩::⟨X,#[wv,.slice (some ⟨gc,0,none⟩) cs.length cc,.slice (some ⟨g,0,none⟩) vs.length cap,rv,pv,gv,ov],90⟩::⟨gc,wO,74⟩::(z1++(z2++(zb++(hw++(ht++hr))))))) rfl rfl rfl rfl rfl rfl aU rfl (by show i*6+5+1≤_;omega) rfl ak ?_;refine di ?_;refine Eg ?_;refine kN ?_;refine run ?_
 have hmore:H.BF n_=⟨H.ws,H.cs,H.vs.set i ⟨vm.live,vm.dying,vm.aO,vm.fs,vm.fr,vm.vs++([⟨jy,-1⟩]:List ve)⟩,H.rs⟩:=by
  unfold HyD.BF HyD.PG;rw[←hi,←hu];rfl
 rw[hmore];refine fin0 ⟨rfl,⟨wv,.slice (some ⟨gc,0,none⟩) cs.length cc,.slice (some ⟨g,0,none⟩) vs.length cap,rv,cs,vs.set i { vm with vs:=vm.vs++([⟨jy,-1⟩]:List ve),vp:=q9,vk:=c9 },hw,[⟨gc,wO,74⟩],ht,[⟨g,_,62⟩],(z1++(z2++ha'))++zb,hr⟩,⟨Ri,gw,MQ,gt,hnew,wZ _ _ ⟨z1,z2,ha',o1,o2,?_,⟨zl.1,zl.2.1,?_⟩,aJ.refl _⟩,gr,ec,?_⟩,?_⟩
 ·simp only[fA.vv,bG9,bM4];exact hA3
 ·rw[bG9,bM4];omega
 ·dsimp only;rw[bN6,ev];rfl
 ·simp only[HL.hp,HL.rest]
  (exact ak)
end
end
section
attribute [local irreducible] Hy St Ops DH dI
theorem BG{ha:Hp}(xs:List Int)(hA:Own 3 1 v ha (xs.map bY))(hN:eX ha w)(hl:xs.length<100000):Fn Tryz.prog 185 [v].toArray w (ha.map (·.b)) (fun u hn=>u=.tuple #[]):=by
 obtain⟨q,cap,ev⟩:=hA.opened;rw[bE9] at ev;subst ev;refine eP _ hN Tryz.func185 ?_;refine run ?_;refine aK (σ:=Nat×Hp×List Int) (fun s=>[(2,.int .i64 (s.1:Int))]) (fun s=>s.2.1) (fun s=>s.1≤xs.length∧s.2.2.length=xs.length∧Own 3 1 (.slice q xs.length cap) s.2.1 (s.2.2.map bY)) (fun s=>xs.length-s.1) (0,ha,xs) ⟨bF4 _,rfl,hA⟩ ?_;rintro⟨k,h,ys⟩ m hm ⟨hk,hyl,hO⟩;dsimp only at hm hk hyl hO ⊢;refine run ?_;refine ah _ rfl (fun hc=>?_) (fun hc=>?_)
 ·have hlt:k<xs.length:=by simp at hc;omega
  obtain⟨g,cap',cur,eg,rfl,hn,hsz,hset⟩:=hO.aG5 (k:=k) bx6;rw[hyl] at eg;cases eg;refine run ?_;exact aF (k+1,[⟨g,cur.setIfInBounds k (.int .i64 (-99)),3⟩],ys.set k (-99)) (hm:=by dsimp only;omega) ⟨hlt,by rw[bL5];exact hyl,hset _⟩ (h2:=by (exact ak))
 ·refine run ?_;intro T;refine qC (c:=bY 5) [⟨T,#[.int .i64 5],3⟩] hO (fun v' ha' hA'=>?_) bx9 (aX (m:=1) mh rfl) aU;refine run ?_;exact fin0 rfl
section
variable {P : PtD} {Y : Lay} {w : World}
end
end
section
attribute [local irreducible] Hy St Ops DH dI
namespace PtD
def He(r:Except Int PtD):Prop:=∀ e,r=.error e→e≠0
theorem aA8{e:Int}(h:e≠0):He (.error e):=fun _ h2=>by cases h2;exact h
theorem ah7{b:Bool}{x y:Except Int PtD}(h1:He x)(h2:He y):He (bif b then x else y):=by cases b<;>assumption
theorem aN6{Q:PtD}:He (.ok Q):=fun _ h=>by cases h
theorem xO(P:PtD)(cpu:Nat)(c:xR):He (P.BR cpu c):=by
 unfold BR EM xK Yt MH oV MG qK MI moreL aM1 Yo BC
 repeat' first
  | exact aA8 bx7
  | exact aN6
  | refine ah7 ?_ ?_
end PtD
def PK(K:Int):Prop:=∀ (P:PtD) (w:World) (pv gv ov:Value),dN w pv gv ov P→P.Small 1000→∀ cpu:Nat,cpu<P.on.length→∀ c:xR,c.Wf→c.kind=K →
  Fn Tryz.prog 33 [.agg #[pv,gv,ov],.int .i64 (cpu:Int),uo c].toArray w [] (DoR (bif P.may then P.BR cpu c else .error 1))
theorem aZ7:PK 3:=by
 intro P w pv gv ov h hs cpu hc c hw hk;obtain⟨K,vm,fr,mid,vc,cc⟩:=c;dsimp only at hk;subst hk;refine EH h hs cpu hc _ _ (PtD.xO P cpu _) (fun hm hv Y bx w hO hN=>?_) (fun hm hv Y bx w hO hN=>?_)
 ·rw[PtD.BR,show decide ((P.st cpu).vm=0)=true by simp[hv],cond_true,PtD.EM];exact AQ hO hm hN cpu vm fr mid vc cc hw
 ·rw[PtD.BR,show decide ((P.st cpu).vm=0)=false by simp[hv],cond_false,PtD.xK];exact qh hO hN 3 vm fr mid vc cc cpu hc bx7 bx7 bx7
theorem aZ8:PK 5:=by
 intro P w pv gv ov h hs cpu hc c hw hk;obtain⟨K,vm,fr,mid,vc,cc⟩:=c;dsimp only at hk;subst hk;refine EH h hs cpu hc _ _ (PtD.xO P cpu _) (fun hm hv Y bx w hO hN=>?_) (fun hm hv Y bx w hO hN=>?_)
 ·rw[PtD.BR,show decide ((P.st cpu).vm=0)=true by simp[hv],cond_true,PtD.EM];exact AU hO hm hN cpu vm fr mid vc cc hw
 ·rw[PtD.BR,show decide ((P.st cpu).vm=0)=false by simp[hv],cond_false,PtD.xK];exact qh hO hN 5 vm fr mid vc cc cpu hc bx7 bx7 bx7
theorem aN7:PK 7:=by
 intro P w pv gv ov h hs cpu hc c hw hk;obtain⟨K,vm,fr,mid,vc,cc⟩:=c;dsimp only at hk;subst hk;refine EH h hs cpu hc _ _ (PtD.xO P cpu _) (fun hm hv Y bx w hO hN=>?_) (fun hm hv Y bx w hO hN=>?_)
 ·rw[PtD.BR,show decide ((P.st cpu).vm=0)=true by simp[hv],cond_true,PtD.EM];exact EJ hO hN cpu vm fr mid vc cc
 ·rw[PtD.BR,show decide ((P.st cpu).vm=0)=false by simp[hv],cond_false,PtD.xK];exact qh hO hN 7 vm fr mid vc cc cpu hc bx7 bx7 bx7
end
section
attribute [local irreducible] Hy St Ops DH dI jr iP gX DS iD lV
theorem rU{w0 wc:World}{mu:List Nat}{hi rest hn:Hp}(hG:Good w0 mu (hi++rest) wc)(hs:∀ e∈hn,e∈rest){pv gv ov:Value}(hP:∀ w,Here hn w→dN w pv gv ov P)(h0:0<P.ay.length):∀ b o n k,gv=.slice (some ⟨b,o,none⟩) n k→b∉hi.map (·.b):=by
 intro b o n k e hm;subst e;obtain⟨x,hx,rfl⟩:=bF9.1 hm;obtain⟨A,B,rfl⟩:=bT' hx
 have kK:(x::(A++B++rest)).Perm (A++x::B++rest):=by
  rw[←bF2];exact (bP5 (l₁:=A) (l₂:=B)).symm.append_right rest
 have hG2:=hG.perm kK;have hG3:=hG2.row #[];have hH:Here hn (wc.setRow x.b #[]):=fun e he=>hG3.here e (bF8 _ (bF7 _ (hs e he)));obtain⟨_,⟨vv,mv,hg,_⟩,_,_⟩:=hP _ hH;have hr:=(aA.aY8 hg (i:=0) (by rw[bH4,bM0 h0];rfl))
 have hc:=aj hr;rw[cell_of_block (hG3.here _ (bF' ..))] at hc;simp at hc
def Hf(H:HyD)(u:Value)(hn:Hp):Prop:=∃ L:HL,u=.tuple #[.agg #[L.wv,L.cv,L.vv,L.rv],.int .i64 0]∧Bl L H∧aJ L.rest hn
theorem Jt{K:Int}(pk:PK K){w:World}{vv rv:Value}(h:vw w wv cv vv rv H)(hok:H.ok=true)(cpu:Nat)(qo:cpu<H.cs.length)(c:xR)(hk:c.kind=K)(hw:c.Wf){P2:PtD}(hd:H.aG.BR cpu c=.ok P2)(hs:H.aG.Small 1000){H2:HyD}
  (hdo:∀ (L:HL) (X:Nat) (p4 p5 p6 p7 p8 p9:Option Addr) (n4 n5 n6 n7 n8 n9 k4 k5 k6 k7 k8 k9:Nat) (w:World),Bl L H→eX (L.hp X [.slice p4 n4 k4,.slice p5 n5 k5,.slice p6 n6 k6] 90) w →
   (∀ w' hp,Good w ((L.hp X [.slice p4 n4 k4,.slice p5 n5 k5,.slice p6 n6 k6] 90).map (·.b)) hp w'→dN w' (.slice p4 n4 k4) (.slice p5 n5 k5) (.slice p6 n6 k6) H.aG)→(∀ b o n k,Value.slice p5 n5 k5=.slice (some ⟨b,o,none⟩) n k→b∉(L.hp X [.slice p4 n4 k4,.slice p5 n5 k5,.slice p6 n6 k6] 90).map (·.b)) →
   (∀ w' hp,Good w ((L.hp X [.slice p4 n4 k4,.slice p5 n5 k5,.slice p6 n6 k6] 90).map (·.b)) hp w'→dN w' (.slice p7 n7 k7) (.slice p8 n8 k8) (.slice p9 n9 k9) P2)→(∀ b o n k,Value.slice p8 n8 k8=.slice (some ⟨b,o,none⟩) n k→b∉(L.hp X [.slice p4 n4 k4,.slice p5 n5 k5,.slice p6 n6 k6] 90).map (·.b)) →
   Fn Tryz.prog 35 [.pointer (some ⟨X,0,none⟩),.int .i64 (cpu:Int),uo c,.agg #[.slice p7 n7 k7,.slice p8 n8 k8,.slice p9 n9 k9]].toArray w ((L.hp X [.slice p4 n4 k4,.slice p5 n5 k5,.slice p6 n6 k6] 90).map (·.b)) (HR X [.slice p4 n4 k4,.slice p5 n5 k5,.slice p6 n6 k6] 90 H2)):
  Fn Tryz.prog 16 [.agg #[wv,cv,vv,rv],.int .i64 (cpu:Int),uo c].toArray w [] (Hf H2):=by
 have h':=h;have hL:vG H:=jm (by simp only[HyD.ok,bE8] at hok;exact hok.1.1.1);have hlook:H.ig=true:=by simp only[HyD.ok,bE8] at hok;exact hok.1.1.1
 have hmay:H.aG.may=true:=by simp only[HyD.ok,bE8] at hok;exact hok.1.1.2.1.1
 have rX:=bP hL.m;have hc1:=hL.c1;have hc3:=hL.c3;have hv4:=hL.v;obtain⟨cs,vs,e1,e2,_,hH⟩:=h.ex;have hcl:cs.length=H.cs.length:=by rw[←e1,bE9]
 obtain⟨q,cap,rfl,hne,_⟩:=hH.ws.opened;obtain⟨q2,cap2,rfl,hne2,_⟩:=hH.cs.rows.opened;obtain⟨q3,cap3,rfl,jF,_⟩:=hH.vs.rows.opened;obtain⟨q4,cap4,rfl,oQ,_⟩:=hH.rs.opened;refine enter Tryz.func16 ?_;refine run ?_;intro Hb Cb Rb;refine run ?_;refine az (fun wc hG=>vJ (h'.good hG)) ?_;rw[hok];refine aP ?_;refine ah _ rfl (fun hc=>absurd hc by6) (fun hc=>?_);refine aP ?_;refine bI (fun wc hG=>Ey (h'.good hG)) ?_;intro u hn hu;unfold zg at hu;rw[hlook] at hu;obtain⟨p4,p5,p6,k4,k5,k6,n4,n5,n6,rfl,hPw⟩:=hu;refine aP ?_;intro Wb;have hon:H.aG.on.length=H.cs.length:=by unfold HyD.aG;dsimp only;rw[bE9]
 refine bI (fun wc hG=>pk _ _ _ _ _ (hPw wc (fun e he=>hG.here e bz8)) hs cpu bD2 c hw hk) ?_;rw[hmay,cond_true,hd];rintro _ hn2 ⟨Y,rfl,hO,hle⟩;refine aS (⟨Wb,#[.slice p4 n4 k4,.slice p5 n5 k5,.slice p6 n6 k6],48⟩::(Y.in++(hn++[⟨Rb,#[.slice none 0 0,.slice none 0 0,.slice none 0 0,.slice none 0 0],29⟩,⟨Cb,#[.int .i64 c.kind,.int .i64 c.vm,.int .i64 c.frame,.int .i64 c.mid,.int .i64 c.kW,.int .i64 c.mM],37⟩,⟨Hb,#[.slice q H.ws.length cap,.slice q2 cs.length cap2,.slice q3 vs.length cap3,.slice q4 H.rs.length cap4],29⟩]))) (cnt1 hle) ?_;refine aP ?_;intro Vb;refine bI (fun wc hG=>UF (h'.good hG) bx6 bx6 bx6 p4 p5 p6 n4 n5 n6 k4 k5 k6) ?_;rintro _ hn3 ⟨X,L,rfl,hL3,hle3⟩;refine aS (⟨Rb,#[.slice none 0 0,.slice none 0 0,.slice none 0 0,.slice none 0 0],29⟩::⟨Vb,#[Y.pv P2,Y.gv P2,Y.ov P2],48⟩::⟨Cb,#[.int .i64 c.kind,.int .i64 c.vm,.int .i64 c.frame,.int .i64 c.mid,.int .i64 c.kW,.int .i64 c.mM],37⟩::(Y.in++(hn++(L.hp X [.slice p4 n4 k4,.slice p5 n5 k5,.slice p6 n6 k6] 90)))) (cnt1 hle3) ?_;refine aP ?_;have hIs:∀ w',Here Y.in w'→dN w' (Y.pv P2) (Y.gv P2) (Y.ov P2) P2:=fun w' hh=>hO.an7 hh;have hg4:H.aG.ay.length=4:=by unfold HyD.aG;simp
 have aZ9:P2.ay.length=4:=hO.n.g4
 refine je (L.hp X [.slice p4 n4 k4,.slice p5 n5 k5,.slice p6 n6 k6] 90) (⟨Rb,#[.slice none 0 0,.slice none 0 0,.slice none 0 0,.slice none 0 0],29⟩::⟨Vb,#[Y.pv P2,Y.gv P2,Y.ov P2],48⟩::⟨Cb,#[.int .i64 c.kind,.int .i64 c.vm,.int .i64 c.frame,.int .i64 c.mid,.int .i64 c.kW,.int .i64 c.mM],37⟩::(Y.in++hn)) (fun wc hG=>hdo L X p4 p5 p6 (some ⟨Y.pb,0,none⟩) (some ⟨Y.gb,0,none⟩) (some ⟨Y.ob,0,none⟩) n4 n5 n6 P2.pages.length P2.ay.length P2.on.length k4 k5 k6 Y.zn Y.AL Y.BQ wc hL3 hG.iY
  (fun w' hp hg=>hPw w' (fun e he=>(hG.lG hg).here e bz8)) (rU hG (fun e he=>by simp[he]) hPw bx6) (fun w' hp hg=>hIs w' (fun e he=>(hG.lG hg).here e bz7)) (rU hG (fun e he=>by simp only[bH1,bG7,he,true_or,or_true]) hIs bx6)) (fun v hn4 hR=>?_) aU
 obtain⟨rfl,L2,h2,Ag⟩:=hR;obtain⟨wv2,Aq,vv2,rv2,cs2,vs2,hw2,hc2,ht2,hv2,hz2,hr2⟩:=L2;obtain⟨y1,y2,y3⟩:=h2.w.opened;obtain⟨y4,y5,y6⟩:=h2.c.opened;obtain⟨y7,y8,y9⟩:=h2.v.opened;obtain⟨Ro,Rq,y12⟩:=h2.r.opened;dsimp only at y3 y6 y9 y12;subst y3 y6 y9 y12;simp only[HL.hp,HL.rest] at Ag;refine aS (⟨Rb,#[.slice none 0 0,.slice none 0 0,.slice none 0 0,.slice none 0 0],29⟩::⟨X,#[.slice y1 (List.map uV H2.ws).length y2,.slice y4 (List.map qV cs2).length y5,.slice y7 (List.map mQ vs2).length y8,.slice Ro (List.map nY H2.rs).length Rq,.slice p4 n4 k4,.slice p5 n5 k5,.slice p6 n6 k6],90⟩::(hw2++(hc2++(ht2++(hv2++(hz2++hr2)))))) (cnt1 Ag) ?_;refine aP ?_;refine fZ ?_;exact⟨_,rfl,h2,by simp only[HL.rest];(exact ak)⟩
end
section
attribute [local irreducible] Hy St Ops DH dI
def RK(K:Int):Prop:=∀ (P:PtD) (w:World) (pv gv ov:Value),dN w pv gv ov P→P.Small 1000→P.may=true→∀ cpu:Nat,cpu<P.on.length→∀ c:xR,c.Wf→c.kind=K →
  Fn Tryz.prog 176 [.agg #[pv,gv,ov],.int .i64 (cpu:Int),uo c].toArray w [] (DoR (P.BR cpu c))
theorem aN8:RK 7:=by
 intro P w pv gv ov h hs hm cpu hc c hw hk;obtain⟨K,vm,fr,mid,vc,cc⟩:=c;dsimp only at hk;subst hk;refine ag2 h hs hm cpu hc _ _ (PtD.xO P cpu _) (fun hv Y bx w hO hN=>?_) (fun hv Y bx w hO hN=>?_)
 ·rw[PtD.BR,show decide ((P.st cpu).vm=0)=true by simp[hv],cond_true,PtD.EM];exact PE hO hN cpu vm fr mid vc cc hw.vm
 ·rw[PtD.BR,show decide ((P.st cpu).vm=0)=false by simp[hv],cond_false,PtD.xK];exact Yn hO hN 7 vm fr mid vc cc cpu hc (by have:=MC hm hc hv;exact⟨this.1,this.2.1⟩) bx7 bx7 bx7
end
section
attribute [local irreducible] Hy St Ops DH dI jr iP gX DS iD lV
theorem ah8(xs:List fE)(v:Value)(h:aA w v 14 (xs.map iw))(hl:xs.length<1000000):Fn Tryz.prog 341 [v].toArray w [] (fun u hp=>Acc 80 14 u hp (xs.map iw)):=by
 obtain⟨q,cap,rfl,hne,hle⟩:=h.opened;refine enter Tryz.func341 ?_;refine run ?_;refine aK (σ:=Nat×Value×Hp) (fun s=>[(3,s.2.1),(4,.int .i64 (s.1:Int))]) (fun s=>s.2.2) (fun s=>s.1≤xs.length∧Acc 80 14 s.2.1 s.2.2 ((xs.take s.1).map iw)) (fun s=>xs.length-s.1) (0,_,[]) ⟨by omega,Acc.nil _ _⟩ ?_;rintro⟨k,v,ha⟩ m hm ⟨hk,hA⟩;dsimp only at hm hk hA ⊢;refine run ?_;refine ah _ rfl (fun hc=>?_) (fun hc=>?_)
 ·have hlt:k<xs.length:=by simp at hc;omega
  obtain⟨b,o,rfl⟩:=hne by0;have h1:=(h.row hlt)
  refine run ?_;intro T;refine dK (c:=iw (xs.getD k default)) hA (fun v' ha' hA'=>?_) by6 (aX (m:=14) mh rfl);refine run ?_;refine aF (k+1,v',ha') ⟨hlt,?_⟩;dsimp only;rw[dU hlt,bG5];exact hA'
 ·have:k=xs.length:=by simp at hc;omega
  subst this;refine run ?_;refine fin1 ?_;simpa using hA
theorem ah9(xs:List jv)(v:Value)(h:aA w v 4 (xs.map kZ))(hl:xs.length<1000000):Fn Tryz.prog 342 [v].toArray w [] (fun u hp=>Acc 127 4 u hp (xs.map kZ)):=by
 obtain⟨q,cap,rfl,hne,hle⟩:=h.opened;refine enter Tryz.func342 ?_;refine run ?_;refine aK (σ:=Nat×Value×Hp) (fun s=>[(3,s.2.1),(4,.int .i64 (s.1:Int))]) (fun s=>s.2.2) (fun s=>s.1≤xs.length∧Acc 127 4 s.2.1 s.2.2 ((xs.take s.1).map kZ)) (fun s=>xs.length-s.1) (0,_,[]) ⟨by omega,Acc.nil _ _⟩ ?_;rintro⟨k,v,ha⟩ m hm ⟨hk,hA⟩;dsimp only at hm hk hA ⊢;refine run ?_;refine ah _ rfl (fun hc=>?_) (fun hc=>?_)
 ·have hlt:k<xs.length:=by simp at hc;omega
  obtain⟨b,o,rfl⟩:=hne by0;have h1:=(h.row hlt)
  refine run ?_;intro T;refine dK (c:=kZ (xs.getD k default)) hA (fun v' ha' hA'=>?_) by6 (aX (m:=4) mh rfl);refine run ?_;refine aF (k+1,v',ha') ⟨hlt,?_⟩;dsimp only;rw[dU hlt,bG5];exact hA'
 ·have:k=xs.length:=by simp at hc;omega
  subst this;refine run ?_;refine fin1 ?_;simpa using hA
theorem ah'(es:List fE)(ds:List jv)(v u:Value)(h:aA w v 14 (es.map iw))(hd:aA w u 4 (ds.map kZ))(hl:es.length<1000000)(hl2:ds.length<1000000):Fn Tryz.prog 312 [.agg #[v,u]].toArray w [] (fun r hn=>∃ v1 h1 v2 h2,r=.agg #[v1,v2]∧Acc 80 14 v1 h1 (es.map iw)∧Acc 127 4 v2 h2 (ds.map kZ)∧aJ (h1++h2) hn):=by
 have h':=h;have hd':=hd;obtain⟨q,cap,rfl,_,_⟩:=h.opened;obtain⟨q2,cap2,rfl,_,_⟩:=hd.opened;refine enter Tryz.func312 ?_;refine run ?_;intro B R X;refine run ?_;refine bI (fun wc hG=>ah8 es _ (h'.good hG) hl) (fun v1 h1 hA=>?_);obtain⟨q3,c3,e3⟩:=hA.own.opened;rw[bE9] at e3;subst e3;refine bZ (_++h1) bG6 ?_;simp only[bF2,bF5];refine run ?_;refine bI (fun wc hG=>ah9 ds _ (hd'.good hG) hl2) (fun v2 h2 hA2=>?_);obtain⟨q4,c4,e4⟩:=hA2.own.opened;rw[bE9] at e4;subst e4;refine bZ (_++h2) bG6 ?_;simp only[bF2,bF5];refine run ?_;exact dQ (cs:=#[.slice q3 es.length c3,.slice q4 ds.length c4]) ⟨_,h1,_,h2,rfl,hA,hA2,by (exact ak)⟩
theorem aA9(xs:List ve)(v:Value)(h:aA w v 16 (xs.map zF))(hl:xs.length<1000000):Fn Tryz.prog 313 [v].toArray w [] (fun u hp=>Acc 102 16 u hp (xs.map zF)):=by
 obtain⟨q,cap,rfl,hne,hle⟩:=h.opened;refine enter Tryz.func313 ?_;refine run ?_;refine aK (σ:=Nat×Value×Hp) (fun s=>[(3,s.2.1),(4,.int .i64 (s.1:Int))]) (fun s=>s.2.2) (fun s=>s.1≤xs.length∧Acc 102 16 s.2.1 s.2.2 ((xs.take s.1).map zF)) (fun s=>xs.length-s.1) (0,_,[]) ⟨by omega,Acc.nil _ _⟩ ?_;rintro⟨k,v,ha⟩ m hm ⟨hk,hA⟩;dsimp only at hm hk hA ⊢;refine run ?_;refine ah _ rfl (fun hc=>?_) (fun hc=>?_)
 ·have hlt:k<xs.length:=by simp at hc;omega
  obtain⟨b,o,rfl⟩:=hne by0;have h1:=(h.row hlt)
  refine run ?_;intro T;refine dK (c:=zF (xs.getD k default)) hA (fun v' ha' hA'=>?_) by6 (aX (m:=16) mh rfl);refine run ?_;refine aF (k+1,v',ha') ⟨hlt,?_⟩;dsimp only;rw[dU hlt,bG5];exact hA'
 ·have:k=xs.length:=by simp at hc;omega
  subst this;refine run ?_;refine fin1 ?_;simpa using hA
theorem aA'(xs:List Am)(v:Value)(h:aA w v 15 (xs.map nY))(hl:xs.length<1000000):Fn Tryz.prog 174 [v].toArray w [] (fun u hp=>Acc 68 15 u hp (xs.map nY)):=by
 obtain⟨q,cap,rfl,hne,hle⟩:=h.opened;refine enter Tryz.func174 ?_;refine run ?_;refine aK (σ:=Nat×Value×Hp) (fun s=>[(3,s.2.1),(4,.int .i64 (s.1:Int))]) (fun s=>s.2.2) (fun s=>s.1≤xs.length∧Acc 68 15 s.2.1 s.2.2 ((xs.take s.1).map nY)) (fun s=>xs.length-s.1) (0,_,[]) ⟨by omega,Acc.nil _ _⟩ ?_;rintro⟨k,v,ha⟩ m hm ⟨hk,hA⟩;dsimp only at hm hk hA ⊢;refine run ?_;refine ah _ rfl (fun hc=>?_) (fun hc=>?_)
 ·have hlt:k<xs.length:=by simp at hc;omega
  obtain⟨b,o,rfl⟩:=hne by0;have h1:=(h.row hlt)
  refine run ?_;intro T;refine dK (c:=nY (xs.getD k default)) hA (fun v' ha' hA'=>?_) by6 (aX (m:=15) mh rfl);refine run ?_;refine aF (k+1,v',ha') ⟨hlt,?_⟩;dsimp only;rw[dU hlt,bG5];exact hA'
 ·have:k=xs.length:=by simp at hc;omega
  subst this;refine run ?_;refine fin1 ?_;simpa using hA
theorem ai0(c:jH)(h1:aA w c.t.ev 14 (c.t.es.map iw))(h2:aA w c.t.dv 4 (c.t.ds.map kZ))(l1:c.t.es.length<100000)(l2:c.t.ds.length<100000):Fn Tryz.prog 259 [.agg (qV c).toArray].toArray w [] (fun u hn=>∃ t h,u=.agg (qV { c with t:=t }).toArray∧t.es=c.t.es∧t.ds=c.t.ds∧wM t h∧aJ h hn):=by
 obtain⟨⟨x0,x1,x2,x3,x4,x5,x6,x7,x8,x9,x10,x11,x12,x13,x14⟩,vm,vc,⟨es,ds,ep,ec,dp,dc⟩⟩:=c;dsimp only[uk.ev,uk.dv,qV] at *;refine enter Tryz.func259 ?_;refine run ?_;intro B X Y;refine run ?_;refine bI (fun wc hG=>ah' es ds _ _ (h1.good hG) (h2.good hG) bx6 bx6) ?_;rintro _ hn ⟨v1,g1,v2,g2,rfl,hA1,hA2,hle⟩;obtain⟨q1,c1,e1⟩:=hA1.own.opened;obtain⟨q2,c2,e2⟩:=hA2.own.opened;rw[bE9] at e1 e2;subst e1 e2;refine bZ (_++hn) bG6 ?_;simp only[bF2,bF5];refine run ?_;refine dQ (cs:=(qV ⟨⟨x0,x1,x2,x3,x4,x5,x6,x7,x8,x9,x10,x11,x12,x13,x14⟩,vm,vc,⟨es,ds,q1,c1,q2,c2⟩⟩).toArray) ⟨⟨es,ds,q1,c1,q2,c2⟩,g1++g2,rfl,rfl,rfl,⟨g1,g2,hA1.own,hA2.own,⟨l1,l2⟩,aJ.refl _⟩,by (exact cnt1 hle)⟩
theorem aB0(m:fA)(h1:aA w m.fv 1 (m.fs.map bY))(h2:aA w m.rv 1 (m.fr.map bY))(h3:aA w m.vv 16 (m.vs.map zF))(l1:m.fs.length<100000)(l2:m.fr.length<100000)(l3:m.vs.length<100000):Fn Tryz.prog 260 [.agg (mQ m).toArray].toArray w [] (fun u hn=>∃ y h,u=.agg (mQ y).toArray∧y.u=m.u∧TF y h∧aJ h hn):=by
 obtain⟨li,dy,id,fs,fp,fc,fr,rp,rc,vs,vp,vk⟩:=m;dsimp only[fA.fv,fA.rv,fA.vv,mQ] at *;refine enter Tryz.func260 ?_;refine run ?_;intro B X Y;refine run ?_;refine bI (fun wc hG=>qN fs _ (h1.good hG) bx6) ?_;intro v1 g1 hA1;obtain⟨q1,c1,e1⟩:=hA1.own.opened;rw[bE9] at e1;subst e1;refine bZ (_++g1) bG6 ?_;simp only[bF2,bF5];refine run ?_;refine bI (fun wc hG=>qN fr _ (h2.good hG) bx6) ?_;intro v2 g2 hA2;obtain⟨q2,c2,e2⟩:=hA2.own.opened;rw[bE9] at e2;subst e2;refine bZ (_++g2) bG6 ?_;simp only[bF2,bF5];refine run ?_;refine bI (fun wc hG=>aA9 vs _ (h3.good hG) bx6) ?_;intro v3 g3 hA3;obtain⟨q3,c3,e3⟩:=hA3.own.opened;rw[bE9] at e3;subst e3;refine bZ (_++g3) bG6 ?_;simp only[bF2,bF5];refine run ?_;refine dQ (cs:=(mQ ⟨li,dy,id,fs,q1,c1,fr,q2,c2,vs,q3,c3⟩).toArray) ⟨⟨li,dy,id,fs,q1,c1,fr,q2,c2,vs,q3,c3⟩,g1++(g2++g3),rfl,rfl,⟨g1,g2,g3,hA1.own,hA2.own,hA3.own,⟨l1,l2,l3⟩,aJ.refl _⟩,by (exact ak)⟩
structure UI where
 k:Nat
 v:Value
 ys:List jH
 ha:Hp
 ht:Hp
theorem YJ(xs:List jH)(v:Value)(h:Ap w v xs)(hl:xs.length<100000)(hb:∀ c∈xs,c.t.es.length<100000∧c.t.ds.length<100000):Fn Tryz.prog 172 [v].toArray w [] (fun u hn=>∃ ys:List jH,∃ ha ht,Own 74 19 u ha (ys.map qV)∧fP wM (ys.map (·.t)) ht∧ys.map jH.u=xs.map jH.u∧aJ (ha++ht) hn):=by
 obtain⟨q,cap,rfl,hne,hle⟩:=h.rows.opened;refine enter Tryz.func172 ?_;refine run ?_;refine aK (σ:=UI) (fun s=>[(3,s.v),(4,.int .i64 (s.k:Int))]) (fun s=>s.ha++s.ht) (fun s=>s.k≤xs.length∧Acc 74 19 s.v s.ha (s.ys.map qV)∧fP wM (s.ys.map (·.t)) s.ht∧s.ys.map jH.u=(xs.take s.k).map jH.u) (fun s=>xs.length-s.k) ⟨0,.slice none 0 0,[],[],[]⟩ ⟨bF4 _,Acc.nil _ _,trivial,rfl⟩ ?_;rintro⟨k,v,ys,ha,ht⟩ m hm ⟨hk,hA,hT,hE⟩;dsimp only at hm hk hA hT hE ⊢;refine run ?_;refine ah _ rfl (fun hc=>?_) (fun hc=>?_)
 ·have hlt:k<xs.length:=by simp at hc;omega
  obtain⟨b,o,rfl⟩:=hne by0;have h1:=(h.rows.row hlt)
  have hlb:=hb _ (getD_mem (l:=xs) hlt);have hen:=h.en _ (getD_mem (l:=xs) hlt);have hiv:=h.iv _ (getD_mem (l:=xs) hlt);have htn:=dU hlt;have hyl:ys.length=k:=by have:=congrArg List.length hE;simp at this;omega
  generalize xs.getD k default=c at *;refine run ?_;refine bI (fun wc hG=>ai0 c (hen.good hG) (hiv.good hG) hlb.1 hlb.2) ?_;rintro _ hn ⟨t,g,rfl,et,ed,hB,hle2⟩;have he:jH.u { c with t:=t }=c.u:=by simp only[jH.u,et,ed]
  refine gZ hle2 ?_;refine run ?_;intro T;refine dK (c:=qV { c with t:=t }) hA (fun v' ha' hA'=>?_) by6 (aX (m:=19) mh rfl) (hp':=⟨T,#[.int .u64 (c.r.x0:Int),.int .u64 (c.r.x1:Int),.int .u64 (c.r.x2:Int),.int .u64 (c.r.x3:Int),.int .u64 (c.r.x4:Int),.int .u64 (c.r.x5:Int),.int .u64 (c.r.x6:Int),.int .u64 (c.r.x7:Int),.int .u64 (c.r.pc:Int),.int .u64 (c.r.Xf:Int),.int .u64 (c.r.KP:Int),.int .u64 (c.r.Xg:Int),.int .u64 (c.r.elr:Int),.int .u64 (c.r.esr:Int),.int .u64 (c.r.far:Int),.int .i64 c.vm,.int .i64 c.vc,t.ev,t.dv],74⟩::(ht++g)) (hperm:=by (exact aU));refine run ?_;refine aF ⟨k+1,v',ys++[{ c with t:=t }],ha',g++ht⟩ ⟨hlt,by dsimp only;rw[bG5];exact hA',by dsimp only;rw[bG5];exact hT.snoc hB,?_⟩ (hm:=by dsimp only;omega) (h2:=by (exact ak));dsimp only;rw[htn,bG5,bG5,hE,bI',bL',bI',bL',he]
 ·have:k=xs.length:=by simp at hc;omega
  subst this;refine run ?_;refine fin1 ⟨ys,ha,ht,hA.own,hT,by simpa using hE,aJ.refl _⟩
structure YK where
 k:Nat
 v:Value
 ys:List fA
 ha:Hp
 ht:Hp
theorem ai1(xs:List fA)(v:Value)(h:yR w v xs)(hl:xs.length<100000)(hb:∀ m∈xs,m.fs.length<100000∧m.fr.length<100000∧m.vs.length<100000):Fn Tryz.prog 173 [v].toArray w [] (fun u hn=>∃ ys:List fA,∃ ha ht,Own 62 6 u ha (ys.map mQ)∧fP TF ys ht∧ys.map fA.u=xs.map fA.u∧aJ (ha++ht) hn):=by
 obtain⟨q,cap,rfl,hne,hle⟩:=h.rows.opened;refine enter Tryz.func173 ?_;refine run ?_;refine aK (σ:=YK) (fun s=>[(3,s.v),(4,.int .i64 (s.k:Int))]) (fun s=>s.ha++s.ht) (fun s=>s.k≤xs.length∧Acc 62 6 s.v s.ha (s.ys.map mQ)∧fP TF s.ys s.ht∧s.ys.map fA.u=(xs.take s.k).map fA.u) (fun s=>xs.length-s.k) ⟨0,.slice none 0 0,[],[],[]⟩ ⟨bF4 _,Acc.nil _ _,trivial,rfl⟩ ?_;rintro⟨k,v,ys,ha,ht⟩ m hm ⟨hk,hA,hT,hE⟩;dsimp only at hm hk hA hT hE ⊢;refine run ?_;refine ah _ rfl (fun hc=>?_) (fun hc=>?_)
 ·have hlt:k<xs.length:=by simp at hc;omega
  obtain⟨b,o,rfl⟩:=hne by0;have h1:=(h.rows.row hlt)
  have hlb:=hb _ (getD_mem (l:=xs) hlt);have hf1:=h.fs _ (getD_mem (l:=xs) hlt);have hf2:=h.fr _ (getD_mem (l:=xs) hlt);have hf3:=h.vs _ (getD_mem (l:=xs) hlt);have htn:=dU hlt;have hyl:ys.length=k:=by have:=congrArg List.length hE;simp at this;omega
  generalize xs.getD k default=c at *;refine run ?_;refine bI (fun wc hG=>aB0 c (hf1.good hG) (hf2.good hG) (hf3.good hG) hlb.1 hlb.2.1 hlb.2.2) ?_;rintro _ hn ⟨y,g,rfl,he,hB,hle2⟩;refine gZ hle2 ?_;refine run ?_;intro T;refine dK (c:=mQ y) hA (fun v' ha' hA'=>?_) by6 (aX (m:=6) mh rfl) (hp':=⟨T,#[.bool y.live,.bool y.dying,.int .i64 y.aO,y.fv,y.rv,y.vv],62⟩::(ht++g)) (hperm:=by (exact aU));refine run ?_;refine aF ⟨k+1,v',ys++[y],ha',g++ht⟩ ⟨hlt,by dsimp only;rw[bG5];exact hA',hT.snoc hB,?_⟩ (hm:=by dsimp only;omega) (h2:=by (exact ak));dsimp only;rw[htn,bG5,bG5,hE,bI',bL',bI',bL',he]
 ·have:k=xs.length:=by simp at hc;omega
  subst this;refine run ?_;refine fin1 ⟨ys,ha,ht,hA.own,hT,by simpa using hE,aJ.refl _⟩
theorem ai2{vv rv:Value}{ws:List Nat}{cs:List jH}{vs:List fA}{rs:List Am}(h:Ed w wv cv vv rv ws cs vs rs)(hf:HyD.Fit ⟨ws,cs.map jH.u,vs.map fA.u,rs⟩):Fn Tryz.prog 95 [.agg #[wv,cv,vv,rv]].toArray w [] (fun u hn=>∃ L:HL,u=.agg #[L.wv,L.cv,L.vv,L.rv]∧Bl L ⟨ws,cs.map jH.u,vs.map fA.u,rs⟩∧aJ L.rest hn):=by
 have l1:=hf.l;simp only[bE9] at l1;have l2:∀ c∈cs,c.t.es.length<100000∧c.t.ds.length<100000:=fun c hc=>⟨(hf.c _ (bF9.2 ⟨c,hc,rfl⟩)).1,(hf.c _ (bF9.2 ⟨c,hc,rfl⟩)).2.1⟩
 have l3:∀ m∈vs,m.fs.length<100000∧m.fr.length<100000∧m.vs.length<100000:=fun m hm=>⟨(hf.v _ (bF9.2 ⟨m,hm,rfl⟩)).1,(hf.v _ (bF9.2 ⟨m,hm,rfl⟩)).2.1,(hf.v _ (bF9.2 ⟨m,hm,rfl⟩)).2.2.1⟩
 obtain⟨q,cap,rfl,hne,_⟩:=h.ws.opened;obtain⟨q2,cap2,rfl,hne2,_⟩:=h.cs.rows.opened;obtain⟨q3,cap3,rfl,jF,_⟩:=h.vs.rows.opened;obtain⟨q4,cap4,rfl,oQ,_⟩:=h.rs.opened;refine enter Tryz.func95 ?_;refine run ?_;intro H R Y;refine run ?_;refine bI (fun wc hG=>Ad ws _ (h.ws.good hG) bx6) ?_;rintro _ hn1 ⟨v1,h1,rfl,CU,hle1⟩;obtain⟨q9,k1,e1⟩:=CU.opened;rw[bE9] at e1;subst e1;refine aS (⟨Y,#[.slice q ws.length cap,.slice q2 cs.length cap2,.slice q3 vs.length cap3,.slice q4 rs.length cap4],29⟩::⟨H,#[.slice q ws.length cap,.slice q2 cs.length cap2,.slice q3 vs.length cap3,.slice q4 rs.length cap4],29⟩::⟨R,#[.slice none 0 0,.slice none 0 0,.slice none 0 0,.slice none 0 0],29⟩::h1) (cnt1 hle1) ?_;refine run ?_;refine bI (fun wc hG=>YJ cs _ (h.cs.good hG) bx6 l2) ?_;rintro v2 hn2 ⟨ys,h2,t2,hO2,hT2,hE2,hle2⟩;obtain⟨q8,k2,e2⟩:=hO2.opened;rw[bE9] at e2;have ly:=congrArg List.length hE2;rw[bE9,bE9] at ly;rw[ly] at e2;subst e2;refine aS (⟨Y,#[.slice q9 ws.length k1,.slice q2 cs.length cap2,.slice q3 vs.length cap3,.slice q4 rs.length cap4],29⟩::⟨H,#[.slice q ws.length cap,.slice q2 cs.length cap2,.slice q3 vs.length cap3,.slice q4 rs.length cap4],29⟩::⟨R,#[.slice none 0 0,.slice none 0 0,.slice none 0 0,.slice none 0 0],29⟩::(h1++(h2++t2))) (cnt1 hle2) ?_;refine run ?_;refine bI (fun wc hG=>ai1 vs _ (h.vs.good hG) bx6 l3) ?_;rintro v3 hn3 ⟨zs,h3,t3,hO3,hT3,hE3,hle3⟩;obtain⟨q7,k3,e3⟩:=hO3.opened;rw[bE9] at e3;have lz:=congrArg List.length hE3;rw[bE9,bE9] at lz;rw[lz] at e3;subst e3;refine aS (⟨Y,#[.slice q9 ws.length k1,.slice q8 cs.length k2,.slice q3 vs.length cap3,.slice q4 rs.length cap4],29⟩::⟨H,#[.slice q ws.length cap,.slice q2 cs.length cap2,.slice q3 vs.length cap3,.slice q4 rs.length cap4],29⟩::⟨R,#[.slice none 0 0,.slice none 0 0,.slice none 0 0,.slice none 0 0],29⟩::(h1++(h2++(t2++(h3++t3))))) (cnt1 hle3) ?_;refine run ?_;refine bI (fun wc hG=>aA' rs _ (h.rs.good hG) bx6) ?_;rintro v4 h4 hA4;obtain⟨q6,k4,e4⟩:=hA4.own.opened;rw[bE9] at e4;subst e4;refine aS (⟨Y,#[.slice q9 ws.length k1,.slice q8 cs.length k2,.slice q7 vs.length k3,.slice q4 rs.length cap4],29⟩::⟨H,#[.slice q ws.length cap,.slice q2 cs.length cap2,.slice q3 vs.length cap3,.slice q4 rs.length cap4],29⟩::⟨R,#[.slice none 0 0,.slice none 0 0,.slice none 0 0,.slice none 0 0],29⟩::(h1++(h2++(t2++(h3++(t3++h4)))))) ak ?_;refine run ?_;refine dQ (cs:=#[.slice q9 ws.length k1,.slice q8 cs.length k2,.slice q7 vs.length k3,.slice q6 rs.length k4]) ⟨⟨.slice q9 ws.length k1,.slice q8 cs.length k2,.slice q7 vs.length k3,.slice q6 rs.length k4,ys,zs,h1,h2,t2,h3,t3,h4⟩,rfl,⟨h.CS,CU,hO2,hT2,hO3,hT3,hA4.own,hE2,hE3⟩,by simp only[HL.rest];(exact ak)⟩
def aB1(e:Int)(u:Value):Prop:=u=.tuple #[.agg #[.slice none 0 0,.slice none 0 0,.slice none 0 0,.slice none 0 0],.int .i64 e]
theorem YL{K:Int}(pk:PK K){vv rv:Value}(h:vw w wv cv vv rv H)(hok:H.ok=true)(cpu:Nat)(qo:cpu<H.cs.length)(c:xR)(hk:c.kind=K)(hw:c.Wf){e:Int}(hd:H.aG.BR cpu c=.error e)(hs:H.aG.Small 1000):
  Fn Tryz.prog 16 [.agg #[wv,cv,vv,rv],.int .i64 (cpu:Int),uo c].toArray w [] (fun u _=>aB1 e u):=by
 have hne0:=PtD.xO _ _ _ _ hd;have h':=h;have hL:vG H:=jm (by simp only[HyD.ok,bE8] at hok;exact hok.1.1.1);have hlook:H.ig=true:=by simp only[HyD.ok,bE8] at hok;exact hok.1.1.1
 have hmay:H.aG.may=true:=by simp only[HyD.ok,bE8] at hok;exact hok.1.1.2.1.1
 have rX:=bP hL.m;have hc1:=hL.c1;have hc3:=hL.c3;have hv4:=hL.v;obtain⟨cs,vs,e1,e2,_,hH⟩:=h.ex;have hcl:cs.length=H.cs.length:=by rw[←e1,bE9]
 obtain⟨q,cap,rfl,hne,_⟩:=hH.ws.opened;obtain⟨q2,cap2,rfl,hne2,_⟩:=hH.cs.rows.opened;obtain⟨q3,cap3,rfl,jF,_⟩:=hH.vs.rows.opened;obtain⟨q4,cap4,rfl,oQ,_⟩:=hH.rs.opened;refine enter Tryz.func16 ?_;refine run ?_;intro Hb Cb Rb;refine run ?_;refine az (fun wc hG=>vJ (h'.good hG)) ?_;rw[hok];refine aP ?_;refine ah _ rfl (fun hc=>absurd hc by6) (fun hc=>?_);refine aP ?_;refine bI (fun wc hG=>Ey (h'.good hG)) ?_;intro u hn hu;unfold zg at hu;rw[hlook] at hu;obtain⟨p4,p5,p6,k4,k5,k6,n4,n5,n6,rfl,hPw⟩:=hu;refine aP ?_;intro Wb;have hon:H.aG.on.length=H.cs.length:=by unfold HyD.aG;dsimp only;rw[bE9]
 refine bI (fun wc hG=>pk _ _ _ _ _ (hPw wc (fun e he=>hG.here e bz8)) hs cpu bD2 c hw hk) ?_;rw[hmay,cond_true,hd];intro u2 hn2 hu2;replace hu2:u2=.tuple #[.agg #[.slice none 0 0,.slice none 0 0,.slice none 0 0],.int .i64 e]:=hu2;subst hu2;refine aS [⟨Rb,#[.slice none 0 0,.slice none 0 0,.slice none 0 0,.slice none 0 0],29⟩] ak ?_;refine aP ?_;intro A;refine ah _ rfl (fun _=>?_) (fun hc5=>absurd hc5 (by simp[hne0]));refine run ?_;exact fZ (cs:=#[.slice none 0 0,.slice none 0 0,.slice none 0 0,.slice none 0 0]) rfl
theorem UJ{vv rv:Value}(h:vw w wv cv vv rv H)(hok:H.ok=false)(cpu:Int)(c:xR):
  Fn Tryz.prog 16 [.agg #[wv,cv,vv,rv],.int .i64 cpu,uo c].toArray w [] (fun u _=>aB1 1 u):=by
 have h':=h;obtain⟨cs,vs,e1,e2,_,hH⟩:=h.ex;obtain⟨q,cap,rfl,hne,_⟩:=hH.ws.opened;obtain⟨q2,cap2,rfl,hne2,_⟩:=hH.cs.rows.opened;obtain⟨q3,cap3,rfl,jF,_⟩:=hH.vs.rows.opened;obtain⟨q4,cap4,rfl,oQ,_⟩:=hH.rs.opened;refine enter Tryz.func16 ?_;refine run ?_;intro Hb Cb Rb;refine run ?_;refine az (fun wc hG=>vJ (h'.good hG)) ?_;rw[hok];refine aP ?_;exact fZ (cs:=#[.slice none 0 0,.slice none 0 0,.slice none 0 0,.slice none 0 0]) rfl
end
section
attribute [local irreducible] Hy St Ops DH dI jr iP gX DS iD lV
section
variable {L : HL} {H : HyD} {cpu : Nat} {c : xR} {X : Nat} {w : World} {p4 p5 p6 p7 p8 p9 : Option Addr} {n4 n5 n6 n7 n8 n9 k4 k5 k6 k7 k8 k9 : Nat}
theorem MS(h:Bl L H)(hW:H.lI)(qo:cpu<H.cs.length)(hk:c.kind=7)(hvm:1≤c.vm∧c.vm≤4)(hv1:(H.vu (c.vm-1).toNat).vs.length<10000)(hN:eX (L.hp X [] 29) w):
  Fn Tryz.prog 178 [.pointer (some ⟨X,0,none⟩),.agg #[.slice p4 n4 k4,.slice p5 n5 k5,.slice p6 n6 k6],.agg #[.slice p7 n7 k7,.slice p8 n8 k8,.slice p9 n9 k9],.int .i64 (cpu:Int),uo c].toArray w ((L.hp X [] 29).map (·.b)) (HR X [] 29 (H.BF c.vm)):=by
 obtain⟨K_,n_,rW,lC,xN,qy⟩:=c;dsimp only at hk;subst hk;obtain⟨wv,cv,vv,rv,cs,vs,hw,hc,ht,hvv,hz,hr⟩:=L;have h':=h;obtain⟨Ri,gw,MQ,gt,Fg,gz,gr,ec,ev⟩:=h;dsimp only at gw MQ gt Fg gz gr ec ev;have ecl:cs.length=H.cs.length:=bD8;obtain⟨gc,cc,wO,rfl,rfl,csz,ET,PN⟩:=MQ.tH (k:=cpu) bx6;generalize aA3:cs.getD cpu default=cp at ET PN;have aA4:=ET 15 _ rfl;have aA5:cpu<cs.length:=bx6;have hc3:=hW.c3;dsimp only at hvm hv1 ⊢;have evl:vs.length=4:=by rw[←hW.v,←ev,bE9]
 obtain⟨i,hi⟩:∃ i,i=(n_-1).toNat:=⟨_,rfl⟩
 have hi4:i<vs.length:=by omega
 have hu:=rG ev i;rw[show H.vs.getD i default=H.vu i from rfl] at hu;obtain⟨g,cap,cur,rfl,rfl,hsz,mg,hput⟩:=Fg.tH hi4;obtain⟨za,zb,⟨z1,z2,z3,o1,o2,o3,zl,hza⟩,hzz,wZ⟩:=gz.out hi4;rw[←hi,←hu] at hv1;generalize aZ5:vs.getD i default=vm at hu mg hput o1 o2 o3 zl wZ hv1;simp only[fA.u] at hv1;obtain⟨qv,cvv,ev3,aA7⟩:=o3.oL;rw[bE9] at ev3 aA7;have nv5:=mg 5 _ rfl;rw[ev3] at nv5;have o3':=o3;rw[ev3] at o3';refine eP _ hN Tryz.func178 ?_;simp only[HL.hp,HL.rest] at hN ⊢;refine tZ (⟨X,#[wv,.slice (some ⟨gc,0,none⟩) cs.length cc,.slice (some ⟨g,0,none⟩) vs.length cap,rv],29⟩::⟨gc,wO,74⟩::⟨g,cur,62⟩::(z3++(z1++(z2++(zb++(hw++(ht++hr))))))) bz' ?_;refine run ?_;intro Fb Ib Cb;refine aP ?_;refine qP 23 19 [0,1,2,3,4,5,6,7,8,9,10,11,12,13,14,15,16,17,20,21] [(18,false),(19,false),(22,false)] [⟨X,#[wv,.slice (some ⟨gc,0,none⟩) cs.length cc,.slice (some ⟨g,0,none⟩) vs.length cap,rv],29⟩,⟨Cb,#[.int .i64 7,.int .i64 n_,.int .i64 rW,.int .i64 lC,.int .i64 xN,.int .i64 qy],37⟩] ?_;refine jV ?_;rw[show n_-1=(i:Int) by omega];refine jV ?_;refine xC ?_;refine uQ [.int .u64 0,.int .u64 0,.int .u64 0,.int .u64 0,.int .u64 0,.int .u64 0,.int .u64 0,.int .u64 0,.int .u64 0,.int .u64 0,.int .u64 0,.int .u64 0,.int .u64 0,.int .u64 0,.int .u64 0,.int .i64 (-1)] (fun Z=>?_);refine di ?_;refine an9 (c:=[.int .u64 0,.int .u64 0,.int .u64 0,.int .u64 0,.int .u64 0,.int .u64 0,.int .u64 0,.int .u64 0,.int .u64 0,.int .u64 0,.int .u64 0,.int .u64 0,.int .u64 0,.int .u64 0,.int .u64 0,.int .i64 (-1)]) (hp':=⟨Z,([.int .u64 0,.int .u64 0,.int .u64 0,.int .u64 0,.int .u64 0,.int .u64 0,.int .u64 0,.int .u64 0,.int .u64 0,.int .u64 0,.int .u64 0,.int .u64 0,.int .u64 0,.int .u64 0,.int .u64 0,.int .i64 (-1)]:List Value).toArray,102⟩::⟨Ib,#[.slice p7 n7 k7,.slice p8 n8 k8,.slice p9 n9 k9],48⟩::⟨Fb,#[.slice p4 n4 k4,.slice p5 n5 k5,.slice p6 n6 k6],48⟩::⟨Cb,#[.int .i64 7,.int .i64 n_,.int .i64 rW,.int .i64 lC,.int .i64 xN,.int .i64 qy],37⟩::⟨X,#[wv,.slice (some ⟨gc,0,none⟩) cs.length cc,.slice (some ⟨g,0,none⟩) vs.length cap,rv],29⟩::⟨gc,wO,74⟩::⟨g,cur,62⟩::(z1++(z2++(zb++(hw++(ht++hr)))))) o3' (aX (m:=16) mh rfl) bx9 aU ak (fun v' ha' hA2=>?_)
 have hA3:Own 102 16 v' ha' ((vm.vs++([⟨jy,-1⟩]:List ve)).map zF):=by
  rw[bG5];exact hA2.own
 obtain⟨q9,c9,e9⟩:=hA3.opened;rw[bE9,bG9,bM4] at e9;subst e9;have hnew:=hput 5 [(.slice q9 (vm.vs.length+1) c9)] { vm with vs:=vm.vs++([⟨jy,-1⟩]:List ve),vp:=q9,vk:=c9 } bx8 bC5 ⟨rfl,rfl⟩;refine xC ?_;refine BN (v:=(.slice q9 (vm.vs.length+1) c9)) aB (b:=g) (cs:=cur) (cs':=putAt cur (i*6+5) [(.slice q9 (vm.vs.length+1) c9)]) (tb:=62) (off:=i*6+5) (vs:=[(.slice q9 (vm.vs.length+1) c9)]) (hp':=ha'++(⟨Z,([.int .u64 0,.int .u64 0,.int .u64 0,.int .u64 0,.int .u64 0,.int .u64 0,.int .u64 0,.int .u64 0,.int .u64 0,.int .u64 0,.int .u64 0,.int .u64 0,.int .u64 0,.int .u64 0,.int .u64 0,.int .i64 (-1)]:List Value).toArray,102⟩::⟨Ib,#[.slice p7 n7 k7,.slice p8 n8 k8,.slice p9 n9 k9],48⟩::⟨Fb,#[.slice p4 n4 k4,.slice p5 n5 k5,.slice p6 n6 k6],48⟩::⟨Cb,#[.int .i64 7,.int .i64 n_,.int .i64 rW,.int .i64 lC,.int .i64 xN,.int .i64 qy],37⟩::⟨X,#[wv,.slice (some ⟨gc,0,none⟩) cs.length cc,.slice (some ⟨g,0,none⟩) vs.length cap,rv],29⟩::⟨gc,wO,74⟩::(z1++(z2++(zb++(hw++(ht++hr))))))) rfl rfl rfl rfl rfl rfl aU rfl (by show i*6+5+1≤_;omega) rfl ak ?_;refine di ?_;refine Eg ?_;refine kN ?_;refine run ?_
 have hmore:H.BF n_=⟨H.ws,H.cs,H.vs.set i ⟨vm.live,vm.dying,vm.aO,vm.fs,vm.fr,vm.vs++([⟨jy,-1⟩]:List ve)⟩,H.rs⟩:=by
  unfold HyD.BF HyD.PG;rw[←hi,←hu];rfl
 rw[hmore];refine fin0 ⟨rfl,⟨wv,.slice (some ⟨gc,0,none⟩) cs.length cc,.slice (some ⟨g,0,none⟩) vs.length cap,rv,cs,vs.set i { vm with vs:=vm.vs++([⟨jy,-1⟩]:List ve),vp:=q9,vk:=c9 },hw,[⟨gc,wO,74⟩],ht,[⟨g,_,62⟩],(z1++(z2++ha'))++zb,hr⟩,⟨Ri,gw,MQ,gt,hnew,wZ _ _ ⟨z1,z2,ha',o1,o2,?_,⟨zl.1,zl.2.1,?_⟩,aJ.refl _⟩,gr,ec,?_⟩,?_⟩
 ·simp only[fA.vv,bG9,bM4];exact hA3
 ·rw[bG9,bM4];omega
 ·dsimp only;rw[bN6,ev];rfl
 ·simp only[HL.hp,HL.rest]
  (exact ak)
end
end
theorem YM{hn:Hp}{w1:World}(h1:Here hn w1){b o:Nat}{cs:List Value}(hne:cs≠[])(hr:∀ w,Here hn w→w.rangeAt b o cs):∃ e∈hn,e.b=b∧∀ j u,cs[j]?=some u→nth e.cs.toList (o+j)=some u:=by
 by_cases hb:∃ e∈hn,e.b=b
 ·obtain⟨e,he,rfl⟩:=hb;refine⟨e,he,rfl,fun j u hj=>?_⟩;have:=hr w1 h1 j u hj;rw[cell_of_block (h1 e he)] at this;rw[nZ];exact this
 ·exfalso;obtain⟨v,r,rfl⟩:=List.exists_cons_of_ne_nil hne
  have hw:Here hn { w1 with heap:=w1.heap.setIfInBounds b (.cells #[] 0 (0,0)) }:=fun e he=>by
   show (w1.heap.setIfInBounds b _)[e.b]?=_;rw[bN2 (fun h=>hb ⟨e,he,h.symm⟩)];exact h1 e he
  have hc:=aj (hr _ hw);by_cases hs:b<w1.heap.size
  ·have h2:({ w1 with heap:=w1.heap.setIfInBounds b (.cells #[] 0 (0,0)) }:World).heap[b]?=some (.cells #[] 0 (0,0)):=by
    show (w1.heap.setIfInBounds b _)[b]?=_;simp[hs]
   rw[cell_of_block h2] at hc;simp at hc
  ·simp[World.cell?,hs] at hc
theorem UK{hn:Hp}{w1:World}(h1:Here hn w1){pv gv:Value}{po:Option Addr}{no ko:Nat}(hP:∀ w,Here hn w→dN w pv gv (.slice po no ko) P){c:Nat}(hc:c<P.on.length):∃ b o e A B,po=some ⟨b,o,none⟩∧no=P.on.length∧hn=A++e::B∧e.b=b∧nth e.cs.toList (o+c*2)=some (.int .i64 (P.st c).vm):=by
 obtain⟨p,cap,e1,hne,_⟩:=(hP w1 h1).on.opened;cases e1;obtain⟨b,o,rfl⟩:=hne (by intro e;rw[e] at hc;simp at hc);obtain⟨e,he,rfl,hr⟩:=YM h1 (b:=b) (o:=o+c*2) (cs:=Jz (P.on.getD c default)) (by simp[Jz]) (fun w hw=>(hP w hw).on.row hc);obtain⟨A,B,rfl⟩:=bT' he;exact⟨e.b,o,e,A,B,rfl,rfl,rfl,rfl,hr 0 _ rfl⟩
theorem Ju{vv rv:Value}(h:vw w wv cv vv rv H):Fn Tryz.prog 95 [.agg #[wv,cv,vv,rv]].toArray w [] (fun u hn=>∃ L:HL,u=.agg #[L.wv,L.cv,L.vv,L.rv]∧Bl L H∧aJ L.rest hn):=by
 obtain⟨cs,vs,e1,e2,_,hH⟩:=h.ex;have hf:=h.fit;obtain⟨ws,cu,vu,rs⟩:=H;dsimp only at e1 e2 hH;subst e1 e2;exact ai2 hH hf
section
attribute [local irreducible] Hy St Ops DH dI jr iP gX DS iD lV
theorem YN{K:Int}(rk:RK K){vv rv:Value}(h:vw w wv cv vv rv H)(hok:H.ok=true)(cpu:Nat)(qo:cpu<H.cs.length)(c:xR)(hk:c.kind=K)(hw:c.Wf){e:Int}(hd:H.aG.BR cpu c=.error e)(hs:H.aG.Small 1000):
  Fn Tryz.prog 99 [.agg #[wv,cv,vv,rv],.int .i64 (cpu:Int),uo c].toArray w [] (fun u _=>aB1 e u):=by
 have hne0:=PtD.xO _ _ _ _ hd;have h':=h;have hlook:H.ig=true:=by simp only[HyD.ok,bE8] at hok;exact hok.1.1.1
 have hmay:H.aG.may=true:=by simp only[HyD.ok,bE8] at hok;exact hok.1.1.2.1.1
 obtain⟨cs,vs,e1,e2,_,hH⟩:=h.ex;obtain⟨q,cap,rfl,hne,_⟩:=hH.ws.opened;obtain⟨q2,cap2,rfl,hne2,_⟩:=hH.cs.rows.opened;obtain⟨q3,cap3,rfl,jF,_⟩:=hH.vs.rows.opened;obtain⟨q4,cap4,rfl,oQ,_⟩:=hH.rs.opened;have hon:H.aG.on.length=H.cs.length:=by unfold HyD.aG;dsimp only;rw[bE9]
 refine enter Tryz.func99 ?_;refine run ?_;intro Hb Cb Rb;refine run ?_;refine bI (fun wc hG=>Jf (h'.good hG) hlook) ?_;rintro _ hn ⟨p4,p5,p6,k4,k5,k6,n4,n5,n6,rfl,hPw⟩;refine run ?_;intro Wb;refine run ?_;refine bI (fun wc hG=>rk _ _ _ _ _ (hPw wc (fun e he=>hG.here e bz8)) hs hmay cpu bD2 c hw hk) ?_;rw[hd];intro u2 hn2 hu2;replace hu2:u2=.tuple #[.agg #[.slice none 0 0,.slice none 0 0,.slice none 0 0],.int .i64 e]:=hu2;subst hu2;refine aS [⟨Rb,#[.slice none 0 0,.slice none 0 0,.slice none 0 0,.slice none 0 0],29⟩] ak ?_;refine run ?_;intro Tb;refine aP ?_;refine ah _ rfl (fun _=>?_) (fun hc5=>absurd hc5 (by simp[hne0]));refine run ?_;exact fZ (cs:=#[.slice none 0 0,.slice none 0 0,.slice none 0 0,.slice none 0 0]) rfl
theorem ai3{K:Int}(rk:RK K){w:World}{vv rv:Value}(h:vw w wv cv vv rv H)(hok:H.ok=true)(cpu:Nat)(qo:cpu<H.cs.length)(c:xR)(hk:c.kind=K)(hw:c.Wf){P2:PtD}(hd:H.aG.BR cpu c=.ok P2)(hs:H.aG.Small 1000){H2:HyD}
  (hdo:(H.aG.st cpu).vm=0→(∀ (L:HL) (X:Nat) (p4 p5 p6 p7 p8 p9:Option Addr) (n4 n5 n6 n7 n8 n9 k4 k5 k6 k7 k8 k9:Nat) (w:World),Bl L H→eX (L.hp X [] 29) w →
   (∀ w' hp,Good w ((L.hp X [] 29).map (·.b)) hp w'→dN w' (.slice p4 n4 k4) (.slice p5 n5 k5) (.slice p6 n6 k6) H.aG)→(∀ b o n k,Value.slice p5 n5 k5=.slice (some ⟨b,o,none⟩) n k→b∉(L.hp X [] 29).map (·.b)) →
   (∀ w' hp,Good w ((L.hp X [] 29).map (·.b)) hp w'→dN w' (.slice p7 n7 k7) (.slice p8 n8 k8) (.slice p9 n9 k9) P2)→(∀ b o n k,Value.slice p8 n8 k8=.slice (some ⟨b,o,none⟩) n k→b∉(L.hp X [] 29).map (·.b)) →
   Fn Tryz.prog 178 [.pointer (some ⟨X,0,none⟩),.agg #[.slice p4 n4 k4,.slice p5 n5 k5,.slice p6 n6 k6],.agg #[.slice p7 n7 k7,.slice p8 n8 k8,.slice p9 n9 k9],.int .i64 (cpu:Int),uo c].toArray w ((L.hp X [] 29).map (·.b)) (HR X [] 29 H2)))
  (hgo:(H.aG.st cpu).vm > 0→(∀ (L:HL) (X:Nat) (p4 p5 p6 p7 p8 p9:Option Addr) (n4 n5 n6 n7 n8 n9 k4 k5 k6 k7 k8 k9:Nat) (w:World),Bl L H→eX (L.hp X [] 29) w →
   (∀ w' hp,Good w ((L.hp X [] 29).map (·.b)) hp w'→dN w' (.slice p4 n4 k4) (.slice p5 n5 k5) (.slice p6 n6 k6) H.aG)→(∀ b o n k,Value.slice p5 n5 k5=.slice (some ⟨b,o,none⟩) n k→b∉(L.hp X [] 29).map (·.b)) →
   (∀ w' hp,Good w ((L.hp X [] 29).map (·.b)) hp w'→dN w' (.slice p7 n7 k7) (.slice p8 n8 k8) (.slice p9 n9 k9) P2)→(∀ b o n k,Value.slice p8 n8 k8=.slice (some ⟨b,o,none⟩) n k→b∉(L.hp X [] 29).map (·.b)) →
   Fn Tryz.prog 177 [.pointer (some ⟨X,0,none⟩),.agg #[.slice p4 n4 k4,.slice p5 n5 k5,.slice p6 n6 k6],.agg #[.slice p7 n7 k7,.slice p8 n8 k8,.slice p9 n9 k9],.int .i64 (cpu:Int),uo c].toArray w ((L.hp X [] 29).map (·.b)) (HR X [] 29 H2))):
  Fn Tryz.prog 99 [.agg #[wv,cv,vv,rv],.int .i64 (cpu:Int),uo c].toArray w [] (Hf H2):=by
 have h':=h;have hlook:H.ig=true:=by simp only[HyD.ok,bE8] at hok;exact hok.1.1.1
 have hmay:H.aG.may=true:=by simp only[HyD.ok,bE8] at hok;exact hok.1.1.2.1.1
 obtain⟨cs,vs,e1,e2,_,hH⟩:=h.ex;obtain⟨q,cap,rfl,hne,_⟩:=hH.ws.opened;obtain⟨q2,cap2,rfl,hne2,_⟩:=hH.cs.rows.opened;obtain⟨q3,cap3,rfl,jF,_⟩:=hH.vs.rows.opened;obtain⟨q4,cap4,rfl,oQ,_⟩:=hH.rs.opened;have hon:H.aG.on.length=H.cs.length:=by unfold HyD.aG;dsimp only;rw[bE9]
 refine enter Tryz.func99 ?_;refine run ?_;intro Hb Cb Rb;refine run ?_;refine bI (fun wc hG=>Jf (h'.good hG) hlook) ?_;rintro _ hn ⟨p4,p5,p6,k4,k5,k6,n4,n5,n6,rfl,hPw⟩;refine run ?_;intro Wb;refine run ?_;refine bI (fun wc hG=>rk _ _ _ _ _ (hPw wc (fun e he=>hG.here e bz8)) hs hmay cpu bD2 c hw hk) ?_;rw[hd];rintro _ hn2 ⟨Y,rfl,hO,hle⟩;refine aS (⟨Wb,#[.slice p4 n4 k4,.slice p5 n5 k5,.slice p6 n6 k6],48⟩::(Y.in++(hn++[⟨Rb,#[.slice none 0 0,.slice none 0 0,.slice none 0 0,.slice none 0 0],29⟩,⟨Cb,#[.int .i64 c.kind,.int .i64 c.vm,.int .i64 c.frame,.int .i64 c.mid,.int .i64 c.kW,.int .i64 c.mM],37⟩,⟨Hb,#[.slice q H.ws.length cap,.slice q2 cs.length cap2,.slice q3 vs.length cap3,.slice q4 H.rs.length cap4],29⟩]))) (cnt1 hle) ?_;refine run ?_;intro Vb;refine aP ?_;refine bI (fun wc hG=>Ju (h'.good hG)) ?_;rintro _ hn3 ⟨L,rfl,hL3,hle3⟩;obtain⟨wv0,cv0,vv0,rv0,cs0,Jv,hw0,hc0,ht0,hv0,hz0,hr0⟩:=L;obtain⟨y1,y2,y3⟩:=hL3.w.opened;obtain⟨y4,y5,y6⟩:=hL3.c.opened;obtain⟨y7,y8,y9⟩:=hL3.v.opened;obtain⟨Ro,Rq,y12⟩:=hL3.r.opened;dsimp only at y3 y6 y9 y12;subst y3 y6 y9 y12;simp only[HL.rest] at hle3;refine aS (⟨Wb,#[.slice p4 n4 k4,.slice p5 n5 k5,.slice p6 n6 k6],48⟩::⟨Vb,#[Y.pv P2,Y.gv P2,Y.ov P2],48⟩::((hw0++(hc0++(ht0++(hv0++(hz0++hr0)))))++(Y.in++(hn++[⟨Rb,#[.slice none 0 0,.slice none 0 0,.slice none 0 0,.slice none 0 0],29⟩,⟨Cb,#[.int .i64 c.kind,.int .i64 c.vm,.int .i64 c.frame,.int .i64 c.mid,.int .i64 c.kW,.int .i64 c.mM],37⟩,⟨Hb,#[.slice q H.ws.length cap,.slice q2 cs.length cap2,.slice q3 vs.length cap3,.slice q4 H.rs.length cap4],29⟩])))) (cnt1 hle3) ?_;refine run ?_;intro X;refine KE fun w1 hG1=>?_;obtain⟨b,o,e,A,B,rfl,rfl,rfl,rfl,bg6⟩:=UK (c:=cpu) (hG1.lie (fun e he=>by simp only[bH1,bG7,he,true_or,or_true])) hPw bD2;refine aS (⟨Wb,#[.slice p4 n4 k4,.slice p5 n5 k5,.slice (some ⟨e.b,o,none⟩) H.aG.on.length k6],48⟩::e::⟨Vb,#[Y.pv P2,Y.gv P2,Y.ov P2],48⟩::((⟨.slice y1 (List.map uV H.ws).length y2,.slice y4 (List.map qV cs0).length y5,.slice y7 (List.map mQ Jv).length y8,.slice Ro (List.map nY H.rs).length Rq,cs0,Jv,hw0,hc0,ht0,hv0,hz0,hr0⟩:HL).hp X [] 29++(Y.in++((A++B)++[⟨Rb,#[.slice none 0 0,.slice none 0 0,.slice none 0 0,.slice none 0 0],29⟩,⟨Cb,#[.int .i64 c.kind,.int .i64 c.vm,.int .i64 c.frame,.int .i64 c.mid,.int .i64 c.kW,.int .i64 c.mM],37⟩,⟨Hb,#[.slice q H.ws.length cap,.slice q2 cs.length cap2,.slice q3 vs.length cap3,.slice q4 H.rs.length cap4],29⟩])))) (by simp only[HL.hp,HL.rest];(exact ak)) ?_;refine aP ?_;have hIs:∀ w',Here Y.in w'→dN w' (Y.pv P2) (Y.gv P2) (Y.ov P2) P2:=fun w' hh=>hO.an7 hh;have hg4:H.aG.ay.length=4:=by have hL:vG H:=jm hlook;unfold HyD.aG;simp
 have aZ9:P2.ay.length=4:=hO.n.g4;refine tZ (⟨Wb,#[.slice p4 n4 k4,.slice p5 n5 k5,.slice (some ⟨e.b,o,none⟩) H.aG.on.length k6],48⟩::⟨Vb,#[Y.pv P2,Y.gv P2,Y.ov P2],48⟩::⟨Rb,#[.slice none 0 0,.slice none 0 0,.slice none 0 0,.slice none 0 0],29⟩::⟨Cb,#[.int .i64 c.kind,.int .i64 c.vm,.int .i64 c.frame,.int .i64 c.mid,.int .i64 c.kW,.int .i64 c.mM],37⟩::⟨Hb,#[.slice q H.ws.length cap,.slice q2 cs.length cap2,.slice q3 vs.length cap3,.slice q4 H.rs.length cap4],29⟩::((⟨.slice y1 (List.map uV H.ws).length y2,.slice y4 (List.map qV cs0).length y5,.slice y7 (List.map mQ Jv).length y8,.slice Ro (List.map nY H.rs).length Rq,cs0,Jv,hw0,hc0,ht0,hv0,hz0,hr0⟩:HL).hp X [] 29++(Y.in++(A++e::B)))) ak ?_;generalize A++e::B=hn at hPw ⊢;refine ah _ rfl (fun hc=>?_) (fun hc=>?_)
 ·refine aP ?_;refine je ((⟨.slice y1 (List.map uV H.ws).length y2,.slice y4 (List.map qV cs0).length y5,.slice y7 (List.map mQ Jv).length y8,.slice Ro (List.map nY H.rs).length Rq,cs0,Jv,hw0,hc0,ht0,hv0,hz0,hr0⟩:HL).hp X [] 29) (⟨Wb,#[.slice p4 n4 k4,.slice p5 n5 k5,.slice (some ⟨e.b,o,none⟩) H.aG.on.length k6],48⟩::⟨Vb,#[Y.pv P2,Y.gv P2,Y.ov P2],48⟩::⟨Rb,#[.slice none 0 0,.slice none 0 0,.slice none 0 0,.slice none 0 0],29⟩::⟨Cb,#[.int .i64 c.kind,.int .i64 c.vm,.int .i64 c.frame,.int .i64 c.mid,.int .i64 c.kW,.int .i64 c.mM],37⟩::⟨Hb,#[.slice q H.ws.length cap,.slice q2 cs.length cap2,.slice q3 vs.length cap3,.slice q4 H.rs.length cap4],29⟩::(Y.in++hn)) (fun wc hG=>hgo (by simpa using hc) (⟨.slice y1 (List.map uV H.ws).length y2,.slice y4 (List.map qV cs0).length y5,.slice y7 (List.map mQ Jv).length y8,.slice Ro (List.map nY H.rs).length Rq,cs0,Jv,hw0,hc0,ht0,hv0,hz0,hr0⟩:HL) X p4 p5 (some ⟨e.b,o,none⟩) (some ⟨Y.pb,0,none⟩) (some ⟨Y.gb,0,none⟩) (some ⟨Y.ob,0,none⟩) n4 n5 H.aG.on.length P2.pages.length P2.ay.length P2.on.length k4 k5 k6 Y.zn Y.AL Y.BQ wc hL3 hG.iY (fun w' hp hg=>hPw w' (fun e he=>(hG.lG hg).here e bz7)) (rU hG (fun e he=>by simp only[bH1,bG7,he,true_or,or_true]) hPw bx6) (fun w' hp hg=>hIs w' (fun e he=>(hG.lG hg).here e bz7)) (rU hG (fun e he=>by simp only[bH1,bG7,he,true_or,or_true]) hIs bx6)) (fun v hn4 hR=>?_) aU;obtain⟨rfl,L2,h2,Ag⟩:=hR;obtain⟨wv2,Aq,vv2,rv2,cs2,vs2,hw2,hc2,ht2,hv2,hz2,hr2⟩:=L2;obtain⟨x1,x2,x3⟩:=h2.w.opened;obtain⟨x4,x5,x6⟩:=h2.c.opened;obtain⟨x7,x8,x9⟩:=h2.v.opened;obtain⟨x10,x11,x12⟩:=h2.r.opened;dsimp only at x3 x6 x9 x12;subst x3 x6 x9 x12;simp only[HL.hp,HL.rest] at Ag;refine aS (⟨Rb,#[.slice none 0 0,.slice none 0 0,.slice none 0 0,.slice none 0 0],29⟩::⟨X,#[.slice x1 (List.map uV H2.ws).length x2,.slice x4 (List.map qV cs2).length x5,.slice x7 (List.map mQ vs2).length x8,.slice x10 (List.map nY H2.rs).length x11],29⟩::(hw2++(hc2++(ht2++(hv2++(hz2++hr2)))))) (cnt1 Ag) ?_;refine aP ?_;refine fZ ?_;exact⟨_,rfl,h2,by simp only[HL.rest];(exact ak)⟩
 ·have aZ':(H.aG.st cpu).vm=0:=by
   by_cases hv:(H.aG.st cpu).vm=0
   ·exact hv
   ·have:=MC hmay bD2 hv;simp at hc;omega
  refine aP ?_;refine je ((⟨.slice y1 (List.map uV H.ws).length y2,.slice y4 (List.map qV cs0).length y5,.slice y7 (List.map mQ Jv).length y8,.slice Ro (List.map nY H.rs).length Rq,cs0,Jv,hw0,hc0,ht0,hv0,hz0,hr0⟩:HL).hp X [] 29) (⟨Wb,#[.slice p4 n4 k4,.slice p5 n5 k5,.slice (some ⟨e.b,o,none⟩) H.aG.on.length k6],48⟩::⟨Vb,#[Y.pv P2,Y.gv P2,Y.ov P2],48⟩::⟨Rb,#[.slice none 0 0,.slice none 0 0,.slice none 0 0,.slice none 0 0],29⟩::⟨Cb,#[.int .i64 c.kind,.int .i64 c.vm,.int .i64 c.frame,.int .i64 c.mid,.int .i64 c.kW,.int .i64 c.mM],37⟩::⟨Hb,#[.slice q H.ws.length cap,.slice q2 cs.length cap2,.slice q3 vs.length cap3,.slice q4 H.rs.length cap4],29⟩::(Y.in++hn)) (fun wc hG=>hdo aZ' (⟨.slice y1 (List.map uV H.ws).length y2,.slice y4 (List.map qV cs0).length y5,.slice y7 (List.map mQ Jv).length y8,.slice Ro (List.map nY H.rs).length Rq,cs0,Jv,hw0,hc0,ht0,hv0,hz0,hr0⟩:HL) X p4 p5 (some ⟨e.b,o,none⟩) (some ⟨Y.pb,0,none⟩) (some ⟨Y.gb,0,none⟩) (some ⟨Y.ob,0,none⟩) n4 n5 H.aG.on.length P2.pages.length P2.ay.length P2.on.length k4 k5 k6 Y.zn Y.AL Y.BQ wc hL3 hG.iY (fun w' hp hg=>hPw w' (fun e he=>(hG.lG hg).here e bz7)) (rU hG (fun e he=>by simp only[bH1,bG7,he,true_or,or_true]) hPw bx6) (fun w' hp hg=>hIs w' (fun e he=>(hG.lG hg).here e bz7)) (rU hG (fun e he=>by simp only[bH1,bG7,he,true_or,or_true]) hIs bx6)) (fun v hn4 hR=>?_) aU;obtain⟨rfl,L2,h2,Ag⟩:=hR;obtain⟨wv2,Aq,vv2,rv2,cs2,vs2,hw2,hc2,ht2,hv2,hz2,hr2⟩:=L2;obtain⟨x1,x2,x3⟩:=h2.w.opened;obtain⟨x4,x5,x6⟩:=h2.c.opened;obtain⟨x7,x8,x9⟩:=h2.v.opened;obtain⟨x10,x11,x12⟩:=h2.r.opened;dsimp only at x3 x6 x9 x12;subst x3 x6 x9 x12;simp only[HL.hp,HL.rest] at Ag;refine aS (⟨Rb,#[.slice none 0 0,.slice none 0 0,.slice none 0 0,.slice none 0 0],29⟩::⟨X,#[.slice x1 (List.map uV H2.ws).length x2,.slice x4 (List.map qV cs2).length x5,.slice x7 (List.map mQ vs2).length x8,.slice x10 (List.map nY H2.rs).length x11],29⟩::(hw2++(hc2++(ht2++(hv2++(hz2++hr2)))))) (cnt1 Ag) ?_;refine aP ?_;refine fZ ?_;exact⟨_,rfl,h2,by simp only[HL.rest];(exact ak)⟩
theorem aB2(e:fE):(iw e).length=14∧(iw e).all (·.oneCell')=true:=⟨rfl,rfl⟩
theorem aB3(e:jv):(kZ e).length=4∧(kZ e).all (·.oneCell')=true:=⟨rfl,rfl⟩
theorem Own.ao1{α:Type}{f:α→List Value}{sz:Nat}(hf:∀ a,(f a).length=sz∧(f a).all (·.oneCell')=true)(h0:0<sz){e:Nat}{h:Hp}{xs:List α}(hA:Own e sz v h (xs.map f)){k:Nat}(hk:k<xs.length):∃ g cap cur,v=.slice (some ⟨g,0,none⟩) xs.length cap∧h=[⟨g,cur,e⟩]∧k*sz+sz≤cur.size ∧
  ∀ z:α,Own e sz v [⟨g,putAt cur (k*sz) (f z),e⟩] ((xs.set k z).map f):=by
 obtain⟨g,cap,cur,rfl,rfl,hr⟩:=hA.row (n:=xs.length) bx8 bx6
 have hall:∀ c∈xs.map f,c.length=sz:=fun c hc=>by
  obtain⟨a,_,rfl⟩:=bF9.1 hc;exact (hf a).1
 have hi:(xs.map f)[k]?=some (f xs[k]):=by
  rw[bH4,bF0 hk];rfl
 have hsz:=hr.size;have hle:=hr.le
 have hks:k*sz+sz≤cur.size:=by
  have:(k+1)*sz≤cap*sz:=bH' _ bx6;rw[bO2,Nat.one_mul] at this;omega
 refine⟨g,cap,cur,rfl,rfl,hks,fun z=>⟨fun c hc=>?_,.inr ⟨g,cap,_,by simp,rfl,?_⟩⟩⟩
 ·obtain⟨a,_,rfl⟩:=bF9.1 hc;exact hf a
 ·have h2:=hr.put hall hi (k:=0) (vs:=f z) (by simp[(hf z).1]);have e2:((xs.set k z).map f).length=xs.length:=by simp
  rw[e2,bN6]
  have e3:List.take 0 (f xs[k])++f z++List.drop (0+(f z).length) (f xs[k])=f z:=by
   rw[bK1,bF5,List.drop_of_length_le (by rw[(hf z).1,(hf _).1];omega),bG3]
  rw[e3] at h2;exact h2
theorem UL{u:Value}{he hd:Hp}(es:List fE)(ds:List jv)(h1:Own 80 14 v he (es.map iw))(h2:Own 127 4 u hd (ds.map kZ))(hN:eX (he++hd) w)(hl:es.length<100000)(hl2:ds.length<100000):Fn Tryz.prog 184 [.agg #[v,u]].toArray w ((he++hd).map (·.b)) (fun r hn=>r=.tuple #[]):=by
 obtain⟨q,cap,ev⟩:=h1.opened;rw[bE9] at ev;subst ev;obtain⟨q2,cap2,ev2⟩:=h2.opened;rw[bE9] at ev2;subst ev2;refine eP _ hN Tryz.func184 ?_;refine run ?_;intro B;refine run ?_;refine aK (σ:=Nat×Hp×List fE) (fun s=>[(2,.int .i64 (s.1:Int))]) (fun s=>⟨B,#[.slice q es.length cap,.slice q2 ds.length cap2],72⟩::(s.2.1++hd)) (fun s=>s.1≤es.length∧s.2.2.length=es.length∧Own 80 14 (.slice q es.length cap) s.2.1 (s.2.2.map iw)) (fun s=>es.length-s.1) (0,he,es) ⟨bF4 _,rfl,h1⟩ ?_;rintro⟨k,h,ys⟩ m hm ⟨hk,hyl,hO⟩;dsimp only at hm hk hyl hO ⊢;refine run ?_;refine ah _ rfl (fun hc=>?_) (fun hc=>?_)
 ·have hlt:k<es.length:=by simp at hc;omega
  obtain⟨g,cap',cur,eg,rfl,hsz,hset⟩:=hO.ao1 aB2 bx7 (k:=k) bx6;rw[hyl] at eg;cases eg;simp only[bF2,bF5];refine run ?_;exact aF (k+1,[⟨g,putAt cur (k*14) (iw ⟨-9,0,0,false,0,0,0,0,false,false,false,false,false,0⟩),80⟩],ys.set k ⟨-9,0,0,false,0,0,0,0,false,false,false,false,false,0⟩) (hm:=by dsimp only;omega) ⟨hlt,by rw[bL5];exact hyl,hset _⟩ (h2:=by simp only[putAt,iw];(exact ak))
 refine run ?_;refine aK (σ:=Nat×Hp×List jv) (fun s=>[(3,.int .i64 (s.1:Int))]) (fun s=>⟨B,#[.slice q es.length cap,.slice q2 ds.length cap2],72⟩::s.2.1) (fun s=>s.1≤ds.length∧s.2.2.length=ds.length∧Own 127 4 (.slice q2 ds.length cap2) s.2.1 (s.2.2.map kZ)) (fun s=>ds.length-s.1) (0,hd,ds) ⟨bF4 _,rfl,h2⟩ (hh:=by (exact ak)) ?_;rintro⟨k2,h2',ys2⟩ m2 hm2 ⟨hk2,UG,hO2⟩;dsimp only at hm2 hk2 UG hO2 ⊢;refine run ?_;refine ah _ rfl (fun hc=>?_) (fun hc=>?_)
 ·have hlt:k2<ds.length:=by simp at hc;omega
  obtain⟨g,cap',cur,eg,rfl,hsz,hset⟩:=hO2.ao1 aB3 bx7 (k:=k2) bx6;rw[UG] at eg;cases eg;refine run ?_;exact aF (k2+1,[⟨g,putAt cur (k2*4) (kZ ⟨-9,0,0,0⟩),127⟩],ys2.set k2 ⟨-9,0,0,0⟩) (hm:=by dsimp only;omega) ⟨hlt,by rw[bL5];exact UG,hset _⟩ (h2:=by simp only[putAt,kZ];(exact ak))
 refine run ?_;exact fin0 rfl
theorem fP.get{α:Type}[Inhabited α]{O:α→Hp→Prop}:∀ {ts:List α} {h:Hp} {k:Nat},fP O (ts.drop k) h→k<ts.length→∃ a b,O (ts.getD k default) a∧fP O (ts.drop (k+1)) b∧aJ (a++b) h
 | [],_,_,_,hk=>absurd hk bx8
 | t::ts,h,0,hw,_=>hw
 | t::ts,h,k+1,hw,hk=>fP.get (ts:=ts) (k:=k) hw (by simpa using hk)
def cpS:jH:=⟨jy,-9,0,⟨[],[],none,0,none,0⟩⟩
def rgS:Am:={ jy with pc:=9 }
structure SpC where
 k:Nat
 xs:List jH
 h:Hp
 g:Hp
structure SpV where
 k:Nat
 xs:List fA
 h:Hp
 g:Hp
structure SpK where
 k:Nat
 xs:List ve
 h:Hp
structure SpR where
 k:Nat
 xs:List Am
 h:Hp
theorem EU{L:HL}(h:Bl L H)(hf:H.Fit)(hN:eX L.rest w):Fn Tryz.prog 101 [.agg #[L.wv,L.cv,L.vv,L.rv]].toArray w (L.rest.map (·.b)) (fun u hn=>u=.tuple #[]):=by
 have ecl:L.cs.length=H.cs.length:=by rw[←h.ec,bE9]
 have evl:L.vs.length=H.vs.length:=by rw[←h.ev,bE9]
 have hl:=hf.l;obtain⟨wv,cv,vv,rv,cs,vs,hw,hc,ht,hv,hz,hr⟩:=L;obtain⟨ws,cu,vu,rs⟩:=H;obtain⟨Ri,gw,MQ,gt,Fg,gz,gr,ec,ev⟩:=h;dsimp only at gw MQ gt Fg gz gr ec ev ecl evl hl Ri;have gw':=gw;obtain⟨q1,c1,e1⟩:=gw.opened;obtain⟨q2,c2,e2⟩:=MQ.opened;obtain⟨q3,c3,e3⟩:=Fg.opened;obtain⟨q4,c4,e4⟩:=gr.opened;rw[bE9] at e1 e2 e3 e4;subst e1 e2 e3 e4;simp only[HL.rest] at hN ⊢;refine eP _ hN Tryz.func101 ?_;refine run ?_;intro Hb;refine run ?_;refine je hw (⟨Hb,#[.slice q1 ws.length c1,.slice q2 cs.length c2,.slice q3 vs.length c3,.slice q4 rs.length c4],29⟩::(hc++(ht++(hv++(hz++hr))))) (fun wc hG=>IW ws Ri gw' hG.iY bx6) (fun v hn hv_=>?_) aU;subst hv_;refine aS (⟨Hb,#[.slice q1 ws.length c1,.slice q2 cs.length c2,.slice q3 vs.length c3,.slice q4 rs.length c4],29⟩::(hc++(ht++(hv++(hz++hr))))) ak ?_;refine run ?_;refine aK (σ:=SpC) (fun s=>[(2,.int .i64 (s.k:Int))]) (fun s=>⟨Hb,#[.slice q1 ws.length c1,.slice q2 cs.length c2,.slice q3 vs.length c3,.slice q4 rs.length c4],29⟩::(s.h++(s.g++(hv++(hz++hr))))) (fun s=>s.k≤cs.length∧s.xs.length=cs.length∧Own 74 19 (.slice q2 cs.length c2) s.h (s.xs.map qV)∧fP wM ((s.xs.map (·.t)).drop s.k) s.g) (fun s=>cs.length-s.k) ⟨0,cs,hc,ht⟩ ⟨bF4 _,rfl,MQ,gt⟩ (hh:=by (exact ak)) ?_;rintro⟨k,xs,h,g⟩ m hm ⟨hk,hxl,hB,hW⟩;dsimp only at hm hk hxl hB hW ⊢;refine run ?_;refine ah _ rfl (fun hc5=>?_) (fun hc5=>?_)
 ·have hlt:k<cs.length:=by simp at hc5;omega
  obtain⟨b,cap',cur,eg,rfl,hsz,mg,hput⟩:=hB.tH (k:=k) bx6;rw[hxl] at eg;cases eg;obtain⟨a,r,⟨o1,o2,CU,hO2,hb,hle1⟩,hW2,hle⟩:=fP.get hW bx9
  have hcp:(xs.map (·.t)).getD k default=(xs.getD k default).t:=by
   rw[bE',bE',bH4,bF0 (show k<xs.length by omega)];rfl
  rw[hcp] at CU hO2 hb;have hS:=hput 0 [.int .u64 0,.int .u64 0,.int .u64 0,.int .u64 0,.int .u64 0,.int .u64 0,.int .u64 0,.int .u64 0,.int .u64 0,.int .u64 0,.int .u64 0,.int .u64 0,.int .u64 0,.int .u64 0,.int .u64 0,.int .i64 (-9),.int .i64 0,.slice none 0 0,.slice none 0 0] cpS bx8 rfl ⟨rfl,rfl⟩;have h17:=mg 17 _ rfl;have h18:=mg 18 _ rfl;have hld:=CV h17 h18;generalize xs.getD k default=c at hld CU hO2 hb;refine tZ (mO.mk b cur 74::⟨Hb,#[.slice q1 ws.length c1,.slice (some ⟨b,0,none⟩) cs.length c2,.slice q3 vs.length c3,.slice q4 rs.length c4],29⟩::((o1++o2)++(r++(hv++(hz++hr))))) bA6 ?_;refine run ?_;refine je (o1++o2) (mO.mk b cur 74::⟨Hb,#[.slice q1 ws.length c1,.slice (some ⟨b,0,none⟩) cs.length c2,.slice q3 vs.length c3,.slice q4 rs.length c4],29⟩::(r++(hv++(hz++hr)))) (fun wc hG=>UL c.t.es c.t.ds CU hO2 hG.iY hb.1 hb.2) (fun v hn hv_=>?_) aU;subst hv_;refine aS (mO.mk b cur 74::⟨Hb,#[.slice q1 ws.length c1,.slice (some ⟨b,0,none⟩) cs.length c2,.slice q3 vs.length c3,.slice q4 rs.length c4],29⟩::(r++(hv++(hz++hr)))) ak ?_;refine run ?_
  have hdr:((xs.set k cpS).map (·.t)).drop (k+1)=(xs.map (·.t)).drop (k+1):=by
   rw[bN6,List.drop_set_of_lt (bV' k)]
  refine aF ⟨k+1,xs.set k cpS,[⟨b,putAt cur (k*19) [.int .u64 0,.int .u64 0,.int .u64 0,.int .u64 0,.int .u64 0,.int .u64 0,.int .u64 0,.int .u64 0,.int .u64 0,.int .u64 0,.int .u64 0,.int .u64 0,.int .u64 0,.int .u64 0,.int .u64 0,.int .i64 (-9),.int .i64 0,.slice none 0 0,.slice none 0 0],74⟩],r⟩ ⟨hlt,by dsimp only;rw[bL5];exact hxl,by dsimp only;rw[←hxl];exact hS,by dsimp only;rw[hdr];exact hW2⟩ (hm:=by dsimp only;omega) (h2:=by simp only[putAt];(exact ak))
 refine run ?_;refine aK (σ:=SpV) (fun s=>[(3,.int .i64 (s.k:Int))]) (fun s=>⟨Hb,#[.slice q1 ws.length c1,.slice q2 cs.length c2,.slice q3 vs.length c3,.slice q4 rs.length c4],29⟩::(s.h++(s.g++hr))) (fun s=>s.k≤vs.length∧s.xs.length=vs.length∧Own 62 6 (.slice q3 vs.length c3) s.h (s.xs.map mQ)∧fP TF (s.xs.drop s.k) s.g) (fun s=>vs.length-s.k) ⟨0,vs,hv,hz⟩ ⟨bF4 _,rfl,Fg,gz⟩ (hh:=by (exact ak)) ?_;rintro⟨k2,ys,h2,g2⟩ m2 hm2 ⟨hk2,hyl,hB2,hW2⟩;dsimp only at hm2 hk2 hyl hB2 hW2 ⊢;refine run ?_;refine ah _ rfl (fun hc6=>?_) (fun hc6=>?_)
 ·have hlt:k2<vs.length:=by simp at hc6;omega
  obtain⟨b,cap',cur,eg,rfl,hsz,mg,hput⟩:=hB2.tH (k:=k2) bx6;rw[hyl] at eg;cases eg;obtain⟨a,r,⟨o1,o2,o3,CU,hO2,hO3,hb,hle1⟩,hW3,hle⟩:=fP.get hW2 bx6;have hS:=hput 0 [.bool false,.bool false,.int .i64 0,.slice none 0 0,.slice none 0 0,.slice none 0 0] vm0 bx8 rfl ⟨rfl,rfl⟩;have n3:=mg 3 _ rfl;have n4:=mg 4 _ rfl;have n5:=mg 5 _ rfl;generalize ys.getD k2 default=vm at n3 n4 n5 CU hO2 hO3 hb;refine tZ (mO.mk b cur 62::⟨Hb,#[.slice q1 ws.length c1,.slice q2 cs.length c2,.slice (some ⟨b,0,none⟩) vs.length c3,.slice q4 rs.length c4],29⟩::(o1++(o2++(o3++(r++hr))))) bA6 ?_;refine run ?_;refine je o1 (mO.mk b cur 62::⟨Hb,#[.slice q1 ws.length c1,.slice q2 cs.length c2,.slice (some ⟨b,0,none⟩) vs.length c3,.slice q4 rs.length c4],29⟩::(o2++(o3++(r++hr)))) (fun wc hG=>BG vm.fs CU hG.iY hb.1) (fun v hn hv_=>?_) aU;subst hv_;refine aS (mO.mk b cur 62::⟨Hb,#[.slice q1 ws.length c1,.slice q2 cs.length c2,.slice (some ⟨b,0,none⟩) vs.length c3,.slice q4 rs.length c4],29⟩::(o2++(o3++(r++hr)))) ak ?_;refine run ?_;refine je o2 (mO.mk b cur 62::⟨Hb,#[.slice q1 ws.length c1,.slice q2 cs.length c2,.slice (some ⟨b,0,none⟩) vs.length c3,.slice q4 rs.length c4],29⟩::(o3++(r++hr))) (fun wc hG=>BG vm.fr hO2 hG.iY hb.2.1) (fun v hn hv_=>?_) aU;subst hv_;refine aS (mO.mk b cur 62::⟨Hb,#[.slice q1 ws.length c1,.slice q2 cs.length c2,.slice (some ⟨b,0,none⟩) vs.length c3,.slice q4 rs.length c4],29⟩::(o3++(r++hr))) ak ?_;refine run ?_;obtain⟨q5,c5,e5⟩:=hO3.opened;rw[bE9] at e5;rw[e5] at n5;rw[e5] at hO3;refine aK (σ:=SpK) (fun s=>[(4,.int .i64 (s.k:Int))]) (fun s=>mO.mk b cur 62::⟨Hb,#[.slice q1 ws.length c1,.slice q2 cs.length c2,.slice (some ⟨b,0,none⟩) vs.length c3,.slice q4 rs.length c4],29⟩::(s.h++(r++hr))) (fun s=>s.k≤vm.vs.length∧s.xs.length=vm.vs.length∧Own 102 16 (.slice q5 vm.vs.length c5) s.h (s.xs.map zF)) (fun s=>vm.vs.length-s.k) ⟨0,vm.vs,o3⟩ ⟨bF4 _,rfl,hO3⟩ (hh:=by (exact ak)) ?_;rintro⟨k3,zs,h3⟩ m3 QG ⟨hk3,hzl,hB3⟩;dsimp only at QG hk3 hzl hB3 ⊢;refine run ?_;refine ah _ rfl (fun hc7=>?_) (fun hc7=>?_)
  ·have hlt3:k3<vm.vs.length:=by simp at hc7;omega
   obtain⟨b3,cap3,uY,eg,rfl,hsz3,bg8,aN9⟩:=hB3.tH (k:=k3) bx6;rw[hzl] at eg;cases eg;have hS3:=aN9 0 [.int .u64 0,.int .u64 0,.int .u64 0,.int .u64 0,.int .u64 0,.int .u64 0,.int .u64 0,.int .u64 0,.int .u64 0,.int .u64 0,.int .u64 0,.int .u64 0,.int .u64 0,.int .u64 0,.int .u64 0,.int .i64 (-9)] ⟨jy,-9⟩ bx8 rfl ⟨rfl,rfl⟩;refine tZ (mO.mk b3 uY 102::mO.mk b cur 62::⟨Hb,#[.slice q1 ws.length c1,.slice q2 cs.length c2,.slice (some ⟨b,0,none⟩) vs.length c3,.slice q4 rs.length c4],29⟩::(r++hr)) ak ?_;refine run ?_;refine aF ⟨k3+1,zs.set k3 ⟨jy,-9⟩,[⟨b3,putAt uY (k3*16) [.int .u64 0,.int .u64 0,.int .u64 0,.int .u64 0,.int .u64 0,.int .u64 0,.int .u64 0,.int .u64 0,.int .u64 0,.int .u64 0,.int .u64 0,.int .u64 0,.int .u64 0,.int .u64 0,.int .u64 0,.int .i64 (-9)],102⟩]⟩ ⟨hlt3,by dsimp only;rw[bL5];exact hzl,by dsimp only;rw[←hzl];exact hS3⟩ (hm:=by dsimp only;omega) (h2:=by simp only[putAt];(exact ak))
  refine tZ (mO.mk b cur 62::⟨Hb,#[.slice q1 ws.length c1,.slice q2 cs.length c2,.slice (some ⟨b,0,none⟩) vs.length c3,.slice q4 rs.length c4],29⟩::(r++hr)) ak ?_;refine run ?_;refine aF ⟨k2+1,ys.set k2 vm0,[⟨b,putAt cur (k2*6) [.bool false,.bool false,.int .i64 0,.slice none 0 0,.slice none 0 0,.slice none 0 0],62⟩],r⟩ ⟨hlt,by dsimp only;rw[bL5];exact hyl,by dsimp only;rw[←hyl];exact hS,by dsimp only;rw[List.drop_set_of_lt (bV' k2)];exact hW3⟩ (hm:=by dsimp only;omega) (h2:=by simp only[putAt];(exact ak))
 refine run ?_;refine aK (σ:=SpR) (fun s=>[(5,.int .i64 (s.k:Int))]) (fun s=>⟨Hb,#[.slice q1 ws.length c1,.slice q2 cs.length c2,.slice q3 vs.length c3,.slice q4 rs.length c4],29⟩::s.h) (fun s=>s.k≤rs.length∧s.xs.length=rs.length∧Own 68 15 (.slice q4 rs.length c4) s.h (s.xs.map nY)) (fun s=>rs.length-s.k) ⟨0,rs,hr⟩ ⟨bF4 _,rfl,gr⟩ (hh:=by (exact ak)) ?_;rintro⟨k4,us,h4⟩ m4 hm4 ⟨hk4,Fa,hB4⟩;dsimp only at hm4 hk4 Fa hB4 ⊢;refine run ?_;refine ah _ rfl (fun hc8=>?_) (fun hc8=>?_)
 ·have hlt:k4<rs.length:=by simp at hc8;omega
  obtain⟨b,cap',cur,eg,rfl,hsz,mg,hput⟩:=hB4.tH (k:=k4) bx6;rw[Fa] at eg;cases eg;have hS:=hput 0 [.int .u64 0,.int .u64 0,.int .u64 0,.int .u64 0,.int .u64 0,.int .u64 0,.int .u64 0,.int .u64 0,.int .u64 9,.int .u64 0,.int .u64 0,.int .u64 0,.int .u64 0,.int .u64 0,.int .u64 0] rgS bx8 rfl ⟨rfl,rfl⟩;refine tZ (mO.mk b cur 68::[⟨Hb,#[.slice q1 ws.length c1,.slice q2 cs.length c2,.slice q3 vs.length c3,.slice (some ⟨b,0,none⟩) rs.length c4],29⟩]) ak ?_;refine run ?_;refine aF ⟨k4+1,us.set k4 rgS,[⟨b,putAt cur (k4*15) [.int .u64 0,.int .u64 0,.int .u64 0,.int .u64 0,.int .u64 0,.int .u64 0,.int .u64 0,.int .u64 0,.int .u64 9,.int .u64 0,.int .u64 0,.int .u64 0,.int .u64 0,.int .u64 0,.int .u64 0],68⟩]⟩ ⟨hlt,by dsimp only;rw[bL5];exact Fa,by dsimp only;rw[←Fa];exact hS⟩ (hm:=by dsimp only;omega) (h2:=by simp only[putAt];(exact ak))
 refine run ?_;exact fin0 rfl
end
def jf(F C:Nat):HyD:=⟨dO (F*8) (rD F 64),List.replicate C ⟨jy,0,0,[],[]⟩,List.replicate 4 ⟨false,false,0,[],[],[]⟩,List.replicate C jy⟩
def okE(r:Except Int PtD):Bool:=match r with | .ok _=>true | .error _=>false
def Rt(r:Except Int PtD):PtD:=match r with | .ok P=>P | .error _=>⟨[],[],[]⟩
theorem YO{r:Except Int PtD}(h:okE r=true):r=.ok (Rt r):=by
 cases r with
 | ok P=>rfl
 | error e=>cases h
def mW(C:Nat):HyD:=(jf 32 C).wJ 16 0
theorem YP:(jf 32 1).ok=true:=by decide +kernel
theorem YQ:(jf 32 2).ok=true:=by decide +kernel
theorem UM:(mW 1).ok=true:=by decide +kernel
theorem UN:(mW 2).ok=true:=by decide +kernel
theorem a02:∀ C,C<3→0<C→okE ((jf 32 C).aG.BR 0 ⟨5,0,16,0,0,0⟩)=true∧HyD.Uy (jf 32 C).aG (Rt ((jf 32 C).aG.BR 0 ⟨5,0,16,0,0,0⟩))=0:=by decide +kernel
theorem a03:okE ((mW 1).aG.BR 0 ⟨3,1,25,3,0,0⟩)=true:=by decide +kernel
theorem ao2:∀ C,C<3→(mW C).cs.length=C∧(mW C).vs.length=4:=by decide +kernel
theorem YR:((mW 1).zx 1 25 3).cs.length=1∧((mW 1).zx 1 25 3).vs.length=4∧(((mW 1).zx 1 25 3).vu 0).live=true:=by decide +kernel
def dead:kP:=⟨false,false,0,[],[],[]⟩
section
attribute [local irreducible] Hy St Ops DH dI jr iP gX DS iD lV
theorem YS(F C:Nat)(hF1:24≤F)(hF:F≤64)(hC1:1≤C)(hC:C≤3)(w:World):Fn Tryz.prog 39 [.int .i64 (F:Int),.int .i64 (C:Int)].toArray w [] (fun u hn=>∃ p1 c1 p2 c2 p3 c3 p4 c4,u=.agg #[.slice p1 (F*8) c1,.slice p2 C c2,.slice p3 4 c3,.slice p4 C c4]∧(F*8≤c1∧4≤c3)∧∀ w,Here hn w→Ed w (.slice p1 (F*8) c1) (.slice p2 C c2) (.slice p3 4 c3) (.slice p4 C c4) (dO (F*8) (rD F 64)) (List.replicate C Tm) (List.replicate 4 vm0) (List.replicate C jy)):=by
 refine enter Tryz.func39 ?_;refine run ?_;intro R;refine run ?_;refine bI (fun wc hG=>aa7 F C hF bx6 hC wc) ?_;rintro u hn ⟨pv,gv,ov,rfl,hP⟩;refine KE fun w1 hG1=>?_;have hP1:=hP w1 (fun b hb=>hG1.here b (bG4 _ hb));obtain⟨p1,pc1,rfl,_⟩:=hP1.pages.opened;obtain⟨p3,pc3,rfl,_⟩:=hP1.on.opened
 obtain⟨g,gc,rfl,_⟩:∃ g gc,gv=.slice g (iq F C).ay.length gc∧True:=by
  obtain⟨vv,mv,⟨⟨g,gc,e,_⟩,hl⟩,_⟩:=hP1.ay;simp only[bE9,bL0] at e hl;exact⟨g,gc,e,trivial⟩
 clear hP1 hG1;refine run ?_;intro X;refine drawM 10 [0,1,2,4,7] [3,5,6,8] [9] ?_;refine gI ?_;refine ku (fun wc hG=>Gz F bx6 hF (iq F C).pages Xk (hP wc (fun b hb=>hG.here b bD4)).pages) ?_ ?_
 ·obtain⟨v,h1,hO⟩:=I4 (e:=53) ((pU (F*8) (dw (iq F C).pages) 64).ws.map uV) (fun c hc=>by obtain⟨x,_,rfl⟩:=bF9.1 hc;exact⟨rfl,rfl⟩) (by rw[bE9,KT bx6,eG];omega);exact⟨_,h1,v,h1,rfl,hO,aJ.refl _⟩
 refine JY (m:=C) (sz:=19) (z:=.agg #[.int .u64 0,.int .u64 0,.int .u64 0,.int .u64 0,.int .u64 0,.int .u64 0,.int .u64 0,.int .u64 0,.int .u64 0,.int .u64 0,.int .u64 0,.int .u64 0,.int .u64 0,.int .u64 0,.int .u64 0,.int .i64 0,.int .i64 0,.slice none 0 0,.slice none 0 0]) ?_ bx6 (hcs:=by exact o6 [.int .u64 0,.int .u64 0,.int .u64 0,.int .u64 0,.int .u64 0,.int .u64 0,.int .u64 0,.int .u64 0,.int .u64 0,.int .u64 0,.int .u64 0,.int .u64 0,.int .u64 0,.int .u64 0,.int .u64 0,.int .i64 0,.int .i64 0,.slice none 0 0,.slice none 0 0] C 19 rfl bx6);refine JY (m:=4) (sz:=6) (z:=.agg #[.bool false,.bool false,.int .i64 0,.slice none 0 0,.slice none 0 0,.slice none 0 0]) ?_ bx6 (hcs:=by exact o6 [.bool false,.bool false,.int .i64 0,.slice none 0 0,.slice none 0 0,.slice none 0 0] 4 6 rfl bx6);refine JY (m:=C) (sz:=15) (z:=.agg #[.int .u64 0,.int .u64 0,.int .u64 0,.int .u64 0,.int .u64 0,.int .u64 0,.int .u64 0,.int .u64 0,.int .u64 0,.int .u64 0,.int .u64 0,.int .u64 0,.int .u64 0,.int .u64 0,.int .u64 0]) ?_ bx6 (hcs:=by exact o6 [.int .u64 0,.int .u64 0,.int .u64 0,.int .u64 0,.int .u64 0,.int .u64 0,.int .u64 0,.int .u64 0,.int .u64 0,.int .u64 0,.int .u64 0,.int .u64 0,.int .u64 0,.int .u64 0,.int .u64 0] C 15 rfl bx6);refine kL ?_;rintro _ _ ⟨Bh,rfl,rfl⟩ _ _ ⟨Bv,rfl,rfl⟩ _ _ ⟨Bc,rfl,rfl⟩ u hn2 ⟨v2,h2,rfl,hO,hle2⟩;rw[KT bx6] at hO;obtain⟨q,cap,e2,ao3⟩:=hO.oL;rw[bE9,eG] at e2 ao3;subst e2;refine uF ?_;refine jJ ?_;refine qZ ?_;simp only[bF2,bF5];obtain⟨CC,hCC⟩:∃ G:Array Value,G=((List.replicate C [.int .u64 0,.int .u64 0,.int .u64 0,.int .u64 0,.int .u64 0,.int .u64 0,.int .u64 0,.int .u64 0,.int .u64 0,.int .u64 0,.int .u64 0,.int .u64 0,.int .u64 0,.int .u64 0,.int .u64 0,.int .i64 0,.int .i64 0,.slice none 0 0,.slice none 0 0]).flatten).toArray:=⟨_,rfl⟩
 obtain⟨VC,hVC⟩:∃ G:Array Value,G=((List.replicate 4 [.bool false,.bool false,.int .i64 0,.slice none 0 0,.slice none 0 0,.slice none 0 0]).flatten).toArray:=⟨_,rfl⟩
 obtain⟨RC,hRC⟩:∃ G:Array Value,G=((List.replicate C [.int .u64 0,.int .u64 0,.int .u64 0,.int .u64 0,.int .u64 0,.int .u64 0,.int .u64 0,.int .u64 0,.int .u64 0,.int .u64 0,.int .u64 0,.int .u64 0,.int .u64 0,.int .u64 0,.int .u64 0]).flatten).toArray:=⟨_,rfl⟩
 rw[←hCC,←hVC,←hRC];refine aS (⟨R,#[.slice none 0 0,.slice none 0 0,.slice none 0 0,.slice none 0 0],29⟩::⟨Bh,RC,68⟩::⟨Bv,VC,62⟩::⟨Bc,CC,74⟩::h2) (cnt1 hle2) ?_;refine run ?_;refine dQ (cs:=#[.slice q (F*8) cap,.slice (some ⟨Bc,0,none⟩) C C,.slice (some ⟨Bv,0,none⟩) 4 4,.slice (some ⟨Bh,0,none⟩) C C]) ?_;subst hCC hVC hRC;exact⟨_,_,_,_,_,_,_,_,rfl,⟨ao3,bG0 4⟩,fun w' hw'=>⟨lT.dO (QB _ _),hO.lie (hw'.sub fun e he=>by simp[he]) (by simp[eG];omega),Ap.zero (t:=74) (hw' _ (.tail _ (.tail _ (.tail _ (.head _))))) bx6,yR.zero (t:=62) (hw' _ (.tail _ (.tail _ (.head _)))) bx6,ab5 (t:=68) (hw' _ (.tail _ (.head _))) bx6⟩⟩
theorem zA(n:Int)(w:World):Fn Tryz.prog 17 [.int .i64 n].toArray w [] (fun u _=>u=.int .i64 n):=by
 refine enter Tryz.func17 ?_;refine run ?_;exact fin1 rfl
theorem rV{x:Int}(h:-1000≤x∧x≤1000):I64 x:=by unfold I64;omega
theorem UO(F C:Nat)(hF:F≤64)(hC:C≤3):(jf F C).Fit:=by
 refine⟨⟨by simp[jf,eG];omega,by simp[jf];omega,by simp[jf],by simp[jf];omega⟩,fun c hc=>?_,fun v hv=>?_⟩
 ·rw[bN0 hc];exact⟨by decide,by decide,rV bx7,rV bx7⟩
 ·rw[bN0 hv];exact⟨by decide,by decide,by decide,by simp,by simp,by simp⟩
theorem YT{F C:Nat}(hF:F≤64)(hC:C≤3){p1 p2 p3 p4:Option Addr}{c1 c2 c3 c4:Nat}(h:Ed w (.slice p1 (F*8) c1) (.slice p2 C c2) (.slice p3 4 c3) (.slice p4 C c4) (dO (F*8) (rD F 64)) (List.replicate C Tm) (List.replicate 4 vm0) (List.replicate C jy))(h1:F*8≤c1)(h3:4≤c3):vw w (.slice p1 (F*8) c1) (.slice p2 C c2) (.slice p3 4 c3) (.slice p4 C c4) (jf F C):=by
 refine⟨UO F C hF hC,⟨p3,c3,by simp[jf],by simp[jf];exact h3⟩,⟨p1,c1,by simp[jf,eG],by simp[jf,eG];exact h1⟩,List.replicate C Tm,List.replicate 4 vm0,by rw[List.map_replicate];rfl,by rw[List.map_replicate];rfl,fun c hc=>by rw[bN0 hc];decide,h⟩
def Jw(P:PtD):Bool:=decide (P.pages.length≤1000)&&decide (P.ay.length≤1000)&&decide (P.on.length≤1000)&&allB P.ay.length fun i=>decide ((P.gs i).aN.length≤1000)&&decide ((P.gs i).maps.length≤1000)
theorem MV(h:Jw P=true):P.Small 1000:=by
 simp only[Jw,bE8,decide_eq_true_eq] at h;refine⟨h.1.1.1,h.1.1.2,h.1.2,fun i hi=>?_⟩;have:=aI.1 h.2 i hi;simpa only [bE8,decide_eq_true_eq] using this
theorem HyD.lI.of(hok:H.ok=true)(hw:lT H.ws):H.lI:=by
 simp only[HyD.ok,bE8] at hok;obtain⟨⟨⟨h1,⟨h2,h3⟩,h4⟩,h5⟩,h6⟩:=hok;have hL:=jm h1;refine⟨hL.m,hw,HostT.of hL h3,hL.c1,hL.c3,hL.r,hL.v,fun c hc=>?_⟩;obtain⟨j,hj,rfl⟩:=bP8 hc;have:=aI.1 h6 j hj;simp only[HyD.sound,bE8] at this;have h9:=this.1;rw[show H.cu j=H.cs[j] by unfold HyD.cu;rw[bE',bF0 hj];rfl] at h9;exact h9
theorem MW:∀ C,C<3→Jw (jf 32 C).aG=true:=by decide +kernel
theorem YU:∀ C,C<3→0<C→(Rt ((jf 32 C).aG.BR 0 ⟨5,0,16,0,0,0⟩)).may=true:=by decide +kernel
theorem YV:∀ C,C<3→0<C→(jf 32 C).ok=true:=by
 intro C h1 h2
 match C,h1,h2 with
 | 1,_,_=>exact YP
 | 2,_,_=>exact YQ
theorem MX(C:Nat)(h1:C<3)(h2:0<C){vv rv:Value}(h:vw w wv cv vv rv (jf 32 C)):Fn Tryz.prog 16 [.agg #[wv,cv,vv,rv],.int .i64 ((0:Nat):Int),uo ⟨5,0,16,0,0,0⟩].toArray w [] (Hf (mW C)):=by
 have hok:=YV C h1 h2;have hw64:lT (jf 32 C).ws:=lT.dO (QB _ _);have hW:=HyD.lI.of hok hw64;have hmay:(jf 32 C).aG.may=true:=by simp only[HyD.ok,bE8] at hok;exact hok.1.1.2.1.1
 obtain⟨hd,hn⟩:=a02 C h1 h2;have hsv:mW C=(jf 32 C).wJ 16 (HyD.Uy (jf 32 C).aG (Rt ((jf 32 C).aG.BR 0 ⟨5,0,16,0,0,0⟩))):=by rw[hn];rfl
 rw[hsv];have hcl:0<(jf 32 C).cs.length:=by simp[jf];exact h2
 refine Jt aZ8 h hok 0 hcl ⟨5,0,16,0,0,0⟩ rfl (by constructor<;>exact rV bx7) (YO hd) (MV (MW C h1)) (fun L X p4 p5 p6 p7 p8 p9 n4 n5 n6 n7 n8 n9 k4 k5 k6 k7 k8 k9 wc hL hN hP hPo hP2 UD=>?_);exact MP hL hW hcl rfl ⟨by decide,by simp[jf,eG]⟩ (wH hmay) (wH (YU C h1 h2)) hP hPo hP2 UD hN
def smI(x:Int):Bool:=decide (-1000≤x)&&decide (x≤1000)
theorem MZ{x:Int}(h:smI x=true):I64 x:=by
 simp only[smI,bE8,decide_eq_true_eq] at h;exact rV h
def aB6(H:HyD):Bool:=decide (H.ws.length<100000)&&decide (H.cs.length<100000)&&decide (H.vs.length<100000)&&decide (H.rs.length<100000)&&H.cs.all (fun c=>decide (c.es.length<100000)&&decide (c.ds.length<100000)&&smI c.vm&&smI c.vc)&&H.vs.all fun v=>decide (v.fs.length<100000)&&decide (v.fr.length<100000)&&decide (v.vs.length<100000)&&v.fs.all smI&&v.fr.all smI&&v.vs.all fun c=>smI c.on
theorem aB7(h:aB6 H=true):H.Fit:=by
 simp only[aB6,bE8,decide_eq_true_eq,bF1] at h;obtain⟨⟨⟨⟨⟨h1,h2⟩,h3⟩,h4⟩,h5⟩,h6⟩:=h;exact⟨⟨h1,h2,h3,h4⟩,fun c hc=>⟨(h5 c hc).1.1.1,(h5 c hc).1.1.2,MZ (h5 c hc).1.2,MZ (h5 c hc).2⟩,fun v hv=>⟨(h6 v hv).1.1.1.1.1,(h6 v hv).1.1.1.1.2,(h6 v hv).1.1.1.2,fun x hx=>MZ ((h6 v hv).1.1.2 x hx),fun x hx=>MZ ((h6 v hv).1.2 x hx),fun x hx=>MZ ((h6 v hv).2 x hx)⟩⟩
theorem aN':∀ C,C<3→aB6 (mW C)=true:=by decide +kernel
def aO0(ws:List Nat):Bool:=ws.all fun x=>decide (x<18446744073709551616)
theorem aB8{ws:List Nat}(h:aO0 ws=true):lT ws:=fun x hx=>by
 have:=bF1.1 h x hx;simpa using this
theorem aO1:∀ C,C<3→aO0 (mW C).ws=true:=by decide +kernel
theorem ai4:∀ C,C<3→Jw (mW C).aG=true:=by decide +kernel
theorem Na:∀ C,C<3→0<C→(mW C).ok=true:=by
 intro C h1 h2
 match C,h1,h2 with
 | 1,_,_=>exact UM
 | 2,_,_=>exact UN
theorem Nc{L:HL}(hL:Bl L (mW 1))(hh:Here L.rest w):Fn Tryz.prog 16 [.agg #[L.wv,L.cv,L.vv,L.rv],.int .i64 ((0:Nat):Int),uo ⟨3,1,25,3,0,0⟩].toArray w [] (Hf ((mW 1).zx 1 25 3)):=by
 have hW:=HyD.lI.of (Na 1 bx7 bx7) (aB8 (aO1 1 bx7));refine Jt aZ7 (hL.hv (aB7 (aN' 1 bx7)) hh) (Na 1 bx7 bx7) 0 (bR8 Nat.zero_lt_one hW.c1) ⟨3,1,25,3,0,0⟩ rfl (by constructor<;>exact rV bx7) (YO a03) (MV (ai4 1 bx7)) (fun L X p4 p5 p6 p7 p8 p9 n4 n5 n6 n7 n8 n9 k4 k5 k6 k7 k8 k9 wc hL hN hP hPo hP2 UD=>?_);exact MR hL hW (bR8 Nat.zero_lt_one hW.c1) rfl bx7 bx7 bD6 hN
theorem ao4{L:HL}(h:Bl L H){n:Nat}(hn:H.cs.length=n):L.cs.length=n:=by
 have:=congrArg List.length h.ec;rw[bE9] at this;omega
theorem ao5{L:HL}(h:Bl L H){n:Nat}(hn:H.vs.length=n):L.vs.length=n:=by
 have:=congrArg List.length h.ev;rw[bE9] at this;omega
theorem UQ(w:World):Fn Tryz.prog 20 [].toArray w [] (fun u _=>u=.bool true):=by
 refine enter Tryz.func20 ?_;refine run ?_;refine bI (fun wc hG=>YS 32 1 bx7 bx7 bx7 bx7 wc) ?_;rintro _ hn ⟨p1,c1,p2,c2,p3,c3,p4,c4,rfl,⟨hc1,hc3⟩,hH⟩;refine run ?_;refine bI (fun wc hG=>MX 1 bx7 bx7 (YT bx7 bx7 (hH wc (fun e he=>hG.here e bz8)) hc1 hc3)) ?_;rintro _ hn2 ⟨L,rfl,hL,hle⟩;have aO2:=ao4 hL (ao2 1 bx7).1;have aO3:=ao5 hL (ao2 1 bx7).2;obtain⟨wvx,cvx,vvx,rvx,csx,vsx,hwx,hcx,htx,hvx,hzx,hrx⟩:=L;obtain⟨ax1,bx1,fx1⟩:=hL.w.opened;obtain⟨ax2,bx2,fx2⟩:=hL.c.opened;obtain⟨ax3,bx3,fx3⟩:=hL.v.opened;obtain⟨ax4,bx4,fx4⟩:=hL.r.opened;dsimp only at aO2 aO3 fx1 fx2 fx3 fx4;rw[bE9,aO2] at fx2;rw[bE9,aO3] at fx3;subst fx1 fx2 fx3 fx4;refine run ?_;intro Eb;refine run ?_;refine bI (fun wc hG=>Nc hL (fun e he=>hG.here e (by have:=hle.mem he;simp[this]))) ?_;rintro _ hn3 ⟨M,rfl,hM,hle3⟩;have aO4:=ao4 hM YR.1;have aB9:=ao5 hM YR.2.1;obtain⟨wvy,cvy,vvy,rvy,csy,vsy,hwy,hcy,hty,hvy,hzy,hry⟩:=M;obtain⟨ay1,by1,fy1⟩:=hM.w.opened;obtain⟨ay2,by2,fy2⟩:=hM.c.opened;obtain⟨ay3,by3,fy3⟩:=hM.v.opened;obtain⟨ay4,by4,fy4⟩:=hM.r.opened;dsimp only at aO4 aB9 fy1 fy2 fy3 fy4;rw[bE9,aO4] at fy2;rw[bE9,aB9] at fy3;subst fy1 fy2 fy3 fy4;obtain⟨g,cap,cur,e7,rfl,hsz,mg,_⟩:=hM.v.tH (k:=0) (by dsimp only;omega);dsimp only at e7;rw[aB9] at e7;cases e7;have n0:=mg 0 _ rfl
 have hlv:(vsy.getD 0 default).live=true:=by
  have:=rG hM.ev 0;have h2:=congrArg kP.live this;exact h2.trans YR.2.2
 rw[hlv] at n0;simp only[bO6,bH5] at n0;simp only[HL.rest] at hle3;dsimp only;refine aS (⟨Eb,#[.slice ax1 (List.map uV (mW 1).ws).length bx1,.slice ax2 1 bx2,.slice ax3 4 bx3,.slice ax4 (List.map nY (mW 1).rs).length bx4],29⟩::⟨g,cur,62⟩::[]) (cnt1 hle3) ?_;refine run ?_;refine az (fun wc hG=>zA 0 wc) ?_;refine aC ?_;refine bH (fun _ wc hG=>zA 0 wc) ?_;refine aC ?_;exact fin1 rfl
end
section
namespace HyD
variable {H : HyD}
theorem aB'(h:H.ok=true):H.aG.may=true:=by simp only[HyD.ok,bE8] at h;exact h.1.1.2.1.1
theorem EW(h:H.ok=true):H.aG.Small 1000:=by
 have hm:=aB' h;have h2:=PtD.ag9.1 hm;refine⟨by have:=h2.n1;omega,by have:=h2.g4;omega,by have:=h2.o3;omega,fun i hi=>?_⟩;have hi4:i<4:=by have:=h2.g4;omega
 refine⟨?_,by have:=PtD.EK hm hi4;omega⟩
 cases hl:(H.aG.gs i).live with
 | true=>have:=(h2.We i hi4 hl).vl;omega
 | false=>rw[(h2.dead i hi4 hl).vc];simp
theorem aO5{i:Nat}(hi:i<4)(hl:(H.aG.gs i).live=true):(H.aG.gs i).aN.length=(H.vu i).vs.length:=by
 obtain⟨_,hp2,_⟩:=rM H;rw[hp2 i hi] at hl ⊢;unfold bU at hl ⊢
 cases hv:(H.vu i).live with
 | true=>rw[hv] at hl;simp
 | false=>rw[hv] at hl;cases hl
theorem MB{n:Int}(h:1≤n∧n≤4):ix n<4:=by unfold ix;omega
theorem ai5(h:H.ok=true){cpu:Nat}(hc:cpu<H.cs.length){c:xR}(hk:c.kind=7){P2:PtD}(hd:H.aG.BR cpu c=.ok P2):(H.aG.st cpu).vm=0∧(1≤c.vm∧c.vm≤4)∧(H.vu (c.vm-1).toNat).vs.length<2:=by
 obtain⟨K,vm,fr,mid,vc,cc⟩:=c;dsimp only at hk ⊢;subst hk;unfold PtD.BR at hd;by_cases hv:(H.aG.st cpu).vm=0
 ·rw[hv] at hd;simp only[PtD.EM,PtD.moreL] at hd;revert hd
  cases hb:PtD.dm vm 1 4 with
  | false=>intro hd;simp at hd
  | true=>
   simp only[PtD.dm,bE8,decide_eq_true_eq] at hb
   cases hl:(H.aG.gs (ix vm)).live with
   | false=>intro hd;simp at hd
   | true=>
    have hg:=aO5 (MB hb) hl
    cases hb2:decide (2≤(H.aG.gs (ix vm)).aN.length) with
    | true=>intro hd;simp[hb2] at hd
    | false=>
     intro _;simp only[decide_eq_false_iff_not] at hb2;rw[hg] at hb2;exact⟨hv,hb,by unfold ix at hb2;omega⟩
 ·rw[decide_eq_false hv] at hd;simp[PtD.xK] at hd
end HyD
end
section
attribute [local irreducible] Hy St Ops DH dI jr iP gX DS iD lV
section
variable {L : HL} {H : HyD} {cpu : Nat} {c : xR} {X : Nat} {pv gv ov : Value} {w : World} {p7 p8 p9 : Option Addr} {n7 n8 n9 k7 k8 k9 : Nat}
end
namespace HyD
variable {H : HyD}
def a09(v:kP):Prop:=v.fs.length<100000∧v.fr.length<100000∧v.vs.length<100000∧(∀ x∈v.fs,I64 x)∧(∀ x∈v.fr,I64 x)∧(∀ c∈v.vs,I64 c.on)
theorem aC0(hf:H.Fit){k:Nat}(hk:k<H.vs.length):a09 (H.vu k):=hf.v _ (getD_mem (l:=H.vs) hk)
theorem ai6{n:Int}(h:-1≤n∧n<100000):I64 n:=by unfold I64;omega
end HyD
def aC1(K:Int):Prop:=(PK K∧RK K)∧∀ (H:HyD) (cpu:Nat) (c:xR) (P2:PtD),H.ok=true→lT H.ws→H.Fit→cpu<H.cs.length→c.kind=K→c.Wf→H.aG.BR cpu c=.ok P2→∃ H2:HyD,H2.Fit ∧
 (∀ w wv cv vv rv,vw w wv cv vv rv H→Fn Tryz.prog 16 [.agg #[wv,cv,vv,rv],.int .i64 (cpu:Int),uo c].toArray w [] (Hf H2)) ∧
 (∀ w wv cv vv rv,vw w wv cv vv rv H→Fn Tryz.prog 99 [.agg #[wv,cv,vv,rv],.int .i64 (cpu:Int),uo c].toArray w [] (Hf H2))
theorem aC2:aC1 7:=by
 refine⟨⟨aN7,aN8⟩,?_⟩;intro H cpu c P2 hok h64 hf qo hk hw hd;have hW:=HyD.lI.of hok h64;have hs:=HyD.EW hok;obtain⟨hv0,hvm,qB⟩:=HyD.ai5 hok qo hk hd;have hi:(c.vm-1).toNat<H.vs.length:=by rw[hW.v];omega
 have fv:=HyD.aC0 hf hi;have hl:=hf.l;refine⟨H.BF c.vm,?_,fun w wv cv vv rv h=>Jt aN7 h hok cpu qo c hk hw hd hs fun L X p4 p5 p6 p7 p8 p9 n4 n5 n6 n7 n8 n9 k4 k5 k6 k7 k8 k9 w hL hN _ _ _ _=>UH hL hW qo hk hvm bx6 hN,fun w wv cv vv rv h=>ai3 aN8 h hok cpu qo c hk hw hd hs (fun _ L X p4 p5 p6 p7 p8 p9 n4 n5 n6 n7 n8 n9 k4 k5 k6 k7 k8 k9 w hL hN _ _ _ _=>MS hL hW qo hk hvm bx6 hN) (fun hg=>absurd hg bx6)⟩;refine⟨by simpa only [HyD.BF,HyD.PG,bL5] using hl,hf.c,fun v hv=>?_⟩;rcases bV2 hv with h | rfl
 ·exact hf.v _ h
 ·refine⟨fv.1,fv.2.1,by simp only[bG9,bM4];omega,fv.2.2.2.1,fv.2.2.2.2.1,fun x hx=>?_⟩;rcases bH1.1 hx with h | h
  ·exact fv.2.2.2.2.2 _ h
  ·rw[bJ4.1 h];exact HyD.ai6 bx7
end
section
attribute [local irreducible] Hy St Ops DH dI jr iP gX DS iD lV
theorem aC3{a b:List jH}(h:a.map jH.u=b.map jH.u):a.map jH.core=b.map jH.core:=by
 have:jH.core=(fun u:Nr=>(u.r,u.vm,u.vc,u.es,u.ds)) ∘ jH.u:=rfl;rw[this,←bU1,h,bU1]
theorem aC4{a b:List fA}(h:a.map fA.u=b.map fA.u):a.map fA.core=b.map fA.core:=by
 have:fA.core=(fun u:kP=>(u.live,u.dying,u.aO,u.fs,u.fr,u.vs)) ∘ fA.u:=rfl;rw[this,←bU1,h,bU1]
theorem Ru(w:World):Fn Tryz.prog 100 [(.agg #[.slice none 0 0,.slice none 0 0,.slice none 0 0,.slice none 0 0]),(.agg #[.slice none 0 0,.slice none 0 0,.slice none 0 0,.slice none 0 0])].toArray w [] (fun r _=>r=.bool true):=
 QE [] [] [] [] [] [] _ _ _ _ _ _ _ _ rfl rfl (gV _ _) (gV _ _) ⟨gV _ _,by simp,by simp⟩ ⟨gV _ _,by simp,by simp⟩ ⟨gV _ _,by simp,by simp,by simp⟩ ⟨gV _ _,by simp,by simp,by simp⟩ (gV _ _) (gV _ _)
theorem BH(w:World):Fn Tryz.prog 101 [(.agg #[.slice none 0 0,.slice none 0 0,.slice none 0 0,.slice none 0 0])].toArray w [] (fun u _=>u=.tuple #[]):=
 EU (L:=⟨.slice none 0 0,.slice none 0 0,.slice none 0 0,.slice none 0 0,[],[],[],[],[],[],[],[]⟩) (H:=⟨[],[],[],[]⟩) ⟨fun _ h=>by simp at h,Own.nil _ _,Own.nil _ _,trivial,Own.nil _ _,trivial,Own.nil _ _,rfl,rfl⟩ ⟨by decide,by simp,by simp⟩ ⟨fun _ h=>by simp[HL.rest] at h,by simp[HL.rest]⟩
theorem xP{a b c d a' b' c' d':Value}(h:vw w a b c d H)(h2:vw w a' b' c' d' H):Fn Tryz.prog 100 [.agg #[a,b,c,d],.agg #[a',b',c',d']].toArray w [] (fun r _=>r=.bool true):=by
 obtain⟨cs,vs,e1,e2,_,hH⟩:=h.ex;obtain⟨cs2,vs2,f1,f2,_,hH2⟩:=h2.ex;exact QE H.ws cs cs2 vs vs2 H.rs _ _ _ _ _ _ _ _ (aC3 (e1.trans f1.symm)) (aC4 (e2.trans f2.symm)) hH.ws hH2.ws hH.cs hH2.cs hH.vs hH2.vs hH.rs hH2.rs
theorem YW{K:Int}(hK:aC1 K){vv rv:Value}(h:vw w wv cv vv rv H)(k_ n_ rW lC xN PO:Int)(cpu:Nat)(qo:cpu<H.cs.length)(hk:k_=K)(hw:xR.Wf ⟨k_,n_,rW,lC,xN,PO⟩):Fn Tryz.prog 40 [.agg #[wv,cv,vv,rv],.agg #[.int .i64 (cpu:Int),.int .i64 k_,.int .i64 n_,.int .i64 rW,.int .i64 lC,.int .i64 xN,.int .i64 PO,.bool false]].toArray w [] (fun u _=>∃ p1 p2 p3 p4:Option Addr,∃ n1 n2 n3 n4 c1 c2 c3 c4:Nat,u=.tuple #[.agg #[.slice p1 n1 c1,.slice p2 n2 c2,.slice p3 n3 c3,.slice p4 n4 c4],.bool true]):=by
 have h':=h;obtain⟨cs,vs,e1,e2,_,hH⟩:=h.ex;have hcl:cs.length=H.cs.length:=by rw[←e1,bE9]
 obtain⟨q,cap,rfl,hne,_⟩:=hH.ws.opened;obtain⟨q2,cap2,rfl,hne2,_⟩:=hH.cs.rows.opened;obtain⟨q3,cap3,rfl,jF,_⟩:=hH.vs.rows.opened;obtain⟨q4,cap4,rfl,oQ,_⟩:=hH.rs.opened;refine enter Tryz.func40 ?_;refine run ?_;intro Hb Ab Wb;refine run ?_;refine az (fun wc hG=>ax9 (h'.good hG)) ?_;rw[ay8];refine run ?_;refine bI (fun wc hG=>Ju (h'.good hG)) ?_;rintro _ hn3 ⟨L,rfl,hL3,hle3⟩;have hLv:=fun (wc:World) (hh:Here L.rest wc)=>hL3.hv h'.fit hh;obtain⟨wv0,cv0,vv0,rv0,cs0,Jv,hw0,hc0,ht0,hv0,hz0,hr0⟩:=L;obtain⟨y1,y2,y3⟩:=hL3.w.opened;obtain⟨y4,y5,y6⟩:=hL3.c.opened;obtain⟨y7,y8,y9⟩:=hL3.v.opened;obtain⟨Ro,Rq,y12⟩:=hL3.r.opened;dsimp only at y3 y6 y9 y12 hLv;subst y3 y6 y9 y12;simp only[HL.rest] at hle3 hLv;refine aS (⟨Wb,#[.slice none 0 0,.slice none 0 0,.slice none 0 0,.slice none 0 0],29⟩::⟨Ab,#[.int .i64 (cpu:Int),.int .i64 k_,.int .i64 n_,.int .i64 rW,.int .i64 lC,.int .i64 xN,.int .i64 PO,.bool false],39⟩::⟨Hb,#[.slice q H.ws.length cap,.slice q2 cs.length cap2,.slice q3 vs.length cap3,.slice q4 H.rs.length cap4],29⟩::(hw0++(hc0++(ht0++(hv0++(hz0++hr0)))))) (cnt1 hle3) ?_;refine run ?_;intro Ib;refine run ?_;have hin:∀ (wc:World) (hp:Hp),Good w [] hp wc→(∀ e∈(hw0++(hc0++(ht0++(hv0++(hz0++hr0))))),e∈hp)→vw wc (.slice y1 (List.map uV H.ws).length y2) (.slice y4 (List.map qV cs0).length y5) (.slice y7 (List.map mQ Jv).length y8) (.slice Ro (List.map nY H.rs).length Rq) H:=fun wc hp hG hm=>hLv wc (fun e he=>hG.here e (hm e he))
 cases hok:H.ok with
 | false=>
  refine aP ?_;intro Xb Nb;refine aP ?_;refine az (fun wc hG=>UJ (hin wc _ hG (fun e he=>by7)) hok (cpu:Int) ⟨k_,n_,rW,lC,xN,PO⟩) ?_;refine aP ?_;refine az (fun wc hG=>zA _ wc) ?_;refine aP ?_;refine bH (fun hg wc hG=>Ru wc) ?_;refine aP ?_;refine bH (fun hg wc hG=>xP (hin wc _ hG (fun e he=>by7)) (h'.good hG)) ?_;refine aP ?_;refine az (fun wc hG=>BH wc) ?_;refine aP ?_;refine az (fun wc hG=>xP (hin wc _ hG (fun e he=>by7)) (h'.good hG)) ?_;refine aP ?_
  exact fZ ⟨_,_,_,_,_,_,_,_,_,_,_,_,rfl⟩
 | true=>
  refine aP ?_;refine bH (fun hg wc hG=>I9 _ _ wc) ?_;rw[show (decide (0≤(cpu:Int))&&decide ((cpu:Int)≤(cs.length:Int)-1))=true by simp;omega];refine aP ?_;intro Xb Nb;refine aP ?_
  cases hd:H.aG.BR cpu ⟨k_,n_,rW,lC,xN,PO⟩ with
  | error e=>
   refine az (fun wc hG=>YL hK.1.1 (hin wc _ hG (fun e he=>by7)) hok cpu qo ⟨k_,n_,rW,lC,xN,PO⟩ hk hw hd (HyD.EW hok)) ?_;refine aP ?_;obtain⟨e',he'⟩:∃ e',e'=e:=⟨_,rfl⟩
   refine az (fun wc hG=>YN hK.1.2 (h'.good hG) hok cpu qo ⟨k_,n_,rW,lC,xN,PO⟩ hk hw (e:=e') (by rw[he'];exact hd) (HyD.EW hok)) ?_;refine aP ?_;refine az (fun wc hG=>zA _ wc) ?_;refine aP ?_;rw[show (!decide (e=e'))=false by simp[he']];refine bH (fun hg wc hG=>Ru wc) ?_;refine aP ?_;refine bH (fun hg wc hG=>xP (hin wc _ hG (fun e he=>by7)) (h'.good hG)) ?_;refine aP ?_;refine az (fun wc hG=>BH wc) ?_;refine aP ?_;refine az (fun wc hG=>xP (hin wc _ hG (fun e he=>by7)) (h'.good hG)) ?_;refine aP ?_;refine ah _ rfl (fun hc=>absurd hc (by rw[he'];simp[PtD.xO _ _ _ _ hd])) (fun hc=>?_);refine aP ?_
   exact fZ ⟨_,_,_,_,_,_,_,_,_,_,_,_,rfl⟩
  | ok P2=>
   obtain⟨H2,hf2,hA,hB⟩:=hK.2 H cpu ⟨k_,n_,rW,lC,xN,PO⟩ P2 hok hH.CS h'.fit qo hk hw hd;refine bI (fun wc hG=>hA _ _ _ _ _ (hin wc _ hG (fun e he=>by7))) ?_;rintro _ hnx ⟨Lx,rfl,hLx,hlex⟩;have hXv:=fun (wc:World) (hh:Here Lx.rest wc)=>hLx.hv hf2 hh;have hsp:=fun (wc:World) (hh:eX Lx.rest wc)=>EU hLx hf2 hh;obtain⟨wvx,cvx,vvx,rvx,csx,vsx,hwx,hcx,htx,hvx,hzx,hrx⟩:=Lx;obtain⟨x1,x2,x3⟩:=hLx.w.opened;obtain⟨x4,x5,x6⟩:=hLx.c.opened;obtain⟨x7,x8,x9⟩:=hLx.v.opened;obtain⟨x10,x11,x12⟩:=hLx.r.opened;dsimp only at x3 x6 x9 x12 hXv hsp;subst x3 x6 x9 x12;simp only[HL.rest] at hlex hXv hsp;refine aS (⟨Xb,#[.slice none 0 0,.slice none 0 0,.slice none 0 0,.slice none 0 0],29⟩::⟨Nb,#[.slice none 0 0,.slice none 0 0,.slice none 0 0,.slice none 0 0],29⟩::⟨Ib,#[.slice y1 (List.map uV H.ws).length y2,.slice y4 (List.map qV cs0).length y5,.slice y7 (List.map mQ Jv).length y8,.slice Ro (List.map nY H.rs).length Rq],29⟩::⟨Wb,#[.slice none 0 0,.slice none 0 0,.slice none 0 0,.slice none 0 0],29⟩::⟨Ab,#[.int .i64 (cpu:Int),.int .i64 k_,.int .i64 n_,.int .i64 rW,.int .i64 lC,.int .i64 xN,.int .i64 PO,.bool false],39⟩::⟨Hb,#[.slice q H.ws.length cap,.slice q2 cs.length cap2,.slice q3 vs.length cap3,.slice q4 H.rs.length cap4],29⟩::((hwx++(hcx++(htx++(hvx++(hzx++hrx)))))++(hw0++(hc0++(ht0++(hv0++(hz0++hr0))))))) (cnt1 hlex) ?_;refine aP ?_;refine bI (fun wc hG=>hB _ _ _ _ _ (h'.good hG)) ?_;rintro _ hny ⟨Ly,rfl,hLy,aO7⟩;have hYv:=fun (wc:World) (hh:Here Ly.rest wc)=>hLy.hv hf2 hh;obtain⟨wvy,cvy,vvy,rvy,csy,vsy,hwy,hcy,hty,hvy,hzy,hry⟩:=Ly;obtain⟨z1,z2,z3⟩:=hLy.w.opened;obtain⟨z4,z5,z6⟩:=hLy.c.opened;obtain⟨z7,z8,z9⟩:=hLy.v.opened;obtain⟨z10,z11,z12⟩:=hLy.r.opened;dsimp only at z3 z6 z9 z12 hYv;subst z3 z6 z9 z12;simp only[HL.rest] at aO7 hYv;refine aS (⟨Nb,#[.slice none 0 0,.slice none 0 0,.slice none 0 0,.slice none 0 0],29⟩::⟨Xb,#[.slice x1 (List.map uV H2.ws).length x2,.slice x4 (List.map qV csx).length x5,.slice x7 (List.map mQ vsx).length x8,.slice x10 (List.map nY H2.rs).length x11],29⟩::⟨Ib,#[.slice y1 (List.map uV H.ws).length y2,.slice y4 (List.map qV cs0).length y5,.slice y7 (List.map mQ Jv).length y8,.slice Ro (List.map nY H.rs).length Rq],29⟩::⟨Wb,#[.slice none 0 0,.slice none 0 0,.slice none 0 0,.slice none 0 0],29⟩::⟨Ab,#[.int .i64 (cpu:Int),.int .i64 k_,.int .i64 n_,.int .i64 rW,.int .i64 lC,.int .i64 xN,.int .i64 PO,.bool false],39⟩::⟨Hb,#[.slice q H.ws.length cap,.slice q2 cs.length cap2,.slice q3 vs.length cap3,.slice q4 H.rs.length cap4],29⟩::((hwy++(hcy++(hty++(hvy++(hzy++hry)))))++((hwx++(hcx++(htx++(hvx++(hzx++hrx)))))++(hw0++(hc0++(ht0++(hv0++(hz0++hr0)))))))) (cnt1 aO7) ?_;refine aP ?_;refine az (fun wc hG=>zA _ wc) ?_;refine aP ?_;refine bH (fun hg wc hG=>xP (hXv wc (fun e he=>hG.here e bz1)) (hYv wc (fun e he=>hG.here e bz1))) ?_;refine aP ?_;refine bH (fun hg wc hG=>xP (hin wc _ hG (fun e he=>bz1)) (h'.good hG)) ?_;refine aP ?_;refine je (hwx++(hcx++(htx++(hvx++(hzx++hrx))))) (⟨Nb,#[.slice z1 (List.map uV H2.ws).length z2,.slice z4 (List.map qV csy).length z5,.slice z7 (List.map mQ vsy).length z8,.slice z10 (List.map nY H2.rs).length z11],29⟩::⟨Xb,#[.slice x1 (List.map uV H2.ws).length x2,.slice x4 (List.map qV csx).length x5,.slice x7 (List.map mQ vsx).length x8,.slice x10 (List.map nY H2.rs).length x11],29⟩::⟨Ib,#[.slice y1 (List.map uV H.ws).length y2,.slice y4 (List.map qV cs0).length y5,.slice y7 (List.map mQ Jv).length y8,.slice Ro (List.map nY H.rs).length Rq],29⟩::⟨Wb,#[.slice none 0 0,.slice none 0 0,.slice none 0 0,.slice none 0 0],29⟩::⟨Ab,#[.int .i64 (cpu:Int),.int .i64 k_,.int .i64 n_,.int .i64 rW,.int .i64 lC,.int .i64 xN,.int .i64 PO,.bool false],39⟩::⟨Hb,#[.slice q H.ws.length cap,.slice q2 cs.length cap2,.slice q3 vs.length cap3,.slice q4 H.rs.length cap4],29⟩::((hwy++(hcy++(hty++(hvy++(hzy++hry)))))++(hw0++(hc0++(ht0++(hv0++(hz0++hr0))))))) (fun wc hG=>hsp wc hG.iY) (fun v hnv hv=>?_) aU;subst hv;refine aS (⟨Nb,#[.slice z1 (List.map uV H2.ws).length z2,.slice z4 (List.map qV csy).length z5,.slice z7 (List.map mQ vsy).length z8,.slice z10 (List.map nY H2.rs).length z11],29⟩::⟨Xb,#[.slice x1 (List.map uV H2.ws).length x2,.slice x4 (List.map qV csx).length x5,.slice x7 (List.map mQ vsx).length x8,.slice x10 (List.map nY H2.rs).length x11],29⟩::⟨Ib,#[.slice y1 (List.map uV H.ws).length y2,.slice y4 (List.map qV cs0).length y5,.slice y7 (List.map mQ Jv).length y8,.slice Ro (List.map nY H.rs).length Rq],29⟩::⟨Wb,#[.slice none 0 0,.slice none 0 0,.slice none 0 0,.slice none 0 0],29⟩::⟨Ab,#[.int .i64 (cpu:Int),.int .i64 k_,.int .i64 n_,.int .i64 rW,.int .i64 lC,.int .i64 xN,.int .i64 PO,.bool false],39⟩::⟨Hb,#[.slice q H.ws.length cap,.slice q2 cs.length cap2,.slice q3 vs.length cap3,.slice q4 H.rs.length cap4],29⟩::((hwy++(hcy++(hty++(hvy++(hzy++hry)))))++(hw0++(hc0++(ht0++(hv0++(hz0++hr0))))))) ak ?_;refine aP ?_;refine az (fun wc hG=>xP (hin wc _ hG (fun e he=>bz1)) (h'.good hG)) ?_;refine aP ?_;refine bI (fun wc hG=>Ju (hYv wc (fun e he=>hG.here e bz1))) ?_;rintro _ hnz ⟨Lz,rfl,hLz,hlez⟩;obtain⟨wvz,cvz,vvz,rvz,csz,vsz,hwz,hcz,htz,hvz,hzz,hrz⟩:=Lz;obtain⟨t1,t2,t3⟩:=hLz.w.opened;obtain⟨t4,t5,t6⟩:=hLz.c.opened;obtain⟨t7,t8,t9⟩:=hLz.v.opened;obtain⟨t10,t11,t12⟩:=hLz.r.opened;dsimp only at t3 t6 t9 t12;subst t3 t6 t9 t12;refine aS [⟨Wb,#[.slice none 0 0,.slice none 0 0,.slice none 0 0,.slice none 0 0],29⟩] ak ?_;refine aP ?_;exact fZ ⟨_,_,_,_,_,_,_,_,_,_,_,_,rfl⟩
theorem UR(n m cn cm:Nat)(q q2:Option Addr)(w:World)(hn:n≤281474976710656)(hm:m≤281474976710656):Fn Tryz.prog 102 [.agg #[.slice q n cn,.slice q2 m cm]].toArray w [] (fun r _=>r=.int .i64 ((n:Int)+m)):=by
 refine enter Tryz.func102 ?_;refine run ?_;intro B;exact fin1 rfl
def ai7(ws:List Nat)(cs:List jH)(vs:List fA)(rs:List Am):Prop:=(ws.length≤1500∧cs.length≤1500∧vs.length≤1500∧rs.length≤1500)∧(∀ c∈cs,c.t.es.length≤1500∧c.t.ds.length≤1500)∧∀ v∈vs,v.fs.length≤1500∧v.fr.length≤1500∧v.vs.length≤1500
theorem PR{vv rv:Value}{ws:List Nat}{cs:List jH}{vs:List fA}{rs:List Am}(h:Ed w wv cv vv rv ws cs vs rs):Fn Tryz.prog 41 [.agg #[wv,cv,vv,rv]].toArray w [] (fun u _=>∃ n:Int,u=.int .i64 n∧(n≤1500→ai7 ws cs vs rs)):=by
 obtain⟨q,cap,rfl,_,l1⟩:=h.ws.opened;obtain⟨q2,cap2,rfl,hne2,l2⟩:=h.cs.rows.opened;obtain⟨q3,cap3,rfl,jF,l3⟩:=h.vs.rows.opened;obtain⟨q4,cap4,rfl,_,l4⟩:=h.rs.opened;refine enter Tryz.func41 ?_;refine run ?_;intro B;refine run ?_;refine aK (σ:=Nat×Int) (fun s=>[(3,.int .i64 s.2),(4,.int .i64 (s.1:Int))]) (fun s=>[⟨B,#[.slice q ws.length cap,.slice q2 cs.length cap2,.slice q3 vs.length cap3,.slice q4 rs.length cap4],29⟩]) (fun s=>s.1≤cs.length∧(ws.length:Int)+cs.length+vs.length+rs.length≤s.2∧s.2≤3000000000000000∧∀ j,j<s.1→((cs.getD j default).t.es.length:Int)+(cs.getD j default).t.ds.length≤s.2) (fun s=>cs.length-s.1) (0,(ws.length:Int)+cs.length+vs.length+rs.length) ⟨bF4 _,by simp,by dsimp only;omega,fun j hj=>absurd hj bx8⟩ ?_;rintro⟨k,n⟩ m hm ⟨hk,h0,h1,h2⟩;dsimp only at hm hk h0 h1 h2 ⊢;refine aC ?_;refine ah _ rfl (fun hc=>?_) (fun hc=>?_)
 ·simp only[bE8,decide_eq_true_eq] at hc;have hlt:k<cs.length:=by omega
  obtain⟨b,o,rfl⟩:=hne2 bz9;have hr:=h.cs.rows.row hlt;have ha1:=h.cs.en _ (getD_mem (l:=cs) hlt);have ha2:=h.cs.iv _ (getD_mem (l:=cs) hlt);obtain⟨_,_,_,_,b1⟩:=ha1.opened;obtain⟨_,_,_,_,b2⟩:=ha2.opened;have aN4:=aV (k:=17) (n:=2) hr rfl;refine run ?_;refine az (fun wc hG=>UR (cs.getD k default).t.es.length (cs.getD k default).t.ds.length (cs.getD k default).t.ec (cs.getD k default).t.dc (cs.getD k default).t.ep (cs.getD k default).t.dp wc b1 b2) ?_;refine run ?_;refine aF (k+1,n+(((cs.getD k default).t.es.length:Int)+(cs.getD k default).t.ds.length)) ⟨by omega,by dsimp only;omega,by dsimp only;omega,fun j hj=>?_⟩;dsimp only at hj ⊢;rcases bG1.1 hj with hj | rfl
  ·have:=h2 j hj;omega
  ·omega
 refine run ?_;refine aK (σ:=Nat×Int) (fun s=>[(3,.int .i64 s.2),(5,.int .i64 (s.1:Int))]) (fun s=>[⟨B,#[.slice q ws.length cap,.slice q2 cs.length cap2,.slice q3 vs.length cap3,.slice q4 rs.length cap4],29⟩]) (fun s=>s.1≤vs.length∧n≤s.2∧s.2≤4000000000000000∧∀ j,j<s.1→((vs.getD j default).fs.length:Int)+(vs.getD j default).fr.length+(vs.getD j default).vs.length≤s.2) (fun s=>vs.length-s.1) (0,n) ⟨bF4 _,by simp,by dsimp only;omega,fun j hj=>absurd hj bx8⟩ ?_;rintro⟨k2,n2⟩ m2 hm2 ⟨hk2,g0,g1,g2⟩;dsimp only at hm2 hk2 g0 g1 g2 ⊢;refine aC ?_;refine ah _ rfl (fun hc2=>?_) (fun hc2=>?_)
 ·simp only[bE8,decide_eq_true_eq] at hc2;have hlt:k2<vs.length:=by omega
  obtain⟨b,o,rfl⟩:=jF bz9;have hr:=h.vs.rows.row hlt;have ha1:=h.vs.fs _ (getD_mem (l:=vs) hlt);have ha2:=h.vs.fr _ (getD_mem (l:=vs) hlt);have ha3:=h.vs.vs _ (getD_mem (l:=vs) hlt);obtain⟨_,_,_,_,b1⟩:=ha1.opened;obtain⟨_,_,_,_,b2⟩:=ha2.opened;obtain⟨_,_,_,_,b3⟩:=ha3.opened;have hc3:=dh (k:=3) hr rfl;have hc4:=dh (k:=4) hr rfl;have hc5:=dh (k:=5) hr rfl;refine run ?_;refine gQ 25 ?_;refine dJ ?_;refine run ?_;refine aF (k2+1,n2+((vs.getD k2 default).fs.length:Int)+((vs.getD k2 default).fr.length:Int)+((vs.getD k2 default).vs.length:Int)) ⟨by omega,by dsimp only;omega,by dsimp only;omega,fun j hj=>?_⟩;dsimp only at hj ⊢;rcases bG1.1 hj with hj | rfl
  ·have:=g2 j hj;omega
  ·omega
 refine run ?_;refine fin1 ?_;refine⟨n2,rfl,fun hn=>?_⟩;simp only[bK7,decide_eq_false_iff_not] at hc hc2;have e1:k=cs.length:=by omega
 have e2:k2=vs.length:=by omega
 subst e1 e2;refine⟨⟨by omega,by omega,by omega,by omega⟩,fun c hc=>?_,fun v hv=>?_⟩
 ·obtain⟨j,hj,rfl⟩:=PtD.zo hc;have:=h2 j hj;omega
 ·obtain⟨j,hj,rfl⟩:=PtD.zo hv;have:=g2 j hj;omega
theorem UT{vv rv:Value}{ws:List Nat}{cs:List jH}{vs:List fA}{rs:List Am}(h:Ed w wv cv vv rv ws cs vs rs):Fn Tryz.prog 22 [.agg #[wv,cv,vv,rv]].toArray w [] (fun u _=>∃ b,u=.bool b∧(b=false→ai7 ws cs vs rs)):=by
 have h':=h;obtain⟨q,cap,rfl,_,l1⟩:=h.ws.opened;obtain⟨q2,cap2,rfl,hne2,l2⟩:=h.cs.rows.opened;obtain⟨q3,cap3,rfl,jF,l3⟩:=h.vs.rows.opened;obtain⟨q4,cap4,rfl,_,l4⟩:=h.rs.opened;refine enter Tryz.func22 ?_;refine run ?_;intro B;refine run ?_;refine Qk (fun wc hG=>PR (h'.good hG)) ?_;rintro _ ⟨n,rfl,hn⟩;refine run ?_;refine fin1 ⟨_,rfl,fun hb=>hn ?_⟩;have:=of_decide_eq_false hb;omega
theorem UU{vv rv:Value}{ws:List Nat}{cs:List jH}{vs:List fA}{rs:List Am}(h:Ed w wv cv vv rv ws cs vs rs){lp:Option Addr}{ln lc:Nat}:Fn Tryz.prog 13 [.agg #[wv,cv,vv,rv,.slice lp ln lc]].toArray w [] (fun u _=>∃ b,u=.bool b∧(b=false→ai7 ws cs vs rs)):=by
 have h':=h;obtain⟨q,cap,rfl,_,l1⟩:=h.ws.opened;obtain⟨q2,cap2,rfl,hne2,l2⟩:=h.cs.rows.opened;obtain⟨q3,cap3,rfl,jF,l3⟩:=h.vs.rows.opened;obtain⟨q4,cap4,rfl,_,l4⟩:=h.rs.opened;refine enter Tryz.func13 ?_;refine run ?_;intro B;refine run ?_;refine Qk (fun wc hG=>UT (h'.good hG)) ?_;rintro _ ⟨b,rfl,hn⟩;refine aC ?_;refine fin1 ⟨_,rfl,fun hb=>hn ?_⟩
 cases b with
 | false=>rfl
 | true=>simp at hb
structure FU(w:World)(wv cv vv rv lv:Value)(H:HyD)(A:List EI):Prop where
 hy:∃ cs vs,cs.map jH.u=H.cs∧vs.map fA.u=H.vs∧(∀ c∈cs,c.t.es.length≤c.t.ec)∧Ed w wv cv vv rv H.ws cs vs H.rs
 cap:∃ q c,vv=.slice q H.vs.length c∧H.vs.length≤c
 Et:∃ q c,wv=.slice q H.ws.length c∧H.ws.length≤c
 cn:∀ c∈H.cs,I64 c.vm∧I64 c.vc
 vn:∀ v∈H.vs,(∀ x∈v.fs,I64 x)∧(∀ x∈v.fr,I64 x)∧(∀ c∈v.vs,I64 c.on)
 l:aA w lv 8 (A.map ag3)
 wf:∀ a∈A,a.Wf
theorem FU.hv{w:World}{wv cv vv rv lv:Value}{H:HyD}{A:List EI}(h:FU w wv cv vv rv lv H A)(hl:∃ cs vs,cs.map jH.u=H.cs∧vs.map fA.u=H.vs∧ai7 H.ws cs vs H.rs):vw w wv cv vv rv H:=by
 obtain⟨cs,vs,e1,e2,⟨⟨l1,l2,l3,l4⟩,l5,l6⟩⟩:=hl;have hc:cs.length=H.cs.length:=by rw[←e1,bE9]
 have hv:vs.length=H.vs.length:=by rw[←e2,bE9]
 refine⟨⟨⟨by omega,by omega,by omega,by omega⟩,fun c hc=>?_,fun v hv=>?_⟩,h.cap,h.Et,h.hy⟩
 ·have:=h.cn c hc;rw[←e1] at hc;obtain⟨x,hx,rfl⟩:=bF9.1 hc;have h5:=l5 x hx;exact⟨by simp only[jH.u];omega,by simp only[jH.u];omega,this.1,this.2⟩
 ·have:=h.vn v hv;rw[←e2] at hv;obtain⟨x,hx,rfl⟩:=bF9.1 hv;have h5:=l6 x hx;exact⟨by simp only[fA.u];omega,by simp only[fA.u];omega,by simp only[fA.u];omega,this.1,this.2.1,this.2.2⟩
theorem YX{K:Int}(hK:aC1 K)(hKi:I64 K){vv rv lv:Value}{A:List EI}(h:FU w wv cv vv rv lv H A):Fn Tryz.prog 21 [.agg #[wv,cv,vv,rv,lv],.int .i64 K].toArray w [] (fun u _=>u=.bool true):=by
 have h':=h;obtain⟨cs,vs,e1,e2,_,hH⟩:=h.hy;have hcl:cs.length=H.cs.length:=by rw[←e1,bE9]
 have hH':=hH;obtain⟨q,cap,rfl,hne,_⟩:=hH.ws.opened;obtain⟨q2,cap2,rfl,hne2,_⟩:=hH.cs.rows.opened;obtain⟨q3,cap3,rfl,jF,_⟩:=hH.vs.rows.opened;obtain⟨q4,cap4,rfl,oQ,_⟩:=hH.rs.opened;obtain⟨q5,cap5,rfl,hne5,_⟩:=h.l.opened;refine enter Tryz.func21 ?_;refine run ?_;intro Pb;refine run ?_;refine Qk (fun wc hG=>UU (hH'.good hG)) ?_;rintro _ ⟨b,rfl,hn⟩;refine run ?_;refine ah _ rfl (fun hc=>?_) (fun hc=>?_)
 ·refine run ?_;exact fin1 rfl
 have hv:=h'.hv ⟨cs,vs,e1,e2,hn hc⟩;refine run ?_;refine aK (σ:=Nat) (fun k=>[(5,.int .i64 (k:Int))]) (fun _=>[⟨Pb,#[.slice q H.ws.length cap,.slice q2 cs.length cap2,.slice q3 vs.length cap3,.slice q4 H.rs.length cap4,.slice q5 A.length cap5],32⟩]) (fun k=>k≤A.length) (fun k=>A.length-k) 0 (bF4 _) ?_;rintro k m hm hk;refine aC ?_;refine ah _ rfl (fun hc2=>?_) (fun hc2=>?_)
 ·have hlt:k<A.length:=by simp only[bE8,decide_eq_true_eq] at hc2;omega
  obtain⟨b5,o5,rfl⟩:=hne5 bz9;have hr:=h.l.row hlt;have hwf:=h.wf _ (getD_mem (l:=A) hlt);generalize A.getD k default=a at hr hwf;obtain⟨ac,k_,n_,rW,lC,xN,PO,st_⟩:=a;simp only[ag3] at hr;refine run ?_;intro Ab;refine run ?_;refine aK (σ:=Nat×Int) (fun s=>[(7,.int .i64 (s.1:Int))]) (fun s=>[⟨Ab,#[.int .i64 s.2,.int .i64 K,.int .i64 n_,.int .i64 rW,.int .i64 lC,.int .i64 xN,.int .i64 PO,.bool false],39⟩,⟨Pb,#[.slice q H.ws.length cap,.slice q2 cs.length cap2,.slice q3 vs.length cap3,.slice q4 H.rs.length cap4,.slice (some ⟨b5,o5,none⟩) A.length cap5],32⟩]) (fun s=>s.1≤cs.length) (fun s=>cs.length-s.1) (0,ac) (bF4 _) ?_;rintro⟨p,z⟩ m2 hm2 hp2;dsimp only at hm2 hp2 ⊢;refine aC ?_;refine ah _ rfl (fun hc3=>?_) (fun hc3=>?_)
  ·have hlp:p<cs.length:=by simp only[bE8,decide_eq_true_eq] at hc3;omega
   refine run ?_;refine Qk (fun wc hG=>YW hK (hv.good hG) K n_ rW lC xN PO p bx6 rfl ⟨hwf.vm,hwf.frame,hwf.mid,hwf.kW⟩) ?_;rintro _ ⟨t1,t2,t3,t4,j1,j2,j3,j4,i1,i2,i3,i4,rfl⟩;refine run ?_;intro Zb;refine aP ?_;refine aF (p+1,(p:Int)) hlp (hm:=by omega) (h2:=by (exact ak))
  refine run ?_;refine aF (k+1) hlt (h2:=by (exact ak))
 refine run ?_;refine az (fun wc hG=>UQ wc) ?_;refine aP ?_;exact fin1 rfl
end
section
open Go.ChangeShapes Go.WideShapes Go.ChangeAt Go.RowKit
attribute [local irreducible] Hy St Ops DH dI jr iP gX DS iD lV
theorem FU.good{w':World}{hp:Hp}{vv rv lv:Value}{A:List EI}(h:FU w wv cv vv rv lv H A)(hG:Good w [] hp w'):FU w' wv cv vv rv lv H A:=by
 obtain⟨cs,vs,e1,e2,e3,h5⟩:=h.hy;exact⟨⟨cs,vs,e1,e2,e3,h5.good hG⟩,h.cap,h.Et,h.cn,h.vn,h.l.good hG,h.wf⟩
theorem YY{cs:List Value}(h:jA [.i .u64,.i .u64,.i .u64,.i .u64,.i .u64,.i .u64,.i .u64,.i .u64,.i .u64,.i .u64,.i .u64,.i .u64,.i .u64,.i .u64,.i .u64,.i .i64] cs=true):∃ c:ve,cs=zF c∧I64 c.on:=by
 obtain⟨_,_,rfl,h0,r0⟩:=aH h;obtain⟨_,_,rfl,h1,r1⟩:=aH r0;obtain⟨_,_,rfl,h2,r2⟩:=aH r1;obtain⟨_,_,rfl,h3,r3⟩:=aH r2;obtain⟨_,_,rfl,h4,r4⟩:=aH r3;obtain⟨_,_,rfl,h5,r5⟩:=aH r4;obtain⟨_,_,rfl,h6,r6⟩:=aH r5;obtain⟨_,_,rfl,h7,r7⟩:=aH r6;obtain⟨_,_,rfl,h8,r8⟩:=aH r7;obtain⟨_,_,rfl,h9,r9⟩:=aH r8;obtain⟨_,_,rfl,h10,r10⟩:=aH r9;obtain⟨_,_,rfl,h11,r11⟩:=aH r10;obtain⟨_,_,rfl,h12,r12⟩:=aH r11;obtain⟨_,_,rfl,h13,r13⟩:=aH r12;obtain⟨_,_,rfl,h14,r14⟩:=aH r13;obtain⟨_,_,rfl,h15,r15⟩:=aH r14;obtain⟨a0,rfl,b0⟩:=iL h0;obtain⟨a1,rfl,b1⟩:=iL h1;obtain⟨a2,rfl,b2⟩:=iL h2;obtain⟨a3,rfl,b3⟩:=iL h3;obtain⟨a4,rfl,b4⟩:=iL h4;obtain⟨a5,rfl,b5⟩:=iL h5;obtain⟨a6,rfl,b6⟩:=iL h6;obtain⟨a7,rfl,b7⟩:=iL h7;obtain⟨a8,rfl,b8⟩:=iL h8;obtain⟨a9,rfl,b9⟩:=iL h9;obtain⟨a10,rfl,b10⟩:=iL h10;obtain⟨a11,rfl,b11⟩:=iL h11;obtain⟨a12,rfl,b12⟩:=iL h12;obtain⟨a13,rfl,b13⟩:=iL h13;obtain⟨a14,rfl,b14⟩:=iL h14;obtain⟨a15,rfl,b15⟩:=kQ h15;obtain rfl:=kM r15;exact⟨⟨⟨a0,a1,a2,a3,a4,a5,a6,a7,a8,a9,a10,a11,a12,a13,a14⟩,a15⟩,rfl,b15⟩
section
variable {H : Type} {enc : TypeId × Value → H} {w : World} {base : Nat} {spare : Nat → Bool} {held : Bool}
theorem Nh{cs:List Value}{x:DataW H×List MemPlace}(h:DataW.trod enc Tryz.prog w base spare held fuel 60 cs=some x)(hz:Fq Tryz.prog 60 x.1):∃ v,∃ xs:List ve,cs=[v]∧aA w v 16 (xs.map zF)∧(∀ a∈xs,I64 a.on)∧xs.length≤reachBytes:=
 ni (f:=zF) (q:=fun c=>I64 c.on) (ks:=[.i .u64,.i .u64,.i .u64,.i .u64,.i .u64,.i .u64,.i .u64,.i .u64,.i .u64,.i .u64,.i .u64,.i .u64,.i .u64,.i .u64,.i .u64,.i .i64]) Tryz.underlying60 bz2 (aB.zH (t:=102) (s:=16) rfl) bx7 bz2 (fun cs hc=>YY hc) h hz
def fA.zB(w:World)(m:fA):Prop:=(aA w m.fv 1 (m.fs.map bY)∧aA w m.rv 1 (m.fr.map bY)∧aA w m.vv 16 (m.vs.map zF))∧(∀ x∈m.fs,I64 x)∧(∀ x∈m.fr,I64 x)∧(∀ c∈m.vs,I64 c.on)
theorem YZ{cs:List Value}{x:DataW H×List MemPlace}(h:DataW.trod enc Tryz.prog w base spare held fuel 62 cs=some x)(hz:Fq Tryz.prog 62 x.1):∃ m:fA,cs=mQ m∧m.zB w:=by
 obtain⟨hl,n,hf⟩:=lQ Tryz.underlying62 h hz;rw[jD (show fK Tryz.prog 62=some 6 from aB.zH rfl)] at hl
 match cs,hl with
 | [c0,c1,c2,c3,c4,c5],_=>
  have c1s:Tryz.prog.cellsOf 4=1:=by kernel_rfl
  have c2s:Tryz.prog.cellsOf 3=1:=by kernel_rfl
  have c3s:Tryz.prog.cellsOf 59=1:=by kernel_rfl
  have c4s:Tryz.prog.cellsOf 60=1:=by kernel_rfl
  obtain⟨_,h0,_⟩:=hf 0 _ rfl;obtain⟨_,h1,_⟩:=hf 1 _ rfl;obtain⟨_,h2,_⟩:=hf 2 _ rfl;obtain⟨_,h3,z3⟩:=hf 3 _ rfl;obtain⟨_,h4,z4⟩:=hf 4 _ rfl;obtain⟨_,h5,z5⟩:=hf 5 _ rfl;simp only[bQ7,bP',bQ0,c1s,c2s,c3s,c4s,bJ0,bI4,bI7,bK1] at h0 h1 h2 h3 h4 h5 z3 z4 z5;obtain⟨b0,e0⟩:=QI (kC 8 4 [.b] bz2 bz2 _ _ _ h0);obtain⟨b1,e1⟩:=QI (kC 8 4 [.b] bz2 bz2 _ _ _ h1);obtain⟨k2,e2,_⟩:=DataW.trod_int Tryz.underlying3 h2;obtain⟨v3,fs,e3,s3,i3,l3⟩:=En h3 z3;obtain⟨v4,fr,e4,s4,i4,l4⟩:=En h4 z4;obtain⟨v5,vs,e5,s5,o5,l5⟩:=Nh h5 z5;obtain⟨p3,q3,rfl,_,_⟩:=s3.opened;obtain⟨p4,q4,rfl,_,_⟩:=s4.opened;obtain⟨p5,q5,rfl,_,_⟩:=s5.opened;cases e0;cases e1;cases e2;cases e3;cases e4;cases e5;exact⟨⟨b0,b1,k2,fs,p3,q3,fr,p4,q4,vs,p5,q5⟩,rfl,⟨s3,s4,s5⟩,i3,i4,o5⟩
theorem UW{cs:List Value}{x:DataW H×List MemPlace}(h:DataW.trod enc Tryz.prog w base spare held fuel 26 cs=some x)(hz:Fq Tryz.prog 26 x.1):∃ v,∃ ms:List fA,cs=[v]∧yR w v ms∧(∀ m∈ms,m.zB w)∧ms.length≤reachBytes:=by
 obtain⟨p,xs,cap,rfl,hl,hr⟩:=vU (α:=fA) (R:=fun cs m=>cs=mQ m∧m.zB w) Tryz.underlying26 (aB.zH (t:=62) (s:=6) rfl) bx7 bz2 (fun n cs x hx hz=>YZ hx hz) h hz;obtain⟨h1,h2⟩:=vW (f:=mQ) (q:=fun m=>m.zB w) hl hr;exact⟨_,xs,rfl,⟨h1,fun m hm=>(h2 m hm).1.1,fun m hm=>(h2 m hm).1.2.1,fun m hm=>(h2 m hm).1.2.2⟩,h2,hl⟩
def jH.zB(w:World)(c:jH):Prop:=(aA w c.t.ev 14 (c.t.es.map iw)∧aA w c.t.dv 4 (c.t.ds.map kZ))∧c.t.es.length≤c.t.ec∧I64 c.vm∧I64 c.vc
theorem BI{cs:List Value}(h:jA [.i .i64] cs=true):∃ a,cs=[.int .i64 a]∧I64 a:=by
 obtain⟨_,_,rfl,h1,h⟩:=aH h;obtain rfl:=kM h;obtain⟨a,rfl,ha⟩:=kQ h1;exact⟨a,rfl,ha⟩
theorem UX{cs:List Value}{x:DataW H×List MemPlace}(h:DataW.trod enc Tryz.prog w base spare held fuel 74 cs=some x)(hz:Fq Tryz.prog 74 x.1):∃ c:jH,cs=qV c∧c.zB w:=by
 obtain⟨hl,n,hf⟩:=lQ Tryz.underlying74 h hz;rw[jD (show fK Tryz.prog 74=some 19 from aB.zH rfl)] at hl
 match cs,hl with
 | [c0,c1,c2,c3,c4,c5,c6,c7,c8,c9,c10,c11,c12,c13,c14,c15,c16,c17,c18],_=>
  have s1:Tryz.prog.cellsOf 68=15:=by kernel_rfl
  have s2:Tryz.prog.cellsOf 3=1:=by kernel_rfl
  have s3:Tryz.prog.cellsOf 72=2:=by kernel_rfl
  obtain⟨_,h0,z0⟩:=hf 0 _ rfl;obtain⟨_,h1,z1⟩:=hf 1 _ rfl;obtain⟨_,h2,z2⟩:=hf 2 _ rfl;obtain⟨_,h3,z3⟩:=hf 3 _ rfl;simp only[bQ7,bP',bQ0,s1,s2,s3,bJ0,bI4,bI7,bK1] at h0 z0 h1 z1 h2 z2 h3 z3;obtain⟨r,e0,r0⟩:=QH (kC 8 68 [.i .u64,.i .u64,.i .u64,.i .u64,.i .u64,.i .u64,.i .u64,.i .u64,.i .u64,.i .u64,.i .u64,.i .u64,.i .u64,.i .u64,.i .u64] bz2 bz2 _ _ _ h0);obtain⟨_,e1,b1⟩:=BI (kC 8 3 [.i .i64] bz2 bz2 _ _ _ h1);obtain⟨_,e2,b2⟩:=BI (kC 8 3 [.i .i64] bz2 bz2 _ _ _ h2);obtain⟨t,e3,t1,t2,t3,_,_⟩:=Xv h3 z3;cases e0;cases e1;cases e2;cases e3;exact⟨⟨r,_,_,t⟩,rfl,⟨t1,t2⟩,t3,b1,b2⟩
theorem PS{cs:List Value}{x:DataW H×List MemPlace}(h:DataW.trod enc Tryz.prog w base spare held fuel 25 cs=some x)(hz:Fq Tryz.prog 25 x.1):∃ v,∃ ms:List jH,cs=[v]∧Ap w v ms∧(∀ m∈ms,m.zB w)∧ms.length≤reachBytes:=by
 obtain⟨p,xs,cap,rfl,hl,hr⟩:=vU (α:=jH) (R:=fun cs m=>cs=qV m∧m.zB w) Tryz.underlying25 (aB.zH (t:=74) (s:=19) rfl) bx7 bz2 (fun n cs x hx hz=>UX hx hz) h hz;obtain⟨h1,h2⟩:=vW (f:=qV) (q:=fun m=>m.zB w) hl hr;exact⟨_,xs,rfl,⟨h1,fun m hm=>(h2 m hm).1.1,fun m hm=>(h2 m hm).1.2⟩,h2,hl⟩
theorem EX{cs:List Value}{x:DataW H×List MemPlace}(h:DataW.trod enc Tryz.prog w base spare held fuel 32 cs=some x)(hz:Fq Tryz.prog 32 x.1):∃ a b c d lv HH L,cs=[a,b,c,d,lv]∧FU w a b c d lv HH L:=by
 obtain⟨hl,n,hf⟩:=lQ Tryz.underlying32 h hz;rw[jD (show fK Tryz.prog 32=some 5 from aB.zH rfl)] at hl
 match cs,hl with
 | [c0,c1,c2,c3,c4],_=>
  have s2:Tryz.prog.cellsOf 29=4:=by kernel_rfl
  have s3:Tryz.prog.cellsOf 30=1:=by kernel_rfl
  have s4:Tryz.prog.cellsOf 24=1:=by kernel_rfl
  have s5:Tryz.prog.cellsOf 25=1:=by kernel_rfl
  have s6:Tryz.prog.cellsOf 26=1:=by kernel_rfl
  have s7:Tryz.prog.cellsOf 27=1:=by kernel_rfl
  have s8:Tryz.prog.cellsOf 22=1:=by kernel_rfl
  obtain⟨_,h1,z1⟩:=hf 0 _ rfl;obtain⟨_,h2,z2⟩:=hf 1 _ rfl;simp only[bQ7,bP',bQ0,s2,s3,bJ0,bI4,bI7,bK1] at h1 h2 z1 z2;obtain⟨_,n2,hg⟩:=lQ Tryz.underlying29 h1 z1;obtain⟨_,g0,y0⟩:=hg 0 _ rfl;obtain⟨_,g1,y1⟩:=hg 1 _ rfl;obtain⟨_,g2,y2⟩:=hg 2 _ rfl;obtain⟨_,g3,y3⟩:=hg 3 _ rfl;simp only[bQ7,bP',bQ0,s4,s5,s6,s7,bJ0,bI4,bI7,bK1] at g0 g1 g2 g3 y0 y1 y2 y3;obtain⟨_,n3,hk⟩:=lQ Tryz.underlying24 g0 y0;obtain⟨_,k0,x0⟩:=hk 0 _ rfl;simp only[bQ7,bP',bQ0,s8,bJ0,bI7,bK1] at k0 x0;obtain⟨wv,ws,e1,m1,w1,l1⟩:=OE k0 x0;obtain⟨cv,cs,e2,m2,w2,l2⟩:=PS g1 y1;obtain⟨vv,vs,e3,m3,w3,l3⟩:=UW g2 y2;obtain⟨rv,rs,e4,m4,w4,l4⟩:=OG g3 y3;obtain⟨lv,L,e5,l5,wf⟩:=Un h2 z2;obtain⟨p1,q1,rfl,_,_⟩:=m1.opened;obtain⟨p3,q3,rfl,_,_⟩:=m3.rows.opened;cases e1;cases e2;cases e3;cases e4;cases e5;refine⟨_,_,_,_,_,⟨ws,cs.map jH.u,vs.map fA.u,rs⟩,L,rfl,⟨cs,vs,rfl,rfl,fun c hc=>(w2 c hc).2.1,w1,m1,m2,m3,m4⟩,⟨p3,q3,?_,?_⟩,⟨p1,q1,rfl,Eo Tryz.underlying22 k0⟩,fun c hc=>?_,fun v hv=>?_,l5,wf⟩
  ·dsimp only;rw[bE9]
  ·dsimp only;rw[bE9];exact Eo Tryz.underlying26 g2
  ·obtain⟨x,hx,rfl⟩:=bF9.1 hc;exact (w2 x hx).2.2
  ·obtain⟨x,hx,rfl⟩:=bF9.1 hv;exact (w3 x hx).2
end
theorem FV{vv rv lv:Value}{A:List EI}(h:FU w wv cv vv rv lv H A):Fn Tryz.prog 8 [.agg #[wv,cv,vv,rv,lv]].toArray w [] (fun u _=>u=.bool true):=by
 have h':=h;obtain⟨cs,vs,e1,e2,_,hH⟩:=h.hy;obtain⟨q,cap,rfl,hne,_⟩:=hH.ws.opened;obtain⟨q2,cap2,rfl,hne2,_⟩:=hH.cs.rows.opened;obtain⟨q3,cap3,rfl,jF,_⟩:=hH.vs.rows.opened;obtain⟨q4,cap4,rfl,oQ,_⟩:=hH.rs.opened;obtain⟨q5,cap5,rfl,hne5,_⟩:=h.l.opened;refine enter Tryz.func8 ?_;refine run ?_;intro Pb;refine run ?_;refine az (fun wc hG=>YX aC2 (by unfold I64;omega) (h'.good hG)) ?_;refine run ?_;exact fin1 rfl
end
end Go.Proofs.YtellmabgmnbhcaaGreat
