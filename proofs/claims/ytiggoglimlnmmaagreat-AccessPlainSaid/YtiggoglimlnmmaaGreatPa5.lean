/- Texts of one's own, merged: the engine, what the functions do, plain laws. -/
import Derived.Test.YtiggoglimlnmmaaGreatPa4
namespace Go.Proofs.YtiggoglimlnmmaaGreat
open Go.RowKit
set_option linter.unusedVariables false
set_option linter.unusedSimpArgs false
set_option maxRecDepth 20000
section
attribute [local irreducible] Hy St Ops DH fE iK iE fU DS fD lZ
theorem vW {w:World} {F:Nat} {us:List Value} (p:aX→Bool) (xs:List (aX)) (v:Value) (h:aF w v 14 (xs.map cu)) (hF:∀ x,x∈xs→∀ w',EE w w'→Fn Tryz.prog F ([]++[Value.agg (cu x).toArray]++us).toArray w' [] (fun u _=>u=.bool (p x))) (bY:mem jT F=true:=by rfl):
  Fn Tryz.prog 63 [v,.func (.func F) [].toArray us.toArray].toArray w [] (fun u _=>u=.bool (xs.any p)):=by
 refine enter Tryz.func63 ?_
 refine run ?_
 refine ax (fun wc hG=>BD p xs v (h.good hG) (fun x hx w' ha=>hF x hx w' ?_) bY) ?_
 ·obtain ⟨hp,hg⟩:=ha
  exact ⟨_,hG.trans hg⟩
 refine run ?_
 refine fin1 ?_
 rw [← tC]
theorem Jd (n:Int) (x:aX) (B:Nat) (w:World) (hB:w.cell? ⟨B,0,none⟩=some (.int .i64 n)):Fn Tryz.prog 64 ([]++[Value.agg (cu x).toArray]++[Value.pointer (some ⟨B,0,none⟩)]).toArray w [] (fun u _=>u=.bool (decide (n≤x.frame))):=by
 refine enter Tryz.func64 ?_
 refine run ?_
 intro E
 refine run ?_
 exact fin1 rfl
theorem MG (r:dX):(decide (r.frame<0) || decide (4095<r.frame) || decide (r.tag<0) || decide (15<r.tag))=!r.may:=by
 have e2:∀ a:Int,decide (a<0)=!decide (0≤a):=fun a=>by rw [Bool.eq_iff_iff];simp
 have e3:∀ a b:Int,decide (b<a)=!decide (a≤b):=fun a b=>by rw [Bool.eq_iff_iff];simp
 rw [dX.may,PtD.bH,PtD.bH,e2,e2,e3,e3]
 simp only [Bool.not_and,Bool.or_assoc]
theorem LD (ws:List Nat) (hw:ws.length<1000000) (cap:Nat) (hcc:ws.length≤cap) {p:Option Addr} {w:World} {Wb:Nat} (es:List aX) (ds:List eH) (pk:Dk) (one two:dX) (page acc:Int) {ev dv rv:Value} (he:bT w [Wb] ev 14 (es.map cu)) (hd:bT w [Wb] dv 4 (ds.map iw)) (hcap:∃ q c,ev=.slice q es.length c∧es.length≤c) (hel:es.length<1000000)
  (hN:jb [⟨Wb,#[.slice p ws.length cap,ev,dv,.int .i64 pk.cpu,.bool pk.fill,.bool pk.aP,.bool pk.walk,.int .i64 pk.drop,.bool pk.use,.bool one.on,.int .i64 one.frame,.int .i64 one.tag,.bool two.on,.int .i64 two.frame,.int .i64 two.tag,.int .i64 page,.int .i64 acc,rv],99⟩] w):
  Fn Tryz.prog 31 [.pointer (some ⟨Wb,0,none⟩)].toArray w [Wb] (fun u hn=>u=.bool (nU ws.length es ds one two page acc)∧aI [⟨Wb,#[.slice p ws.length cap,ev,dv,.int .i64 pk.cpu,.bool pk.fill,.bool pk.aP,.bool pk.walk,.int .i64 pk.drop,.bool pk.use,.bool one.on,.int .i64 one.frame,.int .i64 one.tag,.bool two.on,.int .i64 two.frame,.int .i64 two.tag,.int .i64 page,.int .i64 acc,rv],99⟩] hn):=by
 refine kN _ hN Tryz.func31 ?_
 obtain ⟨qe,ce,rfl,hlc⟩:=hcap
 obtain ⟨qd,cd,rfl,_⟩:=hd.at_.opened
 refine run ?_
 refine ax (fun wc hG=>EK ws.length cap Uz p wc) ?_
 refine run ?_
 intro Nb
 refine ax (fun wc hG=>vC false false false false false 0 acc wc) ?_
 refine aG ?_
 refine bz (fun hg wc hG=>nI es ds _ _ (he.good hG) (hd.good hG) ⟨_,_,rfl,hlc⟩) ?_
 refine aG ?_
 have hg:(!decide ((bif dL ws.length then (0:Int) else 1)=0) || !decide ((bif PtD.bH acc 0 2 then (0:Int) else 1)=0) || !decide ((bif bZ es ds then (0:Int) else 1)=0) || !two.on || decide (page<0) || decide (4095<page))=!(dL ws.length && PtD.bH acc 0 2 && bZ es ds && two.on && PtD.bH page 0 4095):=by
  have e1:∀ b,decide ((bif b then (0:Int) else 1)=0)=b:=by decide
  rw [e1,e1,e1]
  have e2:decide (page<0)=!decide (0≤page):=by rw [Bool.eq_iff_iff];simp
  have e3:decide (4095<page)=!decide (page≤4095):=by rw [Bool.eq_iff_iff];simp
  rw [e2,e3,PtD.bH,PtD.bH]
  simp only [Bool.not_and,Bool.or_assoc]
 rw [hg]
 refine ah _ rfl (fun hc=>?_) (fun hc=>?_)
 ·have hf:nU ws.length es ds one two page acc=false:=by
   rw [nU,BF]
   simp only [Bool.not_eq_true',Bool.and_eq_false_iff] at hc
   rcases hc with (((h | h) | h) | h) | h<;>simp [h]
  rw [hf]
  refine run ?_
  exact fin1 ⟨rfl,by (exact ak)⟩
 have hcc:dL ws.length=true∧PtD.bH acc 0 2=true∧bZ es ds=true∧two.on=true∧PtD.bH page 0 4095=true:=by
  simp only [Bool.not_eq_false',Bool.and_eq_true] at hc
  exact ⟨hc.1.1.1.1,hc.1.1.1.2,hc.1.1.2,hc.1.2,hc.2⟩
 obtain ⟨g1,g2,g3,g4,g5⟩:=hcc
 have hmay:nU ws.length es ds one two page acc=(one.may && two.may && Dy ws.length es):=by
  rw [nU,BF,g1,g2,g3,g4,g5];simp
 rw [hmay]
 simp only [g1,cond_true]
 refine run ?_
 refine eG 11 8 [0,1,2,3,4,5,6,7,10] [8,9] [⟨Nb,#[.int .i64 ((ws.length / 8:Nat):Int)],3⟩,⟨Wb,#[.slice p ws.length cap,.slice qe es.length ce,.slice qd ds.length cd,.int .i64 pk.cpu,.bool pk.fill,.bool pk.aP,.bool pk.walk,.int .i64 pk.drop,.bool pk.use,.bool one.on,.int .i64 one.frame,.int .i64 one.tag,.bool two.on,.int .i64 two.frame,.int .i64 two.tag,.int .i64 page,.int .i64 acc,rv],99⟩] ?_
 refine dV ?_
 refine NP [.bool one.on,.int .i64 one.frame,.int .i64 one.tag,.bool two.on,.int .i64 two.frame,.int .i64 two.tag] (fun Z=>?_)
 refine H6 (fun hx=>x_len aj rfl rfl) ?_
 refine bf ?_
 refine dY ?_
 refine run ?_
 refine eF (σ:=Nat) (fun j=>[(72,.int .i64 (j:Int))]) (fun j=>[⟨Z,#[.bool one.on,.int .i64 one.frame,.int .i64 one.tag,.bool two.on,.int .i64 two.frame,.int .i64 two.tag],29⟩,⟨Nb,#[.int .i64 ((ws.length / 8:Nat):Int)],3⟩,⟨Wb,#[.slice p ws.length cap,.slice qe es.length ce,.slice qd ds.length cd,.int .i64 pk.cpu,.bool pk.fill,.bool pk.aP,.bool pk.walk,.int .i64 pk.drop,.bool pk.use,.bool one.on,.int .i64 one.frame,.int .i64 one.tag,.bool two.on,.int .i64 two.frame,.int .i64 two.tag,.int .i64 page,.int .i64 acc,rv],99⟩]) (fun j=>j≤2∧(1≤j→one.may=true)∧(2≤j→two.may=true)) (fun j=>2 - j) 0 ⟨by omega,fun h=>by omega,fun h=>by omega⟩ ?_
 rintro j m hmj ⟨hj2,hj0,hj1⟩
 obtain rfl | rfl | rfl:j=0∨j=1∨j=2:=by omega
 ·refine ig ?_
  intro B
  rw [MG]
  refine ah _ rfl (fun hc2=>?_) (fun hc2=>?_)
  ·refine run ?_
   rw [show one.may=false by simpa using hc2]
   exact fin1 ⟨rfl,by (exact ak)⟩
  ·refine run ?_
   exact dG 1 ⟨by omega,fun _=>by simpa using hc2,fun h=>by omega⟩ (h2:=by (exact ak))
 ·refine ig ?_
  intro B
  rw [MG]
  refine ah _ rfl (fun hc2=>?_) (fun hc2=>?_)
  ·refine run ?_
   rw [show two.may=false by simpa using hc2,Bool.and_false,Bool.false_and]
   exact fin1 ⟨rfl,by (exact ak)⟩
  ·refine run ?_
   exact dG 2 ⟨by omega,fun _=>hj0 Uz,fun _=>by simpa using hc2⟩ (h2:=by (exact ak))
 refine ig ?_
 refine ax (fun wc hG=>vW (us:=[.pointer (some ⟨Nb,0,none⟩)]) (fun x=>decide (((ws.length / 8:Nat):Int)≤x.frame)) es _ (he.good hG) (fun x _ w' ha=>Jd _ x Nb w' ?_)) ?_
 ·obtain ⟨hp,hg⟩:=ha
  exact hg.cell (by rw [cell_of_block (hG.here ⟨Nb,#[.int .i64 ((ws.length / 8:Nat):Int)],3⟩ UC)];rfl) UC
 refine run ?_
 rw [hj0 Uz,hj1 Uz]
 refine fin1 ⟨?_,by (exact ak)⟩
 rw [Bool.true_and,Bool.true_and,Dy,List.not_any_eq_all_not]
 congr 2
 funext x
 rw [Bool.eq_iff_iff];simp
end
section
attribute [local irreducible] Hy St Ops DH fE iK iE fU
theorem Ry {G:Prop} (h:G:=by (first | ((with_reducible apply uw);rfl) | ((with_reducible apply jG);rfl) | ((with_reducible apply xq aj);rfl;rfl;rfl;(exact jI)) | ((with_reducible apply Aw aj);rfl;rfl;(exact qQ);(first | rfl | assumption)) | ((with_reducible apply xw aj);rfl;rfl;assumption;(exact Eb)) | ((with_reducible apply xx aj);rfl;rfl;rfl;(exact qQ);(first | assumption | (exact lI));rfl) | ((with_reducible apply uA aj);rfl;rfl;rfl;assumption;rfl;(exact Eb)) | ((with_reducible apply uy aj);rfl;rfl;rfl;omega;(exact jI)) | ((with_reducible apply qI aj);rfl;rfl;rfl;omega;(exact jI)) | ((with_reducible apply xu aj);rfl;rfl;rfl;omega;omega;(exact jI)) | ((with_reducible apply uz aj);rfl;rfl;rfl;omega;omega;(exact jI)) | ((with_reducible apply x_len aj);rfl;rfl) | ((with_reducible apply Gw);rfl;rfl) | ((with_reducible apply AP);rfl;rfl) | ((with_reducible apply Nh);rfl;rfl) | ((with_reducible apply Gg);rfl;rfl) | ((with_reducible apply Am);rfl;rfl;rfl) | ((with_reducible apply Gh);rfl) | ((with_reducible apply qH);rfl;rfl) | ((with_reducible apply oz);rfl) | ((with_reducible apply Gi);rfl;rfl) | ((with_reducible apply Gj);rfl;rfl) | ((with_reducible apply Gl);rfl;rfl) | ((with_reducible apply Gm);rfl;rfl) | ((with_reducible apply Ce);rfl;rfl) | ((with_reducible apply Gn);rfl;rfl) | ((with_reducible apply Ap aj);rfl;rfl;rfl) | ((with_reducible apply Aq aj);rfl;rfl;rfl) | ((with_reducible apply AB wB);rfl;rfl;rfl;rfl;rfl) | ((with_reducible apply AL wB);rfl;rfl;rfl;rfl;rfl) | ((with_reducible apply Gp);rfl;rfl;omega) | ((with_reducible apply Gq);rfl;rfl;omega;omega) | ((with_reducible apply Gs);rfl;rfl;omega;omega) | ((with_reducible apply Gt);rfl;rfl;omega;omega) | ((with_reducible apply sU aj);rfl;rfl;rfl;omega;omega) | ((with_reducible apply xm aj);rfl;rfl;rfl;omega;omega) | ((with_reducible apply oC);rfl;rfl) | ((with_reducible apply Ar);rfl;rfl) | ((with_reducible apply Au);rfl;rfl))):G:=h
theorem MH {G R:Prop} (k:R) (h:nX R→G:=by (intro iD;(repeat (first | (with_reducible apply wW) | (with_reducible apply oQ) | (with_reducible apply nK) | (with_reducible apply nM) | (with_reducible apply xk) | (with_reducible apply sQ) | (with_reducible apply nN) | (with_reducible apply lu) | (with_reducible apply sS) | (with_reducible apply o7) | (with_reducible apply sN) | (with_reducible apply wX) | (with_reducible apply sJ) | (with_reducible apply sK) | ((with_reducible apply o8);rfl) | ((with_reducible apply lU);rfl;(first | exact Ry)) | ((with_reducible apply Cf);rfl;rfl;(exact gW);intro blk) | ((with_reducible apply sW aj);rfl;rfl;(exact gW);intro blk) | ((with_reducible apply sZ aj);rfl;rfl;(exact gW);rfl;rfl;(exact qR);(exact D9);(exact Ea);(exact lI)) | ((with_reducible apply pq aj);rfl;rfl;rfl;(exact gW);rfl;rfl;rfl;rfl;(exact CS);intro blk)));(repeat revert blk);exact iD.get)):G:=h ⟨k⟩
section
variable {n : Nat} {w0 : World} {mu : List Nat} {l : Fm} {hp : Hp} {Q : Exit → Fm → Hp → Prop} {all : Array Oper} {rest : List Oper} {ty : TypeId} {pos : String} {af : Array Edge}
theorem OI {t d:Nat} {ps:List (Nat × Operand)} {vs:List (Nat × Value)} {z:Value} {pl:List (Nat × Nat)} {zc:Array Value} (out:Array Value) (h:Ops Tryz.prog n w0 mu all rest ((d,.agg out)::l) hp Q) (hd:Nat.blt d n=true:=by rfl) (hz:lk Tb.zs t=some z:=by rfl) (hzc:z.cells=zc:=by (first | ((simp only [Value.cells])<;>rfl) | rfl)) (hpl:lk Tb.pl t=some pl:=by rfl) (hv:yO l ps=some vs:=by rfl) (hf:fl pl zc vs=some out:=by kernel_rfl):Ops Tryz.prog n w0 mu all (⟨some d,.build t ps.toArray,ty,pos,af,none⟩::rest) l hp Q:=
 lU hd (sV aj hz hzc hpl hv hf rfl) h
end
end
section
section
variable {P : Program} {n : Nat} {w0 : World} {mu : List Nat} {l : Fm} {h0 hp : Hp} {Q : Exit → Fm → Hp → Prop} {all : Array Oper} {aB : Fm} {k t0 : Nat} {ds : List (Nat × Nat)}
theorem wR {aK zk:Fm} {h h':Hp} {listed:Array Bool} {a:Act} {w w':World} {i:Nat} {o:Oper} {v:Value} (hm:l7 n w0 mu all l aB aK h listed a w) (ho:all[i]?=some o) (hi:i<k) (hun:listed.getD i true=false) (hs:i<listed.size)
  (hd:lW all k n=true) (hf:∀ i d u,i<k→aA all i=some d→look l d=some u→lk aB i=some u) (hG:Good w0 mu h' w') (QJ:∀ j v,lk aB j=some v→j<k) (hEk:∀ j v,(j,v)∈aK→j<k)
  (hv:(lk aB i=some v∧zk=aK)∨(lk aB i=none∧zk=(i,v)::aK)):l7 n w0 mu all l aB zk h' (listed.setIfInBounds i true) (a.put o.dst v) w':=by
 have hod:aA all i=o.dst:=by simp [aA,ho]
 have hput:∀ t,(∀ d,o.dst=some d→t ≠ d)→(a.put o.dst v).tmps.getD t undef=a.tmps.getD t undef:=by
  intro t ht
  cases hdd:o.dst with
  | none=>rfl
  | some d=>simp [Act.put,Array.getElem?_setIfInBounds_ne (Ne.symm (ht d hdd))]
 have hself:∀ d,o.dst=some d→(a.put o.dst v).tmps.getD d undef=v:=by
  intro d hdd
  have:=CV hd hi (hod.trans hdd)
  rw [hdd]
  simp [Act.put,hm.size,this]
 have hother:∀ j d,j<k→j ≠ i→aA all j=some d→(a.put o.dst v).tmps.getD d undef=a.tmps.getD d undef:=fun j d hj hji hdj=>hput d fun d' hd'=>CW hd hj hi hji hdj (hod.trans hd')
 refine ⟨?_,?_,fun t u hu=>?_,hG,fun j u hj hl d hdj=>?_,fun j u hj=>?_⟩
 ·cases o.dst<;>simpa [Act.put] using hm.size
 ·cases o.dst<;>exact hm.defers
 ·by_cases hit:o.dst=some t
  ·have h1:=hf i t u hi (hod.trans hit) hu
   rcases hv with ⟨h2,_⟩ | ⟨h2,_⟩
   ·rw [h1] at h2;cases h2;exact hself t hit
   ·rw [h1] at h2;cases h2
  ·rw [hput t fun d hdd e=>hit (by rw [e];exact hdd)]
   exact hm.has t u hu
 ·by_cases hji:j=i
  ·subst hji
   rcases hv with ⟨h1,_⟩ | ⟨h1,_⟩
   ·rw [h1] at hj;cases hj
    exact hself d (hod▸hdj)
   ·rw [h1] at hj;cases hj
  ·rw [hother j d (QJ j u hj) hji hdj]
   exact hm.lX j u hj U3 d hdj
 ·have hold:(j,u)∈aK→(listed.setIfInBounds i true).getD j false=true∧∀ d,aA all j=some d→(a.put o.dst v).tmps.getD d undef=u:=fun hj=>by
   have h1:=hm.jP j u hj
   have hji:j ≠ i:=fun e=>by subst e;rw [getD_both hun] at h1;cases h1.1
   exact ⟨getD_set_true h1.1,fun d hdj=>by rw [hother j d (hEk j u hj) hji hdj];exact h1.2 d hdj⟩
  rcases hv with ⟨_,rfl⟩ | ⟨_,rfl⟩
  ·exact hold hj
  ·rcases List.mem_cons.1 hj with hj | hj
   ·cases hj
    exact ⟨by simp [hs],fun d hdj=>hself d (hod▸hdj)⟩
   ·exact hold hj
theorem BL (hds:∀ k d,lk ds k=some d→aA all k=some d) {g:Nat} {Q':Exit→Act→World→Prop} {X:Fm→Hp→Prop} (hk:k≤all.size) (hd:lW all k n=true) (hf:∀ i d u,i<k→aA all i=some d→look l d=some u→lk aB i=some u) (hback:jl all=true) (hle0:aI h0 hp)
  (oJ:∀ i,i<k→aA all i=none→i=t0∨Region.waitsFor .any all i t0=true)
  (hS:∀ i v,lk aB i=some v→i<k∧∃ o aU,all[i]?=some o∧iU aU aB∧∀ hx,lg P n w0 mu all (au ds aU o.after.toList++l) (bif Region.waitsFor .any all t0 i then hx++hp else hx++h0) o v)
  (htail:∀ aK h listed,HeadInv .any all k listed→(∀ i,i<k→listed.getD i true=true)→X aK h→∀ a w,l7 n w0 mu all l aB aK h listed a w→(∀ i v,(i,v)∈aK→i<k)→wpAny P .any all Q' g listed a w)
  (iG:∀ listed,HeadInv .any all k listed→∀ i,i<k→listed.getD i true=false→∀ t,k≤t→t ∉ Region.ready .any all listed):
  ∀ f r aK h listed a w,leftOf k listed=f→HeadInv .any all k listed→l7 n w0 mu all l aB aK h listed a w→(∀ i v,(i,v)∈aK→i<k)→(∀ i∈r,i<k∧listed.getD i true=false∧lk aB i=none)→r.Nodup→jq all r=true→(∀ i,i<k→listed.getD i true=false→(∃ v,lk aB i=some v)∨i∈r) →
   aI h0 h→(listed.getD t0 false=false→aI hp h)→fD P n w0 mu all ds l h0 aB X r aK h→wpAny P .any all Q' (f + g) listed a w:=by
 intro f
 induction f with
 | zero=>
  intro r aK h listed a w hlf inv hm hEk hr hnd dN hcov hle pV hD
  have hall:∀ i,i<k→listed.getD i true=true:=by
   intro i hi
   cases hc:listed.getD i true with
   | true=>rfl
   | false=>
    exfalso
    have:i∈(List.range k).filter fun i=>!listed.getD i true:=List.mem_filter.2 ⟨List.mem_range.2 hi,by simp only [hc,Bool.not_false]⟩
    have h2:=List.length_pos_of_mem this
    unfold leftOf at hlf
    omega
  cases r with
  | nil=>
   rw [Nat.zero_add]
   exact htail aK h listed inv hall hD a w hm hEk
  | cons c r=>
   have h1:=hr c (List.mem_cons_self ..)
   rw [hall c h1.1] at h1
   exact absurd h1.2.1 UA
 | succ f ih=>
  intro r aK h listed a w hlf inv hm hEk hr hnd dN hcov hle pV hD
  rw [show f + 1 + g=(f + g) + 1 by omega]
  have hex:∃ i,i<k∧listed.getD i true=false:=by
   have h2:0<leftOf k listed:=by omega
   obtain ⟨i,hi⟩:=List.exists_mem_of_length_pos h2
   rw [List.mem_filter] at hi
   exact ⟨i,List.mem_range.1 hi.1,by simpa using hi.2⟩
  obtain ⟨i0,gZ,hi0⟩:=hex
  refine ⟨fun hnil=>?_,fun i hi=>?_⟩
  ·exfalso
   obtain ⟨i,⟨hik,hil⟩,hmin⟩:=exists_least (p:=fun i=>i<k∧listed.getD i true=false) ⟨i0,gZ,hi0⟩
   have hr:i∈Region.ready .any all listed:=by
    rw [mem_ready]
    have hs:i<all.size:=by omega
    refine ⟨hil,all[i],by simp [hs],fun e he hb=>?_⟩
    have hb2:=List.all_eq_true.1 hback i (List.mem_range.2 hs)
    simp only [Array.getElem?_eq_getElem hs] at hb2
    have hb3:=(Array.all_eq_true_iff_forall_mem.1 hb2) e he
    simp only [hb,Bool.not_true,Bool.false_or,Nat.blt_eq] at hb3
    cases hc:listed.getD e.on false with
    | true=>rfl
    | false=>
     have h5:=hmin e.on ⟨by omega,getD_in UF hc⟩
     omega
   rw [hnil] at hr;cases hr
  ·have hik:i<k:=by
    rcases Nat.lt_or_ge i k with h | h
    ·exact h
    ·exact absurd hi (iG listed inv i0 gZ hi0 i h)
   obtain ⟨hun,o,ho,hall⟩:=mem_ready.1 hi
   have hsz:i<listed.size:=by rw [inv.size];omega
   have lH:listed.getD i false=false:=getD_both hun
   have hleft:leftOf k (listed.setIfInBounds i true)=f:=by have:=iy hik UF hun;omega
   have hwl:∀ t,Region.waitsFor .any all i t=true→listed.getD t false=true:=fun t ht=>by
    obtain ⟨oj,h6,e,he,hb,heq⟩:=Region.waitsFor_spec ht
    rw [ho] at h6;cases h6
    rw [← heq];exact hall e he hb
   unfold wpOp
   simp only [ho]
   cases oK:lk aB i with
   | some v=>
    obtain ⟨_,o',aU,ho',hmo,hy⟩:=hS i v oK
    rw [ho] at ho';cases ho'
    have hkn:=fM (o:=o) hds hm (aU:=aU) (fun j u hu=>.inr (hmo j u UM)) hall
    have hir:i ∉ r:=fun hm'=>by rw [(hr i hm').2.2] at oK;cases oK
    have hnext:∀ w',Good w0 mu h w'→wpAny P .any all Q' (f + g) (listed.setIfInBounds i true) (a.put o.dst v) w':=fun w' hG'=>by
     refine ih r aK h _ _ _ hleft (inv.set hi hik) (wR hm ho hik hun hsz hd hf hG' (fun j u hu=>(hS j u hu).1) hEk (.inl ⟨oK,rfl⟩)) hEk (fun j hj=>?_) hnd dN (fun j hj hl=>?_) hle (fun ht=>?_) hD
     ·have hji:i ≠ j:=fun e=>hir (e▸hj)
      exact ⟨(hr j hj).1,by rw [getD_set_ne true hji];exact (hr j hj).2.1,(hr j hj).2.2⟩
     ·refine hcov j hj ?_
      by_cases hji:i=j
      ·subst hji;simp [hsz] at hl
      ·rwa [getD_set_ne true hji] at hl
     ·refine pV ?_
      by_cases hji:i=t0
      ·subst hji;exact lH
      ·rwa [getD_set_ne false hji] at ht
    obtain ⟨hx,h3,fH⟩:∃ hx,lg P n w0 mu all (au ds aU o.after.toList++l) hx o v∧hx.Perm h:=by
     cases hwt:Region.waitsFor .any all t0 i with
     | true=>
      have ht0:listed.getD t0 false=false:=by
       cases hc:listed.getD t0 false with
       | false=>rfl
       | true=>
        obtain ⟨oj,h6,e,he,hb,heq⟩:=Region.waitsFor_spec hwt
        have:=inv.closed t0 oj h6 hc e he hb
        rw [heq,lH] at this;cases this
      obtain ⟨x,hxp⟩:=(pV ht0).perm
      have h4:=hy x
      rw [hwt] at h4
      exact ⟨x++hp,h4,List.perm_append_comm.trans hxp⟩
     | false=>
      obtain ⟨x,hxp⟩:=hle.perm
      have h4:=hy x
      rw [hwt] at h4
      exact ⟨x++h0,h4,List.perm_append_comm.trans hxp⟩
    have hgd:Good w0 mu hx w:=hm.good.perm fH
    replace hnext:∀ w',Good w0 mu hx w'→wpAny P .any all Q' (f + g) (listed.setIfInBounds i true) (a.put o.dst v) w':=fun w' hG'=>hnext w' (hG'.perm fH.symm)
    unfold lg at h3
    cases hg:o.guard with
    | none=>
     rw [hg] at h3
     rw [if_pos UG]
     exact .inl (h3 a w hkn hgd _ _ hnext)
    | some jw=>
     obtain ⟨j,want⟩:=jw
     rw [hg] at h3
     obtain ⟨dj,c0,b,u,hj,hb,hdj,hy,hvv⟩:=h3
     have hw:=dO hkn hg hj hb hdj
     cases hc:(c0 && eX b want) with
     | true=>
      rw [hc] at hw hvv
      rw [if_pos hw]
      rw [Bool.and_eq_true] at hc
      rw [show v=u from hvv] at hnext
      exact .inl (hy hc.1 hc.2 a w hkn hgd _ _ hnext)
     | false=>
      rw [hc] at hw hvv
      rw [if_neg UU]
      rw [show v=undef from hvv] at hnext
      exact hnext w hgd
   | none=>
    have hir:i∈r:=by
     rcases hcov i hik hun with ⟨v,hv⟩ | h
     ·rw [oK] at hv;cases hv
     ·exact h
    cases r with
    | nil=>cases hir
    | cons c r=>
     have hic:i=c:=by
      rcases List.mem_cons.1 hir with h | h
      ·exact h
      ·exfalso
       obtain ⟨p,hp⟩:=lQ dN h
       rcases hp with ⟨h1,_,h3⟩ | ⟨_,h3⟩ | ⟨p,h1,h3⟩
       ·have:=(hr p h1).2.1;have h5:=hwl p h3
        rw [getD_both this] at h5;cases h5
       ·exact h3
       ·have:=(hr p h1).2.1;have h5:=hwl p h3
        rw [getD_both this] at h5;cases h5
     subst hic
     rw [List.nodup_cons] at hnd
     have mW:jq all r=true:=by
      cases r with
      | nil=>rfl
      | cons j r=>simp only [jq,Bool.and_eq_true] at dN;exact dN.2
     have hr':∀ j∈r,j<k∧(listed.setIfInBounds i true).getD j true=false∧lk aB j=none:=fun j hj=>by
      have h1:=hr j (List.mem_cons_of_mem _ hj)
      have hji:i ≠ j:=fun e=>hnd.1 (e▸hj)
      exact ⟨h1.1,by rw [getD_set_ne true hji];exact h1.2.1,h1.2.2⟩
     have jZ:∀ j,j<k→(listed.setIfInBounds i true).getD j true=false→(∃ v,lk aB j=some v)∨j∈r:=fun j hj hl=>by
      by_cases hji:i=j
      ·subst hji;simp [hsz] at hl
      ·rw [getD_set_ne true hji] at hl
       rcases hcov j hj hl with h | h
       ·exact .inl h
       ·exact .inr ((List.mem_cons.1 h).resolve_left (Ne.symm hji))
     have hkn:=fM (o:=o) hds hm (aU:=aK++aB) (fun j u hu=>by
      rw [dK,Bc] at hu
      cases hE:lk aK j with
      | some v=>rw [hE] at hu;exact .inl hu
      | none=>rw [hE] at hu;exact .inr hu) hall
     unfold fD at hD
     obtain ⟨o',ho',hD⟩:=hD
     rw [ho] at ho';cases ho'
     rcases hD with ⟨hds',R,⟨hg,hE⟩,hD⟩ | ⟨hdn,h',⟨hg,_,hSt⟩,hle',hD⟩
     ·rw [if_pos (hg _ hkn)]
      refine .inl (hE a w [] hkn (by simpa using hm.good) _ _ fun v hn w' hR hG'=>?_)
      rw [List.nil_append] at hG'
      have hlen:∀ x:Hp,aI x h→aI x (hn++h):=fun x hx=>dQ fun b=>by have:=hx.cnt b;rw [fK];omega
      refine ih r ((i,v)::aK) (hn++h) _ _ _ hleft (inv.set hi hik) (wR hm ho hik hun hsz hd hf hG' (fun j u hu=>(hS j u hu).1) hEk (.inr ⟨oK,rfl⟩)) (fun j u hu=>?_) hr' hnd.2 mW jZ (hlen _ hle) (fun ht=>hlen _ (pV ?_)) (hD v hn hR)
      ·rcases List.mem_cons.1 hu with hu | hu
       ·cases hu;exact hik
       ·exact hEk j u hu
      ·by_cases hji:i=t0
       ·subst hji;exact lH
       ·rwa [getD_set_ne false hji] at ht
     ·rw [if_pos UG]
      refine .inl (hSt a w hkn hm.good _ _ fun w' hG'=>?_)
      have hmc:l7 n w0 mu all l aB aK h' (listed.setIfInBounds i true) a w':=by
       refine ⟨hm.size,hm.defers,hm.has,hG',fun j u hj hl d hdj=>?_,fun j u hj=>⟨getD_set_true (hm.jP j u hj).1,(hm.jP j u hj).2⟩⟩
       have hji:i ≠ j:=fun e=>by subst e;rw [oK] at hj;cases hj
       exact hm.lX j u hj U9 d hdj
      refine ih r aK h' _ _ _ hleft (inv.set hi hik) hmc hEk hr' hnd.2 mW jZ hle' (fun ht=>?_) hD
      exfalso
      rcases oJ i hik (by simp [aA,ho,hdn]) with e | e
      ·subst e
       rw [show (listed.setIfInBounds i true).getD i false=true by simp [hsz]] at ht;cases ht
      ·have:=getD_set_true (i:=i) (hwl t0 e)
       rw [this] at ht;cases ht
theorem EY {ops:List Oper} (k t0 m:Nat) (S C:List Nat) (h0:Hp) (hB:qZ ops.toArray n k t0 S C=true) (hf:aS l ((List.range k).map fun i=>bif Nat.beq i m then none else aA ops.toArray i)=true) (hle0:aI h0 hp) (hds:aY ops 0=ds)
  (h:DS P n w0 mu ops.toArray ds l h0 hp t0 (fun aB=>(((aA ops.toArray m).bind (look l)).isNone=true∨lk aB m=(aA ops.toArray m).bind (look l))∧fD P n w0 mu ops.toArray ds l h0 aB (fun aK hc=>Ops P n w0 mu ops.toArray (ops.drop k) (aO ds (aK++aB)++l) hc Q) C [] hp) S []):iV P n w0 mu ops.toArray l hp Q:=by
 intro a w hk hG
 simp only [qZ,Bool.and_eq_true] at hB
 obtain ⟨⟨⟨⟨⟨hd,hback⟩,mX⟩,dN⟩,dU⟩,oJ⟩:=hB
 simp only [lN,Bool.and_eq_true,decide_eq_true_eq] at mX
 obtain ⟨⟨hnd,hlt⟩,hcov⟩:=mX
 have hlt':∀ i∈S++C,i<k:=fun i hi=>by have:=List.all_eq_true.1 hlt i hi;simpa using this
 rw [List.nodup_append] at hnd
 obtain ⟨uC,xR,QK⟩:=hnd
 obtain ⟨aB,⟨hfm,hX⟩,GG,lV,hsS⟩:=Bd S [] uC (fun _ _=>rfl) (fun _ _ h=>by cases h) h (fun i v hv=>by cases hv)
 simp only [lk,reduceCtorEq,exists_false,or_false] at lV
 have hks:k≤ops.toArray.size:=by
  simp only [mV,Bool.or_eq_true,Bool.and_eq_true,decide_eq_true_eq] at dU
  rcases dU with h | h<;>omega
 have jg:∀ i d,lk ds i=some d→aA ops.toArray i=some d:=fun i d h=>by rw [← hds] at h;have:=(fV ops 0 i d h).2;simpa [aA] using this
 have inv0:HeadInv .any ops.toArray k (Array.replicate ops.toArray.size false):=
  ⟨by simp,fun j oj _ hl=>UD,fun t _ ht=>getD_in U7 (getD_replicate_false _ _)⟩
 have xU:∀ i,i<k→(Array.replicate ops.toArray.size false).getD i true=false:=fun i hi=>getD_in U8 (getD_replicate_false _ _)
 have hleft:leftOf k (Array.replicate ops.toArray.size false)=k:=by
  unfold leftOf
  rw [List.filter_eq_self.2]
  ·simp
  ·intro i hi
   simp only [xU i U0,Bool.not_false]
 have Ru:∀ i d u,i<k→aA ops.toArray i=some d→look l d=some u→lk aB i=some u:=fun i d u hi hdi hu=>by
  by_cases him:i=m
  ·subst him
   rw [hdi] at hfm
   rcases hfm with h1 | h1
   ·simp only [Option.bind_some,hu,Option.isNone_some,Bool.false_eq_true] at h1
   ·rw [h1];exact hu
  ·have h1:=oG (d:=d) _ hf (List.mem_map.2 ⟨i,List.mem_range.2 hi,by
    have:Nat.beq i m=false:=by
     cases hb:Nat.beq i m with
     | false=>rfl
     | true=>exact absurd (Nat.eq_of_beq_eq_true hb) him
    rw [this];exact hdi⟩)
   rw [h1] at hu;cases hu
 have key:=BL jg (P:=P) (n:=n) (w0:=w0) (mu:=mu) (l:=l) (hp:=hp) (h0:=h0) (all:=ops.toArray) (aB:=aB) (k:=k) (t0:=t0) (g:=ops.toArray.size - k) (Q':=QQ n w0 mu Q) (X:=fun aK hc=>Ops P n w0 mu ops.toArray (ops.drop k) (aO ds (aK++aB)++l) hc Q) hks hd Ru hback hle0
  (fun i hi hdn=>by
   have:=List.all_eq_true.1 oJ i (List.mem_range.2 hi)
   rw [hdn] at this
   simp only [Option.isSome_none,Bool.false_or,Bool.or_eq_true] at this
   rcases this with h | h
   ·exact .inl (Nat.eq_of_beq_eq_true h)
   ·exact .inr h)
  (fun i v hv=>⟨hlt' i (List.mem_append_left _ ((lV i).1 ⟨v,hv⟩)),hsS i v hv⟩)
  (fun aK h listed inv hall hX a w hmid hEk=>by
   have lS:Knows n (aO ds (aK++aB)++l) a:=by
    refine ⟨hmid.size,hmid.defers,fun t v ht=>?_⟩
    rcases bI ht with ht | ⟨_,ht⟩
    ·obtain ⟨j,h1,h2⟩:=eP (dF ht)
     rcases List.mem_append.1 h1 with h1 | h1
     ·exact (hmid.jP j v h1).2 t (jg _ _ h2)
     ·have hj:=GG j v h1
      have hjk:=hlt' j (List.mem_append_left _ ((lV j).1 ⟨v,hj⟩))
      refine hmid.lX j v hj ?_ t (jg _ _ h2)
      have h5:=hall j hjk
      cases hcc:listed.getD j false with
      | true=>rfl
      | false=>rw [getD_in UF hcc] at h5;cases h5
    ·exact hmid.has t v ht
   have hfin:=hX a w lS hmid.good
   simp only [mV,Bool.or_eq_true,Bool.and_eq_true,decide_eq_true_eq] at dU
   rcases dU with zn | ⟨⟨⟨oI,hs⟩,hc⟩,hseq⟩
   ·have e0:ops.drop k=[]:=List.drop_eq_nil_of_le (by simp at zn;omega)
    rw [e0] at hfin
    rw [show ops.toArray.size - k=0 by omega]
    refine ⟨?_,hfin⟩
    rw [List.eq_nil_iff_forall_not_mem]
    intro i hi
    obtain ⟨hun,o,ho,_⟩:=mem_ready.1 hi
    have hi':i<k:=by rw [zn];exact (Array.getElem?_eq_some_iff.1 ho).1
    rw [hall i hi'] at hun;cases hun
   ·have hl:listed=(Array.replicate k true)++(Array.replicate (ops.toArray.size - k) false):=by
     apply Array.ext
     ·simp [inv.size];simp at oI;omega
     ·intro i h1 h2
      by_cases hi:i<k
      ·have:=hall i hi
       simp [h1] at this
       rw [Array.getElem_append_left U0]
       simpa using this
      ·have h3:=inv.tail i Uz UZ
       simp [h1] at h3
       rw [Array.getElem_append_right UJ]
       simpa using h3
    have hdl:(ops.drop k).length=ops.toArray.size - k:=by simp
    rw [← hdl]
    exact wpAny_of_seq (ops.drop k) k listed a w (fun j=>by simp) U6 hfin)
  (fun listed inv i hi hun t ht=>by
   simp only [mV,Bool.or_eq_true,Bool.and_eq_true,decide_eq_true_eq] at dU
   rcases dU with h | ⟨⟨⟨oI,hs⟩,hc⟩,hseq⟩
   ·intro hr
    obtain ⟨_,o,ho,_⟩:=mem_ready.1 hr
    have:=(Array.getElem?_eq_some_iff.1 ho).1
    omega
   ·exact tail_waits hs hc oI inv _ i rfl hi hun t ht)
  k C [] hp _ a { w with drawn:=w.drawn + 1 } hleft inv0 ⟨hk.size,hk.defers,hk.has,hG.drawn _,fun i v _ hl=>UD,fun i v hv=>by cases hv⟩ (fun i v hv=>by cases hv)
  (fun i hi=>⟨hlt' i (List.mem_append_right _ hi),xU i (hlt' i (List.mem_append_right _ hi)),by
   cases hv:lk aB i with
   | none=>rfl
   | some v=>exact absurd rfl (QK i ((lV i).1 ⟨v,hv⟩) i hi)⟩) xR dN
  (fun i hi _=>by
   have:=bC (List.all_eq_true.1 hcov i (List.mem_range.2 hi))
   rcases List.mem_append.1 this with h | h
   ·exact .inl ((lV i).2 h)
   ·exact .inr h) hle0 (fun _=>aI.refl _) hX
 have e:k + (ops.toArray.size - k)=ops.toArray.size:=by omega
 rw [e] at key
 exact key
end
section
variable {n : Nat} {w0 : World} {mu : List Nat} {l lf : Fm} {h0 hp hc : Hp} {Q : Exit → Fm → Hp → Prop} {all : Array Oper} {aB iv aK : Fm} {k t0 i d : Nat} {ds : List (Nat × Nat)} {S r : List Nat} {X : Fm → Prop} {Y : Fm → Hp → Prop} {op : Op} {ty : TypeId} {pos : String} {af : Array Edge} {v : Value}
theorem OJ {id:Nat} {ops tl:List Oper} (k t0 m:Nat) (S C:List Nat) (h0:Hp) (h:DS Tryz.prog n w0 mu ops.toArray ds l h0 hp t0 (fun aB=>(((aA ops.toArray m).bind (look l)).isNone=true∨lk aB m=(aA ops.toArray m).bind (look l))∧fD Tryz.prog n w0 mu ops.toArray ds l h0 aB (fun aK hc=>Ops Tryz.prog n w0 mu ops.toArray tl (aO ds (aK++aB)++l) hc Q) C [] hp) S [])
  (hle0:aI h0 hp:=by (exact ak)) (hds:aY ops 0=ds:=by (simp only [aY,Nat.reduceAdd,Nat.zero_add];rfl)) (htl:ops.drop k=tl:=by (simp only [List.drop_succ_cons,List.drop_zero,List.drop_nil];rfl)) (hm:Tryz.prog.follows .mixedOrders=true:=by kernel_rfl) (hB:qZ ops.toArray n k t0 S C=true:=by decide +kernel) (hf:aS l ((List.range k).map fun i=>bif Nat.beq i m then none else aA ops.toArray i)=true:=by rfl):St Tryz.prog n w0 mu (.region id ops.toArray true) l hp Q:=
 oH hm (EY k t0 m S C h0 hB hf hle0 hds Vb)
end
end
section
attribute [local irreducible] Hy St Ops DH fE iK iE fU DS fD lZ
theorem zU {fn:Func} {R:Value→Hp→Prop} {l:Fm} {hp:Hp} {s0 s2 s3 a t b a2 t2 b2:Nat} {cs cs2:Array Value} {tb tb2:TypeId} {v v2 v3:Value} (h:R (.tuple #[v,.agg cs,.agg cs2,v2,v3]) hp) (hr:fn.results=#[.tmp s0,.cell a t,.cell a2 t2,.tmp s2,.tmp s3]:=by rfl) (h0:look l s0=some v:=by rfl) (hv:look l a=some (.pointer (some ⟨b,0,none⟩)):=by rfl) (hw:look l a2=some (.pointer (some ⟨b2,0,none⟩)):=by rfl) (h3:look l s2=some v2:=by rfl) (h4:look l s3=some v3:=by rfl) (hag:mem Tb.ag t=true:=by rfl) (hm:(⟨b,cs,tb⟩:jY)∈hp:=by (first | (with_reducible apply mh) | (focus ((repeat (first | (with_reducible apply mh) | (with_reducible apply mt) | (with_reducible apply List.mem_append_right)));done)))) (hz:lk Tb.sz t=some cs.size:=by rfl) (Bv:mem Tb.ag t2=true:=by rfl) (hm2:(⟨b2,cs2,tb2⟩:jY)∈hp:=by (first | (with_reducible apply mh) | (focus ((repeat (first | (with_reducible apply mh) | (with_reducible apply mt) | (with_reducible apply List.mem_append_right)));done)))) (hz2:lk Tb.sz t2=some cs2.size:=by rfl):Fin Tryz.prog fn R .ret l hp:=
 ⟨.inl rfl,[v,.agg cs,.agg cs2,v2,v3],by rw [hr];exact ⟨h0,⟨⟨b,cs,tb⟩,hm,hv,.inr ⟨aj.Cb hag,aj.rH hz,rfl⟩⟩,⟨⟨b2,cs2,tb2⟩,hm2,hw,.inr ⟨aj.Cb Bv,aj.rH hz2,rfl⟩⟩,h3,h4,trivial⟩,h⟩
theorem yF (ws:List Nat) (hw:wL ws) (hwl:ws.length<1000000) (cap:Nat) (hcc:ws.length≤cap) {p:Option Addr} {w:World} (es:List aX) (ds:List eH) (pk:Dk) (one two:dX) (page acc:Int) {ev dv:Value} (hm:aF w (.slice p ws.length cap) 1 (ws.map uV)) (he:aF w ev 14 (es.map cu)) (hd:aF w dv 4 (ds.map iw)) (hcap:∃ q c,ev=.slice q es.length c∧es.length≤c) (hel:es.length<1000000) (hdl:ds.length<1000000):
  Fn Tryz.prog 10 [.agg #[.slice p ws.length cap],.agg #[ev,dv],.agg (jv one).toArray,.agg (jv two).toArray,.int .i64 page,.int .i64 acc,.agg (BB pk).toArray].toArray w [] (fun u hn=>(nU ws.length es ds one two page acc=true→∃ (ev' uk rv':Value) (he' hd' hr':Hp),u=.tuple #[.int .i64 (dW ⟨ws,one,two,pk,page.toNat,acc⟩ es).n,yj (dW ⟨ws,one,two,pk,page.toNat,acc⟩ es).f,.agg #[ev',uk],rv',.int .i64 0]∧Own 81 14 ev' he' ((dW ⟨ws,one,two,pk,page.toNat,acc⟩ es).s.es.map cu)∧Own 109 4 uk hd' (ds.map iw)∧Own 3 1 rv' hr' ((dW ⟨ws,one,two,pk,page.toNat,acc⟩ es).s.rd.map dH)∧aI (he'++hd'++hr') hn)∧(nU ws.length es ds one two page acc=false→u=.tuple #[.int .i64 0,yj eU,.agg #[.slice none 0 0,.slice none 0 0],.slice none 0 0,.int .i64 1])):=by
 obtain ⟨qe,ce,rfl,hlc⟩:=hcap
 obtain ⟨qd,cd,rfl,_⟩:=hd.opened
 refine enter Tryz.func10 ?_
 refine MH ?_
 intro B1 B2 B3 B4 B5 B6 B7
 refine OI #[.slice p ws.length cap,.slice qe es.length ce,.slice qd ds.length cd,.int .i64 pk.cpu,.bool pk.fill,.bool pk.aP,.bool pk.walk,.int .i64 pk.drop,.bool pk.use,.bool one.on,.int .i64 one.frame,.int .i64 one.tag,.bool two.on,.int .i64 two.frame,.int .i64 two.tag,.int .i64 page,.int .i64 acc,.slice none 0 0] ?_
 refine run ?_
 intro Wb
 refine kR [⟨Wb,#[.slice p ws.length cap,.slice qe es.length ce,.slice qd ds.length cd,.int .i64 pk.cpu,.bool pk.fill,.bool pk.aP,.bool pk.walk,.int .i64 pk.drop,.bool pk.use,.bool one.on,.int .i64 one.frame,.int .i64 one.tag,.bool two.on,.int .i64 two.frame,.int .i64 two.tag,.int .i64 page,.int .i64 acc,.slice none 0 0],99⟩] (⟨B7,#[.slice none 0 0,.slice none 0 0],35⟩::⟨B6,#[.int .i64 0,.int .i64 0,.int .i64 0,.bool false,.int .i64 0],50⟩::⟨B5,(BB pk).toArray,44⟩::⟨B4,(jv two).toArray,29⟩::⟨B3,(jv one).toArray,29⟩::⟨B2,#[.slice qe es.length ce,.slice qd ds.length cd],35⟩::⟨B1,#[.slice p ws.length cap],24⟩::[]) (fun wc hG=>LD ws hwl cap hcc es ds pk one two page acc ((bT.old he).into hG) ((bT.old hd).into hG) ⟨_,_,rfl,hlc⟩ hel hG.jK) ?_ az
 rintro _ hn1 ⟨rfl,hle1⟩
 refine aZ (⟨Wb,#[.slice p ws.length cap,.slice qe es.length ce,.slice qd ds.length cd,.int .i64 pk.cpu,.bool pk.fill,.bool pk.aP,.bool pk.walk,.int .i64 pk.drop,.bool pk.use,.bool one.on,.int .i64 one.frame,.int .i64 one.tag,.bool two.on,.int .i64 two.frame,.int .i64 two.tag,.int .i64 page,.int .i64 acc,.slice none 0 0],99⟩::⟨B7,#[.slice none 0 0,.slice none 0 0],35⟩::⟨B6,#[.int .i64 0,.int .i64 0,.int .i64 0,.bool false,.int .i64 0],50⟩::⟨B5,(BB pk).toArray,44⟩::⟨B4,(jv two).toArray,29⟩::⟨B3,(jv one).toArray,29⟩::⟨B2,#[.slice qe es.length ce,.slice qd ds.length cd],35⟩::⟨B1,#[.slice p ws.length cap],24⟩::[]) (cnt1 hle1) ?_
 refine run ?_
 refine ah _ rfl (fun hc=>?_) (fun hc=>?_)
 ·have hf:nU ws.length es ds one two page acc=false:=by simpa using hc
  rw [hf]
  refine run ?_
  refine jO 14 ?_
  refine jO 17 ?_
  refine jO 18 ?_
  refine eG 7 3 [0,1,2] [3,4,5,6] (⟨Wb,#[.slice p ws.length cap,.slice qe es.length ce,.slice qd ds.length cd,.int .i64 pk.cpu,.bool pk.fill,.bool pk.aP,.bool pk.walk,.int .i64 pk.drop,.bool pk.use,.bool one.on,.int .i64 one.frame,.int .i64 one.tag,.bool two.on,.int .i64 two.frame,.int .i64 two.tag,.int .i64 page,.int .i64 acc,.slice none 0 0],99⟩::⟨B7,#[.slice none 0 0,.slice none 0 0],35⟩::⟨B6,#[.int .i64 0,.int .i64 0,.int .i64 0,.bool false,.int .i64 0],50⟩::⟨B5,(BB pk).toArray,44⟩::⟨B4,(jv two).toArray,29⟩::⟨B3,(jv one).toArray,29⟩::⟨B2,#[.slice qe es.length ce,.slice qd ds.length cd],35⟩::⟨B1,#[.slice p ws.length cap],24⟩::[]) ?_
  refine dV ?_
  refine cSame ?_
  refine cSame ?_
  refine H6 (fun hx=>jG rfl) ?_
  refine H6 (fun hx=>jG rfl) ?_
  refine bf ?_
  refine dY ?_
  refine run ?_
  exact zU (v:=.int .i64 0) (v2:=.slice none 0 0) (v3:=.int .i64 1) (cs:=#[.int .i64 0,.int .i64 0,.int .i64 0,.bool false,.int .i64 0]) (cs2:=#[.slice none 0 0,.slice none 0 0]) ⟨fun h=>(by cases h),fun _=>rfl⟩
 have hf:nU ws.length es ds one two page acc=true:=by simpa using hc
 have QA:PtD.bH page 0 4095=true:=by
  simp only [nU,Bool.and_eq_true] at hf
  exact hf.1.1.2
 have hac:PtD.bH acc 0 2=true:=by
  simp only [nU,Bool.and_eq_true] at hf
  exact hf.1.2
 obtain ⟨c,hws,hone,Rz,hpk,Qk,hacc⟩:∃ c:gX,ws=c.ws∧one=c.one∧two=c.two∧pk=c.pk∧page=(c.page:Int)∧acc=c.acc:=⟨⟨ws,one,two,pk,page.toNat,acc⟩,rfl,rfl,rfl,rfl,by simp only [PtD.bH,Bool.and_eq_true,decide_eq_true_eq] at QA;dsimp only;omega,rfl⟩
 subst hws hone Rz hpk Qk hacc
 obtain ⟨hk,hE,_,_⟩:=KW hw hf
 rw [hf,Int.toNat_natCast]
 have hco:(⟨c.ws,c.one,c.two,c.pk,c.page,c.acc⟩:gX)=c:=rfl
 rw [hco]
 refine run ?_
 refine jJ (fun wc hG=>rF es ds _ _ ((bT.old he).good hG) ((bT.old hd).good hG) hel hdl) ?_
 rintro _ hn2 ⟨v1,h1,v2,h2,rfl,hA1,hA2,hle2⟩
 obtain ⟨q1,c1,e1⟩:=hA1.opened
 obtain ⟨q2,c2,e2⟩:=hA2.opened
 rw [List.length_map] at e1 e2
 subst e1 e2
 refine aZ (⟨Wb,#[.slice p c.ws.length cap,.slice qe es.length ce,.slice qd ds.length cd,.int .i64 c.pk.cpu,.bool c.pk.fill,.bool c.pk.aP,.bool c.pk.walk,.int .i64 c.pk.drop,.bool c.pk.use,.bool c.one.on,.int .i64 c.one.frame,.int .i64 c.one.tag,.bool c.two.on,.int .i64 c.two.frame,.int .i64 c.two.tag,.int .i64 (c.page:Int),.int .i64 c.acc,.slice none 0 0],99⟩::((h1++h2)++⟨B7,#[.slice none 0 0,.slice none 0 0],35⟩::⟨B6,#[.int .i64 0,.int .i64 0,.int .i64 0,.bool false,.int .i64 0],50⟩::⟨B5,(BB c.pk).toArray,44⟩::⟨B4,(jv c.two).toArray,29⟩::⟨B3,(jv c.one).toArray,29⟩::⟨B2,#[.slice qe es.length ce,.slice qd ds.length cd],35⟩::⟨B1,#[.slice p c.ws.length cap],24⟩::[])) (cnt1 hle2) ?_
 refine run ?_
 refine jJ (fun wc hG=>Lp ((bT.old he).good hG) ((bT.old hd).good hG) ⟨_,_,rfl,hlc⟩ hE.FI c.pk.drop) ?_
 rintro _ hn3 ⟨v3,h3,v4,h4,rfl,hD1,hD2,hle3⟩
 have hE':=Dp hE c.pk.drop
 have hAc:dW c es=kG c (jQ es c.pk.drop):=rfl
 rw [hAc]
 obtain ⟨DB,hDB⟩:∃ DB,DB=(decide (0≤c.pk.drop) && decide (c.pk.drop<(es.length:Int))):=⟨_,rfl⟩
 rw [← hDB] at hD1 hD2
 obtain ⟨q3,n3,c3,q4,n4,c4,e3,e4⟩:∃ q3 n3 c3 q4 n4 c4,v3=.slice q3 n3 c3∧v4=.slice q4 n4 c4:=by
  cases DB with
  | true=>
   obtain ⟨g1,g2⟩:=hD1 rfl
   obtain ⟨q3,c3,e3⟩:=g1.opened
   obtain ⟨q4,c4,e4⟩:=g2.opened
   exact ⟨_,_,_,_,_,_,e3,e4⟩
  | false=>
   obtain ⟨e3,e4⟩:=hD2 rfl
   exact ⟨_,_,_,_,_,_,e3,e4⟩
 subst e3 e4
 refine aZ (⟨Wb,#[.slice p c.ws.length cap,.slice q1 es.length c1,.slice q2 ds.length c2,.int .i64 c.pk.cpu,.bool c.pk.fill,.bool c.pk.aP,.bool c.pk.walk,.int .i64 c.pk.drop,.bool c.pk.use,.bool c.one.on,.int .i64 c.one.frame,.int .i64 c.one.tag,.bool c.two.on,.int .i64 c.two.frame,.int .i64 c.two.tag,.int .i64 (c.page:Int),.int .i64 c.acc,.slice none 0 0],99⟩::((h3++h4)++((h1++h2)++⟨B7,#[.slice none 0 0,.slice none 0 0],35⟩::⟨B6,#[.int .i64 0,.int .i64 0,.int .i64 0,.bool false,.int .i64 0],50⟩::⟨B5,(BB c.pk).toArray,44⟩::⟨B4,(jv c.two).toArray,29⟩::⟨B3,(jv c.one).toArray,29⟩::⟨B2,#[.slice qe es.length ce,.slice qd ds.length cd],35⟩::⟨B1,#[.slice p c.ws.length cap],24⟩::[]))) (cnt1 hle3) ?_
 rw [← hDB]
 refine run ?_
 intro Y
 refine fZ (σ:=Value × Value × Hp × Hp) (fun _=>[]) (fun z=>⟨Wb,#[.slice p c.ws.length cap,z.1,z.2.1,.int .i64 c.pk.cpu,.bool c.pk.fill,.bool c.pk.aP,.bool c.pk.walk,.int .i64 c.pk.drop,.bool c.pk.use,.bool c.one.on,.int .i64 c.one.frame,.int .i64 c.one.tag,.bool c.two.on,.int .i64 c.two.frame,.int .i64 c.two.tag,.int .i64 (c.page:Int),.int .i64 c.acc,.slice none 0 0],99⟩::((z.2.2.1++z.2.2.2)++⟨B7,#[.slice none 0 0,.slice none 0 0],35⟩::⟨B6,#[.int .i64 0,.int .i64 0,.int .i64 0,.bool false,.int .i64 0],50⟩::⟨B5,(BB c.pk).toArray,44⟩::⟨B4,(jv c.two).toArray,29⟩::⟨B3,(jv c.one).toArray,29⟩::⟨B2,#[.slice qe es.length ce,.slice qd ds.length cd],35⟩::⟨B1,#[.slice p c.ws.length cap],24⟩::[])) (fun z=>Own 81 14 z.1 z.2.2.1 ((jQ es c.pk.drop).map cu)∧Own 109 4 z.2.1 z.2.2.2 (ds.map iw)) ?_ ?_
 ·refine ah _ rfl (fun hc3=>?_) (fun hc3=>?_)
  ·have TY:DB=true:=by cases DB with
    | true=>rfl
    | false=>simp at hc3
   obtain ⟨g1,g2⟩:=hD1 TY
   refine run ?_
   exact eY (.slice q3 n3 c3,.slice q4 n4 c4,h3,h4) ⟨g1,g2⟩ (h2:=by (exact ak))
  ·have hDf:DB=false:=by cases DB with
    | true=>simp at hc3
    | false=>rfl
   have hdr:jQ es c.pk.drop=es:=by unfold jQ;rw [← hDB,hDf];rfl
   refine run ?_
   exact eY (.slice q1 es.length c1,.slice q2 ds.length c2,h1,h2) ⟨by rw [hdr];exact hA1,hA2⟩ (h2:=by (exact ak))
 rintro ⟨ev1,qC,he1,hd1⟩ ⟨g1,g2⟩
 dsimp only at g1 g2 ⊢
 refine run ?_
 refine kR (⟨Wb,#[.slice p c.ws.length cap,ev1,qC,.int .i64 c.pk.cpu,.bool c.pk.fill,.bool c.pk.aP,.bool c.pk.walk,.int .i64 c.pk.drop,.bool c.pk.use,.bool c.one.on,.int .i64 c.one.frame,.int .i64 c.one.tag,.bool c.two.on,.int .i64 c.two.frame,.int .i64 c.two.tag,.int .i64 (c.page:Int),.int .i64 c.acc,.slice none 0 0],99⟩::(he1++hd1++[])) (⟨B7,#[.slice none 0 0,.slice none 0 0],35⟩::⟨B6,#[.int .i64 0,.int .i64 0,.int .i64 0,.bool false,.int .i64 0],50⟩::⟨B5,(BB c.pk).toArray,44⟩::⟨B4,(jv c.two).toArray,29⟩::⟨B3,(jv c.one).toArray,29⟩::⟨B2,#[.slice qe es.length ce,.slice qd ds.length cd],35⟩::⟨B1,#[.slice p c.ws.length cap],24⟩::[]) (fun wc hG=>EX c hk cap hcc (jQ es c.pk.drop) ds hE' hac ((bT.old hm).into hG) g1 g2 (Own.nil _ _) hG.jK) ?_ az
 rintro u5 SI ⟨vK,Ae,OX,he2,hd2,hr2,rfl,h12,h22,h32,Ls⟩
 simp only [nV] at Ls
 generalize kG c (jQ es c.pk.drop)=X at h12 h32 ⊢
 obtain ⟨q5,c5,e5⟩:=h12.opened
 obtain ⟨q6,c6,e6⟩:=h22.opened
 obtain ⟨q7,c7,e7⟩:=h32.opened
 rw [List.length_map] at e5 e6 e7
 subst e5 e6 e7
 refine aZ (⟨Wb,#[.slice p c.ws.length cap,.slice q5 X.s.es.length c5,.slice q6 ds.length c6,.int .i64 c.pk.cpu,.bool c.pk.fill,.bool c.pk.aP,.bool c.pk.walk,.int .i64 c.pk.drop,.bool c.pk.use,.bool c.one.on,.int .i64 c.one.frame,.int .i64 c.one.tag,.bool c.two.on,.int .i64 c.two.frame,.int .i64 c.two.tag,.int .i64 (c.page:Int),.int .i64 c.acc,.slice q7 X.s.rd.length c7],99⟩::⟨B7,#[.slice none 0 0,.slice none 0 0],35⟩::⟨B6,#[.int .i64 0,.int .i64 0,.int .i64 0,.bool false,.int .i64 0],50⟩::⟨B5,(BB c.pk).toArray,44⟩::⟨B4,(jv c.two).toArray,29⟩::⟨B3,(jv c.one).toArray,29⟩::⟨B2,#[.slice qe es.length ce,.slice qd ds.length cd],35⟩::⟨B1,#[.slice p c.ws.length cap],24⟩::(he2++hd2++hr2)) (cnt1 Ls) ?_
 refine run ?_
 refine jO 17 ?_
 refine jO 18 ?_
 refine OJ 15 11 10 [0,1,2,3,4,5,6,7,8,9,10] [11,12,13,14] (⟨B6,#[.int .i64 X.f.kind,.int .i64 X.f.stage,.int .i64 X.f.level,.bool X.f.walk,.int .i64 X.f.page],50⟩::⟨Wb,#[.slice p c.ws.length cap,.slice q5 X.s.es.length c5,.slice q6 ds.length c6,.int .i64 c.pk.cpu,.bool c.pk.fill,.bool c.pk.aP,.bool c.pk.walk,.int .i64 c.pk.drop,.bool c.pk.use,.bool c.one.on,.int .i64 c.one.frame,.int .i64 c.one.tag,.bool c.two.on,.int .i64 c.two.frame,.int .i64 c.two.tag,.int .i64 (c.page:Int),.int .i64 c.acc,.slice q7 X.s.rd.length c7],99⟩::⟨B5,(BB c.pk).toArray,44⟩::⟨B4,(jv c.two).toArray,29⟩::⟨B3,(jv c.one).toArray,29⟩::⟨B2,#[.slice qe es.length ce,.slice qd ds.length cd],35⟩::⟨B1,#[.slice p c.ws.length cap],24⟩::(he2++hd2++hr2)) ?_
 refine dV ?_
 refine ⟨.inr rfl,?_⟩
 refine cSame (b:=B6) (tb:=50) (cs:=#[.int .i64 X.f.kind,.int .i64 X.f.stage,.int .i64 X.f.level,.bool X.f.walk,.int .i64 X.f.page]) ?_
 refine aN (b:=B7) (tb:=35) (cs:=#[.slice none 0 0,.slice none 0 0]) (cs':=#[.slice q5 X.s.es.length c5,.slice q6 ds.length c6]) (hp':=⟨B6,#[.int .i64 X.f.kind,.int .i64 X.f.stage,.int .i64 X.f.level,.bool X.f.walk,.int .i64 X.f.page],50⟩::⟨Wb,#[.slice p c.ws.length cap,.slice q5 X.s.es.length c5,.slice q6 ds.length c6,.int .i64 c.pk.cpu,.bool c.pk.fill,.bool c.pk.aP,.bool c.pk.walk,.int .i64 c.pk.drop,.bool c.pk.use,.bool c.one.on,.int .i64 c.one.frame,.int .i64 c.one.tag,.bool c.two.on,.int .i64 c.two.frame,.int .i64 c.two.tag,.int .i64 (c.page:Int),.int .i64 c.acc,.slice q7 X.s.rd.length c7],99⟩::⟨B5,(BB c.pk).toArray,44⟩::⟨B4,(jv c.two).toArray,29⟩::⟨B3,(jv c.one).toArray,29⟩::⟨B2,#[.slice qe es.length ce,.slice qd ds.length cd],35⟩::⟨B1,#[.slice p c.ws.length cap],24⟩::(he2++hd2++hr2)) ?_ az
 refine H6 (fun hx=>jG rfl) ?_
 refine H6 (fun hx=>jG rfl) ?_
 refine bf ?_
 refine dY ?_
 refine run ?_
 exact zU (v:=.int .i64 X.n) (v2:=.slice q7 X.s.rd.length c7) (v3:=.int .i64 0) (cs:=#[.int .i64 X.f.kind,.int .i64 X.f.stage,.int .i64 X.f.level,.bool X.f.walk,.int .i64 X.f.page]) (cs2:=#[.slice q5 X.s.es.length c5,.slice q6 ds.length c6]) ⟨fun _=>⟨_,_,_,he2,hd2,hr2,rfl,h12,h22,h32,by (exact ak)⟩,fun h=>by cases h⟩
end
section
attribute [local irreducible] Hy St Ops DH fE iK iE fU DS fD lZ
structure zV (w:World) (wv gv ev dv pv:Value) (ws:List Nat) (sH:List Int) (es:List aX) (ds:List eH) (ps:List Dk):Prop where
 EI:wL ws
 sw:aF w wv 1 (ws.map uV)
 Ql:∃ q c,wv=.slice q ws.length c∧ws.length≤c
 sg:aF w gv 1 (sH.map dH)
 se:aF w ev 14 (es.map cu)
 cap:∃ q c,ev=.slice q es.length c∧es.length≤c
 sd:aF w dv 4 (ds.map iw)
 sp:aF w pv 6 (ps.map BB)
 wl:ws.length≤281474976710656
 gl:sH.length≤281474976710656
 el:es.length≤281474976710656
 dl:ds.length≤281474976710656
 pl:ps.length≤281474976710656
theorem zV.good {w w':World} {hp:Hp} {wv gv ev dv pv:Value} {ws:List Nat} {sH:List Int} {es:List aX} {ds:List eH} {ps:List Dk} (h:zV w wv gv ev dv pv ws sH es ds ps) (hG:Good w [] hp w'):zV w' wv gv ev dv pv ws sH es ds ps:=⟨h.EI,h.sw.good hG,h.Ql,h.sg.good hG,h.se.good hG,h.cap,h.sd.good hG,h.sp.good hG,h.wl,h.gl,h.el,h.dl,h.pl⟩
section
variable {w : World} {wv gv ev dv pv : Value} {ws : List Nat} {sH : List Int} {es : List aX} {ds : List eH} {ps : List Dk} {one two : dX} {fr ac : Int}
theorem Je (n m cn cm:Nat) (q q2:Option Addr) (w:World):Fn Tryz.prog 23 [.agg #[.slice q n cn,.int .i64 fr,.slice q2 m cm]].toArray w [] (fun u _=>u=.bool (decide ((2000:Int)<n) || decide ((500:Int)<m))):=by
 refine enter Tryz.func23 ?_
 refine aG ?_
 intro B
 exact fin1 rfl
theorem LG (n m cn cm:Nat) (q q2:Option Addr) (w:World) (hn:n≤281474976710656) (hm:m≤281474976710656):Fn Tryz.prog 24 [.agg #[.slice q n cn,.slice q2 m cm]].toArray w [] (fun r _=>r=.int .i64 ((n:Int) + m)):=by
 refine enter Tryz.func24 ?_
 refine run ?_
 intro B
 refine run ?_
 exact fin1 rfl
theorem EZ (h:zV w wv gv ev dv pv ws sH es ds ps):Fn Tryz.prog 5 [.agg #[wv,.int .i64 fr,gv,.bool one.on,.int .i64 one.frame,.int .i64 one.tag,.bool two.on,.int .i64 two.frame,.int .i64 two.tag,.int .i64 ac,ev,dv,pv]].toArray w [] (fun u _=>∃ b,u=.bool b∧(b=false→ws.length≤2000∧sH.length≤500∧es.length + ds.length≤200∧ps.length≤200)):=by
 obtain ⟨q1,c1,rfl,_,_⟩:=h.sw.opened
 obtain ⟨q2,c2,rfl,_,_⟩:=h.sg.opened
 obtain ⟨q3,c3,rfl,_⟩:=h.cap
 obtain ⟨q4,c4,rfl,_,_⟩:=h.sd.opened
 obtain ⟨q5,c5,rfl,_,_⟩:=h.sp.opened
 have h1:=h.wl
 have h2:=h.gl
 have h3:=h.el
 have h4:=h.dl
 have h5:=h.pl
 refine enter Tryz.func5 ?_
 refine aG ?_
 intro B
 refine ax (fun wc hG=>Je _ _ _ _ _ _ wc) ?_
 refine aG ?_
 refine bz (fun _ wc hG=>LG _ _ _ _ _ _ wc h3 h4) ?_
 refine aG ?_
 refine fin1 ⟨_,rfl,fun hb=>?_⟩
 simp only [Bool.or_eq_false_iff,decide_eq_false_iff_not] at hb
 omega
end
end
structure OL where
 x0:Nat
 x1:Nat
 x2:Nat
 x3:Nat
 x4:Nat
 x5:Nat
 x6:Nat
 x7:Nat
 pc:Nat
 OM:Nat
 Jf:Nat
 OO:Nat
 RD:Nat
 RF:Nat
 far:Nat
deriving DecidableEq
def LH:OL:=⟨0,0,0,0,0,0,0,0,0,0,0,0,0,0,0⟩
instance : Inhabited OL := ⟨LH⟩
abbrev TZ (r:OL):List Value:=[.int .u64 (r.x0:Int),.int .u64 (r.x1:Int),.int .u64 (r.x2:Int),.int .u64 (r.x3:Int),.int .u64 (r.x4:Int),.int .u64 (r.x5:Int),.int .u64 (r.x6:Int),.int .u64 (r.x7:Int),.int .u64 (r.pc:Int),.int .u64 (r.OM:Int),.int .u64 (r.Jf:Int),.int .u64 (r.OO:Int),.int .u64 (r.RD:Int),.int .u64 (r.RF:Int),.int .u64 (r.far:Int)]
structure RG where
 r:OL
 on:Int
deriving DecidableEq
instance : Inhabited RG := ⟨⟨LH, 0⟩⟩
abbrev Ua (c:RG):List Value:=[.int .u64 (c.r.x0:Int),.int .u64 (c.r.x1:Int),.int .u64 (c.r.x2:Int),.int .u64 (c.r.x3:Int),.int .u64 (c.r.x4:Int),.int .u64 (c.r.x5:Int),.int .u64 (c.r.x6:Int),.int .u64 (c.r.x7:Int),.int .u64 (c.r.pc:Int),.int .u64 (c.r.OM:Int),.int .u64 (c.r.Jf:Int),.int .u64 (c.r.OO:Int),.int .u64 (c.r.RD:Int),.int .u64 (c.r.RF:Int),.int .u64 (c.r.far:Int),.int .i64 c.on]
structure OQ where
 r:OL
 vm:Int
 vc:Int
 t:Jp
instance : Inhabited OQ := ⟨⟨LH, 0, 0, default⟩⟩
abbrev RH (c:OQ):List Value:=[.int .u64 (c.r.x0:Int),.int .u64 (c.r.x1:Int),.int .u64 (c.r.x2:Int),.int .u64 (c.r.x3:Int),.int .u64 (c.r.x4:Int),.int .u64 (c.r.x5:Int),.int .u64 (c.r.x6:Int),.int .u64 (c.r.x7:Int),.int .u64 (c.r.pc:Int),.int .u64 (c.r.OM:Int),.int .u64 (c.r.Jf:Int),.int .u64 (c.r.OO:Int),.int .u64 (c.r.RD:Int),.int .u64 (c.r.RF:Int),.int .u64 (c.r.far:Int),.int .i64 c.vm,.int .i64 c.vc,c.t.ev,c.t.dv]
structure E5 (w:World) (v:Value) (cs:List OQ):Prop where
 rows:aF w v 19 (cs.map RH)
 en:∀ c∈cs,aF w c.t.ev 14 (c.t.es.map cu)
 iv:∀ c∈cs,aF w c.t.dv 4 (c.t.ds.map iw)
theorem E5.good {w w':World} {hp:Hp} {v:Value} {cs:List OQ} (h:E5 w v cs) (hG:Good w [] hp w'):E5 w' v cs:=⟨h.rows.good hG,fun t ht=>(h.en t ht).good hG,fun t ht=>(h.iv t ht).good hG⟩
structure E8 where
 live:Bool
 dying:Bool
 iF:Int
 fs:List Int
 fp:Option Addr
 fc:Nat
 fr:List Int
 rp:Option Addr
 rc:Nat
 vs:List RG
 vp:Option Addr
 vk:Nat
instance : Inhabited E8 := ⟨⟨false, false, 0, [], none, 0, [], none, 0, [], none, 0⟩⟩
abbrev E8.fv (m:E8):Value:=.slice m.fp m.fs.length m.fc
abbrev E8.rv (m:E8):Value:=.slice m.rp m.fr.length m.rc
abbrev E8.vv (m:E8):Value:=.slice m.vp m.vs.length m.vk
abbrev RI (m:E8):List Value:=[.bool m.live,.bool m.dying,.int .i64 m.iF,m.fv,m.rv,m.vv]
structure Fa (w:World) (v:Value) (ms:List E8):Prop where
 rows:aF w v 6 (ms.map RI)
 fs:∀ m∈ms,aF w m.fv 1 (m.fs.map dH)
 fr:∀ m∈ms,aF w m.rv 1 (m.fr.map dH)
 vs:∀ m∈ms,aF w m.vv 16 (m.vs.map Ua)
theorem Fa.good {w w':World} {hp:Hp} {v:Value} {cs:List E8} (h:Fa w v cs) (hG:Good w [] hp w'):Fa w' v cs:=⟨h.rows.good hG,fun t ht=>(h.fs t ht).good hG,fun t ht=>(h.fr t ht).good hG,fun t ht=>(h.vs t ht).good hG⟩
structure OT (w:World) (wv cv vv rv:Value) (ws:List Nat) (cs:List OQ) (vs:List E8) (rs:List OL):Prop where
 EI:wL ws
 ws:aF w wv 1 (ws.map uV)
 cs:E5 w cv cs
 vs:Fa w vv vs
 rs:aF w rv 15 (rs.map TZ)
theorem OT.good {w w':World} {hp:Hp} {wv cv vv rv:Value} {ws:List Nat} {cs:List OQ} {vs:List E8} {rs:List OL} (h:OT w wv cv vv rv ws cs vs rs) (hG:Good w [] hp w'):OT w' wv cv vv rv ws cs vs rs:=⟨h.EI,h.ws.good hG,h.cs.good hG,h.vs.good hG,h.rs.good hG⟩
def OU:OQ:=⟨LH,0,0,⟨[],[],none,0,none,0⟩⟩
def RJ:E8:=⟨false,false,0,[],none,0,[],none,0,[],none,0⟩
theorem jS (w:World) (sz:Nat):aF w (.slice none 0 0) sz []:=⟨⟨none,0,rfl,fun h=>absurd rfl h⟩,by simp⟩
theorem E5.zero {w:World} {b t C:Nat} (h:w.heap[b]?=some (.cells ((List.replicate C (RH OU)).flatten).toArray t (0,0))) (hC:C≤1000):E5 w (.slice (some ⟨b,0,none⟩) C C) (List.replicate C OU):=by
 refine ⟨?_,fun c hc=>?_,fun c hc=>?_⟩
 ·have:=dm (w:=w) (b:=b) (t:=t) (cap:=C) (sz:=19) (xs:=List.replicate C (RH OU)) h (by intro c hc;rw [List.eq_of_mem_replicate hc];rfl) UJ
  simpa using this
 ·rw [List.eq_of_mem_replicate hc];exact jS _ _
 ·rw [List.eq_of_mem_replicate hc];exact jS _ _
theorem Fa.zero {w:World} {b t C:Nat} (h:w.heap[b]?=some (.cells ((List.replicate C (RI RJ)).flatten).toArray t (0,0))) (hC:C≤1000):Fa w (.slice (some ⟨b,0,none⟩) C C) (List.replicate C RJ):=by
 refine ⟨?_,fun c hc=>?_,fun c hc=>?_,fun c hc=>?_⟩
 ·have:=dm (w:=w) (b:=b) (t:=t) (cap:=C) (sz:=6) (xs:=List.replicate C (RI RJ)) h (by intro c hc;rw [List.eq_of_mem_replicate hc];rfl) UJ
  simpa using this
 ·rw [List.eq_of_mem_replicate hc];exact jS _ _
 ·rw [List.eq_of_mem_replicate hc];exact jS _ _
 ·rw [List.eq_of_mem_replicate hc];exact jS _ _
section
attribute [local irreducible] Hy St Ops DH fE iK iE fU DS fD lZ
theorem yG (n:Int) (w:World):Fn Tryz.prog 11 [.int .i64 n].toArray w [] (fun u _=>u=.int .i64 n):=by
 refine enter Tryz.func11 ?_
 refine run ?_
 exact fin1 rfl
theorem LJ {ws:List Nat}:∀ c∈ws.map uV,c.length=1∧c.all (·.oneCell')=true:=by
 intro c hc
 obtain ⟨x,_,rfl⟩:=List.mem_map.1 hc
 exact ⟨rfl,rfl⟩
theorem Fb (b m:Nat) (hm:m≤65536):Own 79 1 (.slice (some ⟨b,0,none⟩) m m) [⟨b,madeCells (Value.int .u64 0).cells (m * 1),79⟩] ((List.replicate m 0).map uV):=by
 rw [show madeCells (Value.int .u64 0).cells (m * 1)=((List.replicate m [Value.int .u64 0]).flatten).toArray from Ee [.int .u64 0] m 1 rfl UA]
 exact Dc b m _ (by rw [List.map_replicate];rfl) rfl LJ UC UC (by unfold maxLen;omega)
def BM:aX:=⟨2,0,0,true,7,0,1,0,true,false,false,false,false,0⟩
def yH:gX:=⟨List.replicate 16 0,⟨false,0,0⟩,⟨true,0,0⟩,⟨0,false,false,false,-1,true⟩,7,0⟩
theorem Jg:nU 16 [BM] [] yH.one yH.two 7 0=true:=by decide +kernel
theorem Fe:dW yH [BM]=⟨⟨[BM],[]⟩,1,eU⟩:=by kernel_rfl
theorem Ff (w:World):Fn Tryz.prog 14 [].toArray w [] (fun u _=>u=.bool true):=by
 refine enter Tryz.func14 ?_
 refine MH ?_
 refine make (m:=16) (fun M=>?_) UA
 refine run ?_
 intro B1 B2 B3
 refine jJ (fun wc hG=>yF (List.replicate 16 0) (fun x hx=>by rw [(List.mem_replicate.1 hx).2];decide) UA 16 UA (p:=some ⟨M,0,none⟩) [BM] [] yH.pk yH.one yH.two 7 0 (ev:=.slice (some ⟨B2,0,none⟩) 1 1) (dv:=.slice none 0 0) ((Fb M 16 UA).lie (fun e he=>hG.here e (by obtain rfl:=List.mem_singleton.1 he;simp)) UC) (dm (xs:=[cu BM]) (hG.here _ (List.mem_cons_of_mem _ mh)) (fun c hc=>by simp at hc;rcases hc with rfl | rfl<;>rfl) UC) ((Own.nil 109 4).lie (fun b hb=>by cases hb) UA) ⟨_,_,rfl,Nat.le_refl 1⟩ UA UA) ?_
 rintro u hn ⟨hu,_⟩
 obtain ⟨ev',uk,rv',he',hd',hr',hu1,g1,g2,g3,hle⟩:=hu (by rw [List.length_replicate];exact Jg)
 have e1:dW ⟨List.replicate 16 0,yH.one,yH.two,yH.pk,(7:Int).toNat,0⟩ [BM]=⟨⟨[BM],[]⟩,1,eU⟩:=Fe
 rw [e1] at hu1 g1 g3
 subst hu1
 obtain ⟨q1,c1,x1⟩:=g1.opened
 obtain ⟨q2,c2,x2⟩:=g2.opened
 obtain ⟨q3,c3,x3⟩:=g3.opened
 rw [List.length_map] at x1 x2 x3
 subst x1 x2 x3
 refine aZ [] ak ?_
 refine run ?_
 intro F G
 refine ax (fun wc hG=>yG 0 wc) ?_
 refine aG ?_
 exact fin1 rfl
end
section
open Go.ChangeShapes Go.WideShapes Go.ChangeAt Go.RowKit
theorem Qm {v:Value} (h:okW (.i .u64) v=true):∃ a:Nat,v=.int .u64 (a:Int)∧a<18446744073709551616:=by
 cases v<;>simp only [okW,Bool.and_eq_true,decide_eq_true_eq,Bool.false_eq_true] at h
 obtain ⟨rfl,h⟩:=h
 rename_i n
 simp only [Lit.wf,Bool.and_eq_true,decide_eq_true_eq] at h
 have h0:0≤n:=Int.le_trans UA h.1
 have h1:n≤18446744073709551615:=Int.le_trans h.2 UA
 exact ⟨n.toNat,by rw [Int.toNat_of_nonneg h0],by omega⟩
theorem Jh {cs:List Value} (h:gz [.i .i64,.i .i64,.i .i64,.b,.i .i64,.i .i64,.i .i64,.i .i64,.b,.b,.b,.b,.b,.i .i64] cs=true):∃ e:aX,cs=cu e∧True:=by
 obtain ⟨_,_,rfl,h0,r0⟩:=aH h
 obtain ⟨_,_,rfl,h1,r1⟩:=aH r0
 obtain ⟨_,_,rfl,h2,r2⟩:=aH r1
 obtain ⟨_,_,rfl,h3,r3⟩:=aH r2
 obtain ⟨_,_,rfl,h4,r4⟩:=aH r3
 obtain ⟨_,_,rfl,h5,r5⟩:=aH r4
 obtain ⟨_,_,rfl,h6,r6⟩:=aH r5
 obtain ⟨_,_,rfl,h7,r7⟩:=aH r6
 obtain ⟨_,_,rfl,h8,r8⟩:=aH r7
 obtain ⟨_,_,rfl,h9,r9⟩:=aH r8
 obtain ⟨_,_,rfl,h10,r10⟩:=aH r9
 obtain ⟨_,_,rfl,h11,r11⟩:=aH r10
 obtain ⟨_,_,rfl,h12,r12⟩:=aH r11
 obtain ⟨_,_,rfl,h13,r13⟩:=aH r12
 obtain ⟨a0,rfl,_⟩:=jd h0
 obtain ⟨a1,rfl,_⟩:=jd h1
 obtain ⟨a2,rfl,_⟩:=jd h2
 obtain ⟨a3,rfl⟩:=mP h3
 obtain ⟨a4,rfl,_⟩:=jd h4
 obtain ⟨a5,rfl,_⟩:=jd h5
 obtain ⟨a6,rfl,_⟩:=jd h6
 obtain ⟨a7,rfl,_⟩:=jd h7
 obtain ⟨a8,rfl⟩:=mP h8
 obtain ⟨a9,rfl⟩:=mP h9
 obtain ⟨a10,rfl⟩:=mP h10
 obtain ⟨a11,rfl⟩:=mP h11
 obtain ⟨a12,rfl⟩:=mP h12
 obtain ⟨SE,rfl,_⟩:=jd h13
 obtain rfl:=jE r13
 exact ⟨⟨a0,a1,a2,a3,a4,a5,a6,a7,a8,a9,a10,a11,a12,SE⟩,rfl,trivial⟩
theorem Ji {cs:List Value} (h:gz [.i .i64,.i .i64,.i .i64,.i .i64] cs=true):∃ e:eH,cs=iw e∧True:=by
 obtain ⟨_,_,rfl,h0,r0⟩:=aH h
 obtain ⟨_,_,rfl,h1,r1⟩:=aH r0
 obtain ⟨_,_,rfl,h2,r2⟩:=aH r1
 obtain ⟨_,_,rfl,h3,r3⟩:=aH r2
 obtain ⟨a0,rfl,_⟩:=jd h0
 obtain ⟨a1,rfl,_⟩:=jd h1
 obtain ⟨a2,rfl,_⟩:=jd h2
 obtain ⟨a3,rfl,_⟩:=jd h3
 obtain rfl:=jE r3
 exact ⟨⟨a0,a1,a2,a3⟩,rfl,trivial⟩
section
variable {H : Type} {enc : TypeId × Value → H} {w : World} {base : Nat} {spare : Nat → Bool} {held : Bool}
theorem BN {fuel:Nat} {cs:List Value} {x:DataW H × List MemPlace} (h:DataW.trod enc Tryz.prog w base spare held fuel 22 cs=some x) (hz:y9 Tryz.prog 22 x.1):∃ v,∃ xs:List Nat,cs=[v]∧aF w v 1 (xs.map uV)∧(∀ a∈xs,a<18446744073709551616)∧xs.length≤reachBytes:=
 jL (ks:=[.i .u64]) Tryz.underlying22 UO UO UA UO (fun cs h=>by
  obtain ⟨_,_,rfl,h1,h⟩:=aH h
  obtain rfl:=jE h
  obtain ⟨a,rfl,ha⟩:=Qm h1
  exact ⟨a,rfl,ha⟩) h hz
theorem BO {fuel:Nat} {cs:List Value} {x:DataW H × List MemPlace} (h:DataW.trod enc Tryz.prog w base spare held fuel 25 cs=some x) (hz:y9 Tryz.prog 25 x.1):∃ v,∃ xs:List Int,cs=[v]∧aF w v 1 (xs.map dH)∧(∀ a∈xs,I64 a)∧xs.length≤reachBytes:=
 jL (ks:=[.i .i64]) Tryz.underlying25 UO UO UA UO (fun cs h=>by
  obtain ⟨_,_,rfl,h1,h⟩:=aH h
  obtain rfl:=jE h
  obtain ⟨a,rfl,ha⟩:=jd h1
  exact ⟨a,rfl,ha⟩) h hz
theorem zW {fuel:Nat} {t e:TypeId} {p:Option Addr} {n c:Nat} {x:DataW H × List MemPlace} (ht:Tryz.prog.underlying t=some (.slice e)) (h:DataW.trod enc Tryz.prog w base spare held fuel t [.slice p n c]=some x):n≤c:=by
 rcases Go.Deep.open_slice ht h with ⟨hc,_⟩ | ⟨a,len,cap,m,k,D,Pl,hc,hb,hl,hm,hmm,hxx,hx⟩
 ·injection hc with hc
  injection hc with _ h1 h2
  omega
 ·injection hc with hc
  injection hc with _ h1 h2
  omega
theorem open_entries {fuel:Nat} {cs:List Value} {x:DataW H × List MemPlace} (h:DataW.trod enc Tryz.prog w base spare held fuel 32 cs=some x) (hz:y9 Tryz.prog 32 x.1):∃ v,∃ xs:List aX,cs=[v]∧aF w v 14 (xs.map cu)∧(∀ a∈xs,True)∧xs.length≤reachBytes:=
 jL (f:=cu) (q:=fun _=>True) (ks:=[.i .i64,.i .i64,.i .i64,.b,.i .i64,.i .i64,.i .i64,.i .i64,.b,.b,.b,.b,.b,.i .i64]) Tryz.underlying32 UO (aj.rH (t:=81) (s:=14) rfl) UA UO (fun cs hc=>Jh hc) h hz
theorem zX {fuel:Nat} {cs:List Value} {x:DataW H × List MemPlace} (h:DataW.trod enc Tryz.prog w base spare held fuel 33 cs=some x) (hz:y9 Tryz.prog 33 x.1):∃ v,∃ xs:List eH,cs=[v]∧aF w v 4 (xs.map iw)∧(∀ a∈xs,True)∧xs.length≤reachBytes:=
 jL (f:=iw) (q:=fun _=>True) (ks:=[.i .i64,.i .i64,.i .i64,.i .i64]) Tryz.underlying33 UO (aj.rH (t:=109) (s:=4) rfl) UA UO (fun cs hc=>Ji hc) h hz
theorem Jj {fuel:Nat} {cs:List Value} {x:DataW H × List MemPlace} (h:DataW.trod enc Tryz.prog w base spare held fuel 35 cs=some x) (hz:y9 Tryz.prog 35 x.1):∃ t:Jp,cs=SG t∧(aF w t.ev 14 (t.es.map cu)∧aF w t.dv 4 (t.ds.map iw)∧t.es.length≤t.ec∧t.es.length≤reachBytes∧t.ds.length≤reachBytes):=by
 obtain ⟨hl,n,hf⟩:=jc Tryz.underlying35 h hz
 rw [dM (show bU Tryz.prog 35=some 2 from aj.rH rfl)] at hl
 match cs,hl with
 | [c0,c1],_=>
  have Ub:Tryz.prog.cellsOf 32=1:=by kernel_rfl
  have Uc:Tryz.prog.cellsOf 33=1:=by kernel_rfl
  obtain ⟨_,h0,z0⟩:=hf 0 _ rfl
  obtain ⟨_,h1,z1⟩:=hf 1 _ rfl
  simp only [List.getElem_toArray,List.getElem_cons_zero,List.getElem_cons_succ,Ub,Uc,List.drop_zero,List.drop_succ_cons,List.take_succ_cons,List.take_zero] at h0 h1 z0 z1
  obtain ⟨v0,es,e0,s0,_,l0⟩:=open_entries h0 z0
  obtain ⟨v1,ds,e1,s1,_,l1⟩:=zX h1 z1
  cases e0;cases e1
  obtain ⟨p0,k0,rfl,_,_⟩:=s0.opened
  obtain ⟨p1,k1,rfl,_,_⟩:=s1.opened
  exact ⟨⟨es,ds,p0,k0,p1,k1⟩,rfl,s0,s1,zW Tryz.underlying32 h0,l0,l1⟩
end
end
section
open Go.ChangeShapes Go.WideShapes Go.ChangeAt Go.RowKit
theorem LK {cs:List Value} (h:gz [.i .i64,.b,.b,.b,.i .i64,.b] cs=true):∃ e:Dk,cs=BB e∧True:=by
 obtain ⟨_,_,rfl,h0,r0⟩:=aH h
 obtain ⟨_,_,rfl,h1,r1⟩:=aH r0
 obtain ⟨_,_,rfl,h2,r2⟩:=aH r1
 obtain ⟨_,_,rfl,h3,r3⟩:=aH r2
 obtain ⟨_,_,rfl,h4,r4⟩:=aH r3
 obtain ⟨_,_,rfl,h5,r5⟩:=aH r4
 obtain ⟨a0,rfl,_⟩:=jd h0
 obtain ⟨a1,rfl⟩:=mP h1
 obtain ⟨a2,rfl⟩:=mP h2
 obtain ⟨a3,rfl⟩:=mP h3
 obtain ⟨a4,rfl,_⟩:=jd h4
 obtain ⟨a5,rfl⟩:=mP h5
 obtain rfl:=jE r5
 exact ⟨⟨a0,a1,a2,a3,a4,a5⟩,rfl,trivial⟩
theorem DC {cs:List Value} (h:gz [.b,.i .i64,.i .i64] cs=true):∃ e:dX,cs=jv e:=by
 obtain ⟨_,_,rfl,h0,r0⟩:=aH h
 obtain ⟨_,_,rfl,h1,r1⟩:=aH r0
 obtain ⟨_,_,rfl,h2,r2⟩:=aH r1
 obtain ⟨a0,rfl⟩:=mP h0
 obtain ⟨a1,rfl,_⟩:=jd h1
 obtain ⟨a2,rfl,_⟩:=jd h2
 obtain rfl:=jE r2
 exact ⟨⟨a0,a1,a2⟩,rfl⟩
section
variable {H : Type} {enc : TypeId × Value → H} {w : World} {base : Nat} {spare : Nat → Bool} {held : Bool}
theorem BP {fuel:Nat} {cs:List Value} {x:DataW H × List MemPlace} (h:DataW.trod enc Tryz.prog w base spare held fuel 36 cs=some x) (hz:y9 Tryz.prog 36 x.1):∃ v,∃ xs:List Dk,cs=[v]∧aF w v 6 (xs.map BB)∧(∀ a∈xs,True)∧xs.length≤reachBytes:=
 jL (f:=BB) (q:=fun _=>True) (ks:=[.i .i64,.b,.b,.b,.i .i64,.b]) Tryz.underlying36 UO (aj.rH (t:=44) (s:=6) rfl) UA UO (fun cs hc=>LK hc) h hz
theorem Fg {fuel:Nat} {cs:List Value} {x:DataW H × List MemPlace} (h:DataW.trod enc Tryz.prog w base spare held fuel 24 cs=some x) (hz:y9 Tryz.prog 24 x.1):∃ v,∃ ws:List Nat,cs=[v]∧wL ws∧aF w v 1 (ws.map uV)∧(∃ q c,v=.slice q ws.length c∧ws.length≤c)∧ws.length≤reachBytes:=by
 obtain ⟨hl,n,hf⟩:=jc Tryz.underlying24 h hz
 rw [dM (show bU Tryz.prog 24=some 1 from aj.rH rfl)] at hl
 match cs,hl with
 | [c0],_=>
  have s0:Tryz.prog.cellsOf 22=1:=by kernel_rfl
  obtain ⟨_,h0,z0⟩:=hf 0 _ rfl
  simp only [List.getElem_toArray,List.getElem_cons_zero,List.getElem_cons_succ,s0,List.drop_zero,List.drop_succ_cons,List.take_succ_cons,List.take_zero] at h0 z0
  obtain ⟨v,ws,e0,s0,w0,l0⟩:=BN h0 z0
  cases e0
  obtain ⟨p0,k0,rfl,_,_⟩:=s0.opened
  exact ⟨_,ws,rfl,w0,s0,⟨_,_,rfl,zW Tryz.underlying22 h0⟩,l0⟩
theorem Fh {fuel:Nat} {cs:List Value} {x:DataW H × List MemPlace} (h:DataW.trod enc Tryz.prog w base spare held fuel 27 cs=some x) (hz:y9 Tryz.prog 27 x.1):∃ wv,∃ ws:List Nat,∃ fr:Int,∃ gv,∃ gs:List Int,cs=[wv,.int .i64 fr,gv]∧wL ws∧aF w wv 1 (ws.map uV)∧(∃ q c,wv=.slice q ws.length c∧ws.length≤c)∧ws.length≤reachBytes∧aF w gv 1 (gs.map dH)∧gs.length≤reachBytes:=by
 obtain ⟨hl,n,hf⟩:=jc Tryz.underlying27 h hz
 rw [dM (show bU Tryz.prog 27=some 3 from aj.rH rfl)] at hl
 match cs,hl with
 | [c0,c1,c2],_=>
  have s0:Tryz.prog.cellsOf 24=1:=by kernel_rfl
  have s1:Tryz.prog.cellsOf 3=1:=by kernel_rfl
  have s2:Tryz.prog.cellsOf 25=1:=by kernel_rfl
  obtain ⟨_,h0,z0⟩:=hf 0 _ rfl
  obtain ⟨_,h1,z1⟩:=hf 1 _ rfl
  obtain ⟨_,h2,z2⟩:=hf 2 _ rfl
  simp only [List.getElem_toArray,List.getElem_cons_zero,List.getElem_cons_succ,s0,s1,s2,List.drop_zero,List.drop_succ_cons,List.take_succ_cons,List.take_zero] at h0 z0 h1 z1 h2 z2
  obtain ⟨wv,ws,e0,w0,s0,c0,l0⟩:=Fg h0 z0
  obtain ⟨k1,e1,_⟩:=DataW.trod_int Tryz.underlying3 h1
  obtain ⟨gv,gs,e2,s2,_,l2⟩:=BO h2 z2
  cases e0;cases e1;cases e2
  exact ⟨_,ws,k1,_,gs,rfl,w0,s0,c0,l0,s2,l2⟩
theorem Fj {fuel:Nat} {cs:List Value} {x:DataW H × List MemPlace} (h:DataW.trod enc Tryz.prog w base spare held fuel 31 cs=some x) (hz:y9 Tryz.prog 31 x.1):∃ wv,∃ ws:List Nat,∃ fr:Int,∃ gv,∃ gs:List Int,∃ one two:dX,∃ ac:Int,cs=[wv,.int .i64 fr,gv,.bool one.on,.int .i64 one.frame,.int .i64 one.tag,.bool two.on,.int .i64 two.frame,.int .i64 two.tag,.int .i64 ac]∧wL ws∧aF w wv 1 (ws.map uV)∧(∃ q c,wv=.slice q ws.length c∧ws.length≤c)∧ws.length≤reachBytes∧aF w gv 1 (gs.map dH)∧gs.length≤reachBytes:=by
 obtain ⟨hl,n,hf⟩:=jc Tryz.underlying31 h hz
 rw [dM (show bU Tryz.prog 31=some 10 from aj.rH rfl)] at hl
 match cs,hl with
 | [c0,c1,c2,c3,c4,c5,c6,c7,c8,c9],_=>
  have s0:Tryz.prog.cellsOf 27=3:=by kernel_rfl
  have s1:Tryz.prog.cellsOf 29=3:=by kernel_rfl
  have s2:Tryz.prog.cellsOf 3=1:=by kernel_rfl
  obtain ⟨_,h0,z0⟩:=hf 0 _ rfl
  obtain ⟨_,h1,z1⟩:=hf 1 _ rfl
  obtain ⟨_,h2,z2⟩:=hf 2 _ rfl
  obtain ⟨_,h3,z3⟩:=hf 3 _ rfl
  simp only [List.getElem_toArray,List.getElem_cons_zero,List.getElem_cons_succ,s0,s1,s2,List.drop_zero,List.drop_succ_cons,List.take_succ_cons,List.take_zero] at h0 z0 h1 z1 h2 z2 h3 z3
  obtain ⟨wv,ws,fr,gv,gs,e0,w0,s0,c0,l0,s2,l2⟩:=Fh h0 z0
  obtain ⟨one,e1⟩:=DC (mO 8 29 [.b,.i .i64,.i .i64] UO UO _ _ _ h1)
  obtain ⟨two,e2⟩:=DC (mO 8 29 [.b,.i .i64,.i .i64] UO UO _ _ _ h2)
  obtain ⟨k3,e3,_⟩:=DataW.trod_int Tryz.underlying3 h3
  cases e0;cases e1;cases e2;cases e3
  exact ⟨_,ws,fr,_,gs,one,two,k3,rfl,w0,s0,c0,l0,s2,l2⟩
theorem BQ {fuel:Nat} {cs:List Value} {x:DataW H × List MemPlace} (h:DataW.trod enc Tryz.prog w base spare held fuel 38 cs=some x) (hz:y9 Tryz.prog 38 x.1):∃ wv gv ev dv pv ws sH es ds ps one two fr ac,cs=[wv,.int .i64 fr,gv,.bool (dX.on one),.int .i64 (dX.frame one),.int .i64 (dX.tag one),.bool (dX.on two),.int .i64 (dX.frame two),.int .i64 (dX.tag two),.int .i64 ac,ev,dv,pv]∧zV w wv gv ev dv pv ws sH es ds ps:=by
 obtain ⟨hl,n,hf⟩:=jc Tryz.underlying38 h hz
 rw [dM (show bU Tryz.prog 38=some 13 from aj.rH rfl)] at hl
 match cs,hl with
 | [c0,c1,c2,c3,c4,c5,c6,c7,c8,c9,c10,c11,c12],_=>
  have s0:Tryz.prog.cellsOf 31=10:=by kernel_rfl
  have s1:Tryz.prog.cellsOf 35=2:=by kernel_rfl
  have s2:Tryz.prog.cellsOf 36=1:=by kernel_rfl
  obtain ⟨_,h0,z0⟩:=hf 0 _ rfl
  obtain ⟨_,h1,z1⟩:=hf 1 _ rfl
  obtain ⟨_,h2,z2⟩:=hf 2 _ rfl
  simp only [List.getElem_toArray,List.getElem_cons_zero,List.getElem_cons_succ,s0,s1,s2,List.drop_zero,List.drop_succ_cons,List.take_succ_cons,List.take_zero] at h0 z0 h1 z1 h2 z2
  obtain ⟨wv,ws,fr,gv,gs,one,two,ac,e0,w0,s0,c0,l0,s2,l2⟩:=Fj h0 z0
  obtain ⟨t,e1,t1,t2,t3,t4,t5⟩:=Jj h1 z1
  obtain ⟨pv,ps,e2,s3,_,l3⟩:=BP h2 z2
  cases e0;cases e1;cases e2
  exact ⟨_,_,_,_,_,ws,gs,t.es,t.ds,ps,one,two,fr,ac,rfl,w0,s0,c0,s2,t1,⟨_,_,rfl,t3⟩,t2,s3,Nat.le_trans l0 UA,Nat.le_trans l2 UA,Nat.le_trans t4 UA,Nat.le_trans t5 UA,Nat.le_trans l3 UA⟩
end
end
def MI (ws:List Nat) (two:dX) (mid:Nat):Ey:=bK ws 2 two.frame mid
def um (ws:List Nat) (two:dX) (mid:Nat) (acc:Int):yh:=(aV ws true two.frame mid acc).f
def yI (ws:List Nat) (two:dX) (mid:Nat) (acc:Int):Int:=(aV ws true two.frame mid acc).h.frame
def FK (ws:List Nat) (two:dX) (mid:Nat) (acc:Int):AtD:=⟨(aV ws true two.frame mid acc).h.r,(aV ws true two.frame mid acc).h.w,(aV ws true two.frame mid acc).h.x,(aV ws true two.frame mid acc).h.af,(aV ws true two.frame mid acc).h.ng⟩
theorem vH {ws:List Nat} {frame:Int} {mid:Nat} {acc:Int} (h:(aV ws true frame mid acc).f.kind ≠ 0):(aV ws true frame mid acc).h=sD:=by
 simp only [aV,Bool.not_true,cond_false,vP] at h ⊢
 cases hg:decide ((kY (bK ws 2 frame mid) mid acc).kind=0) with
 | false=>rfl
 | true=>rw [hg] at h;simp only [Bool.not_true,cond_false] at h;exact absurd (of_decide_eq_true hg) h
structure MJ (ws:List Nat) (two:dX) (mid:Nat) (n:Int) (a:AtD):Prop where
 hk:(MI ws two mid).f.kind=0
 hn:(MI ws two mid).h.frame=n
 ha:(⟨(MI ws two mid).h.r,(MI ws two mid).h.w,(MI ws two mid).h.x,(MI ws two mid).h.af,(MI ws two mid).h.ng⟩:AtD)=a
 Td:a.af=true
theorem MJ.tells {ws:List Nat} {two:dX} {mid:Nat} {n:Int} {a:AtD} (h:MJ ws two mid n a) {acc:Int} (hm:jV a.r a.w a.x acc=true):um ws two mid acc=eU∧yI ws two mid acc=n∧FK ws two mid acc=a:=by
 obtain ⟨h1,h2,h3,h4⟩:=h
 subst h3
 unfold MI at h1 h2 hm h4
 have hg:kY (bK ws 2 two.frame mid) mid acc=eU:=by
  unfold kY
  rw [h1]
  simp only [decide_true,cond_true]
  unfold bP
  dsimp only at h4 hm
  rw [h4,hm]
  rfl
 have hL:aV ws true two.frame mid acc=⟨{ (bK ws 2 two.frame mid).h with mid:=mid },eU,(bK ws 2 two.frame mid).rd⟩:=by
  simp only [aV,Bool.not_true,cond_false,vP,hg]
  rfl
 unfold um yI FK
 rw [hL]
 exact ⟨rfl,h2,rfl⟩
theorem DD {r w x af:Bool} {acc stage level page:Int} (h:(bP r w x af acc stage level page).kind=0):af=true∧jV r w x acc=true:=by
 unfold bP at h
 cases af with
 | false=>simp at h
 | true=>
  cases hm:jV r w x acc with
  | false=>rw [hm] at h;simp at h
  | true=>exact ⟨rfl,rfl⟩
theorem MJ.of {ws:List Nat} {two:dX} {mid:Nat} {acc:Int} (h:(um ws two mid acc).kind=0):MJ ws two mid (yI ws two mid acc) (FK ws two mid acc)∧jV (FK ws two mid acc).r (FK ws two mid acc).w (FK ws two mid acc).x acc=true:=by
 have h0:(kY (bK ws 2 two.frame mid) mid acc).kind=0:=by
  unfold um at h
  simp only [aV,Bool.not_true,cond_false,vP] at h
  cases hg:decide ((kY (bK ws 2 two.frame mid) mid acc).kind=0) with
  | false=>rw [hg] at h;simp only [Bool.not_false,cond_true] at h;simp [h] at hg
  | true=>exact of_decide_eq_true hg
 have hL:aV ws true two.frame mid acc=⟨{ (bK ws 2 two.frame mid).h with mid:=mid },kY (bK ws 2 two.frame mid) mid acc,(bK ws 2 two.frame mid).rd⟩:=by
  simp only [aV,Bool.not_true,cond_false,vP,h0]
  rfl
 have h1:(bK ws 2 two.frame mid).f.kind=0:=by
  unfold kY at h0
  cases hw:decide ((bK ws 2 two.frame mid).f.kind=0) with
  | false=>rw [hw] at h0;simp only [cond_false] at h0;simp [h0] at hw
  | true=>exact of_decide_eq_true hw
 have h2:=DD (r:=(bK ws 2 two.frame mid).h.r) (w:=(bK ws 2 two.frame mid).h.w) (x:=(bK ws 2 two.frame mid).h.x) (af:=(bK ws 2 two.frame mid).h.af) (acc:=acc) (stage:=2) (level:=(bK ws 2 two.frame mid).h.level) (page:=mid) (by
  unfold kY at h0
  rw [h1] at h0
  exact h0)
 unfold yI FK
 rw [hL]
 exact ⟨⟨h1,rfl,rfl,h2.1⟩,h2.2⟩
def OY (ws:List Nat) (two:dX) (mid:Nat):Option Int:=bif decide ((um ws two mid 0).kind=0) then some (yI ws two mid 0) else none
def vI (ws:List Nat) (one two:dX) (page:Nat):Nat→Option Int
 | 0=>OY ws two one.frame.toNat
 | L + 1=>match vI ws one two page L with
  | none=>none
  | some f=>bif decide ((iR ws 1 (fF f L page) L).kind=1) then OY ws two (iR ws 1 (fF f L page) L).frame.toNat else none
def Jk (page level:Nat) (d:DsD):Nat:=d.frame.toNat + page % ay level
def Qn (ws:List Nat) (two:dX) (page:Nat) (acc:Int) (level:Nat) (d:DsD):Int × yh:=
 bif !decide ((bP d.r d.w d.x d.af acc 1 level page).kind=0) then (0,bP d.r d.w d.x d.af acc 1 level page)
 else bif !decide ((um ws two (Jk page level d) acc).kind=0) then (0,um ws two (Jk page level d) acc) else (yI ws two (Jk page level d) acc,eU)
def MK (ws:List Nat) (two:dX) (page:Nat) (acc:Int):Nat→Nat→Int→Int × yh
 | 0,_,_=>(0,eU)
 | k + 1,level,frame=>
  bif decide ((iR ws 1 (fF frame level page) level).kind=1) then (bif !decide ((um ws two (iR ws 1 (fF frame level page) level).frame.toNat 0).kind=0) then (0,{ um ws two (iR ws 1 (fF frame level page) level).frame.toNat 0 with walk:=true }) else MK ws two page acc k (level + 1) (yI ws two (iR ws 1 (fF frame level page) level).frame.toNat 0))
  else bif decide ((iR ws 1 (fF frame level page) level).kind=0) then (0,⟨2,1,level,false,page⟩)
  else Qn ws two page acc level (iR ws 1 (fF frame level page) level)
def OV (ws:List Nat) (one two:dX) (page:Nat) (acc:Int):Int × yh:=bif !decide ((um ws two one.frame.toNat 0).kind=0) then (0,{ um ws two one.frame.toNat 0 with walk:=true }) else MK ws two page acc 4 0 (yI ws two one.frame.toNat 0)
def RN (ws:List Nat) (one two:dX) (page:Nat) (acc:Int):Int × yh:=bif !one.on then (yI ws two page acc,um ws two page acc) else OV ws one two page acc
theorem RP {ws:List Nat} {p level:Nat} (h:(iR ws 1 p level).kind=1):level<3:=((fA (kE ws 1 p level)).2.2.1 h).1
theorem yJ {ws:List Nat} {one two:dX} {page:Nat}:∀ {L:Nat} {f:Int},vI ws one two page L=some f→L<4
 | 0,_,_=>by decide
 | L + 1,f,h=>by
  rw [vI] at h
  cases e:vI ws one two page L with
  | none=>rw [e] at h;cases h
  | some g=>
   rw [e] at h
   dsimp only at h
   cases hk:decide ((iR ws 1 (fF g L page) L).kind=1) with
   | false=>rw [hk] at h;cases h
   | true=>have:=RP (of_decide_eq_true hk);omega
theorem zY {ws:List Nat} {two:dX} {mid:Nat} {f:Int} (h:OY ws two mid=some f):(um ws two mid 0).kind=0∧yI ws two mid 0=f:=by
 unfold OY at h
 cases hk:decide ((um ws two mid 0).kind=0) with
 | false=>rw [hk] at h;cases h
 | true=>rw [hk] at h;exact ⟨of_decide_eq_true hk,by injection h⟩
theorem BR {ws:List Nat} {one two:dX} {page:Nat} (acc:Int):∀ {L:Nat} {f:Int},vI ws one two page L=some f→OV ws one two page acc=MK ws two page acc (4 - L) L f
 | 0,f,h=>by
  obtain ⟨h1,h2⟩:=zY h
  unfold OV
  rw [h1,h2]
  rfl
 | L + 1,f,h=>by
  have hlt:=yJ h
  rw [vI] at h
  cases e:vI ws one two page L with
  | none=>rw [e] at h;cases h
  | some g=>
   rw [e] at h
   dsimp only at h
   cases hk:decide ((iR ws 1 (fF g L page) L).kind=1) with
   | false=>rw [hk] at h;cases h
   | true=>
    rw [hk,cond_true] at h
    obtain ⟨h1,h2⟩:=zY h
    rw [BR acc e,show 4 - L=(4 - (L + 1)) + 1 by omega,MK,hk,cond_true,h1,h2]
    rfl
theorem DF {l j p:Nat} (hl:l<3) (hj:j≤l):iM j (iq l p)=iM j p:=by
 unfold iM iq ay jr
 simp only [Nat.shiftRight_eq_div_pow]
 have:l=0∨l=1∨l=2:=by omega
 rcases this with rfl | rfl | rfl
 ·have:j=0:=by omega
  subst this
  show (p - p % 512) / 512 % 8=p / 512 % 8
  omega
 ·have:j=0∨j=1:=by omega
  rcases this with rfl | rfl
  ·show (p - p % 64) / 512 % 8=p / 512 % 8
   omega
  ·show (p - p % 64) / 64 % 8=p / 64 % 8
   omega
 ·have:j=0∨j=1∨j=2:=by omega
  rcases this with rfl | rfl | rfl
  ·show (p - p % 8) / 512 % 8=p / 512 % 8
   omega
  ·show (p - p % 8) / 64 % 8=p / 64 % 8
   omega
  ·show (p - p % 8) / 8 % 8=p / 8 % 8
   omega
theorem BU {ws:List Nat} {one two:dX} {p q:Nat}:∀ {L:Nat},(∀ j,j<L→iM j p=iM j q)→vI ws one two p L=vI ws one two q L
 | 0,_=>rfl
 | L + 1,h=>by
  rw [vI,vI,BU (fun j hj=>h j Uz)]
  have:∀ f:Int,fF f L p=fF f L q:=fun f=>by unfold fF;rw [h L Uz]
  cases vI ws one two q L with
  | none=>rfl
  | some f=>simp only [this]
structure Fp (ws:List Nat) (one two:dX) (e:aX):Prop where
 mid:e.kind=2→MJ ws two e.page.toNat e.frame (Q5 e)
 tab:e.kind=3→vI ws one two e.page.toNat e.level.toNat=some e.frame
 all:e.kind=1→∃ L f a,vI ws one two e.page.toNat L=some f∧(iR ws 1 (fF f L e.page.toNat) L).kind=2∧(iR ws 1 (fF f L e.page.toNat) L).af=true∧MJ ws two (Jk e.page.toNat L (iR ws 1 (fF f L e.page.toNat) L)) e.frame a∧e.r=((iR ws 1 (fF f L e.page.toNat) L).r && a.r)∧e.w=((iR ws 1 (fF f L e.page.toNat) L).w && a.w)∧e.x=((iR ws 1 (fF f L e.page.toNat) L).x && a.x)
def yK (ws:List Nat) (one two:dX) (es:List aX):Prop:=∀ e∈es,Fp ws one two e
theorem vJ {ws:List Nat} {one two:dX} {es:List aX} (h:yK ws one two es) {e:aX} (he:Fp ws one two e):yK ws one two (iI es e):=by
 unfold iI
 cases (!(es.any fun t=>decide (t=e)) && decide (es.length<8)) with
 | false=>exact h
 | true=>
  intro x hx
  rcases List.mem_append.1 hx with hx | hx
  ·exact h x hx
  ·obtain rfl:=List.mem_singleton.1 hx;exact he
theorem Fq {r w x r' w' x':Bool} {acc:Int} (h:jV (r && r') (w && w') (x && x') acc=true):jV r w x acc=true∧jV r' w' x' acc=true:=by
 unfold jV at h ⊢
 simp only [Bool.or_eq_true,Bool.and_eq_true] at h ⊢
 grind
theorem Fp.whole {ws:List Nat} {one two:dX} {e:aX} (h:Fp ws one two e) (hk:e.kind=1) {acc:Int} (hm:e.lets acc=true):OV ws one two e.page.toNat acc=(e.frame,eU):=by
 obtain ⟨L,f,a,h1,h2,h3,h4,h5,h6,h7⟩:=h.all hk
 unfold aX.lets at hm
 rw [h5,h6,h7] at hm
 obtain ⟨m1,m2⟩:=Fq hm
 obtain ⟨t1,t2,t3⟩:=h4.tells m2
 have hlt:=yJ h1
 rw [BR acc h1,show 4 - L=(4 - (L + 1)) + 1 by omega,MK,h2]
 unfold Qn
 rw [t1,t2]
 have:bP (iR ws 1 (fF f L e.page.toNat) L).r (iR ws 1 (fF f L e.page.toNat) L).w (iR ws 1 (fF f L e.page.toNat) L).x (iR ws 1 (fF f L e.page.toNat) L).af acc 1 L e.page.toNat=eU:=by
  unfold bP;rw [h3,m1];rfl
 rw [this]
 rfl
theorem qA {c:gX} {s:kZ} (hE:yK c.ws c.one c.two s.es) (mid:Nat) (acc:Int):(bV c s mid acc).f=um c.ws c.two mid acc∧(bV c s mid acc).n=yI c.ws c.two mid acc∧(bV c s mid acc).a=FK c.ws c.two mid acc∧yK c.ws c.one c.two (bV c s mid acc).s.es:=by
 unfold bV
 cases hu:(c.pk.use && decide (0≤oL c s mid acc)) with
 | true=>
  rw [cond_true]
  rw [Bool.and_eq_true] at hu
  obtain ⟨h1,h2⟩:=vg (of_decide_eq_true hu.2:0≤dh (nC c.two.tag mid acc) s.es)
  change nC c.two.tag mid acc (s.es.getD (oL c s mid acc).toNat default)=true at h2
  have hS:=hE _ (getD_mem h1)
  change Fp c.ws c.one c.two (s.es.getD (oL c s mid acc).toNat default) at hS
  generalize s.es.getD (oL c s mid acc).toNat default=e at h2 hS
  simp only [nC,Bool.and_eq_true,decide_eq_true_eq] at h2
  obtain ⟨⟨⟨k1,k2⟩,k3⟩,k4⟩:=h2
  have hM:=hS.mid k1
  rw [k3,Int.toNat_natCast] at hM
  obtain ⟨t1,t2,t3⟩:=hM.tells (acc:=acc) (by exact k4)
  exact ⟨t1.symm,t2.symm,t3.symm,hE⟩
 | false=>
  rw [cond_false]
  unfold nT
  cases hk:decide ((aV c.ws true c.two.frame mid acc).f.kind=0) with
  | false=>
   have hb:=vH (of_decide_eq_false hk)
   rw [Bool.not_false,cond_true]
   refine ⟨rfl,?_,?_,hE⟩
   ·unfold yI;rw [hb];rfl
   ·unfold FK;rw [hb];rfl
  | true=>
   rw [Bool.not_true,cond_false]
   refine ⟨rfl,rfl,rfl,?_⟩
   dsimp only
   cases c.pk.aP with
   | false=>exact hE
   | true=>
    have hM:=(MJ.of (ws:=c.ws) (two:=c.two) (mid:=mid) (acc:=acc) (of_decide_eq_true hk)).1
    exact vJ hE ⟨fun _=>hM,fun h=>absurd h (by simp [vS]),fun h=>absurd h (by simp [vS])⟩
theorem zZ {c:gX} {s:kZ} (hE:yK c.ws c.one c.two s.es) {mid level:Nat} (hk:(um c.ws c.two mid 0).kind ≠ 0):(dZ c s mid level).f={ um c.ws c.two mid 0 with walk:=true }∧yK c.ws c.one c.two (dZ c s mid level).s.es:=by
 obtain ⟨h1,h2,h3,h4⟩:=qA hE mid 0
 unfold dZ
 rw [h1]
 simp only [hk,decide_false,Bool.not_false,cond_true]
 exact ⟨trivial,h4⟩
theorem wS {c:gX} {s:kZ} (hE:yK c.ws c.one c.two s.es) {mid level:Nat} (hk:(um c.ws c.two mid 0).kind=0) (hat:vI c.ws c.one c.two c.page level=some (yI c.ws c.two mid 0)):(dZ c s mid level).f=eU∧(dZ c s mid level).n=yI c.ws c.two mid 0∧yK c.ws c.one c.two (dZ c s mid level).s.es:=by
 obtain ⟨h1,h2,h3,h4⟩:=qA hE mid 0
 have hlt:=yJ hat
 unfold dZ
 rw [h1,h2]
 simp only [hk,decide_true,Bool.not_true,cond_false]
 refine ⟨trivial,trivial,?_⟩
 cases hc:(decide (0<level) && c.pk.walk) with
 | false=>exact h4
 | true=>
  rw [Bool.and_eq_true] at hc
  have h0:0<level:=of_decide_eq_true hc.1
  refine vJ h4 ⟨fun h=>absurd h (by simp [sF]),fun _=>?_,fun h=>absurd h (by simp [sF])⟩
  show vI c.ws c.one c.two ((iq (level - 1) c.page:Nat):Int).toNat ((level:Nat):Int).toNat=some (yI c.ws c.two mid 0)
  rw [Int.toNat_natCast,Int.toNat_natCast,← hat]
  exact BU fun j hj=>DF Uz Uz
theorem Fv {c:gX} {s:kZ} (hE:yK c.ws c.one c.two s.es) {level:Nat} {frame:Int} (hat:vI c.ws c.one c.two c.page level=some frame) (hk:(iR c.ws 1 (fF frame level c.page) level).kind=2):(kF c s level (iR c.ws 1 (fF frame level c.page) level)).n=(Qn c.ws c.two c.page c.acc level (iR c.ws 1 (fF frame level c.page) level)).1∧(kF c s level (iR c.ws 1 (fF frame level c.page) level)).f=(Qn c.ws c.two c.page c.acc level (iR c.ws 1 (fF frame level c.page) level)).2∧yK c.ws c.one c.two (kF c s level (iR c.ws 1 (fF frame level c.page) level)).s.es:=by
 unfold kF Qn
 generalize hd:iR c.ws 1 (fF frame level c.page) level=d at hk
 cases hf:decide ((bP d.r d.w d.x d.af c.acc 1 level c.page).kind=0) with
 | false=>exact ⟨rfl,rfl,hE⟩
 | true=>
  simp only [Bool.not_true,cond_false]
  obtain ⟨h1,h2,h3,h4⟩:=qA hE (bQ c level d) c.acc
  change _=um c.ws c.two (Jk c.page level d) c.acc at h1
  change _=yI c.ws c.two (Jk c.page level d) c.acc at h2
  change _=FK c.ws c.two (Jk c.page level d) c.acc at h3
  rw [h1,h2,h3]
  cases hm:decide ((um c.ws c.two (Jk c.page level d) c.acc).kind=0) with
  | false=>exact ⟨rfl,rfl,h4⟩
  | true=>
   simp only [Bool.not_true,cond_false]
   refine ⟨trivial,trivial,?_⟩
   cases c.pk.fill with
   | false=>exact h4
   | true=>
    have hM:=(MJ.of (of_decide_eq_true hm)).1
    have Td:=DD (of_decide_eq_true hf)
    refine vJ h4 ⟨fun h=>absurd h (by simp [sG]),fun h=>absurd h (by simp [sG]),fun _=>⟨level,frame,FK c.ws c.two (Jk c.page level d) c.acc,?_⟩⟩
    have e:(sG c (yI c.ws c.two (Jk c.page level d) c.acc) (bQ c level d) d (FK c.ws c.two (Jk c.page level d) c.acc)).page.toNat=c.page:=Int.toNat_natCast _
    rw [e,hd]
    exact ⟨hat,hk,Td.1,hM,rfl,rfl,rfl⟩
theorem Aa {c:gX}:∀ (k level:Nat) (frame:Int) (s:kZ),yK c.ws c.one c.two s.es→vI c.ws c.one c.two c.page level=some frame→(qo c k level frame s).n=(MK c.ws c.two c.page c.acc k level frame).1∧(qo c k level frame s).f=(MK c.ws c.two c.page c.acc k level frame).2∧yK c.ws c.one c.two (qo c k level frame s).s.es:=by
 intro k
 induction k with
 | zero=>intro level frame s hE _;exact ⟨rfl,rfl,hE⟩
 | succ k ih=>
  intro level frame s hE hat
  rw [qo,MK]
  dsimp only
  have hE1:yK c.ws c.one c.two (⟨s.es,s.rd++[frame]⟩:kZ).es:=hE
  have hdk:=(fA (kE c.ws 1 (fF frame level c.page) level)).1
  cases h1:decide ((iR c.ws 1 (fF frame level c.page) level).kind=1) with
  | true=>
   simp only [cond_true]
   cases hm:decide ((um c.ws c.two (iR c.ws 1 (fF frame level c.page) level).frame.toNat 0).kind=0) with
   | false=>
    obtain ⟨t1,t2⟩:=zZ hE1 (level:=level + 1) (of_decide_eq_false hm)
    rw [t1]
    have hkk:({ um c.ws c.two (iR c.ws 1 (fF frame level c.page) level).frame.toNat 0 with walk:=true }:yh).kind ≠ 0:=of_decide_eq_false hm
    simp only [hkk,decide_false,Bool.not_false,cond_true]
    exact ⟨trivial,trivial,t2⟩
   | true=>
    have Qo:vI c.ws c.one c.two c.page (level + 1)=some (yI c.ws c.two (iR c.ws 1 (fF frame level c.page) level).frame.toNat 0):=by
     rw [vI,hat]
     dsimp only
     rw [h1,cond_true]
     unfold OY
     rw [hm]
     rfl
    obtain ⟨t1,t2,t3⟩:=wS hE1 (level:=level + 1) (of_decide_eq_true hm) Qo
    rw [t1,t2]
    simp only [Bool.not_true,cond_false,eU,decide_true]
    exact ih _ _ _ t3 Qo
  | false=>
   simp only [cond_false]
   cases h0:decide ((iR c.ws 1 (fF frame level c.page) level).kind=0) with
   | true=>exact ⟨rfl,rfl,hE⟩
   | false=>
    simp only [cond_false]
    have e1:=of_decide_eq_false h1
    have e0:=of_decide_eq_false h0
    exact Fv hE1 hat Uz
theorem Fz {c:gX} {s:kZ} (hE:yK c.ws c.one c.two s.es):(rX c s).n=(OV c.ws c.one c.two c.page c.acc).1∧(rX c s).f=(OV c.ws c.one c.two c.page c.acc).2∧yK c.ws c.one c.two (rX c s).s.es:=by
 unfold rX OV
 cases hm:decide ((um c.ws c.two c.one.frame.toNat 0).kind=0) with
 | false=>
  obtain ⟨t1,t2⟩:=zZ hE (level:=0) (of_decide_eq_false hm)
  rw [t1]
  have hkk:({ um c.ws c.two c.one.frame.toNat 0 with walk:=true }:yh).kind ≠ 0:=of_decide_eq_false hm
  simp only [hkk,decide_false,Bool.not_false,cond_true]
  exact ⟨trivial,trivial,t2⟩
 | true=>
  have hat:vI c.ws c.one c.two c.page 0=some (yI c.ws c.two c.one.frame.toNat 0):=by
   rw [vI];unfold OY;rw [hm];rfl
  obtain ⟨t1,t2,t3⟩:=wS hE (level:=0) (of_decide_eq_true hm) hat
  rw [t1,t2]
  simp only [Bool.not_true,cond_false,eU,decide_true]
  exact Aa 4 0 _ _ t3 hat
theorem wU {c:gX} {es:List aX} {ds:List eH} (hd:c.pk.drop=-1) (hE:yK c.ws c.one c.two es) (hm:∀ e∈es,e.may=true):(dW c es).n=(RN c.ws c.one c.two c.page c.acc).1∧(dW c es).f=(RN c.ws c.one c.two c.page c.acc).2∧yK c.ws c.one c.two (dW c es).s.es:=by
 have hE0:yK c.ws c.one c.two (⟨es,[]⟩:kZ).es:=hE
 unfold dW kG RN
 rw [show jQ es c.pk.drop=es by rw [hd];rfl]
 cases c.one.on with
 | false=>
  simp only [Bool.not_false,cond_true]
  obtain ⟨h1,h2,h3,h4⟩:=qA hE0 c.page c.acc
  exact ⟨h2,h1,h4⟩
 | true=>
  simp only [Bool.not_true,cond_false]
  cases hu:(c.pk.use && decide (0≤fQ c es)) with
  | true=>
   rw [cond_true]
   rw [Bool.and_eq_true] at hu
   obtain ⟨h1,h2⟩:=vg (of_decide_eq_true hu.2:0≤dh (gU c.two.tag c.one.tag c.page c.acc) es)
   change gU c.two.tag c.one.tag c.page c.acc (es.getD (fQ c es).toNat default)=true at h2
   have hS:=hE _ (getD_mem h1)
   change Fp c.ws c.one c.two (es.getD (fQ c es).toNat default) at hS
   generalize es.getD (fQ c es).toNat default=e at h2 hS
   simp only [gU,Bool.and_eq_true,decide_eq_true_eq] at h2
   obtain ⟨⟨⟨k1,k2⟩,k3⟩,k4⟩:=h2
   have h5:=hS.whole k1 k4
   rw [k3,Int.toNat_natCast] at h5
   rw [h5]
   exact ⟨rfl,rfl,hE⟩
  | false=>
   rw [cond_false]
   unfold zI
   cases hw:(c.pk.use && decide (0≤dw c es)) with
   | false=>exact Fz hE0
   | true=>
    rw [cond_true]
    rw [Bool.and_eq_true] at hw
    have h0:0≤bW es (jW c.two.tag c.one.tag c.page) es.length:=of_decide_eq_true hw.2
    have h1:=vw _ h0
    have h2:=(nD (es:=es) (q:=jW c.two.tag c.one.tag c.page) es.length).2
    have hmem:es.getD (dw c es).toNat default∈es:=getD_mem (by unfold dw;omega)
    change jW c.two.tag c.one.tag c.page (es.getD (dw c es).toNat default)=true at h1
    have hS:=hE _ hmem
    have hM:=hm _ hmem
    generalize es.getD (dw c es).toNat default=e at h1 hS hM
    simp only [jW,Bool.and_eq_true,decide_eq_true_eq] at h1
    obtain ⟨⟨k1,k2⟩,k3⟩:=h1
    have hT:=hS.tab k1
    have hl3:=yJ hT
    have hat:vI c.ws c.one c.two c.page e.level.toNat=some e.frame:=by
     rw [← hT,k3,Int.toNat_natCast]
     exact (BU fun j hj=>DF Uz Uz).symm
    rw [BR c.acc hat]
    exact Aa _ _ _ _ hE0 hat
section
attribute [local irreducible] Hy St Ops DH fE iK iE fU DS fD lZ
def qB:Dk:=⟨0,false,false,false,-1,false⟩
theorem Jl (a:AtD) (sa:Int) {w:World} {v:Value} (h:aF w v 6 ([(a,sa)].map Dw)):Fn Tryz.prog 27 [v].toArray w [] (fun u _=>u=.agg (Q4 a).toArray):=by
 obtain ⟨q,cap,rfl,hne,hle⟩:=h.opened
 obtain ⟨b0,o0,rfl⟩:=hne UC
 rw [show ([(a,sa)]:List (AtD × Int)).length=1 from rfl] at h ⊢
 have r0:=h.row (k:=0) (by decide:0<1)
 refine enter Tryz.func27 ?_
 refine run ?_
 intro R X
 refine eF (σ:=Nat × AtD) (fun z=>[(4,.int .i64 (z.1:Int))]) (fun z=>[⟨R,#[.bool false,.bool false,.bool false,.bool false,.bool false,.int .i64 0],46⟩,⟨X,#[.bool z.2.r,.bool z.2.w,.bool z.2.x,.bool z.2.af,.bool z.2.ng,.int .i64 0],46⟩]) (fun z=>z.1=0∧z.2=⟨true,true,true,true,false⟩∨z.1=1∧z.2=a) (fun z=>1 - z.1) (0,⟨true,true,true,true,false⟩) (.inl ⟨rfl,rfl⟩) ?_
 rintro ⟨k,x⟩ m hm hk
 dsimp only at hm hk ⊢
 rcases hk with ⟨e0,rfl⟩ | ⟨e0,rfl⟩
 ·have hlt:k<1:=by omega
  have hr:w.rangeAt b0 (o0 + k * 6) (Dw (a,sa)):=by rw [e0];exact r0
  refine run ?_
  refine ah _ rfl (fun hc=>?_) (fun hc=>absurd hc UJ)
  refine ig ?_
  intro A
  refine ig ?_
  refine uK 31 [⟨R,#[.bool false,.bool false,.bool false,.bool false,.bool false,.int .i64 0],46⟩,⟨A,#[.bool a.r,.bool a.w,.bool a.x,.bool a.af,.bool a.ng,.int .i64 sa],46⟩] ?_
  refine zO ?_
  refine run ?_
  exact dG (k + 1,⟨true && a.r,true && a.w,true && a.x,true && a.af,false || a.ng⟩) (.inr ⟨by dsimp only;omega,by simp⟩) (hm:=by dsimp only;omega) (h2:=by (exact ak))
 ·refine run ?_
  refine ah _ rfl (fun hc=>absurd hc UJ) (fun hc=>?_)
  refine run ?_
  exact jh (cs:=#[.bool x.r,.bool x.w,.bool x.x,.bool x.af,.bool x.ng,.int .i64 0]) rfl
theorem wV {c:gX} (hp:c.pk=qB) (rd:List Int) (mid:Nat) (acc:Int):bV c ⟨[],rd⟩ mid acc=⟨⟨[],rd++(aV c.ws true c.two.frame mid acc).rd⟩,(aV c.ws true c.two.frame mid acc).h.frame,⟨(aV c.ws true c.two.frame mid acc).h.r,(aV c.ws true c.two.frame mid acc).h.w,(aV c.ws true c.two.frame mid acc).h.x,(aV c.ws true c.two.frame mid acc).h.af,(aV c.ws true c.two.frame mid acc).h.ng⟩,(aV c.ws true c.two.frame mid acc).f⟩:=by
 unfold bV nT
 rw [hp]
 have hbad:=@vH c.ws c.two.frame mid acc
 generalize aV c.ws true c.two.frame mid acc=W at hbad ⊢
 simp only [qB,Bool.false_and,cond_false]
 cases hd:decide (W.f.kind=0) with
 | false=>rw [hbad (of_decide_eq_false hd)];rfl
 | true=>rfl
theorem FB {c:gX} (hp:c.pk=qB) (rd:List Int) (mid level:Nat):dZ c ⟨[],rd⟩ mid level=bif !decide ((aV c.ws true c.two.frame mid 0).f.kind=0) then ⟨⟨[],rd++(aV c.ws true c.two.frame mid 0).rd⟩,0,{ (aV c.ws true c.two.frame mid 0).f with walk:=true }⟩ else ⟨⟨[],rd++(aV c.ws true c.two.frame mid 0).rd⟩,(aV c.ws true c.two.frame mid 0).h.frame,eU⟩:=by
 unfold dZ
 rw [wV hp,hp]
 simp only [qB,Bool.and_false,cond_false]
theorem BV {c:gX} (hp:c.pk=qB) (rd:List Int) (level:Nat) (d:DsD):kF c ⟨[],rd⟩ level d =
  bif !decide ((bP d.r d.w d.x d.af c.acc 1 level c.page).kind=0) then ⟨⟨[],rd⟩,0,bP d.r d.w d.x d.af c.acc 1 level c.page⟩
  else bif !decide ((aV c.ws true c.two.frame (bQ c level d) c.acc).f.kind=0) then ⟨⟨[],rd++(aV c.ws true c.two.frame (bQ c level d) c.acc).rd⟩,0,(aV c.ws true c.two.frame (bQ c level d) c.acc).f⟩
  else ⟨⟨[],rd++(aV c.ws true c.two.frame (bQ c level d) c.acc).rd⟩,(aV c.ws true c.two.frame (bQ c level d) c.acc).h.frame,eU⟩:=by
 unfold kF
 rw [wV hp,hp]
 simp only [qB,cond_false]
theorem FC {c:gX} (hp:c.pk=qB) (k level mid:Nat) (rd:List Int):II c (k + 1) level mid ⟨[],rd⟩ =
  bif !decide ((aV c.ws true c.two.frame mid 0).f.kind=0) then ⟨⟨[],rd++(aV c.ws true c.two.frame mid 0).rd⟩,0,{ (aV c.ws true c.two.frame mid 0).f with walk:=true }⟩
  else bif decide ((iR c.ws 1 (fF (aV c.ws true c.two.frame mid 0).h.frame level c.page) level).kind=1) then II c k (level + 1) (iR c.ws 1 (fF (aV c.ws true c.two.frame mid 0).h.frame level c.page) level).frame.toNat ⟨[],rd++(aV c.ws true c.two.frame mid 0).rd++[(aV c.ws true c.two.frame mid 0).h.frame]⟩
  else bif decide ((iR c.ws 1 (fF (aV c.ws true c.two.frame mid 0).h.frame level c.page) level).kind=0) then ⟨⟨[],rd++(aV c.ws true c.two.frame mid 0).rd++[(aV c.ws true c.two.frame mid 0).h.frame]⟩,0,⟨2,1,level,false,c.page⟩⟩
  else kF c ⟨[],rd++(aV c.ws true c.two.frame mid 0).rd++[(aV c.ws true c.two.frame mid 0).h.frame]⟩ level (iR c.ws 1 (fF (aV c.ws true c.two.frame mid 0).h.frame level c.page) level):=by
 conv=>lhs;unfold II
 rw [FB hp]
 cases hd:decide ((aV c.ws true c.two.frame mid 0).f.kind=0) with
 | false=>
  have hkk:({ (aV c.ws true c.two.frame mid 0).f with walk:=true }:yh).kind ≠ 0:=of_decide_eq_false hd
  simp only [Bool.not_false,cond_true,hkk,decide_false]
 | true=>
  simp only [Bool.not_true,cond_false,eU,decide_true]
  rw [qo]
  rfl
theorem Jm (c:gX) (hk:jX c) (hp:c.pk=qB) {w:World} {mv:Value} (hm:aF w mv 1 (c.ws.map uV)):Fn Tryz.prog 9 [.agg #[mv],.agg (jv c.one).toArray,.agg (jv c.two).toArray,.int .i64 (c.page:Int),.int .i64 c.acc].toArray w [] (fun u hn=>∃ h v hr,u=.tuple #[Iw h,yj (dW c []).f,v]∧h.frame=(dW c []).n∧Own 3 1 v hr ((dW c []).s.rd.map dH)∧aI hr hn):=by
 have hm':=hm
 obtain ⟨q,cap,rfl,hne,hle⟩:=hm.opened
 have Ac:=cO hk.mem
 refine enter Tryz.func9 ?_
 refine run ?_
 intro M O T H F
 have hfr:=(dX.fC hk.two).1.1
 refine ah _ rfl (fun hc=>?_) (fun hc=>?_)
 ·have hone:c.one.on=false:=by simpa using hc
  have hpl:dW c []=⟨(nT c ⟨[],[]⟩ c.page (aV c.ws true c.two.frame c.page c.acc)).s,(nT c ⟨[],[]⟩ c.page (aV c.ws true c.two.frame c.page c.acc)).n,(nT c ⟨[],[]⟩ c.page (aV c.ws true c.two.frame c.page c.acc)).f⟩:=by
   unfold dW kG bV jQ
   rw [hone,hp]
   rfl
  have hX:(dW c []).f=(aV c.ws true c.two.frame c.page c.acc).f∧(dW c []).n=(aV c.ws true c.two.frame c.page c.acc).h.frame∧(dW c []).s.rd=(aV c.ws true c.two.frame c.page c.acc).rd:=by
   rw [hpl]
   have hbad:=@vH c.ws c.two.frame c.page c.acc
   unfold nT
   generalize aV c.ws true c.two.frame c.page c.acc=W at hbad ⊢
   cases hd:decide (W.f.kind=0) with
   | false=>exact ⟨rfl,by rw [hbad (of_decide_eq_false hd)];rfl,rfl⟩
   | true=>exact ⟨rfl,rfl,rfl⟩
  clear hpl
  generalize dW c []=X at hX ⊢
  refine run ?_
  refine jJ (fun wc hG=>BA c.ws hk.EI (hm'.good hG) Uz c.two.on c.two.frame c.two.tag hfr c.page hk.page c.acc) ?_
  rw [hk.on]
  generalize aV c.ws true c.two.frame c.page c.acc=W at hX ⊢
  obtain ⟨x1,x2,x3⟩:=hX
  rintro _ hn ⟨v2,h2,rfl,hO,hle2⟩
  obtain ⟨p2,k2,vK⟩:=hO.opened
  rw [List.length_map] at vK
  subst vK
  refine aZ (⟨F,#[.int .i64 0,.int .i64 0,.int .i64 0,.bool false,.int .i64 0],50⟩::⟨H,#[.int .i64 0,.int .i64 0,.bool false,.bool false,.bool false,.bool false,.bool false,.int .i64 0,.int .i64 0],48⟩::h2) (cnt1 hle2) ?_
  refine run ?_
  intro A G
  refine fZ (σ:=gQ) (fun _=>[]) (fun h=>⟨G,#[.int .i64 W.f.kind,.int .i64 W.f.stage,.int .i64 W.f.level,.bool W.f.walk,.int .i64 W.f.page],50⟩::⟨A,#[.int .i64 h.frame,.int .i64 h.mid,.bool h.r,.bool h.w,.bool h.x,.bool h.af,.bool h.ng,.int .i64 h.soft,.int .i64 h.level],48⟩::⟨F,#[.int .i64 0,.int .i64 0,.int .i64 0,.bool false,.int .i64 0],50⟩::⟨H,#[.int .i64 0,.int .i64 0,.bool false,.bool false,.bool false,.bool false,.bool false,.int .i64 0,.int .i64 0],48⟩::h2) (fun h=>h.frame=W.h.frame) ?_ ?_
  ·refine ah _ rfl (fun hc2=>?_) (fun hc2=>?_)
   ·refine run ?_
    intro Z
    refine ax (fun wc hG=>Jl ⟨W.h.r,W.h.w,W.h.x,W.h.af,W.h.ng⟩ W.h.soft (dm (xs:=([((⟨W.h.r,W.h.w,W.h.x,W.h.af,W.h.ng⟩:AtD),W.h.soft)].map Dw)) (hG.here ⟨Z,#[.bool W.h.r,.bool W.h.w,.bool W.h.x,.bool W.h.af,.bool W.h.ng,.int .i64 W.h.soft],46⟩ mh) (by simp [Dw]) UC)) ?_
    refine run ?_
    refine aZ (⟨A,#[.int .i64 W.h.frame,.int .i64 W.h.mid,.bool W.h.r,.bool W.h.w,.bool W.h.x,.bool W.h.af,.bool W.h.ng,.int .i64 W.h.soft,.int .i64 W.h.level],48⟩::⟨G,#[.int .i64 W.f.kind,.int .i64 W.f.stage,.int .i64 W.f.level,.bool W.f.walk,.int .i64 W.f.page],50⟩::⟨F,#[.int .i64 0,.int .i64 0,.int .i64 0,.bool false,.int .i64 0],50⟩::⟨H,#[.int .i64 0,.int .i64 0,.bool false,.bool false,.bool false,.bool false,.bool false,.int .i64 0,.int .i64 0],48⟩::h2) ak ?_
    refine run ?_
    exact eY ({ W.h with soft:=0,level:=3 }:gQ) rfl (h2:=by (exact ak))
   ·refine run ?_
    exact eY W.h rfl
  rintro h hh
  refine run ?_
  refine eG 5 3 [0,1,2] [3,4] (⟨G,#[.int .i64 W.f.kind,.int .i64 W.f.stage,.int .i64 W.f.level,.bool W.f.walk,.int .i64 W.f.page],50⟩::⟨A,#[.int .i64 h.frame,.int .i64 h.mid,.bool h.r,.bool h.w,.bool h.x,.bool h.af,.bool h.ng,.int .i64 h.soft,.int .i64 h.level],48⟩::h2) ?_
  refine dV ?_
  refine aN (b:=H) (tb:=48) (cs:=#[.int .i64 0,.int .i64 0,.bool false,.bool false,.bool false,.bool false,.bool false,.int .i64 0,.int .i64 0]) (cs':=#[.int .i64 h.frame,.int .i64 h.mid,.bool h.r,.bool h.w,.bool h.x,.bool h.af,.bool h.ng,.int .i64 h.soft,.int .i64 h.level]) (hp':=⟨F,#[.int .i64 0,.int .i64 0,.int .i64 0,.bool false,.int .i64 0],50⟩::⟨G,#[.int .i64 W.f.kind,.int .i64 W.f.stage,.int .i64 W.f.level,.bool W.f.walk,.int .i64 W.f.page],50⟩::⟨A,#[.int .i64 h.frame,.int .i64 h.mid,.bool h.r,.bool h.w,.bool h.x,.bool h.af,.bool h.ng,.int .i64 h.soft,.int .i64 h.level],48⟩::h2) ?_ az
  refine aN (b:=F) (tb:=50) (cs:=#[.int .i64 0,.int .i64 0,.int .i64 0,.bool false,.int .i64 0]) (cs':=#[.int .i64 W.f.kind,.int .i64 W.f.stage,.int .i64 W.f.level,.bool W.f.walk,.int .i64 W.f.page]) (hp':=⟨H,#[.int .i64 h.frame,.int .i64 h.mid,.bool h.r,.bool h.w,.bool h.x,.bool h.af,.bool h.ng,.int .i64 h.soft,.int .i64 h.level],48⟩::⟨G,#[.int .i64 W.f.kind,.int .i64 W.f.stage,.int .i64 W.f.level,.bool W.f.walk,.int .i64 W.f.page],50⟩::⟨A,#[.int .i64 h.frame,.int .i64 h.mid,.bool h.r,.bool h.w,.bool h.x,.bool h.af,.bool h.ng,.int .i64 h.soft,.int .i64 h.level],48⟩::h2) ?_ az
  refine bf ?_
  refine dY ?_
  refine run ?_
  exact kD (cs:=#[.int .i64 h.frame,.int .i64 h.mid,.bool h.r,.bool h.w,.bool h.x,.bool h.af,.bool h.ng,.int .i64 h.soft,.int .i64 h.level]) (cs2:=#[.int .i64 W.f.kind,.int .i64 W.f.stage,.int .i64 W.f.level,.bool W.f.walk,.int .i64 W.f.page]) ⟨h,_,h2,by rw [x1],by rw [x2];exact hh,by rw [x3];exact hO,by (exact ak)⟩
 have hone:c.one.on=true:=by simpa using hc
 have hX:II c 4 0 c.one.frame.toNat ⟨[],[]⟩=dW c []:=by
  unfold dW kG zI jQ
  rw [hone,hp]
  rfl
 generalize dW c []=X at hX ⊢
 have hof:=(dX.fC hk.one).1
 refine run ?_
 refine eF (σ:=Nat × Nat × List Int × Value × Hp) (fun z=>[(18,.int .i64 (z.1:Int)),(17,.int .i64 (z.2.1:Int)),(16,z.2.2.2.1)]) (fun z=>(⟨F,#[.int .i64 0,.int .i64 0,.int .i64 0,.bool false,.int .i64 0],50⟩::⟨H,#[.int .i64 0,.int .i64 0,.bool false,.bool false,.bool false,.bool false,.bool false,.int .i64 0,.int .i64 0],48⟩::⟨T,(jv c.two).toArray,29⟩::⟨O,(jv c.one).toArray,29⟩::⟨M,#[.slice q c.ws.length cap],24⟩::z.2.2.2.2)) (fun z=>z.1<4∧z.2.1≤4095∧z.2.2.1.length≤5 * z.1∧II c (4 - z.1) z.1 z.2.1 ⟨[],z.2.2.1⟩=X∧Own 3 1 z.2.2.2.1 z.2.2.2.2 (z.2.2.1.map dH)) (fun z=>4 - z.1) (0,c.one.frame.toNat,[],.slice none 0 0,[]) ⟨Nat.zero_lt_succ _,by dsimp only;omega,Nat.le_refl _,hX,Own.nil _ _⟩ ?_ (hl:=by dsimp only;rw [show ((c.one.frame.toNat:Nat):Int)=c.one.frame by omega];(repeat (first | exact True.intro | (refine And.intro UN ?_))))
 clear hX
 ·rintro ⟨lv,mid,rd,rv,hr⟩ m hm0 ⟨hlv,hmid,hrl,hX,hO⟩
  dsimp only at hm0 hlv hmid hrl hX hO ⊢
  refine run ?_
  refine ah _ rfl (fun hc1=>?_) (fun hc1=>absurd hc1 UJ)
  refine run ?_
  refine jJ (fun wc hG=>BA c.ws hk.EI (hm'.good hG) Uz c.two.on c.two.frame c.two.tag hfr mid hmid 0) ?_
  rw [hk.on]
  obtain ⟨k',hk'⟩:∃ k',4 - lv=k' + 1:=⟨3 - lv,by omega⟩
  rw [hk',FC hp] at hX
  have hgood:=@ug c.ws c.two.frame mid 0
  have RQ:=uh c.ws c.two.frame mid 0
  generalize aV c.ws true c.two.frame mid 0=W at hX hgood RQ ⊢
  rintro _ hn ⟨v2,h2,rfl,hO2,hle2⟩
  obtain ⟨p2,k2,vK⟩:=hO2.opened
  rw [List.length_map] at vK
  subst vK
  refine aZ ((⟨F,#[.int .i64 0,.int .i64 0,.int .i64 0,.bool false,.int .i64 0],50⟩::⟨H,#[.int .i64 0,.int .i64 0,.bool false,.bool false,.bool false,.bool false,.bool false,.int .i64 0,.int .i64 0],48⟩::⟨T,(jv c.two).toArray,29⟩::⟨O,(jv c.one).toArray,29⟩::⟨M,#[.slice q c.ws.length cap],24⟩::(hr++h2))) (cnt1 hle2) ?_
  refine run ?_
  intro A G
  refine yl (W.rd.map dH) (⟨G,#[.int .i64 W.f.kind,.int .i64 W.f.stage,.int .i64 W.f.level,.bool W.f.walk,.int .i64 W.f.page],50⟩::⟨A,#[.int .i64 W.h.frame,.int .i64 W.h.mid,.bool W.h.r,.bool W.h.w,.bool W.h.x,.bool W.h.af,.bool W.h.ng,.int .i64 W.h.soft,.int .i64 W.h.level],48⟩::(⟨F,#[.int .i64 0,.int .i64 0,.int .i64 0,.bool false,.int .i64 0],50⟩::⟨H,#[.int .i64 0,.int .i64 0,.bool false,.bool false,.bool false,.bool false,.bool false,.int .i64 0,.int .i64 0],48⟩::⟨T,(jv c.two).toArray,29⟩::⟨O,(jv c.one).toArray,29⟩::⟨M,#[.slice q c.ws.length cap],24⟩::h2)) hO (rW.own hO2 ak) (fun v4 h4 hO4=>?_) (by simp only [List.length_map];omega) (fun c hc=>by obtain ⟨x,_,rfl⟩:=List.mem_map.1 hc;exact ⟨rfl,rfl⟩) (hperm:=by (exact az))
  rw [← List.map_append] at hO4
  obtain ⟨p4,k4,Tf⟩:=hO4.opened
  rw [List.length_map] at Tf
  subst Tf
  refine aZ (⟨G,#[.int .i64 W.f.kind,.int .i64 W.f.stage,.int .i64 W.f.level,.bool W.f.walk,.int .i64 W.f.page],50⟩::⟨A,#[.int .i64 W.h.frame,.int .i64 W.h.mid,.bool W.h.r,.bool W.h.w,.bool W.h.x,.bool W.h.af,.bool W.h.ng,.int .i64 W.h.soft,.int .i64 W.h.level],48⟩::(⟨F,#[.int .i64 0,.int .i64 0,.int .i64 0,.bool false,.int .i64 0],50⟩::⟨H,#[.int .i64 0,.int .i64 0,.bool false,.bool false,.bool false,.bool false,.bool false,.int .i64 0,.int .i64 0],48⟩::⟨T,(jv c.two).toArray,29⟩::⟨O,(jv c.one).toArray,29⟩::⟨M,#[.slice q c.ws.length cap],24⟩::h4)) ak ?_
  refine run ?_
  refine ah _ rfl (fun hc2=>?_) (fun hc2=>?_)
  ·rw [hc2,cond_true] at hX
   refine run ?_
   refine CB (⟨G,#[.int .i64 W.f.kind,.int .i64 W.f.stage,.int .i64 W.f.level,.bool true,.int .i64 W.f.page],50⟩::⟨F,#[.int .i64 0,.int .i64 0,.int .i64 0,.bool false,.int .i64 0],50⟩::⟨H,#[.int .i64 0,.int .i64 0,.bool false,.bool false,.bool false,.bool false,.bool false,.int .i64 0,.int .i64 0],48⟩::h4) ak ?_
   refine eG 5 3 [0,1,2] [3,4] (⟨G,#[.int .i64 W.f.kind,.int .i64 W.f.stage,.int .i64 W.f.level,.bool true,.int .i64 W.f.page],50⟩::h4) ?_
   refine dV ?_
   refine aN (b:=H) (tb:=48) (cs:=#[.int .i64 0,.int .i64 0,.bool false,.bool false,.bool false,.bool false,.bool false,.int .i64 0,.int .i64 0]) (cs':=#[.int .i64 0,.int .i64 0,.bool false,.bool false,.bool false,.bool false,.bool false,.int .i64 0,.int .i64 0]) (hp':=⟨F,#[.int .i64 0,.int .i64 0,.int .i64 0,.bool false,.int .i64 0],50⟩::⟨G,#[.int .i64 W.f.kind,.int .i64 W.f.stage,.int .i64 W.f.level,.bool true,.int .i64 W.f.page],50⟩::h4) ?_ az
   refine aN (b:=F) (tb:=50) (cs:=#[.int .i64 0,.int .i64 0,.int .i64 0,.bool false,.int .i64 0]) (cs':=#[.int .i64 W.f.kind,.int .i64 W.f.stage,.int .i64 W.f.level,.bool true,.int .i64 W.f.page]) (hp':=⟨H,#[.int .i64 0,.int .i64 0,.bool false,.bool false,.bool false,.bool false,.bool false,.int .i64 0,.int .i64 0],48⟩::⟨G,#[.int .i64 W.f.kind,.int .i64 W.f.stage,.int .i64 W.f.level,.bool true,.int .i64 W.f.page],50⟩::h4) ?_ az
   refine bf ?_
   refine dY ?_
   refine run ?_
   exact kD (cs:=#[.int .i64 0,.int .i64 0,.bool false,.bool false,.bool false,.bool false,.bool false,.int .i64 0,.int .i64 0]) (cs2:=#[.int .i64 W.f.kind,.int .i64 W.f.stage,.int .i64 W.f.level,.bool true,.int .i64 W.f.page]) ⟨sD,_,h4,by rw [← hX];rfl,by rw [← hX];rfl,by rw [← hX];exact hO4,by (exact ak)⟩
  rw [hc2,cond_false] at hX
  obtain ⟨g1,g2,g3⟩:=hgood (by simpa using hc2)
  refine run ?_
  intro N
  refine tH (c:=dH W.h.frame) (⟨N,#[.int .i64 W.h.frame],3⟩::⟨G,#[.int .i64 W.f.kind,.int .i64 W.f.stage,.int .i64 W.f.level,.bool W.f.walk,.int .i64 W.f.page],50⟩::⟨A,#[.int .i64 W.h.frame,.int .i64 W.h.mid,.bool W.h.r,.bool W.h.w,.bool W.h.x,.bool W.h.af,.bool W.h.ng,.int .i64 W.h.soft,.int .i64 W.h.level],48⟩::(⟨F,#[.int .i64 0,.int .i64 0,.int .i64 0,.bool false,.int .i64 0],50⟩::⟨H,#[.int .i64 0,.int .i64 0,.bool false,.bool false,.bool false,.bool false,.bool false,.int .i64 0,.int .i64 0],48⟩::⟨T,(jv c.two).toArray,29⟩::⟨O,(jv c.one).toArray,29⟩::⟨M,#[.slice q c.ws.length cap],24⟩::[])) hO4 (fun v5 h5 Lr=>?_) (by simp only [List.length_map,List.length_append];omega) (dP (m:=1) mh rfl) (hperm:=by (exact az))
  rw [show (rd++W.rd).map dH++[dH W.h.frame]=(rd++W.rd++[W.h.frame]).map dH by simp] at Lr
  obtain ⟨p5,k5,RS⟩:=Lr.opened
  rw [List.length_map] at RS
  subst RS
  refine aZ (⟨G,#[.int .i64 W.f.kind,.int .i64 W.f.stage,.int .i64 W.f.level,.bool W.f.walk,.int .i64 W.f.page],50⟩::⟨A,#[.int .i64 W.h.frame,.int .i64 W.h.mid,.bool W.h.r,.bool W.h.w,.bool W.h.x,.bool W.h.af,.bool W.h.ng,.int .i64 W.h.soft,.int .i64 W.h.level],48⟩::(⟨F,#[.int .i64 0,.int .i64 0,.int .i64 0,.bool false,.int .i64 0],50⟩::⟨H,#[.int .i64 0,.int .i64 0,.bool false,.bool false,.bool false,.bool false,.bool false,.int .i64 0,.int .i64 0],48⟩::⟨T,(jv c.two).toArray,29⟩::⟨O,(jv c.one).toArray,29⟩::⟨M,#[.slice q c.ws.length cap],24⟩::h5)) ak ?_
  refine run ?_
  have hdm:=kE c.ws 1 (fF W.h.frame lv c.page) lv
  refine ax (v:=FH (iR c.ws 1 (fF W.h.frame lv c.page) lv)) (fun wc hG=>zF c.ws hk.EI (hm'.good hG) 1 (.inl rfl) lv hlv W.h.frame g1 c.page hk.page Uz) ?_
  generalize hde:iR c.ws 1 (fF W.h.frame lv c.page) lv=d at hX hdm ⊢
  obtain ⟨dk,dk0,dk1,dk2⟩:=fA hdm
  refine run ?_
  intro D
  refine fZ (σ:=Unit) (fun _=>[]) (fun _=>⟨D,#[.int .i64 d.kind,.int .i64 d.frame,.bool d.r,.bool d.w,.bool d.x,.bool d.af,.bool d.ng,.int .i64 d.soft,.int .i64 d.note],93⟩::⟨G,#[.int .i64 W.f.kind,.int .i64 W.f.stage,.int .i64 W.f.level,.bool W.f.walk,.int .i64 W.f.page],50⟩::⟨A,#[.int .i64 W.h.frame,.int .i64 W.h.mid,.bool W.h.r,.bool W.h.w,.bool W.h.x,.bool W.h.af,.bool W.h.ng,.int .i64 W.h.soft,.int .i64 W.h.level],48⟩::(⟨F,#[.int .i64 0,.int .i64 0,.int .i64 0,.bool false,.int .i64 0],50⟩::⟨H,#[.int .i64 0,.int .i64 0,.bool false,.bool false,.bool false,.bool false,.bool false,.int .i64 0,.int .i64 0],48⟩::⟨T,(jv c.two).toArray,29⟩::⟨O,(jv c.one).toArray,29⟩::⟨M,#[.slice q c.ws.length cap],24⟩::h5)) (fun _=>d.kind ≠ 1) ?_ ?_
  ·refine ah _ rfl (fun hc3=>?_) (fun hc3=>?_)
   ·rw [hc3,cond_true] at hX
    have hk1:=dk1 (of_decide_eq_true hc3)
    refine run ?_
    refine dG (lv + 1,d.frame.toNat,rd++W.rd++[W.h.frame],_,h5) (hm:=by dsimp only;omega) ⟨by dsimp only;omega,by dsimp only;omega,by simp only [List.length_append,List.length_singleton];omega,by dsimp only;rw [show 4 - (lv + 1)=k' by omega];exact hX,Lr⟩ (h1:=by dsimp only;rw [show ((d.frame.toNat:Nat):Int)=d.frame by omega];(repeat (first | exact True.intro | (refine And.intro UN ?_))))
   ·refine run ?_
    exact eY () (of_decide_eq_false hc3)
  rintro _ hk1
  rw [decide_eq_false hk1,cond_false] at hX
  refine run ?_
  refine ah _ rfl (fun hc4=>?_) (fun hc4=>?_)
  ·rw [hc4,cond_true] at hX
   refine run ?_
   refine aZ (⟨H,#[.int .i64 0,.int .i64 0,.bool false,.bool false,.bool false,.bool false,.bool false,.int .i64 0,.int .i64 0],48⟩::⟨F,#[.int .i64 0,.int .i64 0,.int .i64 0,.bool false,.int .i64 0],50⟩::h5) ak ?_
   refine run ?_
   exact kD (cs:=#[.int .i64 0,.int .i64 0,.bool false,.bool false,.bool false,.bool false,.bool false,.int .i64 0,.int .i64 0]) (cs2:=#[.int .i64 2,.int .i64 1,.int .i64 (lv:Int),.bool false,.int .i64 (c.page:Int)]) ⟨sD,_,h5,by rw [← hX];rfl,by rw [← hX];rfl,by rw [← hX];exact Lr,by (exact ak)⟩
  rw [hc4,cond_false,BV hp] at hX
  have hk2:d.kind=2:=by have:=of_decide_eq_false hc4;omega
  refine run ?_
  refine ax (fun wc hG=>Dj d.r d.w d.x d.af d.ng d.soft c.acc 1 lv c.page wc) ?_
  generalize bP d.r d.w d.x d.af c.acc 1 lv c.page=fl at hX ⊢
  refine run ?_
  refine ah _ rfl (fun hc5=>?_) (fun hc5=>?_)
  ·rw [hc5,cond_true] at hX
   refine run ?_
   refine CB (⟨G,#[.int .i64 fl.kind,.int .i64 fl.stage,.int .i64 fl.level,.bool fl.walk,.int .i64 fl.page],50⟩::⟨F,#[.int .i64 0,.int .i64 0,.int .i64 0,.bool false,.int .i64 0],50⟩::⟨H,#[.int .i64 0,.int .i64 0,.bool false,.bool false,.bool false,.bool false,.bool false,.int .i64 0,.int .i64 0],48⟩::h5) ak ?_
   refine eG 5 3 [0,1,2] [3,4] (⟨G,#[.int .i64 fl.kind,.int .i64 fl.stage,.int .i64 fl.level,.bool fl.walk,.int .i64 fl.page],50⟩::h5) ?_
   refine dV ?_
   refine aN (b:=H) (tb:=48) (cs:=#[.int .i64 0,.int .i64 0,.bool false,.bool false,.bool false,.bool false,.bool false,.int .i64 0,.int .i64 0]) (cs':=#[.int .i64 0,.int .i64 0,.bool false,.bool false,.bool false,.bool false,.bool false,.int .i64 0,.int .i64 0]) (hp':=⟨F,#[.int .i64 0,.int .i64 0,.int .i64 0,.bool false,.int .i64 0],50⟩::⟨G,#[.int .i64 fl.kind,.int .i64 fl.stage,.int .i64 fl.level,.bool fl.walk,.int .i64 fl.page],50⟩::h5) ?_ az
   refine aN (b:=F) (tb:=50) (cs:=#[.int .i64 0,.int .i64 0,.int .i64 0,.bool false,.int .i64 0]) (cs':=#[.int .i64 fl.kind,.int .i64 fl.stage,.int .i64 fl.level,.bool fl.walk,.int .i64 fl.page]) (hp':=⟨H,#[.int .i64 0,.int .i64 0,.bool false,.bool false,.bool false,.bool false,.bool false,.int .i64 0,.int .i64 0],48⟩::⟨G,#[.int .i64 fl.kind,.int .i64 fl.stage,.int .i64 fl.level,.bool fl.walk,.int .i64 fl.page],50⟩::h5) ?_ az
   refine bf ?_
   refine dY ?_
   refine run ?_
   exact kD (cs:=#[.int .i64 0,.int .i64 0,.bool false,.bool false,.bool false,.bool false,.bool false,.int .i64 0,.int .i64 0]) (cs2:=#[.int .i64 fl.kind,.int .i64 fl.stage,.int .i64 fl.level,.bool fl.walk,.int .i64 fl.page]) ⟨sD,_,h5,by rw [← hX];rfl,by rw [← hX];rfl,by rw [← hX];exact Lr,by (exact ak)⟩
  rw [hc5,cond_false] at hX
  obtain ⟨e1,e2,e3,e4,e5⟩:=dk2 hk2
  have hcp:0<ay lv:=by
   have:lv=0∨lv=1∨lv=2∨lv=3:=by omega
   rcases this with rfl | rfl | rfl | rfl<;>decide
  have hmod:=Nat.mod_lt c.page hcp
  have hlm:=(nJ hdm hk2 hlv c.page).1
  have RU:d.frame + ((c.page % ay lv:Nat):Int)=((bQ c lv d:Nat):Int):=by unfold bQ;omega
  have RV:bQ c lv d≤4095:=hlm
  refine run ?_
  have hcl:=fun {wc:World} (h:aF wc (.slice q c.ws.length cap) 1 (c.ws.map uV))=>BA c.ws hk.EI h Uz c.two.on c.two.frame c.two.tag hfr (bQ c lv d) RV c.acc
  refine jO 21 ?_
  refine Bi 15 [0,1,2,3,4,5,6,7,8,9] [10] [11,12,13,14] [17] [15,16] ?_
  refine fJ ?_
  refine Og (fun wc hx hG=>kV lv hlv wc) ?_
  refine fJ ?_
  refine fB rfl (fun Nz=>jM rfl rfl c.page (ay lv) rfl rfl hcp) ?_
  refine fJ ?_
  rw [RU]
  refine y7 (fun wc hG=>hcl (hm'.good hG)) (hcl hm').some ?_
  refine kM ?_
  rw [hk.on]
  have Qp:=uh c.ws c.two.frame (bQ c lv d) c.acc
  have Jn:=@ug c.ws c.two.frame (bQ c lv d) c.acc
  generalize aV c.ws true c.two.frame (bQ c lv d) c.acc=Y at hX Qp Jn ⊢
  rintro u Ti ⟨v6,h6,rfl,Tj,RX⟩
  obtain ⟨p6,k6,RY⟩:=Tj.opened
  rw [List.length_map] at RY
  subst RY
  refine y8 ?_
  refine dR ?_
  refine dR ?_
  refine dR ?_
  refine lK ?_
  refine yg ?_
  refine lK ?_
  simp only [DN,List.cons_append,List.nil_append,List.append_nil]
  refine aN (b:=A) (tb:=48) (cs:=#[.int .i64 W.h.frame,.int .i64 W.h.mid,.bool W.h.r,.bool W.h.w,.bool W.h.x,.bool W.h.af,.bool W.h.ng,.int .i64 W.h.soft,.int .i64 W.h.level]) (cs':=#[.int .i64 Y.h.frame,.int .i64 Y.h.mid,.bool Y.h.r,.bool Y.h.w,.bool Y.h.x,.bool Y.h.af,.bool Y.h.ng,.int .i64 Y.h.soft,.int .i64 Y.h.level]) (hp':=⟨G,#[.int .i64 fl.kind,.int .i64 fl.stage,.int .i64 fl.level,.bool fl.walk,.int .i64 fl.page],50⟩::⟨D,#[.int .i64 d.kind,.int .i64 d.frame,.bool d.r,.bool d.w,.bool d.x,.bool d.af,.bool d.ng,.int .i64 d.soft,.int .i64 d.note],93⟩::(⟨F,#[.int .i64 0,.int .i64 0,.int .i64 0,.bool false,.int .i64 0],50⟩::⟨H,#[.int .i64 0,.int .i64 0,.bool false,.bool false,.bool false,.bool false,.bool false,.int .i64 0,.int .i64 0],48⟩::⟨T,(jv c.two).toArray,29⟩::⟨O,(jv c.one).toArray,29⟩::⟨M,#[.slice q c.ws.length cap],24⟩::(Ti++h5))) ?_ az
  refine aN (b:=G) (tb:=50) (cs:=#[.int .i64 fl.kind,.int .i64 fl.stage,.int .i64 fl.level,.bool fl.walk,.int .i64 fl.page]) (cs':=#[.int .i64 Y.f.kind,.int .i64 Y.f.stage,.int .i64 Y.f.level,.bool Y.f.walk,.int .i64 Y.f.page]) (hp':=⟨A,#[.int .i64 Y.h.frame,.int .i64 Y.h.mid,.bool Y.h.r,.bool Y.h.w,.bool Y.h.x,.bool Y.h.af,.bool Y.h.ng,.int .i64 Y.h.soft,.int .i64 Y.h.level],48⟩::⟨D,#[.int .i64 d.kind,.int .i64 d.frame,.bool d.r,.bool d.w,.bool d.x,.bool d.af,.bool d.ng,.int .i64 d.soft,.int .i64 d.note],93⟩::(⟨F,#[.int .i64 0,.int .i64 0,.int .i64 0,.bool false,.int .i64 0],50⟩::⟨H,#[.int .i64 0,.int .i64 0,.bool false,.bool false,.bool false,.bool false,.bool false,.int .i64 0,.int .i64 0],48⟩::⟨T,(jv c.two).toArray,29⟩::⟨O,(jv c.one).toArray,29⟩::⟨M,#[.slice q c.ws.length cap],24⟩::(Ti++h5))) ?_ az
  refine bf ?_
  refine dY ?_
  refine aZ (⟨G,#[.int .i64 Y.f.kind,.int .i64 Y.f.stage,.int .i64 Y.f.level,.bool Y.f.walk,.int .i64 Y.f.page],50⟩::⟨A,#[.int .i64 Y.h.frame,.int .i64 Y.h.mid,.bool Y.h.r,.bool Y.h.w,.bool Y.h.x,.bool Y.h.af,.bool Y.h.ng,.int .i64 Y.h.soft,.int .i64 Y.h.level],48⟩::⟨D,#[.int .i64 d.kind,.int .i64 d.frame,.bool d.r,.bool d.w,.bool d.x,.bool d.af,.bool d.ng,.int .i64 d.soft,.int .i64 d.note],93⟩::(⟨F,#[.int .i64 0,.int .i64 0,.int .i64 0,.bool false,.int .i64 0],50⟩::⟨H,#[.int .i64 0,.int .i64 0,.bool false,.bool false,.bool false,.bool false,.bool false,.int .i64 0,.int .i64 0],48⟩::⟨T,(jv c.two).toArray,29⟩::⟨O,(jv c.one).toArray,29⟩::⟨M,#[.slice q c.ws.length cap],24⟩::(h6++h5))) (cnt1 RX) ?_
  refine run ?_
  refine yl (Y.rd.map dH) (⟨G,#[.int .i64 Y.f.kind,.int .i64 Y.f.stage,.int .i64 Y.f.level,.bool Y.f.walk,.int .i64 Y.f.page],50⟩::⟨A,#[.int .i64 Y.h.frame,.int .i64 Y.h.mid,.bool Y.h.r,.bool Y.h.w,.bool Y.h.x,.bool Y.h.af,.bool Y.h.ng,.int .i64 Y.h.soft,.int .i64 Y.h.level],48⟩::⟨D,#[.int .i64 d.kind,.int .i64 d.frame,.bool d.r,.bool d.w,.bool d.x,.bool d.af,.bool d.ng,.int .i64 d.soft,.int .i64 d.note],93⟩::(⟨F,#[.int .i64 0,.int .i64 0,.int .i64 0,.bool false,.int .i64 0],50⟩::⟨H,#[.int .i64 0,.int .i64 0,.bool false,.bool false,.bool false,.bool false,.bool false,.int .i64 0,.int .i64 0],48⟩::⟨T,(jv c.two).toArray,29⟩::⟨O,(jv c.one).toArray,29⟩::⟨M,#[.slice q c.ws.length cap],24⟩::h6)) Lr (rW.own Tj ak) (fun v7 h7 QB=>?_) (by simp only [List.length_map,List.length_append,List.length_singleton];omega) (fun c hc=>by obtain ⟨x,_,rfl⟩:=List.mem_map.1 hc;exact ⟨rfl,rfl⟩) (hperm:=by (exact az))
  rw [← List.map_append] at QB
  obtain ⟨p7,k7,MB⟩:=QB.opened
  rw [List.length_map] at MB
  subst MB
  refine aZ (⟨G,#[.int .i64 Y.f.kind,.int .i64 Y.f.stage,.int .i64 Y.f.level,.bool Y.f.walk,.int .i64 Y.f.page],50⟩::⟨A,#[.int .i64 Y.h.frame,.int .i64 Y.h.mid,.bool Y.h.r,.bool Y.h.w,.bool Y.h.x,.bool Y.h.af,.bool Y.h.ng,.int .i64 Y.h.soft,.int .i64 Y.h.level],48⟩::⟨D,#[.int .i64 d.kind,.int .i64 d.frame,.bool d.r,.bool d.w,.bool d.x,.bool d.af,.bool d.ng,.int .i64 d.soft,.int .i64 d.note],93⟩::⟨F,#[.int .i64 0,.int .i64 0,.int .i64 0,.bool false,.int .i64 0],50⟩::⟨H,#[.int .i64 0,.int .i64 0,.bool false,.bool false,.bool false,.bool false,.bool false,.int .i64 0,.int .i64 0],48⟩::h7) ak ?_
  refine run ?_
  refine ah _ rfl (fun hc6=>?_) (fun hc6=>?_)
  ·rw [hc6,cond_true] at hX
   refine run ?_
   refine CB (⟨G,#[.int .i64 Y.f.kind,.int .i64 Y.f.stage,.int .i64 Y.f.level,.bool Y.f.walk,.int .i64 Y.f.page],50⟩::⟨F,#[.int .i64 0,.int .i64 0,.int .i64 0,.bool false,.int .i64 0],50⟩::⟨H,#[.int .i64 0,.int .i64 0,.bool false,.bool false,.bool false,.bool false,.bool false,.int .i64 0,.int .i64 0],48⟩::h7) ak ?_
   refine eG 5 3 [0,1,2] [3,4] (⟨G,#[.int .i64 Y.f.kind,.int .i64 Y.f.stage,.int .i64 Y.f.level,.bool Y.f.walk,.int .i64 Y.f.page],50⟩::h7) ?_
   refine dV ?_
   refine aN (b:=H) (tb:=48) (cs:=#[.int .i64 0,.int .i64 0,.bool false,.bool false,.bool false,.bool false,.bool false,.int .i64 0,.int .i64 0]) (cs':=#[.int .i64 0,.int .i64 0,.bool false,.bool false,.bool false,.bool false,.bool false,.int .i64 0,.int .i64 0]) (hp':=⟨F,#[.int .i64 0,.int .i64 0,.int .i64 0,.bool false,.int .i64 0],50⟩::⟨G,#[.int .i64 Y.f.kind,.int .i64 Y.f.stage,.int .i64 Y.f.level,.bool Y.f.walk,.int .i64 Y.f.page],50⟩::h7) ?_ az
   refine aN (b:=F) (tb:=50) (cs:=#[.int .i64 0,.int .i64 0,.int .i64 0,.bool false,.int .i64 0]) (cs':=#[.int .i64 Y.f.kind,.int .i64 Y.f.stage,.int .i64 Y.f.level,.bool Y.f.walk,.int .i64 Y.f.page]) (hp':=⟨H,#[.int .i64 0,.int .i64 0,.bool false,.bool false,.bool false,.bool false,.bool false,.int .i64 0,.int .i64 0],48⟩::⟨G,#[.int .i64 Y.f.kind,.int .i64 Y.f.stage,.int .i64 Y.f.level,.bool Y.f.walk,.int .i64 Y.f.page],50⟩::h7) ?_ az
   refine bf ?_
   refine dY ?_
   refine run ?_
   exact kD (cs:=#[.int .i64 0,.int .i64 0,.bool false,.bool false,.bool false,.bool false,.bool false,.int .i64 0,.int .i64 0]) (cs2:=#[.int .i64 Y.f.kind,.int .i64 Y.f.stage,.int .i64 Y.f.level,.bool Y.f.walk,.int .i64 Y.f.page]) ⟨sD,_,h7,by rw [← hX];rfl,by rw [← hX];rfl,by rw [← hX];exact QB,by (exact ak)⟩
  rw [hc6,cond_false] at hX
  obtain ⟨_,Qz,_⟩:=Jn (by simpa using hc6)
  refine run ?_
  intro Z
  refine ax (fun wc hG=>KT ⟨d.r,d.w,d.x,d.af,d.ng⟩ ⟨Y.h.r,Y.h.w,Y.h.x,Y.h.af,Y.h.ng⟩ d.soft Y.h.soft (dm (xs:=([((⟨d.r,d.w,d.x,d.af,d.ng⟩:AtD),d.soft),((⟨Y.h.r,Y.h.w,Y.h.x,Y.h.af,Y.h.ng⟩:AtD),Y.h.soft)].map Dw)) (hG.here ⟨Z,#[.bool d.r,.bool d.w,.bool d.x,.bool d.af,.bool d.ng,.int .i64 d.soft,.bool Y.h.r,.bool Y.h.w,.bool Y.h.x,.bool Y.h.af,.bool Y.h.ng,.int .i64 Y.h.soft],46⟩ mh) (by simp [Dw]) UC)) ?_
  generalize iJ ⟨d.r,d.w,d.x,d.af,d.ng⟩ ⟨Y.h.r,Y.h.w,Y.h.x,Y.h.af,Y.h.ng⟩=bo
  refine aZ (⟨A,#[.int .i64 Y.h.frame,.int .i64 Y.h.mid,.bool Y.h.r,.bool Y.h.w,.bool Y.h.x,.bool Y.h.af,.bool Y.h.ng,.int .i64 Y.h.soft,.int .i64 Y.h.level],48⟩::⟨G,#[.int .i64 Y.f.kind,.int .i64 Y.f.stage,.int .i64 Y.f.level,.bool Y.f.walk,.int .i64 Y.f.page],50⟩::⟨F,#[.int .i64 0,.int .i64 0,.int .i64 0,.bool false,.int .i64 0],50⟩::⟨H,#[.int .i64 0,.int .i64 0,.bool false,.bool false,.bool false,.bool false,.bool false,.int .i64 0,.int .i64 0],48⟩::h7) ak ?_
  refine run ?_
  refine CB (⟨A,#[.int .i64 Y.h.frame,.int .i64 Y.h.mid,.bool bo.r,.bool bo.w,.bool bo.x,.bool bo.af,.bool bo.ng,.int .i64 0,.int .i64 (lv:Int)],48⟩::⟨G,#[.int .i64 Y.f.kind,.int .i64 Y.f.stage,.int .i64 Y.f.level,.bool Y.f.walk,.int .i64 Y.f.page],50⟩::⟨F,#[.int .i64 0,.int .i64 0,.int .i64 0,.bool false,.int .i64 0],50⟩::⟨H,#[.int .i64 0,.int .i64 0,.bool false,.bool false,.bool false,.bool false,.bool false,.int .i64 0,.int .i64 0],48⟩::h7) ak ?_
  refine eG 5 3 [0,1,2] [3,4] (⟨A,#[.int .i64 Y.h.frame,.int .i64 Y.h.mid,.bool bo.r,.bool bo.w,.bool bo.x,.bool bo.af,.bool bo.ng,.int .i64 0,.int .i64 (lv:Int)],48⟩::⟨G,#[.int .i64 Y.f.kind,.int .i64 Y.f.stage,.int .i64 Y.f.level,.bool Y.f.walk,.int .i64 Y.f.page],50⟩::h7) ?_
  refine dV ?_
  refine aN (b:=H) (tb:=48) (cs:=#[.int .i64 0,.int .i64 0,.bool false,.bool false,.bool false,.bool false,.bool false,.int .i64 0,.int .i64 0]) (cs':=#[.int .i64 Y.h.frame,.int .i64 Y.h.mid,.bool bo.r,.bool bo.w,.bool bo.x,.bool bo.af,.bool bo.ng,.int .i64 0,.int .i64 (lv:Int)]) (hp':=⟨A,#[.int .i64 Y.h.frame,.int .i64 Y.h.mid,.bool bo.r,.bool bo.w,.bool bo.x,.bool bo.af,.bool bo.ng,.int .i64 0,.int .i64 (lv:Int)],48⟩::⟨F,#[.int .i64 0,.int .i64 0,.int .i64 0,.bool false,.int .i64 0],50⟩::⟨G,#[.int .i64 Y.f.kind,.int .i64 Y.f.stage,.int .i64 Y.f.level,.bool Y.f.walk,.int .i64 Y.f.page],50⟩::h7) ?_ az
  refine aN (b:=F) (tb:=50) (cs:=#[.int .i64 0,.int .i64 0,.int .i64 0,.bool false,.int .i64 0]) (cs':=#[.int .i64 Y.f.kind,.int .i64 Y.f.stage,.int .i64 Y.f.level,.bool Y.f.walk,.int .i64 Y.f.page]) (hp':=⟨H,#[.int .i64 Y.h.frame,.int .i64 Y.h.mid,.bool bo.r,.bool bo.w,.bool bo.x,.bool bo.af,.bool bo.ng,.int .i64 0,.int .i64 (lv:Int)],48⟩::⟨A,#[.int .i64 Y.h.frame,.int .i64 Y.h.mid,.bool bo.r,.bool bo.w,.bool bo.x,.bool bo.af,.bool bo.ng,.int .i64 0,.int .i64 (lv:Int)],48⟩::⟨G,#[.int .i64 Y.f.kind,.int .i64 Y.f.stage,.int .i64 Y.f.level,.bool Y.f.walk,.int .i64 Y.f.page],50⟩::h7) ?_ az
  refine bf ?_
  refine dY ?_
  refine run ?_
  exact kD (cs:=#[.int .i64 Y.h.frame,.int .i64 Y.h.mid,.bool bo.r,.bool bo.w,.bool bo.x,.bool bo.af,.bool bo.ng,.int .i64 0,.int .i64 (lv:Int)]) (cs2:=#[.int .i64 Y.f.kind,.int .i64 Y.f.stage,.int .i64 Y.f.level,.bool Y.f.walk,.int .i64 Y.f.page]) ⟨⟨Y.h.frame,Y.h.mid,bo.r,bo.w,bo.x,bo.af,bo.ng,0,lv⟩,_,h7,by rw [← hX,← Qz],by rw [← hX],by rw [← hX];exact QB,by (exact ak)⟩
structure Qq where
 k:Int
 es:List aX
 ev:Value
 dv:Value
 he:Hp
 hd:Hp
structure Tm (ws:List Nat) (one two:dX) (z:Qq):Prop where
 ok:gG ws.length z.es []
 snd:yK ws one two z.es
 oe:Own 81 14 z.ev z.he (z.es.map cu)
 od:Own 109 4 z.dv z.hd (([]:List eH).map iw)
set_option maxHeartbeats 4000000 in
theorem rG {w:World} {wv gv ev dv pv:Value} {ws:List Nat} {sH:List Int} {es:List aX} {ds:List eH} {ps:List Dk} {one two:dX} {fr ac:Int} (h:zV w wv gv ev dv pv ws sH es ds ps):Fn Tryz.prog 3 [.agg #[wv,.int .i64 fr,gv,.bool one.on,.int .i64 one.frame,.int .i64 one.tag,.bool two.on,.int .i64 two.frame,.int .i64 two.tag,.int .i64 ac,ev,dv,pv]].toArray w [] (fun u _=>u=.bool true):=by
 have h':=h
 obtain ⟨q1,c1,rfl,hwc⟩:=h.Ql
 obtain ⟨q2,c2,rfl,hne2,_⟩:=h.sg.opened
 obtain ⟨q3,c3,rfl,hcl⟩:=h.cap
 obtain ⟨q4,c4,rfl,_,_⟩:=h.sd.opened
 obtain ⟨q5,c5,rfl,hne5,_⟩:=h.sp.opened
 refine enter Tryz.func3 ?_
 refine run ?_
 intro B
 refine PE (fun wc hG=>EZ (h'.good hG)) ?_
 rintro _ ⟨hb,rfl,hsm⟩
 refine aG ?_
 refine bz (fun _ wc hG=>Ob ws.length c1 q1 wc) ?_
 refine aG ?_
 refine bz (fun _ wc hG=>P8 one two wc) ?_
 refine aG ?_
 refine ah _ rfl (fun hc=>?_) (fun hc=>?_)
 ·refine run ?_
  exact fin1 rfl
 obtain ⟨⟨rfl,hmem⟩,hwho⟩:(hb=false∧dL ws.length=true)∧BF one two=true:=by simpa using hc
 obtain ⟨hwl,hgl,hel,hpl⟩:=hsm rfl
 have hac:∀ (pk:Dk) (page:Nat) (acc:Int),page≤4095→jX ⟨ws,one,two,pk,page,acc⟩:=fun pk page acc QA=>by
  simp only [BF,Bool.and_eq_true] at hwho
  exact ⟨h.EI,hmem,hwho.1.1,hwho.1.2,hwho.2,QA⟩
 have hm0:∀ (es:List aX) (page:Nat) (acc:Int),gG ws.length es []→page≤4095→0≤acc→acc≤2→nU ws.length es [] one two (page:Int) acc=true:=fun es page acc hE QA h0 h2=>by
  simp only [nU,Bool.and_eq_true]
  refine ⟨⟨⟨⟨⟨hmem,hE.FI⟩,hwho⟩,iO Uz Uz⟩,iO h0 h2⟩,?_⟩
  unfold Dy
  refine List.all_eq_true.2 fun e he=>?_
  have:=kW (hE.held e he)
  simp only [decide_eq_true_eq]
  omega
 have hE0:gG ws.length [] []:=⟨by decide,by simp⟩
 refine run ?_
 intro T
 refine eF (σ:=Qq) (fun z=>[(4,.int .i64 z.k)]) (fun z=>⟨T,#[z.ev,z.dv],35⟩::⟨B,#[.slice q1 ws.length c1,.int .i64 fr,.slice q2 sH.length c2,.bool one.on,.int .i64 one.frame,.int .i64 one.tag,.bool two.on,.int .i64 two.frame,.int .i64 two.tag,.int .i64 ac,.slice q3 es.length c3,.slice q4 ds.length c4,.slice q5 ps.length c5],38⟩::(z.he++z.hd)) (fun z=>0≤z.k∧z.k≤8∧Tm ws one two z) (fun z=>8 - z.k.toNat) ⟨0,[],.slice none 0 0,.slice none 0 0,[],[]⟩ ⟨Int.le_refl _,show (0:Int)≤8 by decide,⟨hE0,fun e he=>absurd he UC,Own.nil _ _,Own.nil _ _⟩⟩ ?_
 rintro ⟨k,E,ev,dv,he,hd⟩ m hm ⟨hk0,hk8,hEk,rU,vU,hO2⟩
 dsimp only at hm hk0 hk8 hEk rU vU hO2 ⊢
 obtain ⟨K,rfl⟩:∃ K:Nat,k=(K:Int):=⟨k.toNat,by omega⟩
 refine aG ?_
 refine ah _ rfl (fun hc1=>?_) (fun hc1=>?_)
 rotate_left
 ·refine run ?_
  refine ax (fun wc hG=>Ff wc) ?_
  refine run ?_
  exact fin1 rfl
 have hlt:K<sH.length∧K<ps.length∧K<8:=by simp at hc1;omega
 obtain ⟨b2,o2,rfl⟩:=hne2 (by intro e;rw [e] at hlt;simp at hlt)
 obtain ⟨b5,o5,rfl⟩:=hne5 (by intro e;rw [e] at hlt;simp at hlt)
 have hr2:=dD (h.sg.row hlt.1)
 have Ud:=h.sp.row hlt.2.1
 simp only [Nat.mul_one] at hr2
 generalize sH.getD K default=Qu at hr2
 generalize ps.getD K default=pk at Ud
 have hw1:=Kt Qu (m:=4096) UA
 refine run ?_
 refine ax (fun wc hG=>Hz wc Qu 4096 UA UA) ?_
 generalize Hu Qu 4096=page at hw1 ⊢
 refine run ?_
 intro X
 refine eF (σ:=Qq) (fun z=>[(7,.int .i64 z.k)]) (fun z=>⟨X,#[.int .i64 pk.cpu,.bool pk.fill,.bool pk.aP,.bool pk.walk,.int .i64 (-1),.bool pk.use],44⟩::⟨T,#[z.ev,z.dv],35⟩::⟨B,#[.slice q1 ws.length c1,.int .i64 fr,.slice (some ⟨b2,o2,none⟩) sH.length c2,.bool one.on,.int .i64 one.frame,.int .i64 one.tag,.bool two.on,.int .i64 two.frame,.int .i64 two.tag,.int .i64 ac,.slice q3 es.length c3,.slice q4 ds.length c4,.slice (some ⟨b5,o5,none⟩) ps.length c5],38⟩::(z.he++z.hd)) (fun z=>0≤z.k∧z.k≤3∧Tm ws one two z) (fun z=>3 - z.k.toNat) ⟨0,E,ev,dv,he,hd⟩ ⟨Int.le_refl _,show (0:Int)≤3 by decide,hEk,rU,vU,hO2⟩ ?_
 clear hEk rU vU hO2
 rintro ⟨acc,E,ev,dv,he,hd⟩ m2 hm2 ⟨ha0,Ue,hEk,rU,vU,hO2⟩
 dsimp only at hm2 ha0 Ue hEk rU vU hO2 ⊢
 refine run ?_
 refine ah _ rfl (fun hc2=>?_) (fun hc2=>?_)
 rotate_left
 ·refine run ?_
  exact dG (⟨(K:Int) + 1,E,ev,dv,he,hd⟩:Qq) ⟨by dsimp only;omega,by dsimp only;omega,hEk,rU,vU,hO2⟩ (hm:=by dsimp only;omega) (h2:=by (exact ak))
 have ha2:acc≤2:=by simpa using hc2
 have Uf:=hEk.may.2.1
 obtain ⟨qa,ca,xa⟩:=vU.opened
 obtain ⟨qb,cb,xb⟩:=hO2.opened
 rw [List.length_map] at xa xb
 subst xa xb
 have hk1:=hac qB page acc Uz
 have hS1:=wU (c:=⟨ws,one,two,qB,page,acc⟩) (es:=[]) (ds:=[]) rfl (fun e he=>absurd he UC) UC
 have hok1:=zN hk1 (es:=[]) hE0
 refine run ?_
 have hTr:=fun {wc:World} (a1:aF wc (.slice q1 ws.length c1) 1 (ws.map uV))=>Jm ⟨ws,one,two,qB,page,acc⟩ hk1 rfl a1
 obtain ⟨R1,hR1⟩:∃ R1,R1=dW ⟨ws,one,two,qB,page,acc⟩ []:=⟨_,rfl⟩
 rw [← hR1] at hS1 hok1
 simp only [← hR1] at hTr
 refine jJ (fun wc hG=>hTr ((bT.old h.sw).good hG)) ?_
 rintro _ hn1 ⟨h1,v1,hr1,rfl,t1,t2,hle1⟩
 have Qi:R1.s.rd.length≤24:=by have:=hok1.rd;simpa using this
 obtain ⟨s1,k1,Tn⟩:=t2.opened
 rw [List.length_map] at Tn
 subst Tn
 refine aZ (⟨X,#[.int .i64 pk.cpu,.bool pk.fill,.bool pk.aP,.bool pk.walk,.int .i64 (-1),.bool pk.use],44⟩::⟨T,#[.slice qa E.length ca,.slice qb ([]:List eH).length cb],35⟩::⟨B,#[.slice q1 ws.length c1,.int .i64 fr,.slice (some ⟨b2,o2,none⟩) sH.length c2,.bool one.on,.int .i64 one.frame,.int .i64 one.tag,.bool two.on,.int .i64 two.frame,.int .i64 two.tag,.int .i64 ac,.slice q3 es.length c3,.slice q4 ds.length c4,.slice (some ⟨b5,o5,none⟩) ps.length c5],38⟩::((he++hd)++hr1)) (cnt1 hle1) ?_
 refine run ?_
 intro H1 F1
 refine jJ (fun wc hG=>yF ws h.EI Uz c1 hwc [] [] qB one two (page:Int) acc ((bT.old h.sw).good hG) (jS _ _) (jS _ _) ⟨_,_,rfl,by decide⟩ UA UA) ?_
 rintro u hn2 ⟨hu,-⟩
 obtain ⟨RS,Uo,Ur,Us,hd5,RZ,rfl,g1,g2,g3,hle2⟩:=hu (hm0 [] page acc hE0 Uz ha0 ha2)
 clear hu
 obtain ⟨R2,hR2⟩:∃ R2,R2=dW ⟨ws,one,two,qB,page,acc⟩ []:=⟨_,rfl⟩
 simp only [Int.toNat_natCast,← hR2] at g1 g2 g3 ⊢
 have h12:R2=R1:=hR2.trans hR1.symm
 have Ug:R2.s.rd.length≤24:=by rw [h12];exact Qi
 obtain ⟨qe,ce,xe⟩:=g1.opened
 obtain ⟨qf,cf,xf⟩:=g2.opened
 obtain ⟨qg,cg,xg⟩:=g3.opened
 rw [List.length_map] at xe xf xg
 subst xe xf xg
 refine aZ (⟨H1,#[.int .i64 h1.frame,.int .i64 h1.mid,.bool h1.r,.bool h1.w,.bool h1.x,.bool h1.af,.bool h1.ng,.int .i64 h1.soft,.int .i64 h1.level],48⟩::⟨F1,#[.int .i64 R1.f.kind,.int .i64 R1.f.stage,.int .i64 R1.f.level,.bool R1.f.walk,.int .i64 R1.f.page],50⟩::⟨X,#[.int .i64 pk.cpu,.bool pk.fill,.bool pk.aP,.bool pk.walk,.int .i64 (-1),.bool pk.use],44⟩::⟨T,#[.slice qa E.length ca,.slice qb ([]:List eH).length cb],35⟩::⟨B,#[.slice q1 ws.length c1,.int .i64 fr,.slice (some ⟨b2,o2,none⟩) sH.length c2,.bool one.on,.int .i64 one.frame,.int .i64 one.tag,.bool two.on,.int .i64 two.frame,.int .i64 two.tag,.int .i64 ac,.slice q3 es.length c3,.slice q4 ds.length c4,.slice (some ⟨b5,o5,none⟩) ps.length c5],38⟩::((he++hd)++(hr1++RZ))) (cnt1 hle2) ?_
 refine run ?_
 intro F2 T2
 obtain ⟨Z,hZ⟩:∃ Z:Int,Z=0:=⟨0,rfl⟩
 refine ax (v:=.int .i64 Z) (fun wc hG=>by rw [hZ];exact yG 0 wc) ?_
 refine aG ?_
 refine bz (fun _ wc hG=>zC R1.s.rd _ _ (by have:=g3.lie (w:=wc) (fun b hb=>hG.here b UQ) UI;rwa [show R2.s.rd.map dH=R1.s.rd.map dH by rw [h12]] at this) (t2.lie (fun b hb=>hG.here b UQ) UI)) ?_
 refine aG ?_
 refine ah _ rfl (fun hc3=>?_) (fun _=>?_)
 ·exfalso
  rw [hZ,h12,t1] at hc3
  simp [aQ,kK] at hc3
 refine run ?_
 have hk3:=hac { pk with drop:=-1 } page acc Uz
 have hS3:=wU (c:=⟨ws,one,two,{ pk with drop:=-1 },page,acc⟩) (ds:=[]) rfl rU hEk.may.1
 have LM:=zN hk3 hEk
 refine jJ (fun wc hG=>yF ws h.EI Uz c1 hwc E [] { pk with drop:=-1 } one two (page:Int) acc ((bT.old h.sw).good hG) (vU.lie (fun b hb=>hG.here b UQ) UI) (hO2.lie (fun b hb=>hG.here b UQ) UC) vU.cap Uz UA) ?_
 rintro u3 hn3 ⟨hu3,-⟩
 obtain ⟨RY,Ut,Uu,Tq,hd6,Uw,rfl,k1',k2',Tt,hle3⟩:=hu3 (hm0 E page acc hEk Uz ha0 ha2)
 clear hu3
 obtain ⟨R3,Tu⟩:∃ R3,R3=dW ⟨ws,one,two,{ pk with drop:=-1 },page,acc⟩ E:=⟨_,rfl⟩
 simp only [Int.toNat_natCast,← Tu] at k1' k2' Tt ⊢
 rw [← Tu] at hS3 LM
 have Si:R3.n=R1.n:=hS3.1.trans hS1.1.symm
 have Sj:R3.f=R1.f:=hS3.2.1.trans hS1.2.1.symm
 have Ux:=LM.es.may.2.1
 obtain ⟨qh,ch,xh⟩:=k1'.opened
 obtain ⟨qi,ci,xi⟩:=k2'.opened
 obtain ⟨qj,cj,xj⟩:=Tt.opened
 rw [List.length_map] at xh xi xj
 subst xh xi xj
 refine aZ (⟨F2,#[.int .i64 R2.f.kind,.int .i64 R2.f.stage,.int .i64 R2.f.level,.bool R2.f.walk,.int .i64 R2.f.page],50⟩::⟨H1,#[.int .i64 h1.frame,.int .i64 h1.mid,.bool h1.r,.bool h1.w,.bool h1.x,.bool h1.af,.bool h1.ng,.int .i64 h1.soft,.int .i64 h1.level],48⟩::⟨F1,#[.int .i64 R1.f.kind,.int .i64 R1.f.stage,.int .i64 R1.f.level,.bool R1.f.walk,.int .i64 R1.f.page],50⟩::⟨X,#[.int .i64 pk.cpu,.bool pk.fill,.bool pk.aP,.bool pk.walk,.int .i64 (-1),.bool pk.use],44⟩::⟨T,#[.slice qa E.length ca,.slice qb ([]:List eH).length cb],35⟩::⟨B,#[.slice q1 ws.length c1,.int .i64 fr,.slice (some ⟨b2,o2,none⟩) sH.length c2,.bool one.on,.int .i64 one.frame,.int .i64 one.tag,.bool two.on,.int .i64 two.frame,.int .i64 two.tag,.int .i64 ac,.slice q3 es.length c3,.slice q4 ds.length c4,.slice (some ⟨b5,o5,none⟩) ps.length c5],38⟩::(Tq++hd6)) (cnt1 hle3) ?_
 refine run ?_
 intro T3
 obtain ⟨Z2,hZ2⟩:∃ Z:Int,Z=0:=⟨0,rfl⟩
 refine ax (v:=.int .i64 Z2) (fun wc hG=>by rw [hZ2];exact yG 0 wc) ?_
 refine aG ?_
 refine bz (fun _ wc hG=>Oj R3.s.es [] _ _ (k1'.lie (fun b hb=>hG.here b UQ) UI) (k2'.lie (fun b hb=>hG.here b UQ) UC)) ?_
 rw [LM.es.FI]
 refine aG ?_
 refine ah _ rfl (fun hc3=>?_) (fun _=>?_)
 ·exfalso
  rw [hZ2,Sj,Si,t1] at hc3
  simp [aQ,kK] at hc3
 refine run ?_
 exact dG (⟨acc + 1,R3.s.es,_,_,Tq,hd6⟩:Qq) ⟨by dsimp only;omega,by dsimp only;omega,LM.es,hS3.2.2,k1',k2'⟩ (hm:=by dsimp only;omega) (h2:=by (exact ak))
end
end Go.Proofs.YtiggoglimlnmmaaGreat
