/- Texts of one's own, merged: the engine, what the functions do, plain laws. -/
import Derived.Test.YtellmabgmnbhcaaGreatPr4
namespace Go.Proofs.YtellmabgmnbhcaaGreat
open Go.RowKit
set_option linter.unusedVariables false
set_option linter.unusedSimpArgs false
set_option maxRecDepth 20000
variable {w:World}{wv cv v:Value}{H:HyD}{i q k:Nat}{P:PtD}{l:List Int}
section
attribute [local irreducible] Hy St Ops DH dI jl iR gX DS iw lV
theorem af5{α:Type}{p:α→Bool}[Inhabited α]:∀ {l:List α} {k s:Nat},k<l.length→p (l.getD k default)=true→(∀ j,j<k→p (l.getD j default)=false)→PtD.idx p l s=some (s+k):=by
 intro l
 induction l with
 | nil=>intro k s h;simp at h
 | cons x r ih=>
  intro k s hk he hn;unfold PtD.idx
  cases k with
  | zero=>simp at he;simp[he]
  | succ k=>
   have:=hn 0 bA4;simp at this;simp only[this,cond_false];rw[ih (k:=k) (s:=s+1) (by simpa using hk) (by simpa using he) (fun j hj=>by have:=hn (j+1) bA4;simpa using this)]
   congr 1;omega
theorem af6{α:Type}{p:α→Bool}[Inhabited α]:∀ {l:List α} {s:Nat},(∀ j,j<l.length→p (l.getD j default)=false)→PtD.idx p l s=none:=by
 intro l
 induction l with
 | nil=>intro s _;rfl
 | cons x r ih=>
  intro s hn;unfold PtD.idx;have:=hn 0 bA6;simp at this;simp only[this,cond_false];exact ih fun j hj=>by have:=hn (j+1) (by simpa using hj);simpa using this
def X9(r:Option Int):Value:=match r with
 | some f=>.tuple #[.int .i64 f,.bool true]
 | none=>.tuple #[.int .i64 0,.bool false]
theorem af7{X:Nat}{vv rv:Value}{mv:Nat→Value}(h:xN w X wv cv vv rv mv H)(hf5:∀ i,i<4→(H.vu i).live=true→0<(H.vu i).fs.length)(aO:Int):Fn Tryz.prog 221 [.pointer (some ⟨X,0,none⟩),.int .i64 aO].toArray w [] (fun u _=>u=X9 (H.ED aO)):=by
 have hL:=jv h.ok;obtain⟨cs,vs,e1,e2,_,hH⟩:=h.h.ex;have hvl:vs.length=4:=by rw[←hL.v,←e2,bG9]
 have hop:=hH.vs.rows.opened;rw[hvl] at hop;obtain⟨q2,cap2,rfl,hne2,_⟩:=hop;obtain⟨b2,o2,rfl⟩:=hne2 bB';have h2:w.rangeAt X 2 [.slice (some ⟨b2,o2,none⟩) 4 cap2]:=aV (k:=2) (n:=1) h.x rfl;have h2':=ak h2;unfold HyD.ED;refine enter Tryz.func221 ?_;refine run ?_;refine ah _ rfl (fun hc=>?_) (fun hc=>?_)
 ·rw[hc,cond_true];refine run ?_;exact fin2 rfl
 rw[hc,cond_false];refine run ?_;refine aK (σ:=Nat) (fun k=>[(16,.int .i64 (k:Int))]) (fun _=>[]) (fun k=>k≤4∧∀ j,j<k→((H.vs.getD j default).live&&decide ((H.vs.getD j default).aO=aO))=false) (fun k=>4-k) 0 ⟨bH3 _,fun j hj=>absurd hj (bK2 _)⟩ ?_;rintro k m hm ⟨hk,hK⟩;refine run ?_;refine ah _ rfl (fun hc2=>?_) (fun hc2=>?_)
 rotate_left
 ·have hk4:k=4:=by have:=of_decide_eq_false hc2;omega
  subst hk4;rw[af6 (fun j hj=>hK j (by have:=hL.v;omega))];refine run ?_;exact fin2 rfl
 have hk4:k<4:=by have:=of_decide_eq_true hc2;omega
 have hr:=hH.vs.rows.row (k:=k) bA4;have hfs:=hH.vs.fs _ (getD_mem (l:=vs) (k:=k) bA4);have hu:=rM e2 k;have hp:((H.vs.getD k default).live&&decide ((H.vs.getD k default).aO=aO))=((vs.getD k default).live&&decide ((vs.getD k default).aO=aO)):=by rw[←hu];rfl
 have h5:=hf5 k hk4;have hroot:(H.vu k).root=(vs.getD k default).fs.getD 0 0:=by unfold HyD.vu kM.root;rw[←hu];rfl
 unfold HyD.vu at h5;rw[←hu] at h5;simp only[eF.u] at h5;generalize vs.getD k default=v at *;refine run ?_;intro V;refine aC ?_;refine ah _ rfl (fun hd=>?_) (fun hd=>?_)
 ·have hlv:v.live=true:=by rw[bG8] at hd;exact hd.1
  have h0:=h5 hlv;obtain⟨qf,lf,ef,rP,_⟩:=hfs.opened;obtain⟨bf,BI,rfl⟩:=rP (by intro e;rw[e] at h0;cases h0);rw[ef] at hfs;have hrow:=ak (hfs.row h0);simp only[bJ5] at hrow;rw[af5 (by have:=hL.v;omega) (hp.trans hd) hK,bJ4];refine run ?_;rw[ef];refine run ?_;refine fin2 ?_;show _=X9 (some (H.vu k).root);rw[hroot];rfl
 refine run ?_;refine aF (k+1) ⟨hk4,fun j hj=>?_⟩;by_cases e:j=k
 ·subst e;rw[hp];exact hd
 ·exact hK j bA4
theorem af8(ar aw ax aa an br bw bx ba bn:Bool)(as_ bs:Int)(w:World):Fn Tryz.prog 223 [.agg #[.bool ar,.bool aw,.bool ax,.bool aa,.bool an,.int .i64 as_],.agg #[.bool br,.bool bw,.bool bx,.bool ba,.bool bn,.int .i64 bs]].toArray w [] (fun u _=>u=.bool ((!ar||br)&&(!aw||bw)&&(!ax||bx))):=by
 refine enter Tryz.func223 ?_;refine run ?_;intro B C;refine aC ?_;refine fin1 ?_;rfl
theorem Jp{X:Nat}{vv rv:Value}{mv:Nat→Value}(h:xN w X wv cv vv rv mv H)(root:Int)(page:Int)(h0:0≤page)(hp:page≤4095):Fn Tryz.prog 222 [.pointer (some ⟨X,0,none⟩),.int .i64 root,.int .i64 page].toArray w [] (fun u _=>u=.tuple #[uk (H.iP root page).1,.bool (H.iP root page).2]):=by
 have hL:=jv h.ok;obtain⟨cs,vs,e1,e2,_,hH⟩:=h.h.ex;have h0w:w.rangeAt X 0 [wv]:=aV (k:=0) (n:=1) h.x rfl;have h0':=ak h0w;have hws:=hH.ws;obtain⟨q,cap,rfl,_,_⟩:=hws.opened;unfold HyD.iP;obtain⟨pn,rfl⟩:∃ n:Nat,page=(n:Int):=⟨page.toNat,by omega⟩
 rw[bM3];have hge:=fun wc hp (hG:Good w [] hp wc)=>I9 H.ws hH.Df (hws.good hG) hL.m root pn bA4;generalize iG H.ws root pn=g at hge;refine enter Tryz.func222 ?_;refine run ?_;intro D;refine az (fun wc hG=>hge wc _ hG) ?_;refine aC ?_;intro E;refine gB (cs:=#[.int .i64 g.d.kind,.int .i64 g.d.frame,.bool g.d.r,.bool g.d.w,.bool g.d.x,.bool g.d.af,.bool g.d.ng,.int .i64 g.d.soft,.int .i64 g.d.note]) ?_;have e1:decide ((g.level:Int)=3)=decide (g.level=3):=by rw[bH4,decide_eq_true_eq,decide_eq_true_eq];omega
 rw[e1]
theorem Ug{X Y Z E:Nat}{vv rv:Value}{mv:Nat→Value}(h:xN w X wv cv vv rv mv H)(root:Int)(m:jT)(hm:0≤m.mid∧m.mid≤4095)(e:fG)(hY:w.cell? ⟨Y,0,none⟩=some (.pointer (some ⟨X,0,none⟩)))(hZ:w.cell? ⟨Z,0,none⟩=some (.int .i64 root))(hE:w.rangeAt E 0 (iC e)):Fn Tryz.prog 225 ([]++[Value.agg (eu m).toArray]++[Value.pointer (some ⟨Y,0,none⟩),.pointer (some ⟨Z,0,none⟩),.pointer (some ⟨E,0,none⟩)]).toArray w [] (fun u _=>u=.bool ((H.iP root m.mid).2&&decide (m.dZ=e.frame)&&(H.iP root m.mid).1.r)):=by
 have hE6:=cO (k:=6) hE rfl;refine enter Tryz.func225 ?_;refine run ?_;intro B;refine run ?_;refine az (fun wc hG=>Jp (h.good hG) root m.mid hm.1 hm.2) ?_;generalize (H.iP root m.mid).2=b;generalize (H.iP root m.mid).1=d;refine run ?_;intro D;refine aC ?_;exact fin1 rfl
theorem Ya{e:fG}(h:e.may=true):(0≤e.page∧e.page≤4095)∧(0≤e.mid∧e.mid≤4095):=by
 unfold fG.may at h;rw[bG8] at h;have:=h.1;simp only[fG.nums,PtD.cZ,bG8,decide_eq_true_eq] at this;omega
theorem Uh{X:Nat}{vv rv:Value}{mv:Nat→Value}(h:xN w X wv cv vv rv mv H)(hf5:∀ i,i<4→(H.vu i).live=true→0<(H.vu i).fs.length)(e:fG)(he:e.may=true):Fn Tryz.prog 139 [.pointer (some ⟨X,0,none⟩),.agg (iC e).toArray].toArray w [] (fun u _=>u=.bool (H.qV e)):=by
 have hL:=jv h.ok;have hb:=Ya he;obtain⟨cs,vs,e1,e2,_,hH⟩:=h.h.ex;have h0w:w.rangeAt X 0 [wv]:=aV (k:=0) (n:=1) h.x rfl;have h0':=ak h0w;have hws:=hH.ws;obtain⟨q,cap,rfl,_,_⟩:=hws.opened;refine enter Tryz.func139 ?_;refine run ?_;intro Y E;refine run ?_;refine az (fun wc hG=>af7 (h.good hG) hf5 e.aO) ?_;unfold HyD.qV
 cases hr:H.ED e.aO with
 | none=>
  refine run ?_;intro R;refine aN ?_
  exact fin1 rfl
 | some root=>
  unfold X9;dsimp only;refine run ?_;intro R;refine aN ?_;refine ah _ rfl (fun hk=>?_) (fun hk=>?_)
  ·rw[hk,cond_true];refine run ?_;refine az (fun wc hG=>Jp (h.good hG) root e.page hb.1.1 hb.1.2) ?_;generalize (H.iP root e.page).2=b;generalize (H.iP root e.page).1=d;refine run ?_;intro D;refine run ?_;refine aC ?_;refine fin1 ?_
   congr 2
   rw[bH4];simp[aW,iH,and_assoc]
  rw[hk,cond_false];refine run ?_;refine ah _ rfl (fun hk2=>?_) (fun hk2=>?_)
  ·rw[hk2,cond_true];refine run ?_;refine az (fun wc hG=>Jp (h.good hG) root e.mid hb.2.1 hb.2.2) ?_;generalize (H.iP root e.mid).2=b;generalize (H.iP root e.mid).1=d;refine run ?_;intro D;refine aC ?_;refine bG (fun hg wc hG=>af8 _ _ _ _ _ _ _ _ _ _ _ _ wc) ?_;refine aC ?_;exact fin1 rfl
  rw[hk2,cond_false];refine run ?_;refine late 10 9 ?_;refine xE 10 [0,1,2,3,4,5] [6] [7,8,9] ?_;refine gK ?_
  have hxl:((dL H.ws root 0 4096).getD []).length≤4096:=by
   cases hz:dL H.ws root 0 4096 with
   | none=>exact bH3 _
   | some zs=>exact vz _ _ _ _ _ hz
  refine kD (fun wc hG=>(XY H.ws hH.Df (hws.good hG) hL.m root).mono (R':=FU ((dL H.ws root 0 4096).getD [])) (fun u hn hu=>FU.of hu)) (FU.ex hxl) ?_;refine kP ?_;rintro u hn ⟨v1,h1,e9,rfl,hO,hle⟩
  have hxm:∀ m∈(dL H.ws root 0 4096).getD [],0≤m.mid∧m.mid≤4095:=fun m hm=>by
   cases hz:dL H.ws root 0 4096 with
   | none=>rw[hz] at hm;cases hm
   | some zs=>
    rw[hz] at hm;obtain⟨k,hk,e⟩:=Dl hz hm;have:=(vH e).2.2.1;omega
  generalize (dL H.ws root 0 4096).getD []=xs at hO hxl hxm;refine yG ?_;refine dX ?_;refine dX ?_;refine jM ?_;refine ru ?_;simp only[bH2,bH5,bI3];obtain⟨q5,c5,x5⟩:=hO.opened;rw[bG9] at x5;subst x5;refine run ?_;refine az (fun wc hG=>FO (F:=225) (us:=[.pointer (some ⟨Y,0,none⟩),.pointer (some ⟨R,0,none⟩),.pointer (some ⟨E,0,none⟩)]) (fun m=>(H.iP root m.mid).2&&decide (m.dZ=e.frame)&&(H.iP root m.mid).1.r) xs _ (hO.lie (hG.lie fun x hx=>by have:=hle.mem hx;simp[this]) bA7) (fun m hm w' ha=>?_)) ?_
  ·obtain⟨hp,hg⟩:=ha;refine Ug (h.good (hG.trans hg)) root m (hxm m hm) e ?_ ?_ ?_
   ·exact hg.cell bD5 bA6
   ·exact hg.cell (by rw[cell_of_block (hG.here ⟨R,#[.int .i64 root],3⟩ bA6)];rfl) bA6
   ·exact hg.range (qN (t:=80) (hG.here ⟨E,(iC e).toArray,80⟩ bA6)) bA6
  refine run ?_;exact fin1 rfl
theorem Yb{X Y:Nat}{vv rv:Value}{mv:Nat→Value}(h:xN w X wv cv vv rv mv H)(hf5:∀ i,i<4→(H.vu i).live=true→0<(H.vu i).fs.length)(e:fG)(he:e.may=true)(hY:w.cell? ⟨Y,0,none⟩=some (.pointer (some ⟨X,0,none⟩))):Fn Tryz.prog 138 ([]++[Value.agg (iC e).toArray]++[Value.pointer (some ⟨Y,0,none⟩)]).toArray w [] (fun u _=>u=.bool (!H.qV e)):=by
 refine enter Tryz.func138 ?_;refine run ?_;intro B;refine az (fun wc hG=>Uh (h.good hG) hf5 e he) ?_;refine run ?_;exact fin1 rfl
theorem Yc{X:Nat}{vv rv:Value}{mv:Nat→Value}(h:xN w X wv cv vv rv mv H)(hf5:∀ i,i<4→(H.vu i).live=true→0<(H.vu i).fs.length)(t:uu)(h1:aA w t.ev 14 (t.es.map iC))(h2:aA w t.dv 4 (t.ds.map lg))(hc:t.es.length≤t.ec):Fn Tryz.prog 64 [.pointer (some ⟨X,0,none⟩),.agg (TC t).toArray].toArray w [] (fun u _=>u=.bool (dQ t.es t.ds&&t.es.all H.qV)):=by
 refine enter Tryz.func64 ?_;refine run ?_;intro Y T;refine run ?_;refine az (fun wc hG=>zk t.es t.ds _ _ (h1.good hG) (h2.good hG) ⟨_,_,rfl,hc⟩) ?_;refine aC ?_
 have hok:jf (decide ((bif dQ t.es t.ds then (0:Int) else 1)=0)) true=true→∀ e∈t.es,e.may=true:=fun hg=>by
  cases hb:dQ t.es t.ds with
  | true=>exact (pF hb).1
  | false=>rw[hb] at hg;cases hg
 refine bG (fun hg wc hG=>FT (F:=138) (us:=[.pointer (some ⟨Y,0,none⟩)]) (fun e=>!H.qV e) t.es _ (h1.good hG) (fun e hm w' ha=>?_)) ?_
 ·obtain⟨hp,hg'⟩:=ha;exact Yb (h.good (hG.trans hg')) hf5 e (hok hg e hm) (hg'.cell bD5 bA6)
 refine aC ?_;refine fin1 ?_;rw[←bP3,bQ1];cases dQ t.es t.ds<;>rfl
theorem Yd(h:H.nY i=true)(hl:(H.vu i).live=true):0<(H.vu i).fs.length:=by
 unfold HyD.nY at h;rw[hl] at h;simp only[bJ3,cond_false,bG8,decide_eq_true_eq] at h;omega
theorem Ye{pv gv ov:Value}(h:dN w pv gv ov P):Fn Tryz.prog 60 [.agg #[pv,gv,ov]].toArray w [] (fun u _=>u=.int .i64 (bif P.may then 0 else 1)):=by
 obtain⟨p,pc,g,gc,o,oc,rfl,rfl,rfl,_⟩:=h.slices;refine enter Tryz.func60 ?_;refine run ?_;intro B X;refine az (fun wc hG=>XR h hG mh) ?_;refine run ?_;refine ah _ rfl (fun hc=>?_) (fun hc=>?_)
 ·refine run ?_;refine fin1 ?_;simp at hc;rw[hc];rfl
 ·refine run ?_;refine fin1 ?_;simp at hc;rw[hc];rfl
theorem vJ{vv rv:Value}(h:vw w wv cv vv rv H):Fn Tryz.prog 31 [.agg #[wv,cv,vv,rv]].toArray w [] (fun u _=>u=.int .i64 (bif H.ok then 0 else 1)):=by
 have h':=h;obtain⟨cs,vs,e1,e2,hcc,hH⟩:=h.ex;have hcl:cs.length=H.cs.length:=by rw[←e1,bG9]
 obtain⟨q,cap,rfl,hne,_⟩:=hH.ws.opened;have L6:=hH.cs.rows.opened;rw[hcl] at L6;obtain⟨q2,cap2,rfl,hne2,_⟩:=L6;obtain⟨q3,cap3,rfl,jI,_⟩:=hH.vs.rows.opened;obtain⟨q4,cap4,rfl,oQ,_⟩:=hH.rs.opened;unfold HyD.ok;refine enter Tryz.func31 ?_;refine run ?_;intro B;refine run ?_;refine bH (fun wc hG=>Q9 (h'.good hG)) ?_;intro u hn hu;unfold L8 at hu
 cases hL:H.iq with
 | false=>
  rw[hL,cond_false] at hu;subst hu;refine aS [] aj ?_;refine run ?_;refine ah _ rfl (fun hd=>?_) (fun hd=>absurd hd bA5);refine run ?_
  exact fin1 rfl
 | true=>
  rw[hL,cond_true] at hu;obtain⟨X,mv,hx,rfl,hM,hX⟩:=hu;have hS:=jv hL;refine aS (⟨X,Jn (.slice q H.ws.length cap) (.slice q2 H.cs.length cap2) (.slice q3 vs.length cap3) (.slice q4 H.rs.length cap4) mv,142⟩::hx) (cnt1 hX) ?_;refine run ?_;refine ah _ rfl (fun hd=>absurd hd bA5) (fun hd=>?_);clear hd;refine run ?_;have hAw:∀ wc hp,Good w [] hp wc→(∀ e∈⟨X,Jn (.slice q H.ws.length cap) (.slice q2 H.cs.length cap2) (.slice q3 vs.length cap3) (.slice q4 H.rs.length cap4) mv,142⟩::hx,e∈hp)→xN wc X (.slice q H.ws.length cap) (.slice q2 H.cs.length cap2) (.slice q3 vs.length cap3) (.slice q4 H.rs.length cap4) mv H:=fun wc hp hG hs=>G9 (t:=142) (h'.good hG) hM hL (hG.lie hs);refine bH (fun wc hG=>Q5 (hAw wc _ hG (fun e he=>by simp at he ⊢;rcases he with he | he<;>simp[he]))) ?_;rintro _ hn2 ⟨a1,a2,a3,k1,k2,k3,m1,m2,m3,rfl,hP⟩;refine aS (⟨X,Jn (.slice q H.ws.length cap) (.slice q2 H.cs.length cap2) (.slice q3 vs.length cap3) (.slice q4 H.rs.length cap4) mv,142⟩::(hx++hn2)) aj ?_;refine run ?_;intro Q;refine run ?_;have hPw:∀ wc hp,Good w [] hp wc→(∀ e∈hn2,e∈hp)→dN wc (.slice a1 m1 k1) (.slice a2 m2 k2) (.slice a3 m3 k3) H.aG:=fun wc hp hG hs=>hP _ (hG.lie hs)
  have hpo:∀ a∈H.aG.pages,-1≤a.own∧a.own≤14:=fun a ha=>by
   obtain⟨f,_,rfl⟩:=bH9.1 ha;have:=zn H f;omega
  refine az (fun wc hG=>Ye (hPw wc _ hG (fun e he=>by simp[he]))) ?_;refine aC ?_;refine bG (fun hg wc hG=>XD (aV (k:=0) (n:=1) (hAw wc _ hG (fun e he=>by simp at he ⊢;rcases he with he | he<;>simp[he])).x rfl) (hH.ws.good hG) (by have:=hS.f;omega) H.aG.pages (hPw wc _ hG (fun e he=>by simp[he])).pages hpo) ?_;refine aC ?_;refine bG (fun hg wc hG=>X3 (hAw wc _ hG (fun e he=>by simp at he ⊢;rcases he with he | he<;>simp[he]))) ?_;refine aC ?_
  have ay9:(!decide ((bif H.aG.may then (0:Int) else 1)=0)||!Eu H.ws H.aG.pages||!H.quiet)=!(H.aG.may&&Eu H.ws H.aG.pages&&H.quiet):=by
   cases H.aG.may<;>cases Eu H.ws H.aG.pages<;>cases H.quiet<;>rfl
  refine ah _ rfl (fun hd=>?_) (fun hd=>?_)
  ·replace hd:=ay9.symm.trans hd;rw[bI8] at hd;refine run ?_;refine fin1 ?_;rw[hd];rfl
  replace hd:=ay9.symm.trans hd;rw[bJ7] at hd;rw[hd];have hmay:H.aG.may=true:=by rw[bG8,bG8] at hd;exact hd.1.1
  have hok:=PtD.sS.1 hmay;have hLen:H.aG.Len:=⟨hok.n0,hok.n1,hok.g4,hok.o1,hok.o3⟩
  clear hd ay9;refine run ?_;refine aK (σ:=Nat) (fun k=>[(37,.int .i64 (k:Int))]) (fun _=>⟨Q,#[.slice a1 m1 k1,.slice a2 m2 k2,.slice a3 m3 k3],48⟩::⟨X,Jn (.slice q H.ws.length cap) (.slice q2 H.cs.length cap2) (.slice q3 vs.length cap3) (.slice q4 H.rs.length cap4) mv,142⟩::(hx++hn2)) (fun k=>k≤4∧∀ j,j<k→H.nY j=true) (fun k=>4-k) 0 ⟨bH3 _,fun j hj=>absurd hj (bK2 _)⟩ ?_;rintro k m hm2 ⟨hk,hK⟩;refine run ?_;have hvl:vs.length=4:=by rw[←hS.v,←e2,bG9]
  refine ah _ rfl (fun hd=>?_) (fun hd=>?_)
  ·have hk4:k<4:=by have:=of_decide_eq_true hd;omega
   refine run ?_;refine az (fun wc hG=>PM (hAw wc _ hG (fun e he=>by simp at he ⊢;rcases he with he | he<;>simp[he])) (hPw wc _ hG (fun e he=>by simp[he])) hLen hmay k hk4) ?_;refine run ?_;refine ah _ rfl (fun hd2=>?_) (fun hd2=>?_)
   ·refine run ?_;refine fin1 ?_;rw[fZ hk4 (by simpa using hd2)];rfl
   refine run ?_;refine aF (k+1) ⟨hk4,fun j hj=>?_⟩;by_cases e:j=k
   ·subst e;simpa using hd2
   ·exact hK j bA4
  have hk4:k=4:=by have:=of_decide_eq_false hd;omega
  subst hk4;rw[fF hK,bH6];have hf5:∀ i,i<4→(H.vu i).live=true→0<(H.vu i).fs.length:=fun i hi hl=>Yd (hK i hi) hl;refine run ?_;refine aK (σ:=Nat) (fun k=>[(52,.int .i64 (k:Int))]) (fun _=>⟨Q,#[.slice a1 m1 k1,.slice a2 m2 k2,.slice a3 m3 k3],48⟩::⟨X,Jn (.slice q H.ws.length cap) (.slice q2 H.cs.length cap2) (.slice q3 vs.length cap3) (.slice q4 H.rs.length cap4) mv,142⟩::(hx++hn2)) (fun k=>k≤H.cs.length∧∀ j,j<k→H.sound j=true) (fun k=>H.cs.length-k) 0 ⟨bH3 _,fun j hj=>absurd hj (bK2 _)⟩ ?_;rintro k3 m3 QV ⟨hk3,hK3⟩;refine run ?_;refine ah _ rfl (fun hd=>?_) (fun hd=>?_)
  ·have hlt:k3<H.cs.length:=by have:=of_decide_eq_true hd;omega
   obtain⟨b3,o3,rfl⟩:=hne2 bE';have hr3:=hH.cs.rows.row (k:=k3) bA4;have hen:=hH.cs.en _ (getD_mem (l:=cs) (k:=k3) bA4);have hiv:=hH.cs.iv _ (getD_mem (l:=cs) (k:=k3) bA4);have hec:=hcc _ (getD_mem (l:=cs) (k:=k3) bA4);have Ue:=FK e1 k3;have hsd:H.sound k3=(dQ (cs.getD k3 default).t.es (cs.getD k3 default).t.ds&&(cs.getD k3 default).t.es.all H.qV):=by unfold HyD.sound HyD.cu;rw[←Ue];rfl
   generalize cs.getD k3 default=c at hr3 hen hiv hec hsd;have hr4:w.rangeAt b3 (o3+k3*19+17) [c.t.ev,c.t.dv]:=aV (k:=17) (n:=2) hr3 rfl;refine run ?_;refine az (fun wc hG=>Yc (hAw wc _ hG (fun e he=>by simp at he ⊢;rcases he with he | he<;>simp[he])) hf5 c.t (hen.good hG) (hiv.good hG) hec) ?_;rw[←hsd];refine run ?_;refine ah _ rfl (fun hd2=>?_) (fun hd2=>?_)
   ·refine run ?_;refine fin1 ?_;rw[fZ hlt (by simpa using hd2)];rfl
   refine run ?_;refine aF (k3+1) ⟨hlt,fun j hj=>?_⟩;by_cases e:j=k3
   ·subst e;simpa using hd2
   ·exact hK3 j bA4
  have hkc:k3=H.cs.length:=by have:=of_decide_eq_false hd;omega
  subst hkc;rw[fF hK3];refine run ?_;exact fin1 rfl
end
section
attribute [local irreducible] Hy St Ops DH dI jl iR gX DS iw
def Hf(ms:List eF)(vm:Int):Bool:=decide (1≤vm)&&decide (vm≤(ms.length:Int))&&(ms.getD (vm.toNat-1) default).live&&decide (0<(ms.getD (vm.toNat-1) default).fs.length)
theorem af9{q2 q3 q5:Option Addr}{n2 n3 n5 c2 c3 c5:Nat}{mv:Value}{ms:List eF}(h:yX w mv ms)(vm:Int)(hv:-10≤vm∧vm≤10):Fn Tryz.prog 91 [.agg #[.slice q2 n2 c2,.slice q3 n3 c3,mv,.slice q5 n5 c5],.int .i64 vm].toArray w [] (fun u _=>u=.bool (Hf ms vm)):=by
 obtain⟨q4,c4,rfl,hne,_⟩:=h.rows.opened;refine enter Tryz.func91 ?_;refine run ?_;intro B;by_cases hr:1≤vm∧vm≤(ms.length:Int)
 ·obtain⟨k,rfl⟩:∃ k:Nat,vm=(k:Int)+1:=⟨(vm-1).toNat,by omega⟩
  have hk:k<ms.length:=by omega
  obtain⟨b4,o4,rfl⟩:=hne (by intro e;rw[e] at hk;simp at hk);have hrow:=h.rows.row hk;have e2:((k:Int)+1).toNat-1=k:=by omega
  have e1:(k:Int)+1-1=(k:Int):=by omega
  have e3:decide (1≤(k:Int)+1)=true:=by simp;omega
  have e4:decide ((k:Int)+1≤(ms.length:Int))=true:=by simp;omega
  have e5:(decide (1≤(k:Int)+1)&&decide ((k:Int)+1≤(ms.length:Int)))=true:=by rw[e3,e4];rfl
  simp only[Hf,e2,e3,e4,bH6];generalize ms.getD k default=m at hrow;have hl:=cO (k:=0) hrow rfl;have hfv:=cO (k:=3) hrow rfl;obtain⟨live,dying,aO,fs,fp,fc,fr,rp,rc,vs,vp,vk⟩:=m;dsimp only[eF.fv,eF.rv,eF.vv,mW] at hrow hl hfv ⊢;refine aC ?_;simp only[e4,bH6,show jf true true=true from rfl,bI];refine aC ?_;simp only[e1];refine aC ?_;simp only[e1,bM3,show jf true true=true from rfl,bI];refine aC ?_
  cases live with
  | false=>
   refine aN ?_
   exact fin1 rfl
  | true=>
  simp only[bH6,show jf true true=true from rfl,bI];refine aC ?_;simp only[e1];refine aC ?_;simp only[e1,bM3,bH6,show jf true true=true from rfl,bI];refine aC ?_;refine fin1 ?_;simp
 ·have e:(decide (1≤vm)&&decide (vm≤(ms.length:Int)))=false:=by
   cases h1:(decide (1≤vm)&&decide (vm≤(ms.length:Int))) with
   | false=>rfl
   | true=>simp at h1;omega
  have hL:Hf ms vm=false:=by simp only[Hf,e,bQ7]
  rw[hL];refine aC ?_;simp only[e];refine aN ?_;exact fin1 rfl
end
section
attribute [local irreducible] Hy St Ops DH dI jl iR gX DS iw lV
theorem Yf{vs:List eF}(e2:vs.map eF.u=H.vs)(hi:i<H.vs.length):Hf vs ((i:Int)+1)=(H.vu i).has:=by
 have hl:vs.length=H.vs.length:=by rw[←e2,bG9]
 have hu:=rM e2 i;rw[show H.vs.getD i default=H.vu i from rfl] at hu;rw[←hu];unfold Hf kM.has eF.u;have e3:((i:Int)+1).toNat-1=i:=by omega
 rw[e3];have e4:decide (1≤(i:Int)+1)=true:=by simp;omega
 have e5:decide ((i:Int)+1≤(vs.length:Int))=true:=by simp;omega
 rw[e4,e5];rfl
def PN(xs:List jT)(u:Value)(hn:Hp):Prop:=∃ v h b,u=.tuple #[v,.bool b]∧(b=false→xs=[])∧Own 173 2 v h (xs.map eu)∧aJ h hn
theorem PN.of{r:Option (List jT)}{u:Value}{hn:Hp}(h:an8 r u hn):PN (r.getD []) u hn:=by
 cases r with
 | none=>exact⟨_,[],false,h,fun _=>rfl,Own.nil _ _,by (exact aj)⟩
 | some xs=>
  obtain⟨v,h1,e,hO,hle⟩:=h;exact⟨v,h1,true,e,(fun hf=>by cases hf),hO,hle⟩
theorem PN.ex{xs:List jT}(h:xs.length≤4096):∃ u hn,PN xs u hn:=by
 obtain⟨v,h1,hO⟩:=dY (e:=173) (sz:=2) (xs:=xs.map eu) (fun c hc=>by obtain⟨m,_,rfl⟩:=bH9.1 hc;exact⟨rfl,rfl⟩) bA7;exact⟨_,h1,v,h1,true,rfl,(fun hf=>by cases hf),hO,aJ.refl _⟩
theorem af'{vv rv:Value}(h:vw w wv cv vv rv H)(i:Nat)(hi:i<4)(h4:H.vs.length=4):Fn Tryz.prog 36 [.agg #[wv,cv,vv,rv],.int .i64 ((i:Int)+1)].toArray w [] (fun u hn=>∃ h1,Acc 173 2 u h1 ((H.wY i).map eu)∧aJ h1 hn):=by
 have hfit:=h.fit;obtain⟨cs,vs,e1,e2,_,hH⟩:=h.ex;have hvl:vs.length=4:=by rw[←h4,←e2,bG9]
 have hws:=hH.ws;have hms:=hH.vs;obtain⟨q,cap,rfl,hne,_⟩:=hws.opened;obtain⟨q2,cap2,rfl,hne2,_⟩:=hH.cs.rows.opened;have hop:=hH.vs.rows.opened;rw[hvl] at hop;obtain⟨q3,cap3,rfl,jI,_⟩:=hop;obtain⟨b3,o3,rfl⟩:=jI bB';obtain⟨q4,cap4,rfl,oQ,_⟩:=hH.rs.opened;have hr:=hH.vs.rows.row (k:=i) bA4;have hfs:=hH.vs.fs _ (getD_mem (l:=vs) (k:=i) bA4);have hu:=rM e2 i;rw[show H.vs.getD i default=H.vu i from rfl] at hu;have hlh:=Yf e2 (i:=i) bA4;have L9:H.wY i=bif (H.vu i).has then ((dL H.ws (H.vu i).root 0 4096).getD []).filter (fun m=>decide (m.mid≤15)) else []:=rfl
 have hroot:(H.vu i).root=(vs.getD i default).fs.getD 0 0:=by rw[←hu];rfl
 have hhs:(H.vu i).has=true→0<(vs.getD i default).fs.length:=fun hh=>by
  rw[←hu] at hh;unfold kM.has eF.u at hh;rw[bG8] at hh;exact of_decide_eq_true hh.2
 generalize vs.getD i default=v at *;refine enter Tryz.func36 ?_;refine run ?_;intro B;refine az (fun wc hG=>af9 (hms.good hG) ((i:Int)+1) bA4) ?_;rw[hlh];refine run ?_;refine ah _ rfl (fun hc=>?_) (fun hc=>?_)
 ·have hh:(H.vu i).has=false:=by simpa using hc
  rw[hh] at L9;refine run ?_;refine fin1 ?_;rw[L9];exact⟨[],Acc.nil _ _,by (exact aj)⟩
 have hh:(H.vu i).has=true:=by simpa using hc
 rw[hh,cond_true] at L9;have h0:=hhs hh;obtain⟨qf,cf,ef,rP,_⟩:=hfs.opened;obtain⟨bf,BI,rfl⟩:=rP (by intro e;rw[e] at h0;cases h0);rw[ef] at hfs;have hrf:=ak (hfs.row h0);simp only[bJ5] at hrf;rw[show v.fs.getD 0 default=v.fs.getD 0 0 from rfl,←hroot] at hrf;have hi1:((i:Int)+1-1).toNat=i:=by omega
 have hr3:w.cell? ⟨b3,o3+((i:Int)+1-1).toNat*6+3,none⟩=some v.fv:=by rw[hi1];exact hr 3 _ rfl
 rw[ef] at hr3;have hfl:=hfit.l;refine run ?_;refine late 15 14 ?_;refine xE 15 [0,1,2,3,4,5,6,7,8,9,10] [11] [12,13,14] ?_;refine gK ?_
 have hxl:((dL H.ws (H.vu i).root 0 4096).getD []).length≤4096:=by
  cases hz:dL H.ws (H.vu i).root 0 4096 with
  | none=>exact bH3 _
  | some zs=>exact vz _ _ _ _ _ hz
 refine kD (fun wc hG=>(ay0 H.ws hH.Df (hws.good hG) (H.vu i).root bA4).mono (R':=PN ((dL H.ws (H.vu i).root 0 4096).getD [])) (fun u hn hu=>PN.of hu)) (PN.ex hxl) ?_;refine kP ?_;rintro u hn ⟨v1,h1,b,rfl,hbf,hO,hle⟩;generalize (dL H.ws (H.vu i).root 0 4096).getD []=xs at hO hxl hbf L9;refine yG ?_;refine dX ?_;refine dX ?_;refine jM ?_;refine ru ?_;simp only[bH2,bH5,bI3];obtain⟨q5,c5,x5⟩:=hO.opened;rw[bG9] at x5;subst x5;refine run ?_;refine ah _ rfl (fun hc2=>?_) (fun hc2=>?_)
 ·have hbb:b=false:=by simpa using hc2
  have:=hbf hbb;refine run ?_;refine fin1 ?_;rw[L9,this];exact⟨[],Acc.nil _ _,by (exact aj)⟩
 refine run ?_;refine aK (σ:=Nat×Value×Hp) (fun s=>[(8,.int .i64 (s.1:Int)),(7,s.2.1)]) (fun s=>h1++s.2.2) (fun s=>s.1≤xs.length∧Acc 173 2 s.2.1 s.2.2 (((xs.take s.1).filter fun m=>decide (m.mid≤15)).map eu)) (fun s=>xs.length-s.1) (0,.slice none 0 0,[]) ⟨bH3 _,Acc.nil _ _⟩ ?_ (hh:=by dsimp only;(exact cnt1 hle));rintro⟨k,gv,ha⟩ m hm ⟨hk,hA⟩;dsimp only at hm hk hA ⊢;refine run ?_;refine ah _ rfl (fun hc3=>?_) (fun hc3=>?_)
 ·have hkl:k<xs.length:=by have:=of_decide_eq_true hc3;omega
  obtain⟨g5,k5,FV,e5,eh5,_,hn5,_⟩:=hO.oO hkl;have hm0:=hn5 0 _ rfl;have hm1:=hn5 1 _ rfl;rw[bK6] at hm0;have ht5:List.take 2 (List.drop (k*2) FV.toList)=eu (xs.getD k default):=Di hm0 hm1
  have htk:(xs.take (k+1)).filter (fun m=>decide (m.mid≤15))=(xs.take k).filter (fun m=>decide (m.mid≤15))++(if (xs.getD k default).mid≤15 then [xs.getD k default] else []):=by
   rw[bL7 hkl,bV8,jJ xs hkl]
   congr 1
   exact Q7 _
  have bn':((xs.take k).filter (fun m=>decide (m.mid≤15))).length≤4096:=bO' (bR4 _ _) bD1;generalize xs.getD k default=mp at ht5 hm0 hm1 htk;simp only[eu] at ht5;injection e5 with e5 _ e5'
  subst e5 e5' eh5;refine pM (⟨g5,FV,173⟩::ha) aj ?_;refine run ?_;refine ah _ rfl (fun hd2=>?_) (fun hd2=>?_)
  rotate_left
  ·have hqn:¬ mp.mid≤15:=of_decide_eq_false hd2;rw[if_neg hqn,bI3] at htk;refine run ?_;refine aF (k+1,gv,ha) ⟨hkl,by dsimp only;rw[htk];exact hA⟩ (hm:=by dsimp only;omega) (h2:=by (exact aj))
  have hqy:mp.mid≤15:=of_decide_eq_true hd2;rw[if_pos hqy] at htk;obtain⟨q9,c9,e9⟩:=hA.own.opened;refine run ?_;intro M;refine dK (c:=[.int .i64 mp.mid,.int .i64 mp.dZ]) (hp':=[⟨M,#[.int .i64 mp.mid,.int .i64 mp.dZ],173⟩,⟨g5,FV,173⟩]) hA (fun v' ha' hA2=>?_) bA7 (aY (m:=2) mh rfl) (hperm:=by (exact aT));refine run ?_;refine aF (k+1,v',ha') ⟨hkl,by dsimp only;rw[htk,bI6];exact hA2⟩ (hm:=by dsimp only;omega) (h2:=by (exact aj))
 have hke:k=xs.length:=by have:=of_decide_eq_false hc3;omega
 subst hke;rw[bM6,←L9] at hA;refine run ?_;refine fin1 ?_;exact⟨ha,hA,by (exact aj)⟩
theorem Ui{ws:List Nat}{root:Int}{s:Int}(hs:s≠0)(h:(iG ws root q).d.soft=s):(iG ws root q).e=0∧(iG ws root q).d.kind=2:=by
 unfold iG at h ⊢;dsimp only at h ⊢
 cases hk:(aQ ws root q 3).ok with
 | false=>rw[hk] at h;exact absurd h.symm hs
 | true=>
  rw[hk,cond_true] at h;refine⟨rfl,?_⟩;rw[cond_true];have hf:=jR hk;have hd:=mF ws ((aQ ws root q 3).place q) (aQ ws root q 3).lv;rw[←hf.d] at hd;dsimp only at h ⊢;generalize (aQ ws root q 3).d=d at hd h;obtain⟨hk3,hk0,hk1,_⟩:=gI hd;unfold DsD.may at hd;rcases hk3 with e | e | e
  ·exfalso;simp only[e,decide_true,cond_true,bG8] at hd;have:=hd.1.2;simp only[DsD.bare,bG8,decide_eq_true_eq] at this;omega
  ·exfalso;simp only[e,decide_true,cond_true,bG8,show decide ((1:Int)=0)=false from rfl,cond_false] at hd;have:=hd.1.1.1;simp only[DsD.bare,bG8,decide_eq_true_eq] at this;omega
  ·exact e
structure ao1(w:World)(v:Value)(H:HyD):Prop where
 ex:∃ b o cap,∃ u:Nat→Value,v=.slice (some ⟨b,o,none⟩) 4 cap∧∀ i,i<4→w.rangeAt b (o+i*1) [u i]∧aA w (u i) 2 ((H.wY i).map eu)
theorem ao2{vv rv mv:Value}(h:vw w wv cv vv rv H)(h4:H.vs.length=4)(hmem:fM H.ws.length=true)(hA:ao1 w mv H)(f s:Int)(hs:s≠0):Fn Tryz.prog 38 [.agg #[wv,cv,vv,rv],mv,.int .i64 f,.int .i64 s].toArray w [] (fun u _=>u=.int .i64 (H.pz f s)):=by
 have hfit:=h.fit;have rZ:=bP hmem;obtain⟨cs,vs,e1,e2,_,hH⟩:=h.ex;have hvl:vs.length=4:=by rw[←h4,←e2,bG9]
 have hws:=hH.ws;obtain⟨q,cap,rfl,hne,_⟩:=hws.opened;obtain⟨q2,cap2,rfl,hne2,_⟩:=hH.cs.rows.opened;have hop:=hH.vs.rows.opened;rw[hvl] at hop;obtain⟨q3,cap3,rfl,jI,_⟩:=hop;obtain⟨b3,o3,rfl⟩:=jI bB';obtain⟨q4,cap4,rfl,oQ,_⟩:=hH.rs.opened;obtain⟨bm,om,cm,us,rfl,hrow⟩:=hA;refine enter Tryz.func38 ?_;refine run ?_;intro B;refine aK (σ:=Nat) (fun k=>[(9,.int .i64 ((k:Int)+1))]) (fun _=>[⟨B,#[.slice q H.ws.length cap,.slice q2 cs.length cap2,.slice (some ⟨b3,o3,none⟩) 4 cap3,.slice q4 H.rs.length cap4],29⟩]) (fun k=>k≤4∧∀ j,j<k→H.oP f s j=false) (fun k=>4-k) 0 ⟨bH3 _,fun j hj=>absurd hj (bK2 _)⟩ ?_;rintro k m hm ⟨hk,hK⟩;refine run ?_;refine ah _ rfl (fun hc=>?_) (fun hc=>?_)
 rotate_left
 ·have hk4:k=4:=by have:=of_decide_eq_false hc;omega
  subst hk4;refine run ?_;refine fin1 ?_;rw[XV hK]
 have hk4:k<4:=by have:=of_decide_eq_true hc;omega
 obtain⟨hcm,hsm⟩:=hrow k hk4
 have hcm':w.cell? ⟨bm,om+((k:Int)+1-1).toNat,none⟩=some (us k):=by
  rw[show ((k:Int)+1-1).toNat=k by omega];have:=ak hcm;simpa using this
 have hwB:H.oP f s k=(H.wY k).any fun m=>decide (m.dZ=f)&&decide (qM H.ws (H.vu k).root m.mid=s):=by unfold HyD.oP HyD.msA;rw[List.any_map];rfl
 have hml:=zi H k;have ao3:∀ m∈H.wY k,0≤m.mid∧m.mid≤15:=fun m hm=>by have:=Q4 hm;omega
 have hhas:H.wY k≠[]→(H.vu k).has=true:=fun hne=>by
  cases hh:(H.vu k).has with
  | true=>rfl
  | false=>exact absurd (by unfold HyD.wY;rw[hh];rfl) hne
 generalize H.wY k=xs at hsm hwB hml ao3 hhas;obtain⟨qx,cx,ex,aY9,_⟩:=hsm.opened;rw[ex] at hsm hcm';refine run ?_;refine aK (σ:=Nat) (fun j=>[(10,.int .i64 (j:Int))]) (fun _=>[⟨B,#[.slice q H.ws.length cap,.slice q2 cs.length cap2,.slice (some ⟨b3,o3,none⟩) 4 cap3,.slice q4 H.rs.length cap4],29⟩]) (fun j=>j≤xs.length∧∀ t,t<j→(decide ((xs.getD t default).dZ=f)&&decide (qM H.ws (H.vu k).root (xs.getD t default).mid=s))=false) (fun j=>xs.length-j) 0 ⟨bH3 _,fun j hj=>absurd hj (bK2 _)⟩ ?_;rintro j m2 hm2 ⟨hj,hJ⟩;refine run ?_;refine ah _ rfl (fun hc2=>?_) (fun hc2=>?_)
 rotate_left
 ·have hje:j=xs.length:=by have:=of_decide_eq_false hc2;omega
  subst hje;refine run ?_;refine aF (k+1) ⟨hk4,fun t ht=>?_⟩ (h1:=by rw[show ((k+1:Nat):Int)+1=(k:Int)+1+1 by omega];(repeat (first | exact True.intro | (refine And.intro bB4 ?_))));by_cases e:t=k
  ·subst e;rw[hwB]
   cases ha:xs.any fun m=>decide (m.dZ=f)&&decide (qM H.ws (H.vu t).root m.mid=s) with
   | false=>rfl
   | true=>
    obtain⟨y,hy,hyp⟩:=bL'.1 ha;obtain⟨i,hi,e⟩:=bS0 hy;have:=hJ i hi;rw[bG',bH0 hi,bO3,e] at this;rw[hyp] at this;cases this
  ·exact hK t bA4
 have hjl:j<xs.length:=by have:=of_decide_eq_true hc2;omega
 have hne0:xs≠[]:=by intro e;rw[e] at hjl;simp at hjl
 obtain⟨bx,ox,rfl⟩:=aY9 hne0;have hrx:=hsm.row hjl;have hmm:=ao3 _ (getD_mem hjl)
 have FC:∀ b,(decide ((xs.getD j default).dZ=f)&&decide (qM H.ws (H.vu k).root (xs.getD j default).mid=s))=b→(b=true→H.oP f s k=true)∧(b=false→∀ t,t<j+1→(decide ((xs.getD t default).dZ=f)&&decide (qM H.ws (H.vu k).root (xs.getD t default).mid=s))=false):=fun b hb=>⟨fun h=>by
  rw[hwB];exact bL'.2 ⟨_,getD_mem hjl,hb.trans h⟩,fun h t ht=>by
  by_cases e:t=j
  ·subst e;rw[hb,h]
  ·exact hJ t bA4⟩
 generalize xs.getD j default=mp at hrx hmm FC;simp only[eu] at hrx;have hr0:=cO (k:=0) hrx rfl;have hr1:=cO (k:=1) hrx rfl;have hh:=hhas hne0;have hr:=hH.vs.rows.row (k:=k) bA4;have hfs:=hH.vs.fs _ (getD_mem (l:=vs) (k:=k) bA4);have hu:=rM e2 k;rw[show H.vs.getD k default=H.vu k from rfl] at hu;have hroot:(H.vu k).root=(vs.getD k default).fs.getD 0 0:=by rw[←hu];rfl
 have h0:0<(vs.getD k default).fs.length:=by
  rw[←hu] at hh;unfold kM.has eF.u at hh;rw[bG8] at hh;exact of_decide_eq_true hh.2
 generalize vs.getD k default=v at hr hfs hroot h0;obtain⟨qf,cf,ef,rP,_⟩:=hfs.opened;obtain⟨bf,BI,rfl⟩:=rP (by intro e;rw[e] at h0;cases h0);rw[ef] at hfs;have hrf:=ak (hfs.row h0);simp only[bJ5] at hrf;rw[show v.fs.getD 0 default=v.fs.getD 0 0 from rfl,←hroot] at hrf;have hi1:((k:Int)+1-1).toNat=k:=by omega
 have hr3:w.cell? ⟨b3,o3+((k:Int)+1-1).toNat*6+3,none⟩=some v.fv:=by rw[hi1];exact hr 3 _ rfl
 rw[ef] at hr3;refine run ?_;refine ah _ rfl (fun hc3=>?_) (fun hc3=>?_)
 ·have hnf:decide (mp.dZ=f)=false:=by simpa using hc3
  refine run ?_;exact aF (j+1) ⟨hjl,(FC false (by rw[hnf];rfl)).2 rfl⟩
 have hyf:decide (mp.dZ=f)=true:=by simpa using hc3
 rw[hyf,bH6] at FC;refine run ?_;obtain⟨mm,mf⟩:=mp;dsimp only at hmm hr0 FC;obtain⟨pn,rfl⟩:∃ n:Nat,mm=(n:Int):=⟨mm.toNat,by omega⟩
 have hfl:=hfit.l;refine Ah 26 [0,1,2,3,4,5,6,7,8,9,10,11,12,13,14,15,16,17,18,19,20] [25] [21,22,23,24] [27,28] [26] ?_;refine gK ?_;refine Em (fun wc hx hG=>QI H.ws hH.Df (hws.good hG) (H.vu k).root pn bA4 bA4) ?_;refine gK ?_;refine sQ ?_;refine kP ?_;rintro _ _ ⟨D,rfl,rfl⟩;have hso:qM H.ws (H.vu k).root (pn:Int)=(iG H.ws (H.vu k).root pn).d.soft:=by unfold qM;rw[bM3]
 have hlf:=fun hq=>Ui (ws:=H.ws) (root:=(H.vu k).root) (q:=pn) hs hq;rw[hso] at FC;generalize iG H.ws (H.vu k).root pn=g at FC hlf;refine yG ?_;refine dX ?_;refine dX ?_;refine dX ?_;refine jM ?_;refine oN ?_;refine oN ?_;refine jM ?_;simp only[DN,bH2,bH5,bI3];refine jg (b:=D) (tb:=95) (cs:=#[.int .i64 0,.int .i64 0,.bool false,.bool false,.bool false,.bool false,.bool false,.int .i64 0,.int .i64 0]) (cs':=#[.int .i64 g.d.kind,.int .i64 g.d.frame,.bool g.d.r,.bool g.d.w,.bool g.d.x,.bool g.d.af,.bool g.d.ng,.int .i64 g.d.soft,.int .i64 g.d.note]) (hp':=[⟨B,#[.slice q H.ws.length cap,.slice q2 cs.length cap2,.slice (some ⟨b3,o3,none⟩) 4 cap3,.slice q4 H.rs.length cap4],29⟩]) ?_ aT;refine dh ?_;refine kR ?_;refine aC ?_
 have hg3:(decide (g.e=0)&&decide (g.d.kind=2)&&decide (g.d.soft=s))=decide (g.d.soft=s):=by
  by_cases e:g.d.soft=s
  ·obtain⟨a,b⟩:=hlf e;rw[a,b];simp
  ·rw[decide_eq_false e,bT']
 refine ah _ rfl (fun hc4=>?_) (fun hc4=>?_)
 ·replace hc4:=hg3.symm.trans hc4;refine run ?_;refine fin1 ?_;rw[XU hk4 ((FC true hc4).1 rfl) hK]
 replace hc4:=hg3.symm.trans hc4;refine run ?_;exact aF (j+1) ⟨hjl,(FC false hc4).2 rfl⟩ (h2:=by (exact aj))
set_option maxHeartbeats 2000000 in
theorem Jq{w:World}{vv rv:Value}(h:vw w wv cv vv rv H)(hok:H.iq=true):Fn Tryz.prog 18 [.agg #[wv,cv,vv,rv]].toArray w [] (fun u hn=>∃ p1 p2 p3 k1 k2 k3:_,∃ n1 n2 n3:Nat,u=.agg #[.slice p1 n1 k1,.slice p2 n2 k2,.slice p3 n3 k3]∧∀ w,Here hn w→dN w (.slice p1 n1 k1) (.slice p2 n2 k2) (.slice p3 n3 k3) H.aG):=by
 have h':=h;have hL:=jv hok;have rZ:=bP hL.m;have hfit:=h.fit;obtain⟨cs,vs,e1,e2,_,hH⟩:=h.ex;have hvl:vs.length=4:=by rw[←hL.v,←e2,bG9]
 have hcl:cs.length=H.cs.length:=by rw[←e1,bG9]
 have hws:=hH.ws;obtain⟨q,cap,rfl,hne,_⟩:=hws.opened;have FX:=hH.cs.rows.opened;rw[hcl] at FX;obtain⟨q2,cap2,rfl,hne2,_⟩:=FX;have hop:=hH.vs.rows.opened;rw[hvl] at hop;obtain⟨q3,cap3,rfl,jI,_⟩:=hop;obtain⟨b3,o3,rfl⟩:=jI bB';obtain⟨q4,cap4,rfl,oQ,_⟩:=hH.rs.opened;refine enter Tryz.func18 ?_;refine run ?_;intro B R P;refine run ?_;refine aK (σ:=Nat×Value×Hp×List Value×Hp) (fun s=>[(5,.int .i64 ((s.1:Int)+1)),(4,s.2.1)]) (fun s=>⟨P,#[.slice none 0 0,.slice none 0 0,.slice none 0 0],48⟩::⟨R,#[.slice none 0 0,.slice none 0 0,.slice none 0 0],48⟩::⟨B,#[.slice q H.ws.length cap,.slice q2 H.cs.length cap2,.slice (some ⟨b3,o3,none⟩) 4 cap3,.slice q4 H.rs.length cap4],29⟩::(s.2.2.1++s.2.2.2.2)) (fun s=>s.1≤4∧Acc 92 1 s.2.1 s.2.2.1 (s.2.2.2.1.map fun v=>[v])∧s.2.2.2.1.length=s.1∧∀ i,i<s.1→(∃ q n c,s.2.2.2.1.getD i default=.slice q n c)∧∀ w,Here s.2.2.2.2 w→aA w (s.2.2.2.1.getD i default) 2 ((H.wY i).map eu)) (fun s=>4-s.1) (0,.slice none 0 0,[],[],[]) ⟨bH3 _,Acc.nil _ _,rfl,fun i hi=>absurd hi (bK2 _)⟩ ?_ (hh:=by dsimp only;(exact aj));rintro⟨k,av,ha,us,hx⟩ m hm ⟨hk,hA,Fq,hU⟩;dsimp only at hm hk hA Fq hU ⊢;refine run ?_;refine ah _ rfl (fun hc=>?_) (fun hc=>?_)
 ·have hk4:k<4:=by have:=of_decide_eq_true hc;omega
  refine run ?_;refine bH (fun wc hG=>af' (h'.good hG) k hk4 hL.v) ?_;rintro u1 hn ⟨h1,hA1,hle⟩;obtain⟨q1,c1,x1⟩:=hA1.own.opened;rw[bG9] at x1;have hml:=zi H k;have hU1:∀ w,Here h1 w→aA w u1 2 ((H.wY k).map eu):=fun w hw=>hA1.own.lie hw bA7;subst x1;generalize (H.wY k).length=n1 at hU1 hml;refine aS (⟨P,#[.slice none 0 0,.slice none 0 0,.slice none 0 0],48⟩::⟨R,#[.slice none 0 0,.slice none 0 0,.slice none 0 0],48⟩::⟨B,#[.slice q H.ws.length cap,.slice q2 H.cs.length cap2,.slice (some ⟨b3,o3,none⟩) 4 cap3,.slice q4 H.rs.length cap4],29⟩::(ha++(hx++h1))) (cnt1 hle) ?_;refine run ?_;intro T;refine dK (c:=[.slice q1 n1 c1]) (hp':=⟨T,#[.slice q1 n1 c1],92⟩::⟨P,#[.slice none 0 0,.slice none 0 0,.slice none 0 0],48⟩::⟨R,#[.slice none 0 0,.slice none 0 0,.slice none 0 0],48⟩::⟨B,#[.slice q H.ws.length cap,.slice q2 H.cs.length cap2,.slice (some ⟨b3,o3,none⟩) 4 cap3,.slice q4 H.rs.length cap4],29⟩::(hx++h1)) hA (fun v' ha' hA2=>?_) bA7 (aY (m:=1) mh rfl) (hperm:=by (exact aT));refine run ?_;refine aF (k+1,v',ha',us++[.slice q1 n1 c1],hx++h1) ⟨hk4,by dsimp only;rw[bI6];exact hA2,by simp[Fq],fun i hi=>?_⟩ (hm:=by dsimp only;omega) (h1:=by rw[show ((k+1:Nat):Int)+1=(k:Int)+1+1 by omega];(repeat (first | exact True.intro | (refine And.intro bB4 ?_)))) (h2:=by (exact aj));dsimp only;by_cases e:i=k
  ·subst e;rw[show (us++[Value.slice q1 n1 c1]).getD i default=.slice q1 n1 c1 by rw[bG',bS8 bA4,Fq];simp];exact⟨⟨_,_,_,rfl⟩,fun w hw=>hU1 w (hw.sub fun e he=>bH7 _ he)⟩
  ·rw[show (us++[Value.slice q1 n1 c1]).getD i default=us.getD i default by rw[bG',bT1 bA4,←bG']];exact⟨(hU i bA4).1,fun w hw=>(hU i bA4).2 w (hw.sub fun e he=>bI4 _ he)⟩
 have hk4:k=4:=by have:=of_decide_eq_false hc;omega
 subst hk4;obtain⟨gA,cA,rW,eA,ehA,aM2⟩:=hA.own.row (n:=4) (by rw[bG9,Fq]) bA4;subst eA ehA
 have aa7:∀ wc hp,Good w [] hp wc→(∀ e∈⟨gA,rW,92⟩::hx,e∈hp)→ao1 wc (.slice (some ⟨gA,0,none⟩) 4 cA) H:=fun wc hp hG hs=>by
  have hsl:=hA.own.lie (hG.lie fun e he=>hs e (by simp at he;simp[he])) (by rw[bG9,Fq];omega);refine⟨gA,0,cA,fun i=>us.getD i default,rfl,fun i hi=>⟨?_,(hU i hi).2 wc (hG.lie fun e he=>hs e (bH8 _ he))⟩⟩;have:=hsl.row (k:=i) bA4;exact this
 refine run ?_;refine aK (σ:=Nat×Value×Hp) (fun s=>[(6,.int .i64 (s.1:Int))]) (fun s=>⟨P,#[s.2.1,.slice none 0 0,.slice none 0 0],48⟩::⟨R,#[.slice none 0 0,.slice none 0 0,.slice none 0 0],48⟩::⟨B,#[.slice q H.ws.length cap,.slice q2 H.cs.length cap2,.slice (some ⟨b3,o3,none⟩) 4 cap3,.slice q4 H.rs.length cap4],29⟩::⟨gA,rW,92⟩::(hx++s.2.2)) (fun s=>s.1≤H.ws.length/8∧Acc 51 2 s.2.1 s.2.2 (((List.range s.1).map H.mJ).map sU)) (fun s=>H.ws.length/8-s.1) (0,.slice none 0 0,[]) ⟨bH3 _,Acc.nil _ _⟩ ?_ (hh:=by dsimp only;(exact aj));rintro⟨k,pv,qG⟩ m hm ⟨hk,hPg⟩;dsimp only at hm hk hPg ⊢;refine run ?_;refine az (fun wc hG=>o9 H.ws.length cap bA4 q wc) ?_;refine run ?_;refine ah _ rfl (fun hc2=>?_) (fun hc2=>?_)
 ·have hkF:k<H.ws.length/8:=by have:=of_decide_eq_true hc2;omega
  refine run ?_;intro A;refine az (fun wc hG=>QI H.ws hH.Df (hws.good hG) 0 k bA4 bA4) ?_
  have BJ:H.mJ k=(let g:=iG H.ws 0 k
 bif !decide (g.e=0) then ⟨-1,-2⟩ else bif decide (g.d.kind=2)&&decide (g.d.soft=0) then ⟨0,-2⟩
 else bif decide (g.d.kind=2)&&decide (g.d.soft=1) then (bif decide (0<H.pz k 2) then ⟨0,H.pz k 2⟩ else ⟨0,-1⟩)
 else bif decide (g.d.kind=2)&&decide (g.d.soft=2) then (bif decide (0<H.pz k 1) then ⟨H.pz k 1,0⟩ else ⟨-1,-2⟩)
 else bif decide (g.d.kind=0)&&decide (1<g.d.note)&&decide (g.d.note≤5) then ⟨g.d.note-1,-2⟩ else ⟨-1,-2⟩):=rfl
  dsimp only at BJ;generalize iG H.ws 0 k=g at BJ;refine LY ?_;intro D;refine sG (σ:=o6) (fun _=>[]) (fun z=>⟨A,#[.int .i64 (z.own),.int .i64 (z.wit)],51⟩::⟨P,#[pv,.slice none 0 0,.slice none 0 0],48⟩::⟨R,#[.slice none 0 0,.slice none 0 0,.slice none 0 0],48⟩::⟨B,#[.slice q H.ws.length cap,.slice q2 H.cs.length cap2,.slice (some ⟨b3,o3,none⟩) 4 cap3,.slice q4 H.rs.length cap4],29⟩::⟨gA,rW,92⟩::(hx++qG)) (fun z=>z=H.mJ k) ?_ ?_
  ·refine run ?_;refine ah _ rfl (fun hs1=>?_) (fun hs1=>?_)
   ·rw[hs1,cond_true] at BJ;refine aN ?_;exact kZ (⟨-1,-2⟩:o6) BJ.symm (h2:=by (exact aj))
   rw[hs1,cond_false] at BJ;refine aC ?_;refine ah _ rfl (fun hs2=>?_) (fun hs2=>?_)
   ·rw[hs2,cond_true] at BJ;refine run ?_;exact kZ (⟨0,-2⟩:o6) BJ.symm (h2:=by (exact aj))
   rw[hs2,cond_false] at BJ;refine aC ?_;refine ah _ rfl (fun hs3=>?_) (fun hs3=>?_)
   ·rw[hs3,cond_true] at BJ;refine run ?_;refine az (fun wc hG=>ao2 (h'.good hG) hL.v hL.m (aa7 wc _ hG (fun e he=>by simp at he ⊢;rcases he with he | he<;>simp[he])) (k:Int) 2 bA5) ?_;have hwl:=Pq H (k:Int) 2;generalize H.pz (k:Int) 2=n at BJ hwl;refine run ?_;refine ah _ rfl (fun hs5=>?_) (fun hs5=>?_)
    ·have hn0:decide (0<n)=false:=decide_eq_false (by have:=of_decide_eq_true hs5;omega);rw[hn0,cond_false] at BJ;refine run ?_;exact kZ (⟨0,-1⟩:o6) BJ.symm (h2:=by (exact aj))
    ·have hn0:decide (0<n)=true:=decide_eq_true (by have:=of_decide_eq_false hs5;omega);rw[hn0,cond_true] at BJ;refine run ?_;exact kZ (⟨0,n⟩:o6) BJ.symm (h2:=by (exact aj))
   rw[hs3,cond_false] at BJ;refine aC ?_;refine ah _ rfl (fun hs4=>?_) (fun hs4=>?_)
   ·rw[hs4,cond_true] at BJ;refine run ?_;refine az (fun wc hG=>ao2 (h'.good hG) hL.v hL.m (aa7 wc _ hG (fun e he=>by simp at he ⊢;rcases he with he | he<;>simp[he])) (k:Int) 1 bA5) ?_;generalize H.pz (k:Int) 1=n at BJ;refine run ?_;refine ah _ rfl (fun hs5=>?_) (fun hs5=>?_)
    ·rw[hs5,cond_true] at BJ;refine run ?_;exact kZ (⟨n,0⟩:o6) BJ.symm (h2:=by (exact aj))
    ·rw[hs5,cond_false] at BJ;refine run ?_;exact kZ (⟨-1,-2⟩:o6) BJ.symm (h2:=by (exact aj))
   rw[hs4,cond_false] at BJ;refine aC ?_;refine ah _ rfl (fun hs5=>?_) (fun hs5=>?_)
   ·rw[hs5,cond_true] at BJ;have hn:1<g.d.note∧g.d.note≤5:=by simp at hs5;omega
    refine run ?_;exact kZ (⟨g.d.note-1,-2⟩:o6) BJ.symm (h2:=by (exact aj))
   rw[hs5,cond_false] at BJ;refine run ?_;exact kZ (⟨-1,-2⟩:o6) BJ.symm (h2:=by (exact aj))
  rintro z hz;refine run ?_;intro T;refine dK (c:=sU z) (hp':=⟨T,#[.int .i64 z.own,.int .i64 z.wit],51⟩::⟨A,#[.int .i64 (z.own),.int .i64 (z.wit)],51⟩::⟨P,#[pv,.slice none 0 0,.slice none 0 0],48⟩::⟨R,#[.slice none 0 0,.slice none 0 0,.slice none 0 0],48⟩::⟨B,#[.slice q H.ws.length cap,.slice q2 H.cs.length cap2,.slice (some ⟨b3,o3,none⟩) 4 cap3,.slice q4 H.rs.length cap4],29⟩::⟨gA,rW,92⟩::hx) hPg (fun v' ha' hA2=>?_) (by rw[bG9,bG9,bN2];omega) (aY (m:=2) mh rfl) (hperm:=by (exact aT));obtain⟨q9,c9,e9⟩:=hA2.own.opened;subst e9;refine aS (⟨P,#[pv,.slice none 0 0,.slice none 0 0],48⟩::⟨R,#[.slice none 0 0,.slice none 0 0,.slice none 0 0],48⟩::⟨B,#[.slice q H.ws.length cap,.slice q2 H.cs.length cap2,.slice (some ⟨b3,o3,none⟩) 4 cap3,.slice q4 H.rs.length cap4],29⟩::⟨gA,rW,92⟩::(hx++ha')) aj ?_;refine run ?_;exact aF (k+1,_,ha') ⟨hkF,by dsimp only;rw[bN7,bI6,bI6,bM7,bM7,←hz];exact hA2⟩ (hm:=by dsimp only;omega) (h2:=by (exact aj))
 have hkF:k=H.ws.length/8:=by have:=of_decide_eq_false hc2;omega
 subst hkF;obtain⟨qa,ca,xa⟩:=hPg.own.opened;simp only[bG9,bN2] at xa;subst xa;have hmn:H.ws.length/8≤64:=by omega
 refine run ?_;refine aK (σ:=Nat×Value×Hp×List (List Value)×Hp) (fun s=>[(12,.int .i64 ((s.1:Int)+1))]) (fun s=>⟨P,#[.slice qa (H.ws.length/8) ca,s.2.1,.slice none 0 0],48⟩::⟨R,#[.slice none 0 0,.slice none 0 0,.slice none 0 0],48⟩::⟨B,#[.slice q H.ws.length cap,.slice q2 H.cs.length cap2,.slice (some ⟨b3,o3,none⟩) 4 cap3,.slice q4 H.rs.length cap4],29⟩::⟨gA,rW,92⟩::(hx++qG++(s.2.2.1++s.2.2.2.2))) (fun s=>s.1≤4∧Acc 100 5 s.2.1 s.2.2.1 s.2.2.2.1∧s.2.2.2.1.length=s.1∧∀ i,i<s.1→LZ H (hx++s.2.2.2.2) i (s.2.2.2.1.getD i [])) (fun s=>4-s.1) (0,.slice none 0 0,[],[],[]) ⟨bH3 _,Acc.nil _ _,rfl,fun i hi=>absurd hi (bK2 _)⟩ ?_ (hh:=by dsimp only;(exact aj));rintro⟨k,gv,hg,G,hy⟩ m hm ⟨hk,hGu,Ud,hR⟩;dsimp only at hm hk hGu Ud hR ⊢;obtain⟨qb,cb,xb⟩:=hGu.own.opened;rw[Ud] at xb;subst xb;refine run ?_;refine ah _ rfl (fun hc2=>?_) (fun hc2=>?_)
 ·have hk4:k<4:=by have:=of_decide_eq_true hc2;omega
  have hr:=hH.vs.rows.row (k:=k) bA4;have hfs:=hH.vs.fs _ (getD_mem (l:=vs) (k:=k) bA4);have mQ:=hH.vs.vs _ (getD_mem (l:=vs) (k:=k) bA4);have hu:=rM e2 k;rw[show H.vs.getD k default=H.vu k from rfl] at hu;have Ri:=hfit.v (H.vu k) (getD_mem (by rw[hL.v];exact hk4))
  have hgh:H.bU k=bif (vs.getD k default).live then ⟨true,(vs.getD k default).dying,bif decide (0<(vs.getD k default).fs.length) then (vs.getD k default).fs.getD 0 0 else 0,(vs.getD k default).vs.map AA.on,H.wY k⟩ else ⟨false,(vs.getD k default).dying,0,[],[]⟩:=by
   unfold HyD.bU kM.root;rw[←hu];rfl
  rw[←hu] at Ri;simp only[eF.u] at Ri;obtain⟨⟨u1,u2,u3,hu4⟩,hUk⟩:=hU k hk4
  have hnA:nth rW.toList k=some (us.getD k default):=by
   have:=aM2.nth (xs:=us.map fun v=>[v]) (by intro c hc;obtain⟨x,_,rfl⟩:=bH9.1 hc;rfl) (i:=k) (c:=[us.getD k default]) bD2 (k:=0) (u:=us.getD k default) rfl;simpa using this
  rw[hu4] at hnA hUk;have bo3:nth rW.toList (((k:Int)+1-1).toNat)=some (.slice u1 u2 u3):=by rw[show ((k:Int)+1-1).toNat=k by omega];exact hnA
  have hgr:∀ a b (r:List Value),r=[.bool (H.bU k).live,.bool (H.bU k).dying,.int .i64 (H.bU k).first,a,b]→∀ hz,(∀ w,Here hz w→aA w a 1 ((H.bU k).aP.map bY)∧aA w b 2 ((H.bU k).maps.map eu))→LZ H hz k r:=fun a b r e hz hs=>⟨a,b,e,hs⟩
  rw[hgh] at hgr;generalize vs.getD k default=v at *;have hi1:((k:Int)+1-1).toNat=k:=by omega
  obtain⟨qf,cf,ef,rP,_⟩:=hfs.opened;obtain⟨qv,AO,ev,XX,_⟩:=mQ.opened;have hr6:w.rangeAt b3 (o3+((k:Int)+1-1).toNat*6) [.bool v.live,.bool v.dying,.int .i64 v.aO,.slice qf v.fs.length cf,v.rv,.slice qv v.vs.length AO]:=by rw[hi1,←ef,←ev];exact hr
  rw[ev] at mQ;rw[ef] at hfs;refine run ?_;intro V;refine run ?_;intro Q;refine LY ?_;obtain⟨g,hgg⟩:∃ g:Va,g=bif v.live then ⟨true,v.dying,bif decide (0<v.fs.length) then v.fs.getD 0 0 else 0,v.vs.map AA.on,H.wY k⟩ else ⟨false,v.dying,0,[],[]⟩:=⟨_,rfl⟩
  rw[←hgg] at hgr;have ay':g.live=v.live:=by rw[hgg];cases v.live<;>rfl
  have aY':g.dying=v.dying:=by rw[hgg];cases v.live<;>rfl
  refine sG (σ:=Int×Value×Value×Hp) (fun _=>[]) (fun z=>⟨Q,#[.bool v.live,.bool v.dying,.int .i64 (z.1),z.2.1,z.2.2.1],100⟩::⟨P,#[.slice qa (H.ws.length/8) ca,.slice qb k cb,.slice none 0 0],48⟩::⟨R,#[.slice none 0 0,.slice none 0 0,.slice none 0 0],48⟩::⟨B,#[.slice q H.ws.length cap,.slice q2 H.cs.length cap2,.slice (some ⟨b3,o3,none⟩) 4 cap3,.slice q4 H.rs.length cap4],29⟩::⟨gA,rW,92⟩::(hx++qG++(hg++(hy++z.2.2.2)))) (fun z=>z.1=g.first∧(∃ q n c,z.2.1=.slice q n c)∧(∃ q n c,z.2.2.1=.slice q n c)∧∀ w,Here (hx++z.2.2.2) w→aA w z.2.1 1 (g.aP.map bY)∧aA w z.2.2.1 2 (g.maps.map eu)) ?_ ?_
  ·refine ah _ rfl (fun hlv=>?_) (fun hlv=>?_)
   rotate_left
   ·have hlf:v.live=false:=by simpa using hlv
    rw[hlf,cond_false] at hgg;refine run ?_;refine kZ (0,.slice none 0 0,.slice none 0 0,[]) ⟨by rw[hgg],⟨_,_,_,rfl⟩,⟨_,_,_,rfl⟩,fun w _=>by rw[hgg];exact⟨gW w 1,gW w 2⟩⟩ (h2:=by (exact aj))
   have hlt:v.live=true:=by simpa using hlv
   rw[hlt,cond_true] at hgg;refine LY ?_;refine sG (σ:=Int) (fun _=>[]) (fun z=>⟨Q,#[.bool v.live,.bool v.dying,.int .i64 (z),.slice none 0 0,.slice none 0 0],100⟩::⟨V,#[.bool v.live,.bool v.dying,.int .i64 v.aO,.slice qf v.fs.length cf,v.rv,.slice qv v.vs.length AO],62⟩::⟨P,#[.slice qa (H.ws.length/8) ca,.slice qb k cb,.slice none 0 0],48⟩::⟨R,#[.slice none 0 0,.slice none 0 0,.slice none 0 0],48⟩::⟨B,#[.slice q H.ws.length cap,.slice q2 H.cs.length cap2,.slice (some ⟨b3,o3,none⟩) 4 cap3,.slice q4 H.rs.length cap4],29⟩::⟨gA,rW,92⟩::(hx++qG++(hg++hy))) (fun z=>z=g.first) ?_ ?_
   ·refine ah _ rfl (fun hc3=>?_) (fun hc3=>?_)
    ·have h0:0<v.fs.length:=by simpa using hc3
     obtain⟨bf,BI,rfl⟩:=rP (by intro e;rw[e] at h0;simp at h0);have hrf:=ak (hfs.row h0);simp only[bJ5] at hrf;refine run ?_;exact kZ (v.fs.getD 0 default) (by rw[hgg,decide_eq_true h0];rfl) (h2:=by (exact aj))
    ·have h0:¬ 0<v.fs.length:=by simpa using hc3
     refine run ?_;exact kZ 0 (by rw[hgg,decide_eq_false h0];rfl) (h2:=by (exact aj))
   rintro z hz;have hgv:g.aP=v.vs.map AA.on:=by rw[hgg]
   have hgm:g.maps=H.wY k:=by rw[hgg]
   refine run ?_;refine aK (σ:=Nat×Value×Hp) (fun s=>[(15,.int .i64 (s.1:Int))]) (fun s=>⟨Q,#[.bool v.live,.bool v.dying,.int .i64 (z),s.2.1,.slice none 0 0],100⟩::⟨V,#[.bool v.live,.bool v.dying,.int .i64 v.aO,.slice qf v.fs.length cf,v.rv,.slice qv v.vs.length AO],62⟩::⟨P,#[.slice qa (H.ws.length/8) ca,.slice qb k cb,.slice none 0 0],48⟩::⟨R,#[.slice none 0 0,.slice none 0 0,.slice none 0 0],48⟩::⟨B,#[.slice q H.ws.length cap,.slice q2 H.cs.length cap2,.slice (some ⟨b3,o3,none⟩) 4 cap3,.slice q4 H.rs.length cap4],29⟩::⟨gA,rW,92⟩::(hx++qG++(hg++hy)++s.2.2)) (fun s=>s.1≤v.vs.length∧Acc 3 1 s.2.1 s.2.2 (((v.vs.take s.1).map AA.on).map bY)) (fun s=>v.vs.length-s.1) (0,.slice none 0 0,[]) ⟨bH3 _,Acc.nil _ _⟩ ?_ (hh:=by dsimp only;(exact aj));rintro⟨j,cw,hc⟩ m2 hm2 ⟨hj,hC⟩;dsimp only at hm2 hj hC ⊢;refine run ?_;refine ah _ rfl (fun hc4=>?_) (fun hc4=>?_)
   ·have hjl:j<v.vs.length:=by have:=of_decide_eq_true hc4;omega
    obtain⟨bv,ov,rfl⟩:=XX bF';have Zl:=mQ.row hjl;refine run ?_;generalize hon:(v.vs.getD j default).on=on;have aZ0:w.rangeAt bv (ov+j*16+15) [.int .i64 on]:=by rw[←hon];exact aV (k:=15) (n:=1) Zl rfl
    have bo4:=ak aZ0;refine ve 12 9 [0,1,2,3,4,5,6,7,10] [(8,false),(9,false),(11,false)] (⟨V,#[.bool v.live,.bool v.dying,.int .i64 v.aO,.slice qf v.fs.length cf,v.rv,.slice (some ⟨bv,ov,none⟩) v.vs.length AO],62⟩::⟨P,#[.slice qa (H.ws.length/8) ca,.slice qb k cb,.slice none 0 0],48⟩::⟨R,#[.slice none 0 0,.slice none 0 0,.slice none 0 0],48⟩::⟨B,#[.slice q H.ws.length cap,.slice q2 H.cs.length cap2,.slice (some ⟨b3,o3,none⟩) 4 cap3,.slice q4 H.rs.length cap4],29⟩::⟨gA,rW,92⟩::(hx++qG++(hg++hy))) ?_;refine kW ?_;refine xC ?_;refine Af [.int .i64 on] (fun Z=>?_);refine dh ?_;refine XC (c:=[.int .i64 on]) (hp':=⟨Z,#[.int .i64 on],3⟩::⟨Q,#[.bool v.live,.bool v.dying,.int .i64 (z),cw,.slice none 0 0],100⟩::⟨V,#[.bool v.live,.bool v.dying,.int .i64 v.aO,.slice qf v.fs.length cf,v.rv,.slice (some ⟨bv,ov,none⟩) v.vs.length AO],62⟩::⟨P,#[.slice qa (H.ws.length/8) ca,.slice qb k cb,.slice none 0 0],48⟩::⟨R,#[.slice none 0 0,.slice none 0 0,.slice none 0 0],48⟩::⟨B,#[.slice q H.ws.length cap,.slice q2 H.cs.length cap2,.slice (some ⟨b3,o3,none⟩) 4 cap3,.slice q4 H.rs.length cap4],29⟩::⟨gA,rW,92⟩::(hx++qG++(hg++hy))) hC (aY (m:=1) mh rfl) bA' aT aj (fun v' ha' hA2=>?_);obtain⟨q9,c9,e9⟩:=hA2.own.opened;subst e9;refine xC ?_;refine jg (b:=Q) (tb:=100) (cs:=#[.bool v.live,.bool v.dying,.int .i64 z,cw,.slice none 0 0]) (cs':=#[.bool v.live,.bool v.dying,.int .i64 z,.slice q9 _ c9,.slice none 0 0]) (hp':=ha'++(⟨Z,#[.int .i64 on],3⟩::⟨V,#[.bool v.live,.bool v.dying,.int .i64 v.aO,.slice qf v.fs.length cf,v.rv,.slice (some ⟨bv,ov,none⟩) v.vs.length AO],62⟩::⟨P,#[.slice qa (H.ws.length/8) ca,.slice qb k cb,.slice none 0 0],48⟩::⟨R,#[.slice none 0 0,.slice none 0 0,.slice none 0 0],48⟩::⟨B,#[.slice q H.ws.length cap,.slice q2 H.cs.length cap2,.slice (some ⟨b3,o3,none⟩) 4 cap3,.slice q4 H.rs.length cap4],29⟩::⟨gA,rW,92⟩::(hx++qG++(hg++hy)))) ?_ aT;refine dh ?_;refine Jg ?_;refine kR ?_;refine run ?_;exact aF (j+1,_,ha') ⟨hjl,by dsimp only;rw[bL7 hjl,bI6,bI6,bM7,bM7,jJ v.vs hjl,hon];exact hA2⟩ (hm:=by dsimp only;omega) (h2:=by (exact aj))
   have hje:j=v.vs.length:=by have:=of_decide_eq_false hc4;omega
   subst hje;rw[bM6] at hC;obtain⟨qc,cc,xc⟩:=hC.own.opened;simp only[bG9] at xc;subst xc;have aZ1:∀ w',Here hx w'→aA w' (.slice u1 u2 u3) 2 (g.maps.map eu):=fun w' hw=>by rw[hgm];exact hUk w' hw
   refine run ?_;refine kZ (z,.slice qc v.vs.length cc,.slice u1 u2 u3,hc) ⟨hz,⟨_,_,_,rfl⟩,⟨_,_,_,rfl⟩,fun w' hw=>⟨by dsimp only;rw[hgv];exact hC.own.lie (hw.sub fun e he=>bH7 _ he) bA',aZ1 w' (hw.sub fun e he=>bI4 _ he)⟩⟩ (h2:=by (exact aj))
  rintro⟨z1,z2,z3,hz⟩ ⟨hz1,⟨y1,y2,y3,hz2⟩,⟨y4,y5,y6,hz3⟩,hzS⟩;dsimp only at hz1 hz2 hz3 hzS;subst hz2 hz3;refine run ?_;intro T;refine dK (c:=[.bool v.live,.bool v.dying,.int .i64 z1,.slice y1 y2 y3,.slice y4 y5 y6]) (hp':=⟨T,#[.bool v.live,.bool v.dying,.int .i64 z1,.slice y1 y2 y3,.slice y4 y5 y6],100⟩::⟨Q,#[.bool v.live,.bool v.dying,.int .i64 (z1),.slice y1 y2 y3,.slice y4 y5 y6],100⟩::⟨P,#[.slice qa (H.ws.length/8) ca,.slice qb k cb,.slice none 0 0],48⟩::⟨R,#[.slice none 0 0,.slice none 0 0,.slice none 0 0],48⟩::⟨B,#[.slice q H.ws.length cap,.slice q2 H.cs.length cap2,.slice (some ⟨b3,o3,none⟩) 4 cap3,.slice q4 H.rs.length cap4],29⟩::⟨gA,rW,92⟩::(hx++qG++(hy++hz))) hGu (fun v' ha' hA2=>?_) bA4 (aY (m:=5) mh rfl) (hperm:=by (exact aT));obtain⟨q9,c9,e9⟩:=hA2.own.opened;subst e9;refine aS (⟨P,#[.slice qa (H.ws.length/8) ca,.slice qb k cb,.slice none 0 0],48⟩::⟨R,#[.slice none 0 0,.slice none 0 0,.slice none 0 0],48⟩::⟨B,#[.slice q H.ws.length cap,.slice q2 H.cs.length cap2,.slice (some ⟨b3,o3,none⟩) 4 cap3,.slice q4 H.rs.length cap4],29⟩::⟨gA,rW,92⟩::(hx++qG++(ha'++(hy++hz)))) aj ?_;refine run ?_;refine aF (k+1,_,ha',_,hy++hz) ⟨hk4,hA2,by simp[Ud],fun i hi=>?_⟩ (hm:=by dsimp only;omega) (h1:=by rw[show ((k+1:Nat):Int)+1=(k:Int)+1+1 by omega];(repeat (first | exact True.intro | (refine And.intro bB4 ?_)))) (h2:=by (exact aj));dsimp only;by_cases e:i=k
  ·subst e
   have:(G++[[Value.bool v.live,.bool v.dying,.int .i64 z1,.slice y1 y2 y3,.slice y4 y5 y6]]).getD i []=[.bool g.live,.bool g.dying,.int .i64 g.first,.slice y1 y2 y3,.slice y4 y5 y6]:=by
    rw[bG',bS8 bA4,Ud,ay',aY',←hz1];simp
   rw[this];refine hgr _ _ _ rfl _ fun w hw=>hzS w (hw.sub fun e he=>by simp at he ⊢;rcases he with he | he<;>simp[he])
  ·have:(G++[[Value.bool v.live,.bool v.dying,.int .i64 z1,.slice y1 y2 y3,.slice y4 y5 y6]]).getD i []=G.getD i []:=by
    rw[bG',bT1 bA4,←bG']
   rw[this];exact (hR i bA4).le fun e he=>by simp at he ⊢;rcases he with he | he<;>simp[he]
 have hk4:k=4:=by have:=of_decide_eq_false hc2;omega
 subst hk4;refine run ?_;refine aK (σ:=Nat×Value×Hp) (fun s=>[(16,.int .i64 (s.1:Int))]) (fun s=>⟨P,#[.slice qa (H.ws.length/8) ca,.slice qb 4 cb,s.2.1],48⟩::⟨R,#[.slice none 0 0,.slice none 0 0,.slice none 0 0],48⟩::⟨B,#[.slice q H.ws.length cap,.slice q2 H.cs.length cap2,.slice (some ⟨b3,o3,none⟩) 4 cap3,.slice q4 H.rs.length cap4],29⟩::⟨gA,rW,92⟩::(hx++qG++(hg++hy)++s.2.2)) (fun s=>s.1≤H.cs.length∧Acc 104 2 s.2.1 s.2.2 (((H.cs.take s.1).map fun c=>(⟨c.vm,c.vc⟩:JM)).map yJ)) (fun s=>H.cs.length-s.1) (0,.slice none 0 0,[]) ⟨bH3 _,Acc.nil _ _⟩ ?_ (hh:=by dsimp only;(exact aj));rintro⟨k,ov,ho⟩ m3 QV ⟨hk3,hC⟩;dsimp only at QV hk3 hC ⊢;have hkm:min k H.cs.length=k:=by omega
 obtain⟨qc,cc,xc⟩:=hC.own.opened;rw[bG9,bG9,bK1,hkm] at xc;subst xc;refine run ?_;refine ah _ rfl (fun hc3=>?_) (fun hc3=>?_)
 ·have hlt:k<H.cs.length:=by have:=of_decide_eq_true hc3;omega
  obtain⟨bc,oc,rfl⟩:=hne2 bE';have hr3:=hH.cs.rows.row (k:=k) bA4;have Ue:=FK e1 k
  have ht:(H.cs.take (k+1)).map (fun c=>(⟨c.vm,c.vc⟩:JM))=(H.cs.take k).map (fun c=>(⟨c.vm,c.vc⟩:JM))++[⟨(cs.getD k default).vm,(cs.getD k default).vc⟩]:=by
   rw[bL7 hlt,bI6,bM7,jJ H.cs hlt,←Ue];rfl
  clear Ue;generalize cs.getD k default=c at hr3 ht;have hv1:w.rangeAt bc (oc+k*19+15) [.int .i64 c.vm]:=aV (k:=15) (n:=1) hr3 rfl;have hv2:w.rangeAt bc (oc+k*19+16) [.int .i64 c.vc]:=aV (k:=16) (n:=1) hr3 rfl;have bo5:=ak hv1;have bo6:=ak hv2;have hC3:=hL.c3;refine run ?_;refine ve 19 16 [0,1,2,3,4,5,6,7,8,9,10,11,12,13,14,17] [(15,false),(16,false),(18,false)] (⟨R,#[.slice none 0 0,.slice none 0 0,.slice none 0 0],48⟩::⟨B,#[.slice q H.ws.length cap,.slice (some ⟨bc,oc,none⟩) H.cs.length cap2,.slice (some ⟨b3,o3,none⟩) 4 cap3,.slice q4 H.rs.length cap4],29⟩::⟨gA,rW,92⟩::(hx++qG++(hg++hy))) ?_;refine kW ?_;refine xC ?_;refine Af [.int .i64 c.vm,.int .i64 c.vc] (fun Z=>?_);refine dh ?_;refine XC (c:=[.int .i64 c.vm,.int .i64 c.vc]) (hp':=⟨Z,#[.int .i64 c.vm,.int .i64 c.vc],104⟩::⟨P,#[.slice qa (H.ws.length/8) ca,.slice qb 4 cb,.slice qc k cc],48⟩::⟨R,#[.slice none 0 0,.slice none 0 0,.slice none 0 0],48⟩::⟨B,#[.slice q H.ws.length cap,.slice (some ⟨bc,oc,none⟩) H.cs.length cap2,.slice (some ⟨b3,o3,none⟩) 4 cap3,.slice q4 H.rs.length cap4],29⟩::⟨gA,rW,92⟩::(hx++qG++(hg++hy))) hC (aY (m:=2) mh rfl) (by rw[bG9,bG9,bK1];omega) aT aj (fun v' ha' hA2=>?_);obtain⟨q9,c9,e9⟩:=hA2.own.opened;subst e9;refine xC ?_;refine jg (b:=P) (tb:=48) (cs:=#[.slice qa (H.ws.length/8) ca,.slice qb 4 cb,.slice qc k cc]) (cs':=#[.slice qa (H.ws.length/8) ca,.slice qb 4 cb,.slice q9 _ c9]) (hp':=ha'++(⟨Z,#[.int .i64 c.vm,.int .i64 c.vc],104⟩::⟨R,#[.slice none 0 0,.slice none 0 0,.slice none 0 0],48⟩::⟨B,#[.slice q H.ws.length cap,.slice (some ⟨bc,oc,none⟩) H.cs.length cap2,.slice (some ⟨b3,o3,none⟩) 4 cap3,.slice q4 H.rs.length cap4],29⟩::⟨gA,rW,92⟩::(hx++qG++(hg++hy)))) ?_ aT;refine dh ?_;refine Jg ?_;refine kR ?_;refine run ?_;exact aF (k+1,_,ha') ⟨hlt,by dsimp only;rw[ht,bI6,bM7];exact hA2⟩ (hm:=by dsimp only;omega) (h2:=by (exact aj))
 have hkC:k=H.cs.length:=by have:=of_decide_eq_false hc3;omega
 subst hkC;rw[bM6] at hC;refine run ?_;refine dS (cs:=#[.slice qa (H.ws.length/8) ca,.slice qb 4 cb,.slice qc H.cs.length cc]) ⟨_,_,_,_,_,_,_,_,_,rfl,fun w hw=>G8 hPg hGu Ud hR hC.own hfit hL.v (hw.sub fun e he=>?_)⟩;simp only[bJ6,bI5] at he ⊢;rcases he with ((he | he) | (he | he)) | he<;>simp[he]
def kM.chain(n:Nat)(v:kM)(k:Nat):Bool:=bJ n (v.fs.getD k 0)&&(decide (k=0)||decide (v.fs.getD k 0=v.fs.getD (k-1) 0+1))
def kM.EI(v:kM)(k:Nat):Bool:=decide (1≤gV (fun t=>decide (t=v.fr.getD k 0)) v.fs)&&(decide (k=0)||decide (v.fr.getD (k-1) 0<v.fr.getD k 0))
def kM.vcR(v:kM)(k:Nat):Bool:=!(decide (0≤(v.vs.getD k default).on)&&!decide ((v.vs.getD k default).r=jb))
def HyD.oJ(H:HyD)(v:kM)(k:Nat):Bool:=!((H.vu k).live&&decide ((H.vu k).aO=v.aO))
def HyD.NM(H:HyD)(i:Nat):Bool:=
 bif !(H.vu i).live then decide ((H.vu i).fs.length=0)&&decide ((H.vu i).fr.length=0)&&decide ((H.vu i).vs.length=0)&&decide ((H.vu i).aO=0)
 else (decide ((H.vu i).fs.length=5)&&PtD.cZ (H.vu i).aO 1 15)&&(allB 5 ((H.vu i).chain H.ws.length)&&(allB (H.vu i).fr.length (H.vu i).EI&&(allB i (H.oJ (H.vu i))&&allB (H.vu i).vs.length (H.vu i).vcR)))
set_option maxHeartbeats 2000000 in
theorem PO{vv rv:Value}(h:vw w wv cv vv rv H)(hok:H.iq=true)(i:Nat)(hi:i<4):Fn Tryz.prog 24 [.agg #[wv,cv,vv,rv],.int .i64 ((i:Int)+1)].toArray w [] (fun u _=>u=.bool (H.NM i)):=by
 have hL:=jv hok;have rZ:=bP hL.m;have hfit:=h.fit;obtain⟨cs,vs,e1,e2,_,hH⟩:=h.ex;have hvl:vs.length=4:=by rw[←hL.v,←e2,bG9]
 have hcl:cs.length=H.cs.length:=by rw[←e1,bG9]
 have hws:=hH.ws;obtain⟨q,cap,rfl,hne,_⟩:=hws.opened;obtain⟨q2,cap2,rfl,hne2,_⟩:=hH.cs.rows.opened;have hop:=hH.vs.rows.opened;rw[hvl] at hop;obtain⟨q3,cap3,rfl,jI,_⟩:=hop;obtain⟨b3,o3,rfl⟩:=jI bB';obtain⟨q4,cap4,rfl,oQ,_⟩:=hH.rs.opened;have hr:=hH.vs.rows.row (k:=i) bA4;have hfs:=hH.vs.fs _ (getD_mem (l:=vs) (k:=i) bA4);have hfr:=hH.vs.fr _ (getD_mem (l:=vs) (k:=i) bA4);have mQ:=hH.vs.vs _ (getD_mem (l:=vs) (k:=i) bA4);have hu:=rM e2 i;rw[show H.vs.getD i default=H.vu i from rfl] at hu;have Ri:=hfit.v (H.vu i) (getD_mem bG1);unfold HyD.NM;rw[←hu] at Ri ⊢;generalize vs.getD i default=v at hr hfs hfr mQ Ri ⊢;simp only[eF.u] at Ri;obtain⟨qf,cf,ef,rP,_⟩:=hfs.opened;obtain⟨qr,cr,er,ay7,_⟩:=hfr.opened;obtain⟨qv,AO,ev,XX,_⟩:=mQ.opened;have hi1:((i:Int)+1-1).toNat=i:=by omega
 have hr6:w.rangeAt b3 (o3+((i:Int)+1-1).toNat*6) [.bool v.live,.bool v.dying,.int .i64 v.aO,.slice qf v.fs.length cf,.slice qr v.fr.length cr,.slice qv v.vs.length AO]:=by rw[hi1,←ef,←er,←ev];exact hr
 rw[ev] at mQ;rw[ef] at hfs;rw[er] at hfr;refine enter Tryz.func24 ?_;refine run ?_;intro B V;refine aC ?_;refine ah _ rfl (fun hlv=>?_) (fun hlv=>?_)
 ·refine aC ?_;refine fin1 ?_;have hlf:v.live=false:=by simpa using hlv
  simp only[eF.u,hlf,bK3,cond_true];have e0:∀ n:Nat,decide ((n:Int)=0)=decide (n=0):=fun n=>by rw[decide_eq_decide];omega
  simp only[e0]
 have hlt:v.live=true:=by simpa using hlv
 rw[show v.u.live=true from hlt,bJ3,cond_false];refine aC ?_
 have hA:(!decide ((v.fs.length:Int)=5)||decide (v.aO<1)||decide (15<v.aO))=!(decide (v.u.fs.length=5)&&PtD.cZ v.u.aO 1 15):=by
  show _=!(decide (v.fs.length=5)&&PtD.cZ v.aO 1 15);rw[bH4];simp only[PtD.cZ,bI9,bI8,bM9,decide_eq_true_eq,decide_eq_false_iff_not];omega
 refine ah _ rfl (fun hd=>?_) (fun hd=>?_)
 ·replace hd:=hA.symm.trans hd;rw[bI8] at hd;rw[hd];refine run ?_;exact fin1 rfl
 replace hd:=hA.symm.trans hd;rw[bJ7] at hd;rw[hd,bH6]
 have h5:v.fs.length=5:=by
  simp only[bG8,decide_eq_true_eq] at hd;exact hd.1
 clear hd hA hlv;obtain⟨bf,BI,rfl⟩:=rP bE7;refine run ?_;refine aK (σ:=Nat) (fun k=>[(6,.int .i64 (k:Int))]) (fun _=>[⟨V,#[.bool v.live,.bool v.dying,.int .i64 v.aO,.slice (some ⟨bf,BI,none⟩) v.fs.length cf,.slice qr v.fr.length cr,.slice qv v.vs.length AO],62⟩,⟨B,#[.slice q H.ws.length cap,.slice q2 cs.length cap2,.slice (some ⟨b3,o3,none⟩) 4 cap3,.slice q4 H.rs.length cap4],29⟩]) (fun k=>k≤5∧∀ j,j<k→kM.chain H.ws.length v.u j=true) (fun k=>5-k) 0 ⟨bH3 _,fun j hj=>absurd hj (bK2 _)⟩ ?_;rintro k m hm ⟨hk,hK⟩;refine run ?_;refine ah _ rfl (fun hc=>?_) (fun hc=>?_)
 ·have hk5:k<5:=by have:=of_decide_eq_true hc;omega
  have hrk:=ak (hfs.row (k:=k) bA4);simp only[bJ5] at hrk;have hrp:=ak (hfs.row (k:=((k:Int)-1).toNat) bA4);simp only[bJ5] at hrp
  have an3:0<k→0≤v.fs.getD ((k:Int)-1).toNat default∧v.fs.getD ((k:Int)-1).toNat default<100000:=fun h0=>by
   have:=hK (k-1) bA4;unfold kM.chain bJ at this;simp only[bG8,decide_eq_true_eq] at this;have h1:=this.1;rw[show ((k:Int)-1).toNat=k-1 by omega];simp only[eF.u] at h1;show 0≤v.fs.getD (k-1) 0∧v.fs.getD (k-1) 0<100000;omega
  refine run ?_;refine di ?_;refine aZ ?_;refine fB (fun wc hG=>yS H.ws.length cap q bA4 (v.fs.getD k 0) wc) ?_;refine aZ ?_;refine run ?_
  have hC:(!bJ H.ws.length (v.fs.getD k 0)||decide (0<(k:Int))&&!decide (v.fs.getD k default=v.fs.getD ((k:Int)-1).toNat default+1))=!kM.chain H.ws.length v.u k:=by
   unfold kM.chain;simp only[eF.u];rw[show ((k:Int)-1).toNat=k-1 by omega,show (default:Int)=0 from rfl,bV5,Bool.not_or]
   congr 2
   rw[←decide_not,decide_eq_decide];omega
  refine ah _ rfl (fun hd=>?_) (fun hd=>?_)
  ·replace hd:=hC.symm.trans hd;refine run ?_;refine fin1 ?_;rw[fZ (p:=kM.chain H.ws.length _) hk5 bF8];rfl
  replace hd:=hC.symm.trans hd;refine run ?_;refine aF (k+1) ⟨hk5,fun j hj=>?_⟩;by_cases e:j=k
  ·subst e;simpa using hd
  ·exact hK j bA4
 have hk5:k=5:=by have:=of_decide_eq_false hc;omega
 subst hk5;rw[fF (p:=kM.chain H.ws.length _) hK,bH6];refine run ?_;refine aK (σ:=Nat) (fun k=>[(7,.int .i64 (k:Int))]) (fun _=>[⟨V,#[.bool v.live,.bool v.dying,.int .i64 v.aO,.slice (some ⟨bf,BI,none⟩) v.fs.length cf,.slice qr v.fr.length cr,.slice qv v.vs.length AO],62⟩,⟨B,#[.slice q H.ws.length cap,.slice q2 cs.length cap2,.slice (some ⟨b3,o3,none⟩) 4 cap3,.slice q4 H.rs.length cap4],29⟩]) (fun k=>k≤v.fr.length∧∀ j,j<k→kM.EI v.u j=true) (fun k=>v.fr.length-k) 0 ⟨bH3 _,fun j hj=>absurd hj (bK2 _)⟩ ?_;rintro k m2 hm2 ⟨hk2,hK2⟩;refine run ?_;refine ah _ rfl (fun hc2=>?_) (fun hc2=>?_)
 ·have hkl:k<v.fr.length:=by have:=of_decide_eq_true hc2;omega
  obtain⟨br,or_,rfl⟩:=ay7 bF9;have hrk:=ak (hfr.row (k:=k) bA4);have hrp:=ak (hfr.row (k:=((k:Int)-1).toNat) bA4);simp only[bJ5] at hrk hrp;refine run ?_;refine di ?_;refine aZ ?_;refine fB (fun wc hG=>KQ (v.fr.getD k 0) v.fs _ (hfs.good hG)) ?_;refine aZ ?_;refine run ?_
  have hC:(decide (gV (fun t=>decide (t=v.fr.getD k 0)) v.fs<1)||decide (0<(k:Int))&&decide (v.fr.getD k default≤v.fr.getD ((k:Int)-1).toNat default))=!kM.EI v.u k:=by
   show _=!(decide (1≤gV (fun t=>decide (t=v.fr.getD k 0)) v.fs)&&(decide (k=0)||decide (v.fr.getD (k-1) 0<v.fr.getD k 0)));rw[show ((k:Int)-1).toNat=k-1 by omega,show (default:Int)=0 from rfl,bV5,Bool.not_or]
   congr 1
   ·rw[←decide_not,decide_eq_decide];omega
   congr 1
   ·rw[←decide_not,decide_eq_decide];omega
   ·rw[←decide_not,decide_eq_decide];omega
  refine ah _ rfl (fun hd=>?_) (fun hd=>?_)
  ·replace hd:=hC.symm.trans hd;refine run ?_;refine fin1 ?_;rw[fZ (n:=v.u.fr.length) (p:=kM.EI _) hkl bF8];rfl
  replace hd:=hC.symm.trans hd;refine run ?_;refine aF (k+1) ⟨hkl,fun j hj=>?_⟩;by_cases e:j=k
  ·subst e;simpa using hd
  ·exact hK2 j bA4
 have hke:k=v.fr.length:=by have:=of_decide_eq_false hc2;omega
 subst hke;rw[fF (n:=v.u.fr.length) (p:=kM.EI _) hK2,bH6];refine run ?_;refine aK (σ:=Nat) (fun k=>[(8,.int .i64 (k:Int))]) (fun _=>[⟨V,#[.bool v.live,.bool v.dying,.int .i64 v.aO,.slice (some ⟨bf,BI,none⟩) v.fs.length cf,.slice qr v.fr.length cr,.slice qv v.vs.length AO],62⟩,⟨B,#[.slice q H.ws.length cap,.slice q2 cs.length cap2,.slice (some ⟨b3,o3,none⟩) 4 cap3,.slice q4 H.rs.length cap4],29⟩]) (fun k=>k≤i∧∀ j,j<k→H.oJ v.u j=true) (fun k=>i-k) 0 ⟨bH3 _,fun j hj=>absurd hj (bK2 _)⟩ ?_;rintro k m3 QV ⟨hk3,hK3⟩;refine run ?_;refine ah _ rfl (fun hc3=>?_) (fun hc3=>?_)
 ·have hkl:k<i:=by have:=of_decide_eq_true hc3;omega
  have hr3:=hH.vs.rows.row (k:=k) bA4;have hu3:=rM e2 k;rw[show H.vs.getD k default=H.vu k from rfl] at hu3
  have hC:((vs.getD k default).live&&decide ((vs.getD k default).aO=v.aO))=!H.oJ v.u k:=by
   unfold HyD.oJ;rw[←hu3,bQ1];rfl
  clear hu3;generalize vs.getD k default=o at hr3 hC;have ho1:=ak (show w.rangeAt b3 (o3+k*6) [.bool o.live] from aV (k:=0) (n:=1) hr3 rfl);have ho2:=ak (show w.rangeAt b3 (o3+k*6+2) [.int .i64 o.aO] from aV (k:=2) (n:=1) hr3 rfl);refine run ?_;refine di ?_;refine aZ ?_;refine run ?_;refine ah _ rfl (fun hd=>?_) (fun hd=>?_)
  ·replace hd:=hC.symm.trans hd;refine run ?_;refine fin1 ?_;rw[fZ (p:=H.oJ _) hkl bF8];rfl
  replace hd:=hC.symm.trans hd;refine run ?_;refine aF (k+1) ⟨hkl,fun j hj=>?_⟩;by_cases e:j=k
  ·subst e;simpa using hd
  ·exact hK3 j bA4
 have hki:k=i:=by have:=of_decide_eq_false hc3;omega
 subst hki;rw[fF (p:=H.oJ _) hK3,bH6];refine run ?_;refine aK (σ:=Nat) (fun k=>[(9,.int .i64 (k:Int))]) (fun _=>[⟨V,#[.bool v.live,.bool v.dying,.int .i64 v.aO,.slice (some ⟨bf,BI,none⟩) v.fs.length cf,.slice qr v.fr.length cr,.slice qv v.vs.length AO],62⟩,⟨B,#[.slice q H.ws.length cap,.slice q2 cs.length cap2,.slice (some ⟨b3,o3,none⟩) 4 cap3,.slice q4 H.rs.length cap4],29⟩]) (fun k=>k≤v.vs.length∧∀ j,j<k→kM.vcR v.u j=true) (fun k=>v.vs.length-k) 0 ⟨bH3 _,fun j hj=>absurd hj (bK2 _)⟩ ?_;rintro j m4 hm4 ⟨hk4,hK4⟩;refine run ?_;refine ah _ rfl (fun hc4=>?_) (fun hc4=>?_)
 ·have hjl:j<v.vs.length:=by have:=of_decide_eq_true hc4;omega
  obtain⟨bv,ov,rfl⟩:=XX bF';have Zl:=mQ.row hjl
  have hC:(decide (0≤(v.vs.getD j default).on)&&!aW (jc (v.vs.getD j default).r) (jc jb))=!kM.vcR v.u j:=by
   unfold kM.vcR;rw[OO,bQ1];rfl
  generalize v.vs.getD j default=c at Zl hC;have hr1:w.rangeAt bv (ov+j*16+15) [.int .i64 c.on]:=aV (k:=15) (n:=1) Zl rfl;have hr1':=ak hr1;have hr2:w.rangeAt bv (ov+j*16) (jc c.r):=aV (k:=0) (n:=15) Zl rfl;refine run ?_;refine aC ?_;refine ah _ rfl (fun hd=>?_) (fun hd=>?_)
  ·replace hd:=hC.symm.trans hd;refine run ?_;refine fin1 ?_;rw[fZ (n:=v.u.vs.length) (p:=kM.vcR _) hjl bF8]
  replace hd:=hC.symm.trans hd;refine run ?_;refine aF (j+1) ⟨hjl,fun l hl=>?_⟩;by_cases e:l=j
  ·subst e;simpa using hd
  ·exact hK4 l bA4
 have hje:j=v.vs.length:=by have:=of_decide_eq_false hc4;omega
 subst hje;rw[fF (n:=v.u.vs.length) (p:=kM.vcR _) hK4];refine run ?_;exact fin1 rfl
end
section
section
variable {n : Nat} {w0 : World} {mu : List Nat} {l : Fm} {hp : Hp} {Q : Exit → Fm → Hp → Prop} {all : Array Oper} {rest : List Oper} {ty : TypeId} {pos : String} {af : Array Edge}
theorem az0{f d j dj:Nat}{want b:Bool}{xs:List Operand}{vs:List Value}{tys:Array TypeId}{R:Value→Hp→Prop}(hi hp':Hp)(hwt:jf b want=true)(hc:∀ w,Good w0 mu (hi++hp') w→Fn Tryz.prog f vs.toArray w (hi.map (·.b)) R)(h:∀ v hn,R v hn→Ops Tryz.prog n w0 mu all rest ((d,v)::l) (hn++hp') Q)
  (hperm:(hi++hp').Perm hp) (bK:mem iZ f=true:=by rfl) (hj:(all[j]?).bind (·.dst)=some dj:=by rfl) (hb:look l dj=some (gv true (.bool b)):=by rfl) (hdj:Nat.blt dj n=true:=by rfl) (hd:Nat.blt d n=true:=by rfl) (hv:evs l xs=some vs:=by rfl):Ops Tryz.prog n w0 mu all (⟨some d,.call { callee:=.value (.func f),args:=xs.toArray,argTypes:=tys },ty,pos,af,some (j,want)⟩::rest) l hp Q:=by
 obtain⟨fn,c,hf,hname,hbd⟩:=fD f bK;intro a w hk hG;have hw:=jP (o:=⟨some d,.call { callee:=.value (.func f),args:=xs.toArray,argTypes:=tys },ty,pos,af,some (j,want)⟩) hk rfl hj hb hdj;refine wpList_step fun K hK=>?_;rw[hwt,bQ0] at hw;rw[if_pos hw];unfold Oper.wp;rw[qY rfl hf hname hbd hk hv w];refine Calls.mono (hc w (hG.perm hperm)) ?_;rintro e w' ⟨u,hn,rfl,hg',hR⟩;exact hK _ _ (h u hn hR _ _ (hk.put (xu (show Zi (some d) n=true from hd)) u) ((hG.perm hperm).lG hg'))
end
attribute [local irreducible] Hy St Ops DH dI jl iR gX DS iw lV
theorem Good.off{w0:World}{hp:Hp}(h:Good w0 [] hp w){b o:Nat}(hc:w0.cell? ⟨b,o,none⟩=some v):b∉hp.map (·.b):=fun hm=>by
 obtain⟨e,he,rfl⟩:=bH9.1 hm;have h1:e.b<w0.heap.size:=block_lt_of_cell hc;rcases h.own e he with h2 | h2
 ·cases h2
 ·omega
theorem Good.aM4{w0:World}{hp:Hp}(h:Good w0 [] hp w){b o:Nat}{vs:List Value}(hc:w0.rangeAt b o (v::vs)):b∉hp.map (·.b):=h.off (ak (aV (k:=0) (n:=1) hc rfl))
theorem ag2{pv gv ov:Value}(hP:dN w pv gv ov P)(hn:P.Len)(n f:Int)(h0:0≤f)(h1:f<(P.pages.length:Int)):Fn Tryz.prog 111 [.agg #[pv,gv,ov],.int .i64 n,.int .i64 f].toArray w [] (fun u _=>u=.int .i64 (BF P n f.toNat)):=by
 have hl:=hn;obtain⟨L,rfl,rfl,rfl,hV⟩:=hP.open hn;have hpr:=hV.pg f.toNat bA4;refine enter Tryz.func111 ?_;refine run ?_;intro B A;refine run ?_;unfold BF;refine ah _ rfl (fun hc2=>?_) (fun hc2=>?_)
 ·refine run ?_;refine fin1 ?_;rw[hc2];rfl
 refine run ?_;refine ah _ rfl (fun hc3=>?_) (fun hc3=>?_)
 ·refine run ?_;refine fin1 ?_;rw[hc2,hc3];rfl
 ·refine run ?_;refine fin1 ?_;rw[hc2,hc3];rfl
def lq(ws:List Nat)(fs:List Int)(may:Nat→DsD→Bool):Nat→List Int→Int→Nat→Nat→Option (List Int)
 | 0,_,_,_,_=>none
 | k+1,seen,f,level,page=>bif !(fs.any fun t=>decide (t=f))||seen.any (fun t=>decide (t=f)) then none
  else dJ ws may (fun s f' p=>lq ws fs may k s f' (level+1) p) f level page 8 (seen++[f])
def lu(P:PtD)(n:Int)(page:Nat)(d:DsD):Bool:=decide (page≤15)&&(decide (0≤d.frame)&&decide (d.frame≤(P.pages.length:Int)-1))&&decide (d=bg d.frame (BF P n d.frame.toNat))
def ao4(S:Nat)(r:Option (List Int))(u:Value)(hn:Hp):Prop:=match r with
 | none=>u=.bool false
 | some s=>u=.bool true∧∃ v h,Acc 3 1 v h (s.map bY)∧aJ (⟨S,#[v],59⟩::h) hn
theorem Uj{ws:List Nat}{may:Nat→DsD→Bool}{go:List Int→Int→Nat→Option (List Int)}{f:Int}{level page:Nat}(hl:level<4){R:List Int→List Int→Prop}(hr:∀ a,R a a)(ht:∀ a b c,R a b→R b c→R a c)(hg:∀ a f p b,go a f p=some b→R a b):∀ (n:Nat) (seen s:List Int),dJ ws may go f level page n seen=some s→R seen s:=by
 intro n
 induction n with
 | zero=>intro seen s h;cases h;exact hr _
 | succ n ih=>
  intro seen s h;obtain⟨a,b,ha,hs,hb⟩:=nK h n bA4;rw[h] at hb;cases hb;refine ht _ _ _ (ih _ _ ha) ?_;rcases nM hl hs with⟨_,_,hgo⟩ | ⟨_,rfl,_⟩
  ·exact hg _ _ _ _ hgo
  ·exact hr _
theorem Uk{ws:List Nat}{may:Nat→DsD→Bool}{go go':List Int→Int→Nat→Option (List Int)}{f:Int}{level page:Nat}(k:Nat)(a b:List Int)(hg:∀ f p,go a f p=some b→go' a f p=some b)(h:mX ws may go f level page k a=some b):mX ws may go' f level page k a=some b:=by
 unfold mX at h ⊢;dsimp only at h ⊢
 cases hk:decide ((gQ ws (f.toNat*8+k) level).kind=1) with
 | true=>
  rw[hk] at h;simp only[cond_true] at h ⊢
  cases hc:decide (15<page+k*au level) with
  | true=>rw[hc] at h;cases h
  | false=>
   rw[hc] at h
   exact hg _ _ h
 | false=>rw[hk] at h;exact h
theorem PR{ws:List Nat}{may:Nat→DsD→Bool}{go go':List Int→Int→Nat→Option (List Int)}{f:Int}{level page:Nat}:∀ (n:Nat) (seen s:List Int),(∀ i a b,i<n→dJ ws may go f level page i seen=some a→dJ ws may go f level page (i+1) seen=some b→∀ f p,go a f p=some b→go' a f p=some b)→dJ ws may go f level page n seen=some s→dJ ws may go' f level page n seen=some s:=by
 intro n
 induction n with
 | zero=>intro seen s _ h;exact h
 | succ n ih=>
  intro seen s hg h;obtain⟨a,b,ha,hs,hb⟩:=nK h n bA4;rw[h] at hb;cases hb;rw[dJ,ih _ _ (fun i a b hi=>hg i a b bA4) ha];exact Uk n a _ (hg n a _ bA4 ha h) hs
theorem Yg{ws:List Nat}{fs:List Int}{may:Nat→DsD→Bool}{seen s:List Int}{f:Int}{level page:Nat}(h:lq ws fs may (k+1) seen f level page=some s):f∈fs∧f∉seen∧dJ ws may (fun s f' p=>lq ws fs may k s f' (level+1) p) f level page 8 (seen++[f])=some s:=by
 rw[lq] at h
 cases hc:(!(fs.any fun t=>decide (t=f))||seen.any (fun t=>decide (t=f))) with
 | true=>rw[hc] at h;cases h
 | false=>
  rw[hc,cond_false] at h;rw[bJ9,bJ7] at hc;refine⟨gJ.1 hc.1,fun hm=>?_,h⟩;rw[gJ.2 hm] at hc;cases hc.2
theorem EJ{ws:List Nat}{fs:List Int}{may:Nat→DsD→Bool}(hfs:∀ f∈fs,bJ ws.length f=true):∀ (k level:Nat) (seen:List Int) (f:Int) (page:Nat) (s:List Int),level+k=4→lq ws fs may k seen f level page=some s→dM ws may k seen f level page=some s∧∀ x∈s,x∈seen∨x∈fs:=by
 intro k
 induction k with
 | zero=>intro level seen f page s _ h;cases h
 | succ k ih=>
  intro level seen f page s hlk h;obtain⟨h1,h2,h3⟩:=Yg h;refine⟨?_,?_⟩
  ·rw[dM,hfs f h1,show (seen.any fun t=>decide (t=f))=false by rw[←bK',gJ];exact h2];exact PR 8 _ _ (fun i a b _ _ _ f' p hgo=>(ih (level+1) a f' p b bA4 hgo).1) h3
  ·have:=Uj bA4 (R:=fun a b=>∀ x∈b,x∈a∨x∈fs) (fun a x hx=>.inl hx) (fun a b c h1 h2 x hx=>(h2 x hx).elim (h1 x) .inr) (fun a f' p b hgo=>(ih (level+1) a f' p b bA4 hgo).2) 8 _ _ h3;intro x hx;rcases this x hx with h4 | h4
   ·rcases bJ6.1 h4 with h5 | h5
    ·exact .inl h5
    ·rw[bM5.1 h5];exact .inr h1
   ·exact .inr h4
theorem Yh{ws:List Nat}{fs:List Int}{may:Nat→DsD→Bool}(hfs:∀ f∈fs,bJ ws.length f=true)(k level:Nat)(seen:List Int)(f:Int)(page:Nat)(s:List Int)(hlk:level+k=4)(h:lq ws fs may k seen f level page=some s):Fv ws.length seen s:=(tY k level seen f page s hlk (EJ hfs k level seen f page s hlk h).1).1
theorem az1{wb:World}{vv rv:Value}{H:HyD}(h:vw wb wv cv vv rv H)(hok:H.iq=true){pv gv ov:Value}(hP:dN wb pv gv ov P)(hn:P.Len)(i:Nat)(hi:i<4)(hfs:∀ f∈(H.vu i).fs,bJ H.ws.length f=true):
  ∀ (k level:Nat),level+k=3→∀ (w:World) (seen:List Int) (v:Value) (S:Nat) (ha:Hp) (f:Int) (page:Nat),Acc 3 1 v ha (seen.map bY)→Good wb [] (⟨S,#[v],59⟩::ha) w→seen.Nodup→(∀ f∈seen,bJ H.ws.length f=true)→page%(8*au level)=0→page+8*au level≤4096 →
  Fn Tryz.prog 53 [.agg #[wv,cv,vv,rv],.agg #[pv,gv,ov],.int .i64 ((i:Int)+1),.int .i64 f,.int .i64 (level:Int),.int .i64 (page:Int),.pointer (some ⟨S,0,none⟩)].toArray w (S::ha.map (·.b)) (ao4 S (lq H.ws (H.vu i).fs (lu P ((i:Int)+1)) (k+1) seen f level page)):=by
 have hL:=jv hok;have rZ:=bP hL.m;have hfit:=h.fit;obtain⟨cs,vs,e1,e2,_,hH⟩:=h.ex;have hvl:vs.length=4:=by rw[←hL.v,←e2,bG9]
 have hws:=hH.ws;obtain⟨q,cap,rfl,hne,_⟩:=hws.opened;obtain⟨bw,ow,rfl⟩:=hne bE3;obtain⟨q2,cap2,rfl,hne2,_⟩:=hH.cs.rows.opened;have hop:=hH.vs.rows.opened;rw[hvl] at hop;obtain⟨q3,cap3,rfl,jI,_⟩:=hop;obtain⟨b3,o3,rfl⟩:=jI bB';obtain⟨q4,cap4,rfl,oQ,_⟩:=hH.rs.opened;obtain⟨qp,cp,rfl,_⟩:=hP.pages.opened;have hr:=hH.vs.rows.row (k:=i) bA4;have FY:=hH.vs.fs _ (getD_mem (l:=vs) (k:=i) bA4);have hu:=rM e2 i;rw[show H.vs.getD i default=H.vu i from rfl] at hu;have Ri:=hfit.v (H.vu i) (getD_mem bG1);rw[←hu] at Ri hfs ⊢;generalize vs.getD i default=vm at hr FY Ri hfs ⊢;simp only[eF.u] at Ri hfs ⊢;obtain⟨qf,cf,ef,rP,_⟩:=FY.opened;have hi1:((i:Int)+1-1).toNat=i:=by omega
 have hr6:wb.rangeAt b3 (o3+((i:Int)+1-1).toNat*6) [.bool vm.live,.bool vm.dying,.int .i64 vm.aO,.slice qf vm.fs.length cf,vm.rv,vm.vv]:=by rw[hi1,←ef];exact hr
 rw[ef] at FY;intro k
 induction k using Nat.strongRecOn with
 | ind k ih=>
 intro level hlk w seen v S ha f page hA hG0 hnd hhas hp hpl;have hl:level<4:=by omega
 have hc9:=fK hl;have hsl:=rV hnd hhas;have haft:∀ wc hp,Good w (S::ha.map (·.b)) hp wc→rO wb wc:=fun wc hp hG=>X5 (ha:=⟨S,#[v],59⟩::ha) hG0 hG;have hb3:b3∉S::ha.map (·.b):=hG0.aM4 hr6;have hr7:w.rangeAt b3 (o3+((i:Int)+1-1).toNat*6) [.bool vm.live,.bool vm.dying,.int .i64 vm.aO,.slice qf vm.fs.length cf,vm.rv,vm.vv]:=hG0.range hr6 bQ5;obtain⟨qs,csl,ev⟩:=hA.own.opened;rw[bG9] at ev;subst ev;refine eH (⟨S,#[.slice qs seen.length csl],59⟩::ha) ⟨hG0.here,hG0.nodup⟩ Tryz.func53 ?_;refine run ?_;intro B Pb V;refine run ?_
 refine az (fun wc hG=>by
  obtain⟨_,hg⟩:=haft wc _ hG
  exact KQ f vm.fs _ (FY.good hg)) ?_
 refine aC ?_;have hcs:∀ wc hp,Good w (S::ha.map (·.b)) hp wc→(∀ e∈ha,e∈hp)→aA wc (.slice qs seen.length csl) 1 (seen.map bY):=fun wc hp hG hsb=>hA.own.lie (hG.lie hsb) bA7;refine bG (fun hg wc hG=>KQ f seen _ (hcs wc _ hG (fun e he=>by simp[he]))) ?_;refine aC ?_
 have hgc:(decide (gV (fun t=>decide (t=f)) vm.fs<0)||decide (0≤gV (fun t=>decide (t=f)) seen))=(!(vm.fs.any fun t=>decide (t=f))||seen.any fun t=>decide (t=f)):=by
  have e9:∀ x:Int,decide (x<0)=!decide (0≤x):=fun x=>by rw[←decide_not,decide_eq_decide];omega
  rw[e9,gG,gG]
 refine ah _ rfl (fun hc=>?_) (fun hc=>?_)
 ·replace hc:=hgc.symm.trans hc;refine run ?_;refine fin1 ?_;rw[lq,hc];rfl
 replace hc:=hgc.symm.trans hc;have hgr:lq H.ws vm.fs (lu P ((i:Int)+1)) (k+1) seen f level page=dJ H.ws (lu P ((i:Int)+1)) (fun s f' p=>lq H.ws vm.fs (lu P ((i:Int)+1)) k s f' (level+1) p) f level page 8 (seen++[f]):=by rw[lq,hc];rfl
 rw[bJ9,bJ7] at hc;have hh:bJ H.ws.length f=true:=hfs f (gJ.1 hc.1);have hnm:f∉seen:=fun hm=>by rw[gJ.2 hm] at hc;cases hc.2
 have hfi:=iK hh;have hG2:=Fv.snoc (a:=seen) hh hnm;rw[hgr];clear hgc hgr;refine run ?_;intro T;refine dK (c:=bY f) hA (fun v2 h2 hA2=>?_) bA7 (aY (m:=1) mh rfl) (hp':=⟨T,#[.int .i64 f],3⟩::⟨V,#[.bool vm.live,.bool vm.dying,.int .i64 vm.aO,.slice qf vm.fs.length cf,vm.rv,vm.vv],62⟩::⟨Pb,#[.slice qp P.pages.length cp,gv,ov],48⟩::⟨B,#[.slice (some ⟨bw,ow,none⟩) H.ws.length cap,.slice q2 cs.length cap2,.slice (some ⟨b3,o3,none⟩) 4 cap3,.slice q4 H.rs.length cap4],29⟩::[⟨S,#[.slice qs seen.length csl],59⟩]) (hperm:=by (exact aT));rw[←bM7 (f:=bY),←bI6] at hA2;obtain⟨q2',c2,ev2⟩:=hA2.own.opened;rw[bG9] at ev2;subst ev2;refine aS (⟨S,#[.slice qs seen.length csl],59⟩::⟨V,#[.bool vm.live,.bool vm.dying,.int .i64 vm.aO,.slice qf vm.fs.length cf,vm.rv,vm.vv],62⟩::⟨Pb,#[.slice qp P.pages.length cp,gv,ov],48⟩::⟨B,#[.slice (some ⟨bw,ow,none⟩) H.ws.length cap,.slice q2 cs.length cap2,.slice (some ⟨b3,o3,none⟩) 4 cap3,.slice q4 H.rs.length cap4],29⟩::h2) aj ?_;refine run ?_;refine aK (σ:=Nat×List Int×Value×Hp) (fun s=>[(16,.int .i64 (s.1:Int))]) (fun s=>⟨S,#[s.2.2.1],59⟩::⟨V,#[.bool vm.live,.bool vm.dying,.int .i64 vm.aO,.slice qf vm.fs.length cf,vm.rv,vm.vv],62⟩::⟨Pb,#[.slice qp P.pages.length cp,gv,ov],48⟩::⟨B,#[.slice (some ⟨bw,ow,none⟩) H.ws.length cap,.slice q2 cs.length cap2,.slice (some ⟨b3,o3,none⟩) 4 cap3,.slice q4 H.rs.length cap4],29⟩::s.2.2.2) (fun s=>s.1≤8∧dJ H.ws (lu P ((i:Int)+1)) (fun s f' p=>lq H.ws vm.fs (lu P ((i:Int)+1)) k s f' (level+1) p) f level page s.1 (seen++[f])=some s.2.1∧Fv H.ws.length (seen++[f]) s.2.1∧Acc 3 1 s.2.2.1 s.2.2.2 (s.2.1.map bY)) (fun s=>8-s.1) (0,seen++[f],.slice q2' (seen++[f]).length c2,h2) ⟨bH3 _,rfl,Fv.refl _ _,hA2⟩ ?_;rintro⟨j,s1,ov1,h1⟩ m hm2 ⟨hj,hsl1,hG3,hA1⟩;dsimp only at hm2 hj hsl1 hG3 hA1 ⊢;have hs1:s1.length≤H.ws.length/8:=rV (hG3.nd (hG2.nd hnd)) (hG3.has (hG2.has hhas));obtain⟨q1,c1,e1'⟩:=hA1.own.opened;rw[bG9] at e1';subst e1';refine run ?_;refine ah _ rfl (fun hc2=>?_) (fun hc2=>?_)
 rotate_left
 ·have NK:j=8:=by have:=of_decide_eq_false hc2;omega
  subst NK;rw[hsl1];refine run ?_;refine fin1 ⟨rfl,_,h1,hA1,?_⟩
  (exact aj)
 have hj8:j<8:=by have:=of_decide_eq_true hc2;omega
 have hic:j*au level≤7*au level:=bK0 _ bA4;refine run ?_;rw[show f*8+(j:Int)=((f.toNat*8+j:Nat):Int) by omega];have X7:f.toNat*8+j<H.ws.length:=by omega
 have hwc:wb.rangeAt bw (ow+(f.toNat*8+j)) [.int .u64 ((H.ws.getD (f.toNat*8+j) 0:Nat):Int)]:=by
  have:=hws.row X7;simp only[bJ5] at this;exact this
 have hbw:bw∉S::ha.map (·.b):=hG0.aM4 hwc;have bo7:=ak (hG0.range hwc bQ5);refine run ?_;have hw64:=hH.Df.at (f.toNat*8+j)
 have hdt:zM 2 level (H.ws.getD (f.toNat*8+j) 0)=gQ H.ws (f.toNat*8+j) level:=rfl;have hdm:=mF H.ws (f.toNat*8+j) level;have hstep:=fun (b:Option (List Int)) (hb:mX H.ws (lu P ((i:Int)+1)) (fun s f' p=>lq H.ws vm.fs (lu P ((i:Int)+1)) k s f' (level+1) p) f level page j s1=b)=>(show dJ H.ws (lu P ((i:Int)+1)) (fun s f' p=>lq H.ws vm.fs (lu P ((i:Int)+1)) k s f' (level+1) p) f level page (j+1) (seen++[f])=b by rw[dJ,hsl1];exact hb)
 refine ah _ rfl (fun hz=>?_) (fun hz=>?_)
 ·have hz0:H.ws.getD (f.toNat*8+j) 0=0:=by have:=of_decide_eq_true hz;omega
  have hs0:=hstep (some s1) (by unfold mX;rw[Mc hl hz0,hz0];rfl);refine run ?_;exact aF (j+1,s1,.slice q1 s1.length c1,h1) ⟨hj8,hs0,hG3,hA1⟩ (hm:=by dsimp only;omega) (h2:=by (exact aj))
 refine run ?_;refine az (fun wc hG=>o8 level hl wc) ?_;refine run ?_;refine az (fun wc hG=>am7 2 (.inr rfl) level hl _ hw64 wc) ?_;rw[hdt];unfold mX at hstep;dsimp only at hstep;have hz0:decide (H.ws.getD (f.toNat*8+j) 0=0)=false:=by rw[decide_eq_false_iff_not];have:=of_decide_eq_false hz;omega
 rw[hz0] at hstep;generalize gQ H.ws (f.toNat*8+j) level=d at *;generalize H.ws.getD (f.toNat*8+j) 0=wd at *;obtain⟨hk3,hk0,hk1,hk2⟩:=gI hdm
 have hfr0:0≤d.frame:=by
  rcases hk3 with e | e | e
  ·have:=(hk0 e).1;omega
  ·exact (hk1 e).2.1
  ·exact (hk2 e).2.1
 refine run ?_;intro D;refine run ?_;refine ah _ rfl (fun hk=>?_) (fun hk=>?_)
 ·have hk':=of_decide_eq_true hk;simp only[hk',decide_true,cond_true] at hstep;have hl3:level<3:=(hk1 hk').1;have hcn:=kK hl3;have hmul:(j:Int)*(au level:Int)=((j*au level:Nat):Int):=(Int.natCast_mul _ _).symm;rw[show (page:Int)+(j:Int)*(au level:Int)=((page+j*au level:Nat):Int) by rw[hmul];omega];by_cases h15:15<page+j*au level
  ·have az2:decide (15<page+j*au level)=true:=decide_eq_true h15;have hdi:decide ((15:Int)<((page+j*au level:Nat):Int))=true:=decide_eq_true bA4;have hno:=hstep none (by rw[az2];rfl);refine aC ?_;rw[hdi];refine Vd (v:=.bool false) (hy:=fun hg=>absurd hg bA5) (h:=?_);refine aC ?_;refine ah _ rfl (fun hd=>?_) (fun hd=>absurd hd bA5);refine run ?_;refine fin1 ?_;rw[qB hno bA4];rfl
  have az2:decide (15<page+j*au level)=false:=decide_eq_false h15;have hdi:decide ((15:Int)<((page+j*au level:Nat):Int))=false:=decide_eq_false bA4;rw[az2] at hstep;simp only[cond_false] at hstep
  have hcm:(page+j*au level)%(8*au (level+1))=0:=by
   rw[←hcn];have h8:au level ∣ page:=bW9 ⟨8,bP6 _ _⟩ (bQ8 hp);exact bS6 (Nat.dvd_add h8 ⟨j,bP6 _ _⟩)
  obtain⟨k',rfl⟩:∃ k',k=k'+1:=⟨k-1,by omega⟩
  refine aC ?_;rw[hdi];refine aC ?_;refine az0 (R:=fun u hn=>ao4 S (lq H.ws vm.fs (lu P ((i:Int)+1)) (k'+1) s1 d.frame (level+1) (page+j*au level)) u hn) (⟨S,#[.slice q1 s1.length c1],59⟩::h1) [⟨D,#[.int .i64 d.kind,.int .i64 d.frame,.bool d.r,.bool d.w,.bool d.x,.bool d.af,.bool d.ng,.int .i64 d.soft,.int .i64 d.note],95⟩,⟨V,#[.bool vm.live,.bool vm.dying,.int .i64 vm.aO,.slice qf vm.fs.length cf,vm.rv,vm.vv],62⟩,⟨Pb,#[.slice qp P.pages.length cp,gv,ov],48⟩,⟨B,#[.slice (some ⟨bw,ow,none⟩) H.ws.length cap,.slice q2 cs.length cap2,.slice (some ⟨b3,o3,none⟩) 4 cap3,.slice q4 H.rs.length cap4],29⟩] rfl (fun wc hG=>?_) ?_ aT
  ·refine ih k' bA4 (level+1) bA4 wc s1 _ S h1 d.frame _ hA1 ?_ (hG3.nd (hG2.nd hnd)) (hG3.has (hG2.has hhas)) hcm (by rw[←hcn];omega);have h5:=Good.lG (hi:=⟨S,#[.slice qs seen.length csl],59⟩::ha) (hp:=[]) (by rw[bI3];exact hG0) hG;rw[bI3] at h5;exact h5.sub (bX3 _ _)
  intro u hn hu
  cases hz:lq H.ws vm.fs (lu P ((i:Int)+1)) (k'+1) s1 d.frame (level+1) (page+j*au level) with
  | none=>
   rw[hz] at hu;obtain rfl:u=_:=hu;have hno:=hstep none hz;refine aC ?_;refine ah _ rfl (fun hd=>?_) (fun hd=>absurd hd bA5);refine run ?_;refine fin1 ?_
   rw[qB hno bA4];rfl
  | some s2=>
   rw[hz] at hu;obtain⟨rfl,v5,h5,Vh,PE⟩:=hu;obtain⟨q5,c5,e5⟩:=Vh.own.opened;rw[bG9] at e5;subst e5;refine aS (⟨S,#[.slice q5 s2.length c5],59⟩::⟨D,#[.int .i64 d.kind,.int .i64 d.frame,.bool d.r,.bool d.w,.bool d.x,.bool d.af,.bool d.ng,.int .i64 d.soft,.int .i64 d.note],95⟩::⟨V,#[.bool vm.live,.bool vm.dying,.int .i64 vm.aO,.slice qf vm.fs.length cf,vm.rv,vm.vv],62⟩::⟨Pb,#[.slice qp P.pages.length cp,gv,ov],48⟩::⟨B,#[.slice (some ⟨bw,ow,none⟩) H.ws.length cap,.slice q2 cs.length cap2,.slice (some ⟨b3,o3,none⟩) 4 cap3,.slice q4 H.rs.length cap4],29⟩::h5) (cnt1 PE) ?_;have hG5:=Yh hfs (k'+1) (level+1) s1 d.frame (page+j*au level) s2 bA4 hz;refine aC ?_;refine ah _ rfl (fun hd=>absurd hd bA5) (fun hd=>?_);refine run ?_;exact aF (j+1,s2,.slice q5 s2.length c5,h5) ⟨hj8,hstep _ hz,hG3.trans hG5,Vh⟩ (hm:=by dsimp only;omega) (h2:=by (exact aj))
 have hk':=of_decide_eq_false hk;rw[decide_eq_false hk'] at hstep;simp only[cond_false] at hstep;refine run ?_;refine ah _ rfl (fun Ce=>?_) (fun Ce=>?_)
 rotate_left
 ·have hno:=hstep none (by rw[Ce];rfl);refine run ?_;refine fin1 ?_;rw[qB hno bA4];rfl
 rw[Ce] at hstep
 have hhP:∀ wc hp,Good w (S::ha.map (·.b)) hp wc→dN wc (.slice qp P.pages.length cp) gv ov P:=fun wc hp hG=>by
  obtain⟨_,hg⟩:=haft wc hp hG;exact hP.good hg
 have hpl':=hn.p1;refine run ?_;refine di ?_;refine aZ ?_;refine eG (fun hg wc hG=>Gy d.frame ((P.pages.length:Int)-1) wc) ?_;refine aZ ?_;refine eG (fun hg wc hG=>ag2 (hhP wc _ hG) hn ((i:Int)+1) d.frame hfr0 ?_) ?_
 ·have:=Qd.1 hg;simp only[bJ9,bJ7,bG8,decide_eq_true_eq] at this;omega
 refine aZ ?_;refine eG (fun hg wc hG=>yZ d.frame (BF P ((i:Int)+1) d.frame.toNat) wc) ?_;refine aZ ?_;refine run ?_
 have hcc:(decide ((level:Int)<3)||decide ((15:Int)<(page:Int)+(j:Int)*(au level:Int))||!(decide (0≤d.frame)&&decide (d.frame≤(P.pages.length:Int)-1))||!aW (dsR d) (dsR (bg d.frame (BF P ((i:Int)+1) d.frame.toNat))))=(!false&&(!true||!decide (level=3)||!lu P ((i:Int)+1) (page+j) d)):=by
  rw[ao0];unfold lu;by_cases hl3:level=3
  ·subst hl3;rw[show decide ((15:Int)<(page:Int)+(j:Int)*(au 3:Int))=!decide (page+j≤15) by rw[←decide_not,decide_eq_decide,show au 3=1 from rfl];omega];simp[bV5,Bool.or_assoc]
  ·rw[decide_eq_true (show (level:Int)<3 by omega),decide_eq_false hl3];simp
 refine ah _ rfl (fun hd=>?_) (fun hd=>?_)
 ·replace hd:=hcc.symm.trans hd;have hno:=hstep none (by rw[hd];rfl);refine run ?_;refine fin1 ?_;rw[qB hno bA4];rfl
 replace hd:=hcc.symm.trans hd;refine run ?_;exact aF (j+1,s1,.slice q1 s1.length c1,h1) ⟨hj8,hstep _ (by rw[hd];rfl),hG3,hA1⟩ (hm:=by dsimp only;omega) (h2:=by (exact aj))
end
section
section
variable {n : Nat} {w0 : World} {mu : List Nat} {l : Fm} {h0 hp hc : Hp} {all : Array Oper} {ds : List (Nat × Nat)} {t0 : Nat} {aX bz : Fm} {Y : Fm → Fm → Hp → Prop} {i d : Nat} {r : List (Nat × Bool)} {ty : TypeId} {pos : String} {af : Array Edge}
theorem az3{f:FuncId}{xs:List Operand}{vs:List Value}{tys:Array TypeId}{R:RT}(hi rest:Hp)(hcl:∀ w,Good w0 mu (hi++rest) w→Fn Tryz.prog f vs.toArray w (hi.map (·.b)) R)(hperm:(hi++rest).Perm hc)(hle:aJ h0 rest)
  (h:∀ v hn,R v hn→GU Tryz.prog n w0 mu all ds l h0 hp t0 Y r aX ((i,v)::bz) (hn++rest)) (ho:all[i]?=some ⟨some d,.call { callee:=.value (.func f),args:=xs.toArray,argTypes:=tys },ty,pos,af,none⟩:=by rfl) (hit:i=t0∨Region.waitsFor .any all i t0=true:=by exact .inl rfl) (bK:mem iZ f=true:=by rfl)
  (hv:evs (aU ds (bz++aX) af.toList++l) xs=some vs:=by rfl):GU Tryz.prog n w0 mu all ds l h0 hp t0 Y ((i,false)::r) aX bz hc:=by
 obtain⟨fn,c,hf,hname,hb⟩:=fD f bK;refine⟨_,ho,.inr (.inr ⟨rfl,fun v h'=>∃ hn,R v hn∧h'=hn++rest,⟨fun a _=>by simp[Region.wanted],fun a w hk hG K Q hK=>?_⟩,?_⟩)⟩
 ·unfold Oper.wp;rw[qY rfl hf hname hb hk hv w];refine Calls.mono (hcl w (hG.perm hperm)) ?_;rintro e w' ⟨u,hn,rfl,hg',hR⟩;exact hK u (hn++rest) w' ⟨hn,hR,rfl⟩ ((hG.perm hperm).lG hg')
 ·rintro v h' ⟨hn,hR,rfl⟩;exact⟨by (exact cnt1 hle),.inl hit,h v hn hR⟩
theorem aM6{t:TypeId}{x:Operand}{b:Bool}(h:GU Tryz.prog n w0 mu all ds l h0 hp t0 Y r ((i,.bool (!b))::aX) bz hc)(ho:all[i]?=some ⟨some d,.unOp .not t x,ty,pos,af,none⟩:=by rfl)(hx:ev (aU ds (bz++aX) af.toList++l) x=some (.bool b):=by rfl):GU Tryz.prog n w0 mu all ds l h0 hp t0 Y ((i,true)::r) aX bz hc:=⟨_,_,ho,⟨rfl,fun a w hk _=>by simp only[execOp,hk.ev hx];simp[go_sem]⟩,h⟩
end
attribute [local irreducible] Hy St Ops DH dI jl iR gX DS iw lV
def xO(l:List Int)(f:Int):Bool:=l.any fun t=>decide (t=f)
def gu1(ws:List Nat)(v:kM)(seen:List Int)(k:Nat):Bool:=!decide (xO seen (v.fs.getD k 0)=xO v.fr (v.fs.getD k 0))&&allB 8 fun j=>!(xO v.fr (v.fs.getD k 0)&&!decide (ws.getD ((v.fs.getD k 0).toNat*8+j) 0=0))
def HyD.guR(H:HyD)(P:PtD)(i:Nat):Bool:=match lq H.ws (H.vu i).fs (lu P ((i:Int)+1)) 4 [] ((H.vu i).fs.getD 0 0) 0 0 with
 | none=>false
 | some seen=>allB 5 (gu1 H.ws (H.vu i) seen)
set_option maxHeartbeats 2000000 in
theorem Yi{vv rv:Value}{H:HyD}(h:vw w wv cv vv rv H)(hok:H.iq=true){pv gv ov:Value}(hP:dN w pv gv ov P)(hn:P.Len)(i:Nat)(hi:i<4)(hfs:∀ f∈(H.vu i).fs,bJ H.ws.length f=true)(h5:(H.vu i).fs.length=5):
  Fn Tryz.prog 28 [.agg #[wv,cv,vv,rv],.agg #[pv,gv,ov],.int .i64 ((i:Int)+1)].toArray w [] (fun u _=>u=.bool (H.guR P i)):=by
 have h':=h;have hL:=jv hok;have rZ:=bP hL.m;have hfit:=h.fit;obtain⟨cs,vs,e1,e2,_,hH⟩:=h.ex;have hvl:vs.length=4:=by rw[←hL.v,←e2,bG9]
 have hws:=hH.ws;obtain⟨q,cap,rfl,hne,_⟩:=hws.opened;obtain⟨bw,ow,rfl⟩:=hne bE3;obtain⟨q2,cap2,rfl,hne2,_⟩:=hH.cs.rows.opened;have hop:=hH.vs.rows.opened;rw[hvl] at hop;obtain⟨q3,cap3,rfl,jI,_⟩:=hop;obtain⟨b3,o3,rfl⟩:=jI bB';obtain⟨q4,cap4,rfl,oQ,_⟩:=hH.rs.opened;have hr:=hH.vs.rows.row (k:=i) bA4;have FY:=hH.vs.fs _ (getD_mem (l:=vs) (k:=i) bA4);have ag3:=hH.vs.fr _ (getD_mem (l:=vs) (k:=i) bA4);have hu:=rM e2 i;rw[show H.vs.getD i default=H.vu i from rfl] at hu;have Ri:=hfit.v (H.vu i) (getD_mem bG1);have Rj:=fun (wb:World) (hb:vw wb (.slice (some ⟨bw,ow,none⟩) H.ws.length cap) (.slice q2 cs.length cap2) (.slice (some ⟨b3,o3,none⟩) 4 cap3) (.slice q4 H.rs.length cap4) H) (hpb:dN wb pv gv ov P)=>az1 hb hok hpb hn i hi hfs;unfold HyD.guR;rw[←hu] at Ri hfs h5 Rj ⊢;generalize vs.getD i default=vm at hr FY ag3 Ri hfs h5 Rj ⊢;simp only[eF.u] at Ri hfs h5 Rj;rw[show vm.u.fs=vm.fs from rfl];obtain⟨qf,cf,ef,rP,_⟩:=FY.opened;obtain⟨bf,BI,rfl⟩:=rP bE7;obtain⟨qr,cr,er,_,_⟩:=ag3.opened;have hi1:((i:Int)+1-1).toNat=i:=by omega
 have hr6:w.rangeAt b3 (o3+((i:Int)+1-1).toNat*6) [.bool vm.live,.bool vm.dying,.int .i64 vm.aO,.slice (some ⟨bf,BI,none⟩) vm.fs.length cf,.slice qr vm.fr.length cr,vm.vv]:=by rw[hi1,←ef,←er];exact hr
 rw[ef] at FY;rw[er] at ag3;have hr0:=ak (FY.row (k:=0) bA4);simp only[bJ5,bQ6,bK6] at hr0;refine enter Tryz.func28 ?_;refine run ?_;intro B Pb V S;refine run ?_;refine ve 9 7 [0,1,2,3,4,5,6] [(7,false),(8,true)] [⟨V,#[.bool vm.live,.bool vm.dying,.int .i64 vm.aO,.slice (some ⟨bf,BI,none⟩) vm.fs.length cf,.slice qr vm.fr.length cr,vm.vv],62⟩,⟨Pb,#[pv,gv,ov],48⟩,⟨B,#[.slice (some ⟨bw,ow,none⟩) H.ws.length cap,.slice q2 cs.length cap2,.slice (some ⟨b3,o3,none⟩) 4 cap3,.slice q4 H.rs.length cap4],29⟩] ?_;refine kW ?_;refine az3 [⟨S,#[.slice none 0 0],59⟩] [⟨V,#[.bool vm.live,.bool vm.dying,.int .i64 vm.aO,.slice (some ⟨bf,BI,none⟩) vm.fs.length cf,.slice qr vm.fr.length cr,vm.vv],62⟩,⟨Pb,#[pv,gv,ov],48⟩,⟨B,#[.slice (some ⟨bw,ow,none⟩) H.ws.length cap,.slice q2 cs.length cap2,.slice (some ⟨b3,o3,none⟩) 4 cap3,.slice q4 H.rs.length cap4],29⟩] (fun wc hG=>Rj w h' hP 3 0 rfl wc [] (.slice none 0 0) S [] (vm.fs.getD 0 0) 0 (Acc.nil _ _) (hG.sub bA6) bV2 bA6 rfl bA5) aT aj ?_;intro u hn hu
 cases hz:lq H.ws vm.fs (lu P ((i:Int)+1)) 4 [] (vm.fs.getD 0 0) 0 0 with
 | none=>
  rw[hz] at hu;obtain rfl:u=_:=hu;refine aM6 ?_;refine Jg ?_;refine kR ?_;refine run ?_;refine ah _ rfl (fun hd=>?_) (fun hd=>absurd hd bA5);refine run ?_
  exact fin1 rfl
 | some seen=>
 rw[hz] at hu;obtain⟨rfl,v5,ha5,Vh,PE⟩:=hu;have hs5:=Yh hfs 4 0 _ _ _ _ rfl hz;have hsl:=rV (hs5.nd bV2) (hs5.has bA6);refine aM6 ?_;refine Jg ?_;refine kR ?_;obtain⟨q5,c5,e5⟩:=Vh.own.opened;rw[bG9] at e5;subst e5;refine aS (⟨S,#[.slice q5 seen.length c5],59⟩::⟨V,#[.bool vm.live,.bool vm.dying,.int .i64 vm.aO,.slice (some ⟨bf,BI,none⟩) vm.fs.length cf,.slice qr vm.fr.length cr,vm.vv],62⟩::⟨Pb,#[pv,gv,ov],48⟩::⟨B,#[.slice (some ⟨bw,ow,none⟩) H.ws.length cap,.slice q2 cs.length cap2,.slice (some ⟨b3,o3,none⟩) 4 cap3,.slice q4 H.rs.length cap4],29⟩::ha5) (cnt1 PE) ?_;refine run ?_;refine ah _ rfl (fun hd=>absurd hd bA5) (fun hd=>?_);refine run ?_;have hfr:=fun (wc:World) (hp:Hp) (hG:Good w [] hp wc)=>ag3.good hG;have hse:=fun (wc:World) (hp:Hp) (hG:Good w [] hp wc) (hsb:∀ e∈ha5,e∈hp)=>Vh.own.lie (hG.lie hsb) bA7;refine aK (σ:=Nat) (fun k=>[(9,.int .i64 (k:Int))]) (fun _=>⟨S,#[.slice q5 seen.length c5],59⟩::⟨V,#[.bool vm.live,.bool vm.dying,.int .i64 vm.aO,.slice (some ⟨bf,BI,none⟩) vm.fs.length cf,.slice qr vm.fr.length cr,vm.vv],62⟩::⟨Pb,#[pv,gv,ov],48⟩::⟨B,#[.slice (some ⟨bw,ow,none⟩) H.ws.length cap,.slice q2 cs.length cap2,.slice (some ⟨b3,o3,none⟩) 4 cap3,.slice q4 H.rs.length cap4],29⟩::ha5) (fun k=>k≤5∧∀ j,j<k→gu1 H.ws vm.u seen j=true) (fun k=>5-k) 0 ⟨bH3 _,fun j hj=>absurd hj (bK2 _)⟩ ?_;rintro k m hm ⟨hk,hK⟩;refine run ?_;refine ah _ rfl (fun hc=>?_) (fun hc=>?_)
 rotate_left
 ·have hk5:k=5:=by have:=of_decide_eq_false hc;omega
  subst hk5;refine run ?_;refine fin1 ?_;exact congrArg Value.bool (fF hK).symm
 have hk5:k<5:=by have:=of_decide_eq_true hc;omega
 have hrk:=ak (FY.row (k:=k) bA4);simp only[bJ5] at hrk;have hgk:gu1 H.ws vm.u seen k=(!decide (xO seen (vm.fs.getD k default)=xO vm.fr (vm.fs.getD k default))&&allB 8 fun j=>!(xO vm.fr (vm.fs.getD k default)&&!decide (H.ws.getD ((vm.fs.getD k default).toNat*8+j) 0=0))):=rfl;have hfk:=iK (hfs _ (getD_mem (l:=vm.fs) (k:=k) bA4));generalize hfe:vm.fs.getD k default=f at hrk hgk hfk;refine run ?_;refine di ?_;refine dF ?_;refine fB (fun wc hG=>KQ f seen _ (hse wc _ hG (fun e he=>by simp[he]))) ?_;refine dF ?_;refine fB (fun wc hG=>KQ f vm.fr _ (hfr wc _ hG)) ?_;refine dF ?_;refine run ?_;have hA:decide (decide (0≤gV (fun t=>decide (t=f)) seen)=decide (0≤gV (fun t=>decide (t=f)) vm.fr))=decide (xO seen f=xO vm.fr f):=by rw[gG,gG];rfl
 refine ah _ rfl (fun hd=>?_) (fun hd=>?_)
 ·replace hd:=hA.symm.trans hd;rw[hd] at hgk;refine run ?_;refine fin1 ?_;exact congrArg Value.bool (fZ hk5 hgk).symm
 replace hd:=hA.symm.trans hd;rw[hd] at hgk;rw[bK3,bH6] at hgk;refine run ?_;refine aK (σ:=Nat) (fun k=>[(11,.int .i64 (k:Int))]) (fun _=>⟨S,#[.slice q5 seen.length c5],59⟩::⟨V,#[.bool vm.live,.bool vm.dying,.int .i64 vm.aO,.slice (some ⟨bf,BI,none⟩) vm.fs.length cf,.slice qr vm.fr.length cr,vm.vv],62⟩::⟨Pb,#[pv,gv,ov],48⟩::⟨B,#[.slice (some ⟨bw,ow,none⟩) H.ws.length cap,.slice q2 cs.length cap2,.slice (some ⟨b3,o3,none⟩) 4 cap3,.slice q4 H.rs.length cap4],29⟩::ha5) (fun k=>k≤8∧∀ j,j<k→(!(xO vm.fr f&&!decide (H.ws.getD (f.toNat*8+j) 0=0)))=true) (fun k=>8-k) 0 ⟨bH3 _,fun j hj=>absurd hj (bK2 _)⟩ ?_;rintro j m2 hm2 ⟨hj,hJ⟩;refine run ?_;refine ah _ rfl (fun hc2=>?_) (fun hc2=>?_)
 rotate_left
 ·have hj8:j=8:=by have:=of_decide_eq_false hc2;omega
  subst hj8;rw[fF hJ] at hgk;refine run ?_;refine aF (k+1) ⟨hk5,fun l hl=>?_⟩;by_cases e:l=k
  ·subst e;exact hgk
  ·exact hK l bA4
 have hj8:j<8:=by have:=of_decide_eq_true hc2;omega
 have X7:f.toNat*8+j<H.ws.length:=by omega
 have hwc:=ak (hws.row X7);simp only[bJ5] at hwc;refine run ?_;have hwc':w.cell? ⟨bw,ow+(f*8+(j:Int)).toNat,none⟩=some (.int .u64 ((H.ws.getD (f.toNat*8+j) 0:Nat):Int)):=by rw[show (f*8+(j:Int)).toNat=f.toNat*8+j by omega];exact hwc
 refine az (fun wc hG=>KQ f vm.fr _ (hfr wc _ hG)) ?_;refine aC ?_
 have hB:(decide (0≤gV (fun t=>decide (t=f)) vm.fr)&&!decide (((H.ws.getD (f.toNat*8+j) 0:Nat):Int)=0))=!(!(xO vm.fr f&&!decide (H.ws.getD (f.toNat*8+j) 0=0))):=by
  rw[gG,bQ1];unfold xO
  congr 2
  rw[decide_eq_decide];omega
 refine ah _ rfl (fun hd2=>?_) (fun hd2=>?_)
 ·replace hd2:=hB.symm.trans hd2;rw[bI8] at hd2;rw[fZ hj8 hd2] at hgk;refine run ?_;refine fin1 ?_;exact congrArg Value.bool (fZ hk5 hgk).symm
 replace hd2:=hB.symm.trans hd2;rw[bJ7] at hd2;refine run ?_;refine aF (j+1) ⟨hj8,fun l hl=>?_⟩;by_cases e:l=j
 ·subst e;exact hd2
 ·exact hJ l bA4
end
section
attribute [local irreducible] Hy St Ops DH dI
structure HtD where
 frame:Int
 mid:Int
 r:Bool
 w:Bool
 x:Bool
 af:Bool
 ng:Bool
 soft:Int
 level:Int
deriving DecidableEq
def Yj:HtD:=⟨0,0,false,false,false,false,false,0,0⟩
instance : Inhabited HtD := ⟨Yj⟩
abbrev htV(h:HtD):Value:=.agg #[.int .i64 h.frame,.int .i64 h.mid,.bool h.r,.bool h.w,.bool h.x,.bool h.af,.bool h.ng,.int .i64 h.soft,.int .i64 h.level]
structure FtD where
 kind:Int
 stage:Int
 level:Int
 walk:Bool
 page:Int
deriving DecidableEq
def aM7:FtD:=⟨0,0,0,false,0⟩
instance : Inhabited FtD := ⟨aM7⟩
abbrev ftV(f:FtD):Value:=.agg #[.int .i64 f.kind,.int .i64 f.stage,.int .i64 f.level,.bool f.walk,.int .i64 f.page]
structure WlD where
 h:HtD
 f:FtD
 rd:List Int
deriving Inhabited
def dSt(ws:List Nat)(stage:Int)(p level:Nat):DsD:=zM stage level (ws.getD p 0)
theorem ag4(ws:List Nat)(stage:Int)(p level:Nat):(dSt ws stage p level).may stage level=true:=QG _ _ _
def ag5(n:Nat)(stage:Int)(page level:Nat)(d:DsD)(rd:List Int):WlD:=
 bif decide (d.kind=0) then ⟨Yj,⟨2,stage,level,false,page⟩,rd⟩
 else bif bJ n (d.frame+((page%au level:Nat):Int)) then ⟨⟨d.frame+((page%au level:Nat):Int),0,d.r,d.w,d.x,d.af,d.ng,d.soft,level⟩,aM7,rd⟩
 else ⟨Yj,⟨1,stage,level,false,page⟩,rd⟩
def wlk (ws : List Nat) (stage : Int) (page : Nat) : Nat → Nat → Int → List Int → WlD
  | 0, level, f, rd => ⟨Yj, ⟨2, stage, 3, false, page⟩, rd⟩
  | k + 1, level, f, rd => bif bJ ws.length f then
      (bif decide ((dSt ws stage (jk f level page) level).kind = 1) then wlk ws stage page k (level + 1) (dSt ws stage (jk f level page) level).frame (rd ++ [f])
       else ag5 ws.length stage page level (dSt ws stage (jk f level page) level) (rd ++ [f]))
    else ⟨Yj, ⟨1, stage, level, false, page⟩, rd⟩
def jW(ws:List Nat)(stage frame:Int)(page:Nat):WlD:=wlk ws stage page 4 0 frame []
theorem Jr(ws:List Nat)(hw:lT ws)(h:aA w v 1 (ws.map uV))(hn:ws.length<1000000)(stage:Int)(hs:stage=1∨stage=2)(frame:Int)(h0:0≤frame)(page:Nat)(hp:page≤4095):Fn Tryz.prog 57 [.agg #[v],.int .i64 stage,.int .i64 frame,.int .i64 (page:Int)].toArray w [] (fun u hn=>∃ v2 h2,u=.tuple #[htV (jW ws stage frame page).h,ftV (jW ws stage frame page).f,v2]∧Own 3 1 v2 h2 ((jW ws stage frame page).rd.map bY)∧aJ h2 hn):=by
 obtain⟨q,cap,rfl,hne,hle⟩:=h.opened;refine enter Tryz.func57 ?_;refine run ?_;intro B C D E
 have e4:∀ f:Int,0≤f→decide (f ≥ ((ws.length/8:Nat):Int))=!bJ ws.length f:=fun f hf=>by
  rw[bH4];simp[bJ];omega
 refine aK (σ:=Nat×Int×Value×Hp×List Int×Int) (fun s=>[(13,.int .i64 (s.1:Int)),(2,.int .i64 s.2.1),(11,s.2.2.1)]) (fun s=>⟨E,#[.int .i64 0,.int .i64 stage,.int .i64 s.2.2.2.2.2,.bool false,.int .i64 (page:Int)],131⟩::⟨D,#[.int .i64 0,.int .i64 0,.int .i64 0,.bool false,.int .i64 0],131⟩::⟨C,#[.int .i64 0,.int .i64 0,.bool false,.bool false,.bool false,.bool false,.bool false,.int .i64 0,.int .i64 0],129⟩::⟨B,#[.slice q ws.length cap],24⟩::s.2.2.2.1) (fun s=>s.1<4∧0≤s.2.1∧s.2.2.2.2.1.length=s.1∧wlk ws stage page (4-s.1) s.1 s.2.1 s.2.2.2.2.1=jW ws stage frame page∧Acc 3 1 s.2.2.1 s.2.2.2.1 (s.2.2.2.2.1.map bY)) (fun s=>4-s.1) (0,frame,.slice none 0 0,[],[],0) ⟨(by decide:0<4),h0,rfl,rfl,Acc.nil _ _⟩ ?_ (hh:=by exact aJ.refl _);rintro⟨level,f,v2,ha,rd,lv⟩ m hm ⟨hl,hf0,hrd,hwk,hA⟩;dsimp only at hm hl hf0 hrd hwk hA ⊢;obtain⟨q2,cap2,rfl⟩:=hA.own.opened;refine run ?_;refine ah _ rfl (fun hc=>?_) (fun hc=>absurd hc bA');refine run ?_;refine az (fun wc hG=>o9 ws.length cap bA4 q wc) ?_;refine run ?_;have h4:4-level=(3-level)+1:=by omega
 rw[h4,wlk] at hwk;have e5:=e4 f hf0;refine ah _ rfl (fun hc=>?_) (fun hc=>?_)
 ·have hh:bJ ws.length f=false:=by simpa using e5.symm.trans hc
  rw[hh,cond_false] at hwk;rw[←hwk];refine run ?_;refine rC 5 3 [0,1,2] [3,4] (⟨E,#[.int .i64 1,.int .i64 stage,.int .i64 (level:Int),.bool false,.int .i64 (page:Int)],131⟩::⟨B,#[.slice q ws.length cap],24⟩::ha) ?_;refine kW ?_;refine jg (b:=C) (tb:=129) (cs:=#[.int .i64 0,.int .i64 0,.bool false,.bool false,.bool false,.bool false,.bool false,.int .i64 0,.int .i64 0]) (cs':=#[.int .i64 0,.int .i64 0,.bool false,.bool false,.bool false,.bool false,.bool false,.int .i64 0,.int .i64 0]) (hp':=⟨E,#[.int .i64 1,.int .i64 stage,.int .i64 (level:Int),.bool false,.int .i64 (page:Int)],131⟩::⟨D,#[.int .i64 0,.int .i64 0,.int .i64 0,.bool false,.int .i64 0],131⟩::⟨B,#[.slice q ws.length cap],24⟩::ha) ?_ aT;refine jg (b:=D) (tb:=131) (cs:=#[.int .i64 0,.int .i64 0,.int .i64 0,.bool false,.int .i64 0]) (cs':=#[.int .i64 1,.int .i64 stage,.int .i64 (level:Int),.bool false,.int .i64 (page:Int)]) (hp':=⟨C,#[.int .i64 0,.int .i64 0,.bool false,.bool false,.bool false,.bool false,.bool false,.int .i64 0,.int .i64 0],129⟩::⟨E,#[.int .i64 1,.int .i64 stage,.int .i64 (level:Int),.bool false,.int .i64 (page:Int)],131⟩::⟨B,#[.slice q ws.length cap],24⟩::ha) ?_ aT;refine dh ?_;refine kR ?_;refine run ?_;exact GG (cs:=#[.int .i64 0,.int .i64 0,.bool false,.bool false,.bool false,.bool false,.bool false,.int .i64 0,.int .i64 0]) (cs2:=#[.int .i64 1,.int .i64 stage,.int .i64 (level:Int),.bool false,.int .i64 (page:Int)]) ⟨_,ha,rfl,hA.own,by (exact aj)⟩
 ·have hh:bJ ws.length f=true:=by simpa using e5.symm.trans hc
  rw[hh,cond_true] at hwk;refine run ?_;intro T;refine dK (c:=bY f) (hp':=⟨T,#[.int .i64 f],3⟩::⟨E,#[.int .i64 0,.int .i64 stage,.int .i64 (level:Int),.bool false,.int .i64 (page:Int)],131⟩::⟨D,#[.int .i64 0,.int .i64 0,.int .i64 0,.bool false,.int .i64 0],131⟩::⟨C,#[.int .i64 0,.int .i64 0,.bool false,.bool false,.bool false,.bool false,.bool false,.int .i64 0,.int .i64 0],129⟩::[⟨B,#[.slice q ws.length cap],24⟩]) hA (fun v' ha' hA'=>?_) bA' (aY (m:=1) mh rfl) (hperm:=by (exact aT));rw[show rd.map bY++[bY f]=(rd++[f]).map bY by simp] at hA';obtain⟨q3,cap3,rfl⟩:=hA'.own.opened;refine aS (⟨E,#[.int .i64 0,.int .i64 stage,.int .i64 (level:Int),.bool false,.int .i64 (page:Int)],131⟩::⟨D,#[.int .i64 0,.int .i64 0,.int .i64 0,.bool false,.int .i64 0],131⟩::⟨C,#[.int .i64 0,.int .i64 0,.bool false,.bool false,.bool false,.bool false,.bool false,.int .i64 0,.int .i64 0],129⟩::⟨B,#[.slice q ws.length cap],24⟩::ha') aj ?_;refine run ?_;refine az (fun wc hG=>KR ws hw (h.good hG) stage hs level hl f hh page hp hn) ?_;rw[show zM stage level (ws.getD (jk f level page) 0)=dSt ws stage (jk f level page) level from rfl];have hmay:=ag4 ws stage (jk f level page) level;generalize dSt ws stage (jk f level page) level=d at hwk hmay;obtain⟨hkk,hk0,hk1,hk2⟩:=gI hmay;refine run ?_;intro X;refine run ?_;refine ah _ rfl (fun hc2=>?_) (fun hc2=>?_)
  ·have hd1:d.kind=1:=by simpa using hc2
   obtain⟨k1,k2,k3,k4⟩:=hk1 hd1;rw[hc2,cond_true] at hwk;refine run ?_;refine aF (level+1,d.frame,.slice q3 ((rd++[f]).map bY).length cap3,ha',rd++[f],(level:Int)) ⟨by dsimp only;omega,k2,by simp[hrd],by rw[←hwk,show 4-(level+1)=3-level by omega],hA'⟩ (hm:=by dsimp only;omega) (h2:=by (exact aj))
  rw[hc2,cond_false] at hwk;refine run ?_;refine ah _ rfl (fun hc3=>?_) (fun hc3=>?_)
  ·rw[ag5,hc3,cond_true] at hwk;rw[←hwk];refine run ?_;refine rC 5 3 [0,1,2] [3,4] (⟨E,#[.int .i64 2,.int .i64 stage,.int .i64 (level:Int),.bool false,.int .i64 (page:Int)],131⟩::⟨X,#[.int .i64 d.kind,.int .i64 d.frame,.bool d.r,.bool d.w,.bool d.x,.bool d.af,.bool d.ng,.int .i64 d.soft,.int .i64 d.note],95⟩::⟨B,#[.slice q ws.length cap],24⟩::ha') ?_;refine kW ?_;refine jg (b:=C) (tb:=129) (cs:=#[.int .i64 0,.int .i64 0,.bool false,.bool false,.bool false,.bool false,.bool false,.int .i64 0,.int .i64 0]) (cs':=#[.int .i64 0,.int .i64 0,.bool false,.bool false,.bool false,.bool false,.bool false,.int .i64 0,.int .i64 0]) (hp':=⟨E,#[.int .i64 2,.int .i64 stage,.int .i64 (level:Int),.bool false,.int .i64 (page:Int)],131⟩::⟨D,#[.int .i64 0,.int .i64 0,.int .i64 0,.bool false,.int .i64 0],131⟩::⟨X,#[.int .i64 d.kind,.int .i64 d.frame,.bool d.r,.bool d.w,.bool d.x,.bool d.af,.bool d.ng,.int .i64 d.soft,.int .i64 d.note],95⟩::⟨B,#[.slice q ws.length cap],24⟩::ha') ?_ aT;refine jg (b:=D) (tb:=131) (cs:=#[.int .i64 0,.int .i64 0,.int .i64 0,.bool false,.int .i64 0]) (cs':=#[.int .i64 2,.int .i64 stage,.int .i64 (level:Int),.bool false,.int .i64 (page:Int)]) (hp':=⟨C,#[.int .i64 0,.int .i64 0,.bool false,.bool false,.bool false,.bool false,.bool false,.int .i64 0,.int .i64 0],129⟩::⟨E,#[.int .i64 2,.int .i64 stage,.int .i64 (level:Int),.bool false,.int .i64 (page:Int)],131⟩::⟨X,#[.int .i64 d.kind,.int .i64 d.frame,.bool d.r,.bool d.w,.bool d.x,.bool d.af,.bool d.ng,.int .i64 d.soft,.int .i64 d.note],95⟩::⟨B,#[.slice q ws.length cap],24⟩::ha') ?_ aT;refine dh ?_;refine kR ?_;refine run ?_;exact GG (cs:=#[.int .i64 0,.int .i64 0,.bool false,.bool false,.bool false,.bool false,.bool false,.int .i64 0,.int .i64 0]) (cs2:=#[.int .i64 2,.int .i64 stage,.int .i64 (level:Int),.bool false,.int .i64 (page:Int)]) ⟨_,ha',rfl,hA'.own,by (exact aj)⟩
  have hd2:d.kind=2:=by simp at hc2 hc3;omega
  obtain⟨k1,k2,k3,k4,k5⟩:=hk2 hd2;have hcv:=fK hl;have hmod:=bU' page (show 0<au level by omega);rw[ag5,hc3,cond_false] at hwk;refine run ?_;refine di ?_;refine dF ?_;refine fB (fun wc hG=>o8 level hl wc) ?_;refine NI (uJ rfl rfl page (au level) rfl rfl bA4) ?_;refine dF ?_;refine run ?_;have e6:=e4 (d.frame+((page%au level:Nat):Int)) bA4;refine az (fun wc hG=>o9 ws.length cap bA4 q wc) ?_;refine run ?_;refine ah _ rfl (fun hc4=>?_) (fun hc4=>?_)
  ·have hh2:bJ ws.length (d.frame+((page%au level:Nat):Int))=false:=by simpa using e6.symm.trans hc4
   rw[hh2,cond_false] at hwk;rw[←hwk];refine run ?_;refine rC 5 3 [0,1,2] [3,4] (⟨E,#[.int .i64 1,.int .i64 stage,.int .i64 (level:Int),.bool false,.int .i64 (page:Int)],131⟩::⟨X,#[.int .i64 d.kind,.int .i64 d.frame,.bool d.r,.bool d.w,.bool d.x,.bool d.af,.bool d.ng,.int .i64 d.soft,.int .i64 d.note],95⟩::⟨B,#[.slice q ws.length cap],24⟩::ha') ?_;refine kW ?_;refine jg (b:=C) (tb:=129) (cs:=#[.int .i64 0,.int .i64 0,.bool false,.bool false,.bool false,.bool false,.bool false,.int .i64 0,.int .i64 0]) (cs':=#[.int .i64 0,.int .i64 0,.bool false,.bool false,.bool false,.bool false,.bool false,.int .i64 0,.int .i64 0]) (hp':=⟨E,#[.int .i64 1,.int .i64 stage,.int .i64 (level:Int),.bool false,.int .i64 (page:Int)],131⟩::⟨D,#[.int .i64 0,.int .i64 0,.int .i64 0,.bool false,.int .i64 0],131⟩::⟨X,#[.int .i64 d.kind,.int .i64 d.frame,.bool d.r,.bool d.w,.bool d.x,.bool d.af,.bool d.ng,.int .i64 d.soft,.int .i64 d.note],95⟩::⟨B,#[.slice q ws.length cap],24⟩::ha') ?_ aT;refine jg (b:=D) (tb:=131) (cs:=#[.int .i64 0,.int .i64 0,.int .i64 0,.bool false,.int .i64 0]) (cs':=#[.int .i64 1,.int .i64 stage,.int .i64 (level:Int),.bool false,.int .i64 (page:Int)]) (hp':=⟨C,#[.int .i64 0,.int .i64 0,.bool false,.bool false,.bool false,.bool false,.bool false,.int .i64 0,.int .i64 0],129⟩::⟨E,#[.int .i64 1,.int .i64 stage,.int .i64 (level:Int),.bool false,.int .i64 (page:Int)],131⟩::⟨X,#[.int .i64 d.kind,.int .i64 d.frame,.bool d.r,.bool d.w,.bool d.x,.bool d.af,.bool d.ng,.int .i64 d.soft,.int .i64 d.note],95⟩::⟨B,#[.slice q ws.length cap],24⟩::ha') ?_ aT;refine dh ?_;refine kR ?_;refine run ?_;exact GG (cs:=#[.int .i64 0,.int .i64 0,.bool false,.bool false,.bool false,.bool false,.bool false,.int .i64 0,.int .i64 0]) (cs2:=#[.int .i64 1,.int .i64 stage,.int .i64 (level:Int),.bool false,.int .i64 (page:Int)]) ⟨_,ha',rfl,hA'.own,by (exact aj)⟩
  have hh2:bJ ws.length (d.frame+((page%au level:Nat):Int))=true:=by simpa using e6.symm.trans hc4
  rw[hh2,cond_true] at hwk;rw[←hwk];refine run ?_;exact GG (cs:=#[.int .i64 (d.frame+((page%au level:Nat):Int)),.int .i64 0,.bool d.r,.bool d.w,.bool d.x,.bool d.af,.bool d.ng,.int .i64 d.soft,.int .i64 (level:Int)]) (cs2:=#[.int .i64 0,.int .i64 0,.int .i64 0,.bool false,.int .i64 0]) ⟨_,ha',rfl,hA'.own,by (exact aj)⟩
end
section
attribute [local irreducible] Hy St Ops DH dI jl iR gX DS iw lV
def HyD.kV(H:HyD)(aO:Int):Nat→Int
 | 0=>bif decide (aO=0) then 0 else -1
 | k+1=>bif decide (0<aO)&&(H.vu k).live&&decide ((H.vu k).aO=aO) then (H.vu k).root else H.kV aO k
def wkM(L:WlD)(e:fG):Bool:=decide (L.f.kind=0)&&decide (L.h.frame=e.frame)&&(decide (L.h.r=e.r)&&decide (L.h.w=e.w)&&decide (L.h.x=e.x)&&decide (L.h.af=e.af)&&decide (L.h.ng=e.ng)&&decide (0=e.soft))
def wkW(L:WlD)(e:fG):Bool:=decide (L.f.kind=0)&&decide (L.h.frame=e.frame)&&(L.h.r||!e.r)&&(L.h.w||!e.w)&&(L.h.x||!e.x)
def Zm(L:WlD)(e:fG):Bool:=decide (L.f.kind=0)&&decide (L.h.frame=e.frame)&&L.h.r
def HyD.Yk(H:HyD)(e:fG):Bool:=
 bif decide (H.kV e.aO 4<0) then false
 else bif decide (e.kind=2) then wkM (jW H.ws 2 (H.kV e.aO 4) e.page.toNat) e
 else bif decide (e.kind=1) then wkW (jW H.ws 2 (H.kV e.aO 4) e.mid.toNat) e
 else (List.range 64).any fun m=>Zm (jW H.ws 2 (H.kV e.aO 4) m) e
theorem zq(h:H.NM i=true)(hl:(H.vu i).live=true):(H.vu i).fs.length=5∧(1≤(H.vu i).aO∧(H.vu i).aO≤15)∧(∀ k,k<5→bJ H.ws.length ((H.vu i).fs.getD k 0)=true∧(0<k→(H.vu i).fs.getD k 0=(H.vu i).fs.getD (k-1) 0+1)):=by
 unfold HyD.NM at h;rw[hl] at h;simp only[bJ3,cond_false,bG8,decide_eq_true_eq,PtD.cZ] at h;refine⟨h.1.1,h.1.2,fun k hk=>?_⟩;have:=aI.1 h.2.1 k hk;unfold kM.chain at this;simp only[bG8,bI9,decide_eq_true_eq] at this;exact⟨this.1,fun h0=>by rcases this.2 with h1 | h1;omega;exact h1⟩
set_option maxHeartbeats 2000000 in
theorem Yl{vv rv:Value}(h:vw w wv cv vv rv H)(hok:H.iq=true)(hfr:∀ i,i<4→H.NM i=true)(e:fG)(he:e.nums=true):Fn Tryz.prog 30 [.agg #[wv,cv,vv,rv],.agg (iC e).toArray].toArray w [] (fun u _=>u=.bool (H.Yk e)):=by
 have h':=h;have hL:=jv hok;have rZ:=bP hL.m;have hfit:=h.fit;obtain⟨cs,vs,e1,e2,_,hH⟩:=h.ex;have hvl:vs.length=4:=by rw[←hL.v,←e2,bG9]
 have hws:=hH.ws;obtain⟨q,cap,rfl,hne,_⟩:=hws.opened;obtain⟨q2,cap2,rfl,hne2,_⟩:=hH.cs.rows.opened;have hop:=hH.vs.rows.opened;rw[hvl] at hop;obtain⟨q3,cap3,rfl,jI,_⟩:=hop;obtain⟨b3,o3,rfl⟩:=jI bB';obtain⟨q4,cap4,rfl,oQ,_⟩:=hH.rs.opened;have hr0:0≤H.kV e.aO 4∨H.kV e.aO 4<0:=by omega
 refine enter Tryz.func30 ?_;refine run ?_;intro B E;refine LY ?_;refine sG (σ:=Int) (fun z=>[(5,.int .i64 z)]) (fun _=>[⟨E,(iC e).toArray,80⟩,⟨B,#[.slice q H.ws.length cap,.slice q2 cs.length cap2,.slice (some ⟨b3,o3,none⟩) 4 cap3,.slice q4 H.rs.length cap4],29⟩]) (fun z=>z=H.kV e.aO 0) ?_ ?_
 ·refine ah _ rfl (fun hd=>?_) (fun hd=>?_)
  ·refine run ?_;exact kZ 0 (by unfold HyD.kV;rw[hd];rfl)
  ·refine run ?_;exact kZ (-1) (by unfold HyD.kV;rw[hd];rfl)
 rintro z hz;refine run ?_;refine aK (σ:=Nat×Int) (fun s=>[(6,.int .i64 (s.1:Int)),(5,.int .i64 s.2)]) (fun _=>[⟨E,(iC e).toArray,80⟩,⟨B,#[.slice q H.ws.length cap,.slice q2 cs.length cap2,.slice (some ⟨b3,o3,none⟩) 4 cap3,.slice q4 H.rs.length cap4],29⟩]) (fun s=>s.1≤4∧s.2=H.kV e.aO s.1) (fun s=>4-s.1) (0,z) ⟨bH3 _,hz⟩ ?_;rintro⟨k,z1⟩ m hm ⟨hk,hz1⟩;dsimp only at hm hk hz1 ⊢;refine run ?_;refine ah _ rfl (fun hc=>?_) (fun hc=>?_)
 ·have hk4:k<4:=by have:=of_decide_eq_true hc;omega
  have hr:=hH.vs.rows.row (k:=k) bA4;have hfs:=hH.vs.fs _ (getD_mem (l:=vs) (k:=k) bA4);have hu:=rM e2 k;rw[show H.vs.getD k default=H.vu k from rfl] at hu
  have hrs:H.kV e.aO (k+1)=bif decide (0<e.aO)&&(vs.getD k default).live&&decide ((vs.getD k default).aO=e.aO) then (vs.getD k default).fs.getD 0 0 else z1:=by
   rw[hz1];show (bif decide (0<e.aO)&&(H.vu k).live&&decide ((H.vu k).aO=e.aO) then (H.vu k).root else H.kV e.aO k)=_;rw[←hu];rfl
  have hlf:(vs.getD k default).live=true→(vs.getD k default).fs.length=5:=fun hl=>by
   have:=(zq (hfr k hk4) (by rw[←hu];exact hl)).1;rw[←hu] at this;exact this
  generalize vs.getD k default=v at hr hfs hrs hlf;obtain⟨qf,cf,ef,rP,_⟩:=hfs.opened;have ho1:=ak (show w.rangeAt b3 (o3+k*6) [.bool v.live] from aV (k:=0) (n:=1) hr rfl);have ho2:=ak (show w.rangeAt b3 (o3+k*6+2) [.int .i64 v.aO] from aV (k:=2) (n:=1) hr rfl);have ho3:=ak (show w.rangeAt b3 (o3+k*6+3) [v.fv] from aV (k:=3) (n:=1) hr rfl);refine run ?_;refine di ?_;refine aZ ?_;refine run ?_;refine ah _ rfl (fun hd=>?_) (fun hd=>?_)
  ·rw[hd,cond_true] at hrs;have hl:v.live=true:=by simp only[bG8] at hd;exact hd.1.2
   have h5:=hlf hl;obtain⟨bf,BI,rfl⟩:=rP bE7;rw[ef] at ho3 hfs;have hr0:=ak (hfs.row (k:=0) bA4);simp only[bJ5,bQ6,bK6] at hr0;refine run ?_;exact aF (k+1,_) ⟨hk4,hrs.symm⟩ (hm:=by dsimp only;omega)
  ·rw[hd,cond_false] at hrs;refine run ?_;exact aF (k+1,z1) ⟨hk4,hrs.symm⟩ (hm:=by dsimp only;omega)
 have hk4:k=4:=by have:=of_decide_eq_false hc;omega
 subst hk4;refine run ?_;unfold HyD.Yk;rw[←hz1];refine ah _ rfl (fun hd=>?_) (fun hd=>?_)
 ·rw[hd];refine run ?_;exact fin1 rfl
 rw[hd,cond_false];have hz0:0≤z1:=by have:=of_decide_eq_false hd;omega
 unfold fG.nums at he;simp only[bG8,PtD.cZ,decide_eq_true_eq] at he;obtain⟨p,hp⟩:∃ p:Nat,e.page=(p:Int):=⟨e.page.toNat,by omega⟩
 obtain⟨m9,hm9⟩:∃ p:Nat,e.mid=(p:Int):=⟨e.mid.toNat,by omega⟩
 refine run ?_;refine ah _ rfl (fun hk2=>?_) (fun hk2=>?_)
 ·rw[hk2,cond_true];refine run ?_;rw[hp];refine bH (fun wc hG=>Jr H.ws hH.Df (hws.good hG) bA4 2 (.inr rfl) z1 hz0 p bA4) ?_;rintro _ hn ⟨v2,h2,rfl,hO2,hle⟩;obtain⟨q6,c6,e6⟩:=hO2.opened;subst e6;rw[bM3];generalize jW H.ws 2 z1 p=L;refine aS [⟨E,(iC e).toArray,80⟩,⟨B,#[.slice q H.ws.length cap,.slice q2 cs.length cap2,.slice (some ⟨b3,o3,none⟩) 4 cap3,.slice q4 H.rs.length cap4],29⟩] aj ?_;refine run ?_;intro XB FB AB;refine aC ?_;refine fin1 ?_
  have:aW [.bool L.h.r,.bool L.h.w,.bool L.h.x,.bool L.h.af,.bool L.h.ng,.int .i64 0] [.bool e.r,.bool e.w,.bool e.x,.bool e.af,.bool e.ng,.int .i64 e.soft]=(decide (L.h.r=e.r)&&decide (L.h.w=e.w)&&decide (L.h.x=e.x)&&decide (L.h.af=e.af)&&decide (L.h.ng=e.ng)&&decide (0=e.soft)):=by
   rw[bH4];simp[aW,iH,and_assoc]
  unfold wkM;rw[←this]
 rw[hk2,cond_false];refine run ?_;refine ah _ rfl (fun hk1=>?_) (fun hk1=>?_)
 ·rw[hk1,cond_true];refine run ?_;rw[hm9];refine bH (fun wc hG=>Jr H.ws hH.Df (hws.good hG) bA4 2 (.inr rfl) z1 hz0 m9 bA4) ?_;rintro _ hn ⟨v2,h2,rfl,hO2,hle⟩;obtain⟨q6,c6,e6⟩:=hO2.opened;subst e6;rw[bM3];generalize jW H.ws 2 z1 m9=L;refine aS [⟨E,(iC e).toArray,80⟩,⟨B,#[.slice q H.ws.length cap,.slice q2 cs.length cap2,.slice (some ⟨b3,o3,none⟩) 4 cap3,.slice q4 H.rs.length cap4],29⟩] aj ?_;refine run ?_;intro XB FB;refine aC ?_;refine fin1 ?_;rfl
 rw[hk1,cond_false];refine run ?_;refine aK (σ:=Nat) (fun k=>[(14,.int .i64 (k:Int))]) (fun _=>[⟨E,(iC e).toArray,80⟩,⟨B,#[.slice q H.ws.length cap,.slice q2 cs.length cap2,.slice (some ⟨b3,o3,none⟩) 4 cap3,.slice q4 H.rs.length cap4],29⟩]) (fun k=>k≤64∧∀ j,j<k→Zm (jW H.ws 2 z1 j) e=false) (fun k=>64-k) 0 ⟨bH3 _,fun j hj=>absurd hj (bK2 _)⟩ ?_;rintro k m2 hm2 ⟨hk6,hK⟩;refine run ?_;refine ah _ rfl (fun hc4=>?_) (fun hc4=>?_)
 rotate_left
 ·have h64:k=64:=by have:=of_decide_eq_false hc4;omega
  subst h64;refine run ?_;refine fin1 ?_;rw[show ((List.range 64).any fun m=>Zm (jW H.ws 2 z1 m) e)=false by rw[←bK',bL'];rintro⟨x,hx,h1⟩;rw[hK x (bI2.1 hx)] at h1;cases h1]
 have h64:k<64:=by have:=of_decide_eq_true hc4;omega
 have hyes:Zm (jW H.ws 2 z1 k) e=true→((List.range 64).any fun m=>Zm (jW H.ws 2 z1 m) e)=true:=fun h1=>bL'.2 ⟨k,bI2.2 h64,h1⟩
 have hno:Zm (jW H.ws 2 z1 k) e=false→∀ j,j<k+1→Zm (jW H.ws 2 z1 j) e=false:=fun h1 j hj=>by
  by_cases e9:j=k
  ·subst e9;exact h1
  ·exact hK j bA4
 refine run ?_;refine bH (fun wc hG=>Jr H.ws hH.Df (hws.good hG) bA4 2 (.inr rfl) z1 hz0 k bA4) ?_;rintro _ hn ⟨v2,h2,rfl,hO2,hle⟩;obtain⟨q6,c6,e6⟩:=hO2.opened;subst e6;generalize jW H.ws 2 z1 k=L at hyes hno;refine aS [⟨E,(iC e).toArray,80⟩,⟨B,#[.slice q H.ws.length cap,.slice q2 cs.length cap2,.slice (some ⟨b3,o3,none⟩) 4 cap3,.slice q4 H.rs.length cap4],29⟩] aj ?_;refine run ?_;intro XB FB;refine aC ?_;refine ah _ rfl (fun hd4=>?_) (fun hd4=>?_)
 ·refine run ?_;refine fin1 ?_;rw[hyes hd4]
 ·refine run ?_;exact aF (k+1) ⟨h64,hno hd4⟩ (h2:=by (exact aj))
theorem PS{vv rv:Value}(h:vw w wv cv vv rv H):Fn Tryz.prog 23 [.agg #[wv,cv,vv,rv]].toArray w [] (fun u _=>u=.bool H.iq):=by
 have hfit:=h.fit;obtain⟨cs,vs,e1,e2,_,hH⟩:=h.ex;have hvl:vs.length=H.vs.length:=by rw[←e2,bG9]
 have hcl:cs.length=H.cs.length:=by rw[←e1,bG9]
 have hws:=hH.ws;obtain⟨q,cap,rfl,hne,_⟩:=hws.opened;have FX:=hH.cs.rows.opened;rw[hcl] at FX;obtain⟨q2,cap2,rfl,hne2,_⟩:=FX;have hop:=hH.vs.rows.opened;rw[hvl] at hop;obtain⟨q3,cap3,rfl,jI,_⟩:=hop;obtain⟨q4,cap4,rfl,oQ,_⟩:=hH.rs.opened;have hl:=hfit.l;refine enter Tryz.func23 ?_;refine run ?_;intro B;refine run ?_;refine az (fun wc hG=>av6 H.ws.length cap q wc) ?_;refine aC ?_;refine bG (fun hg wc hG=>o9 H.ws.length cap bA4 q wc) ?_;refine aC ?_;refine fin1 ?_;unfold HyD.iq;have e1:decide (((H.ws.length/8:Nat):Int) ≥ 24)=decide (24≤H.ws.length/8):=by rw[decide_eq_decide];omega
 have e2:decide ((H.cs.length:Int) ≥ 1)=decide (1≤H.cs.length):=by rw[decide_eq_decide];omega
 have e3:decide ((H.cs.length:Int)≤3)=decide (H.cs.length≤3):=by rw[decide_eq_decide];omega
 have e4:decide ((H.rs.length:Int)=(H.cs.length:Int))=decide (H.rs.length=H.cs.length):=by rw[decide_eq_decide];omega
 have e5:decide ((H.vs.length:Int)=4)=decide (H.vs.length=4):=by rw[decide_eq_decide];omega
 rw[←e1,←e2,←e3,←e4,←e5];simp only[bO5]
def HyD.vK(H:HyD)(k:Nat):Bool:=decide (H.ws.getD k 0=(qh (H.ws.length/8*8) (dw H.aG.pages) 64).ws.getD k 0)
def HyD.guK(H:HyD)(i:Nat):Bool:=!((H.vu i).live&&!H.guR H.aG i)
def HyD.cpR(H:HyD)(c:Nat):Bool:=!(decide ((H.cu c).vm=0)&&!decide (H.rs.getD c default=jb)||!dQ (H.cu c).es (H.cu c).ds)&&(H.cu c).es.all H.Yk
def HyD.ag8(H:HyD):Bool:=H.iq&&(allB 4 H.NM&&(H.aG.DV&&(allB 88 H.vK&&(allB 4 H.guK&&allB H.cs.length H.cpR))))
set_option maxHeartbeats 4000000 in
theorem az6{vv rv:Value}(h:vw w wv cv vv rv H):Fn Tryz.prog 14 [.agg #[wv,cv,vv,rv]].toArray w [] (fun u _=>u=.bool H.ag8):=by
 have h':=h;have hfit:=h.fit;obtain⟨cs,vs,e1,e2,_,hH⟩:=h.ex;have hvl:vs.length=H.vs.length:=by rw[←e2,bG9]
 have hcl:cs.length=H.cs.length:=by rw[←e1,bG9]
 have hws:=hH.ws;obtain⟨q,cap,rfl,hne,_⟩:=hws.opened;have FX:=hH.cs.rows.opened;rw[hcl] at FX;obtain⟨q2,cap2,rfl,hne2,_⟩:=FX;have hop:=hH.vs.rows.opened;rw[hvl] at hop;obtain⟨q3,cap3,rfl,jI,_⟩:=hop;obtain⟨q4,cap4,rfl,oQ,_⟩:=hH.rs.opened;unfold HyD.ag8;refine enter Tryz.func14 ?_;refine run ?_;intro B;refine run ?_;refine az (fun wc hG=>PS (h'.good hG)) ?_;refine run ?_;refine ah _ rfl (fun hd=>?_) (fun hd=>?_)
 ·rw[bI8] at hd;rw[hd];refine run ?_;exact fin1 rfl
 rw[bJ7] at hd;have hok:=hd;rw[hd,bH6];clear hd;have hL:=jv hok;have rZ:=bP hL.m;have h4:=hL.v;obtain⟨bw,ow,rfl⟩:=hne bE3;obtain⟨b3,o3,rfl⟩:=jI (by intro e;rw[e] at hvl;rw[h4] at hvl;cases hvl);obtain⟨b2,o2,rfl⟩:=hne2 (by intro e;rw[e] at hcl;have:=hL.c1;simp at hcl;omega);obtain⟨b4,o4,rfl⟩:=oQ (by intro e;have:=hL.r;have:=hL.c1;rw[e] at *;simp at *;omega);refine run ?_;refine aK (σ:=Nat) (fun k=>[(3,.int .i64 ((k:Int)+1))]) (fun _=>[⟨B,#[.slice (some ⟨bw,ow,none⟩) H.ws.length cap,.slice (some ⟨b2,o2,none⟩) H.cs.length cap2,.slice (some ⟨b3,o3,none⟩) H.vs.length cap3,.slice (some ⟨b4,o4,none⟩) H.rs.length cap4],29⟩]) (fun k=>k≤4∧∀ j,j<k→H.NM j=true) (fun k=>4-k) 0 ⟨bH3 _,fun j hj=>absurd hj (bK2 _)⟩ ?_;rintro k m hm ⟨hk,hK⟩;refine run ?_;refine ah _ rfl (fun hc=>?_) (fun hc=>?_)
 ·have hk4:k<4:=by have:=of_decide_eq_true hc;omega
  refine run ?_;refine az (fun wc hG=>PO (h'.good hG) hok k hk4) ?_;refine run ?_;refine ah _ rfl (fun hd=>?_) (fun hd=>?_)
  ·rw[bI8] at hd;rw[fZ hk4 hd];refine run ?_;exact fin1 rfl
  rw[bJ7] at hd;refine run ?_;refine aF (k+1) ⟨hk4,fun j hj=>?_⟩ (h1:=by rw[show ((k+1:Nat):Int)+1=(k:Int)+1+1 by omega];(repeat (first | exact True.intro | (refine And.intro bB4 ?_))));by_cases e:j=k
  ·subst e;exact hd
  ·exact hK j bA4
 have hk4:k=4:=by have:=of_decide_eq_false hc;omega
 subst hk4;rw[fF hK,bH6];have hFr:=hK;refine run ?_;refine bH (fun wc hG=>Jq (h'.good hG) hok) ?_;rintro _ hn ⟨p1,p2,p3,k1,k2,k3,n1,n2,n3,rfl,hP⟩;refine run ?_;intro Pb;refine run ?_;refine az (fun wc hG=>ae5 (hP wc (hG.lie fun e he=>by simp[he]))) ?_;refine run ?_;refine ah _ rfl (fun hd=>?_) (fun hd=>?_)
 ·rw[bI8] at hd;rw[hd];refine run ?_;exact fin1 rfl
 rw[bJ7] at hd;have hmay:=hd;rw[hd,bH6];clear hd;have hPl:H.aG.pages.length=H.ws.length/8:=by simp[HyD.aG]
 have aM8:H.aG.Len:=⟨by rw[hPl];exact hL.f,by omega,rfl,by have:=hL.c1;simpa [HyD.aG] using this,by have:=hL.c3;simpa [HyD.aG] using this⟩
 refine run ?_;have hPg:=fun (wc:World) (hp:Hp) (hG:Good w [] hp wc) (hs:∀ e∈hn,e∈hp)=>hP wc (hG.lie hs)
 have how:∀ a∈H.aG.pages,-1≤a.own∧a.own≤14:=fun a ha=>by
  obtain⟨x,_,rfl⟩:=bH9.1 ha;have:=(zn H x).1;omega
 have hKl:(qh (H.ws.length/8*8) (dw H.aG.pages) 64).ws.length=H.ws.length/8*8:=by rw[nX (by have:=hL.f;omega) _ 64 (bI0 _)];simp[dO]
 have aM9:∃ u hn,Xf (qh (H.ws.length/8*8) (dw H.aG.pages) 64).ws u hn:=by
  obtain⟨v,hh,hO⟩:=Je (e:=53) ((qh (H.ws.length/8*8) (dw H.aG.pages) 64).ws.map uV) (fun c hc=>by obtain⟨x,_,rfl⟩:=bH9.1 hc;exact⟨rfl,rfl⟩) (by rw[bG9,hKl];omega);exact⟨_,hh,v,hh,rfl,hO,aJ.refl _⟩
 refine Ec 8 7 [0,1,2,3,4] [5,6] [7] (⟨Pb,#[.slice p1 n1 k1,.slice p2 n2 k2,.slice p3 n3 k3],48⟩::(hn++[⟨B,#[.slice (some ⟨bw,ow,none⟩) H.ws.length cap,.slice (some ⟨b2,o2,none⟩) H.cs.length cap2,.slice (some ⟨b3,o3,none⟩) H.vs.length cap3,.slice (some ⟨b4,o4,none⟩) H.rs.length cap4],29⟩])) ?_;refine kW ?_;refine Ed (fun wc hx hG=>o9 H.ws.length cap bA4 (some ⟨bw,ow,none⟩) wc) ?_;refine kW ?_;refine kD (fun wc hG=>GR (H.ws.length/8) (by have:=hL.f;omega) bA4 H.aG.pages how (hPg wc _ hG (fun e he=>by simp[he])).pages) aM9 ?_;refine sQ ?_;refine kP ?_;rintro _ _ ⟨W,rfl,rfl⟩ _ hn2 ⟨tv,th,rfl,hT,hle⟩;obtain⟨q8,c8,e8⟩:=hT.opened;rw[bG9,hKl] at e8;subst e8;simp only[DN,bH2,bH5,bI3];refine WR ?_;refine dh ?_;refine kR ?_;have hwl:H.ws.length/8*8=H.ws.length:=rZ.2.2.1;have hwR:H.vK=fun k=>decide (H.ws.getD k 0=(qh (H.ws.length/8*8) (dw H.aG.pages) 64).ws.getD k 0):=rfl;rw[hwR];clear hwR aM9;generalize (qh (H.ws.length/8*8) (dw H.aG.pages) 64).ws=T at hT hKl;obtain⟨gT,cT,az7,eT,ehT,aM'⟩:=hT.row (n:=H.ws.length/8*8) (by rw[bG9,hKl]) (by have:=hL.f;omega);cases eT;subst ehT;refine aS (⟨W,#[.slice (some ⟨gT,0,none⟩) (H.ws.length/8*8) c8],24⟩::⟨gT,az7,53⟩::⟨Pb,#[.slice p1 n1 k1,.slice p2 n2 k2,.slice p3 n3 k3],48⟩::(hn++[⟨B,#[.slice (some ⟨bw,ow,none⟩) H.ws.length cap,.slice (some ⟨b2,o2,none⟩) H.cs.length cap2,.slice (some ⟨b3,o3,none⟩) H.vs.length cap3,.slice (some ⟨b4,o4,none⟩) H.rs.length cap4],29⟩])) (cnt1 hle) ?_;refine run ?_;refine aK (σ:=Nat) (fun k=>[(6,.int .i64 (k:Int))]) (fun _=>⟨W,#[.slice (some ⟨gT,0,none⟩) (H.ws.length/8*8) c8],24⟩::⟨gT,az7,53⟩::⟨Pb,#[.slice p1 n1 k1,.slice p2 n2 k2,.slice p3 n3 k3],48⟩::(hn++[⟨B,#[.slice (some ⟨bw,ow,none⟩) H.ws.length cap,.slice (some ⟨b2,o2,none⟩) H.cs.length cap2,.slice (some ⟨b3,o3,none⟩) H.vs.length cap3,.slice (some ⟨b4,o4,none⟩) H.rs.length cap4],29⟩])) (fun k=>k≤88∧∀ j,j<k→decide (H.ws.getD j 0=T.getD j 0)=true) (fun k=>88-k) 0 ⟨bH3 _,fun j hj=>absurd hj (bK2 _)⟩ ?_;rintro k m hm ⟨hk,hK⟩;have aZ3:=hL.f;refine run ?_;refine ah _ rfl (fun hc2=>?_) (fun hc2=>?_)
 ·have hk8:k<88:=by have:=of_decide_eq_true hc2;omega
  have hwc:=ak (hws.row (k:=k) bA4);simp only[bJ5] at hwc
  have hnT:nth az7.toList k=some (.int .u64 ((T.getD k 0:Nat):Int)):=by
   have:=aM'.nth (xs:=T.map uV) (by intro c hc;obtain⟨x,_,rfl⟩:=bH9.1 hc;rfl) (i:=k) (c:=uV (T.getD k 0)) bD2 (k:=0) (u:=.int .u64 ((T.getD k 0:Nat):Int)) rfl;simpa using this
  refine run ?_;refine di ?_;refine aZ ?_;refine run ?_;have hC:(!decide (((H.ws.getD k 0:Nat):Int)=((T.getD k 0:Nat):Int)))=!decide (H.ws.getD k 0=T.getD k 0):=by congr 1;rw[decide_eq_decide];omega
  refine ah _ rfl (fun hd=>?_) (fun hd=>?_)
  ·replace hd:=hC.symm.trans hd;rw[bI8] at hd;rw[fZ (p:=fun k=>decide (H.ws.getD k 0=T.getD k 0)) hk8 hd];refine run ?_;exact fin1 rfl
  replace hd:=hC.symm.trans hd;rw[bJ7] at hd;refine run ?_;refine aF (k+1) ⟨hk8,fun j hj=>?_⟩;by_cases e:j=k
  ·subst e;exact hd
  ·exact hK j bA4
 have hk8:k=88:=by have:=of_decide_eq_false hc2;omega
 subst hk8;rw[fF (p:=fun k=>decide (H.ws.getD k 0=T.getD k 0)) hK,bH6];refine run ?_;refine aK (σ:=Nat) (fun k=>[(7,.int .i64 ((k:Int)+1))]) (fun _=>⟨Pb,#[.slice p1 n1 k1,.slice p2 n2 k2,.slice p3 n3 k3],48⟩::(hn++[⟨B,#[.slice (some ⟨bw,ow,none⟩) H.ws.length cap,.slice (some ⟨b2,o2,none⟩) H.cs.length cap2,.slice (some ⟨b3,o3,none⟩) H.vs.length cap3,.slice (some ⟨b4,o4,none⟩) H.rs.length cap4],29⟩])) (fun k=>k≤4∧∀ j,j<k→H.guK j=true) (fun k=>4-k) 0 ⟨bH3 _,fun j hj=>absurd hj (bK2 _)⟩ ?_ (hh:=by (exact aj));rintro k m2 hm2 ⟨hk,hK2⟩;refine run ?_;refine ah _ rfl (fun hc3=>?_) (fun hc3=>?_)
 ·have hk4:k<4:=by have:=of_decide_eq_true hc3;omega
  have hr:=hH.vs.rows.row (k:=k) bA4;have hu:=rM e2 k;rw[show H.vs.getD k default=H.vu k from rfl] at hu
  have hgu:(H.vu k).live=true→∀ wc hp,Good w [] hp wc→(∀ e∈hn,e∈hp)→Fn Tryz.prog 28 [.agg #[.slice (some ⟨bw,ow,none⟩) H.ws.length cap,.slice (some ⟨b2,o2,none⟩) H.cs.length cap2,.slice (some ⟨b3,o3,none⟩) H.vs.length cap3,.slice (some ⟨b4,o4,none⟩) H.rs.length cap4],.agg #[.slice p1 n1 k1,.slice p2 n2 k2,.slice p3 n3 k3],.int .i64 ((k:Int)+1)].toArray wc [] (fun u _=>u=.bool (H.guR H.aG k)):=fun hl wc hp hG hs=>by
   obtain⟨h5,_,hch⟩:=zq (hFr k hk4) hl;refine Yi (h'.good hG) hok (hPg wc hp hG hs) aM8 k hk4 (fun f hf=>?_) h5;obtain⟨j,hj,rfl⟩:=bL6.1 hf;have:=(hch j bA4).1;rw[bG',bH0 hj] at this;exact this
  have hgk:H.guK k=!((vs.getD k default).live&&!H.guR H.aG k):=by unfold HyD.guK;rw[←hu];rfl
  have hgl:(vs.getD k default).live=(H.vu k).live:=by rw[←hu];rfl
  rw[←hgl] at hgu;clear hu hgl;generalize vs.getD k default=o at hr hgk hgu;have ho1:=ak (show w.rangeAt b3 (o3+k*6) [.bool o.live] from aV (k:=0) (n:=1) hr rfl);have hi1:((k:Int)+1-1).toNat=k:=by omega
  have bp1:w.cell? ⟨b3,o3+((k:Int)+1-1).toNat*6,none⟩=some (.bool o.live):=by rw[hi1];exact ho1
  refine run ?_;refine aC ?_;refine bG (fun hg wc hG=>hgu (Qd.1 hg) wc _ hG (fun e he=>by simp[he])) ?_;refine aC ?_;refine ah _ rfl (fun hd=>?_) (fun hd=>?_)
  ·rw[hd] at hgk;rw[fZ hk4 hgk];refine run ?_;exact fin1 rfl
  rw[hd] at hgk;refine run ?_;refine aF (k+1) ⟨hk4,fun j hj=>?_⟩ (h1:=by rw[show ((k+1:Nat):Int)+1=(k:Int)+1+1 by omega];(repeat (first | exact True.intro | (refine And.intro bB4 ?_))));by_cases e:j=k
  ·subst e;exact hgk
  ·exact hK2 j bA4
 have hk4:k=4:=by have:=of_decide_eq_false hc3;omega
 subst hk4;rw[fF hK2,bH6];refine run ?_;refine aK (σ:=Nat) (fun k=>[(8,.int .i64 (k:Int))]) (fun _=>⟨Pb,#[.slice p1 n1 k1,.slice p2 n2 k2,.slice p3 n3 k3],48⟩::(hn++[⟨B,#[.slice (some ⟨bw,ow,none⟩) H.ws.length cap,.slice (some ⟨b2,o2,none⟩) H.cs.length cap2,.slice (some ⟨b3,o3,none⟩) H.vs.length cap3,.slice (some ⟨b4,o4,none⟩) H.rs.length cap4],29⟩])) (fun k=>k≤H.cs.length∧∀ j,j<k→H.cpR j=true) (fun k=>H.cs.length-k) 0 ⟨bH3 _,fun j hj=>absurd hj (bK2 _)⟩ ?_ (hh:=by (exact aj));rintro k m3 QV ⟨hk,hK3⟩;refine run ?_;refine ah _ rfl (fun hc4=>?_) (fun hc4=>?_)
 rotate_left
 ·have hkC:k=H.cs.length:=by have:=of_decide_eq_false hc4;omega
  subst hkC;rw[fF hK3];refine run ?_;exact fin1 rfl
 have hlt:k<H.cs.length:=by have:=of_decide_eq_true hc4;omega
 have hr:=hH.cs.rows.row (k:=k) bA4;have hen:=hH.cs.en _ (getD_mem (l:=cs) (k:=k) bA4);have hiv:=hH.cs.iv _ (getD_mem (l:=cs) (k:=k) bA4);have hrr:=hH.rs.row (k:=k) (by rw[hL.r];exact hlt);have hlr:k<H.rs.length:=by rw[hL.r];exact hlt
 have Ue:=FK e1 k;have hcf:=hfit.c (H.cu k) (getD_mem hlt)
 have hck:H.cpR k=(!(decide ((cs.getD k default).vm=0)&&!decide (H.rs.getD k default=jb)||!dQ (cs.getD k default).t.es (cs.getD k default).t.ds)&&(cs.getD k default).t.es.all H.Yk):=by
  unfold HyD.cpR HyD.cu;rw[←Ue];rfl
 rw[show H.cu k=H.cs.getD k default from rfl,←Ue] at hcf;clear Ue;generalize cs.getD k default=c at hr hen hiv hck hcf;generalize H.rs.getD k default=r at hrr hck;simp only[jK.u] at hcf;rw[←OO] at hck;obtain⟨qe,ce,ee,aZ4,_⟩:=hen.opened;obtain⟨qd,cd,ed,_,_⟩:=hiv.opened;rw[ee] at hen;rw[ed] at hiv;have hv1:=ak (show w.rangeAt b2 (o2+k*19+15) [.int .i64 c.vm] from aV (k:=15) (n:=1) hr rfl);have hv3:w.rangeAt b2 (o2+k*19+17) [.slice qe c.t.es.length ce,.slice qd c.t.ds.length cd]:=by rw[←ee,←ed];exact aV (k:=17) (n:=2) hr rfl
 have hv4:=ak (aV (k:=0) (n:=1) hv3 rfl);simp only[bK6] at hv4;refine run ?_;refine aC ?_;refine bG (fun hg wc hG=>aw7 c.t.es c.t.ds _ _ (hen.good hG) (hiv.good hG)) ?_;refine aC ?_;refine ah _ rfl (fun hd=>?_) (fun hd=>?_)
 ·rw[show (decide (c.vm=0)&&!aW (jc r) (jc jb)||!dQ c.t.es c.t.ds)=true from hd] at hck;rw[fZ hlt (by rw[hck];rfl)];refine run ?_;exact fin1 rfl
 rw[show (decide (c.vm=0)&&!aW (jc r) (jc jb)||!dQ c.t.es c.t.ds)=false from hd] at hck;rw[bK3,bH6] at hck
 have htb:dQ c.t.es c.t.ds=true:=by
  have h2:=(bJ9.1 hd).2;simpa using h2
 refine run ?_;refine aK (σ:=Nat) (fun k=>[(9,.int .i64 (k:Int))]) (fun _=>⟨Pb,#[.slice p1 n1 k1,.slice p2 n2 k2,.slice p3 n3 k3],48⟩::(hn++[⟨B,#[.slice (some ⟨bw,ow,none⟩) H.ws.length cap,.slice (some ⟨b2,o2,none⟩) H.cs.length cap2,.slice (some ⟨b3,o3,none⟩) H.vs.length cap3,.slice (some ⟨b4,o4,none⟩) H.rs.length cap4],29⟩])) (fun j=>j≤c.t.es.length∧∀ l,l<j→H.Yk (c.t.es.getD l default)=true) (fun j=>c.t.es.length-j) 0 ⟨bH3 _,fun j hj=>absurd hj (bK2 _)⟩ ?_;rintro j m4 hm4 ⟨hj,hK4⟩;refine run ?_;refine ah _ rfl (fun hc5=>?_) (fun hc5=>?_)
 rotate_left
 ·have hje:j=c.t.es.length:=by have:=of_decide_eq_false hc5;omega
  subst hje
  have hall:c.t.es.all H.Yk=true:=bH1.2 fun e he=>by
   obtain⟨l,hl,rfl⟩:=bL6.1 he;have:=hK4 l hl;rw[bG',bH0 hl] at this;exact this
  rw[hall] at hck;refine run ?_;refine aF (k+1) ⟨hlt,fun l hl=>?_⟩;by_cases e:l=k
  ·subst e;exact hck
  ·exact hK3 l bA4
 have hjl:j<c.t.es.length:=by have:=of_decide_eq_true hc5;omega
 obtain⟨be,oe,rfl⟩:=aZ4 bF';have hrj:=hen.row hjl
 have hnum:(c.t.es.getD j default).nums=true:=by
  have h2:=htb;unfold dQ at h2;simp only[bG8] at h2;have h3:=bH1.1 h2.1.1.1 j (bI2.2 hjl);unfold Az fG.may at h3;simp only[bG8] at h3;exact h3.1.1
 have hno:H.Yk (c.t.es.getD j default)=false→c.t.es.all H.Yk=false:=fun h1=>by
  rw[←bK',bH1];intro h2;rw[h2 _ (getD_mem hjl)] at h1;cases h1
 have hso:=fun (wc:World) (hp:Hp) (hG:Good w [] hp wc)=>Yl (h'.good hG) hok hFr (c.t.es.getD j default) hnum;generalize he9:c.t.es.getD j default=e at hrj hnum hno hso;refine run ?_;refine di ?_;refine dF ?_;refine fB (fun wc hG=>hso wc _ hG) ?_;refine dF ?_;refine run ?_;refine ah _ rfl (fun hd5=>?_) (fun hd5=>?_)
 ·rw[bI8] at hd5;rw[hno hd5] at hck;rw[fZ hlt hck];refine run ?_;exact fin1 rfl
 rw[bJ7] at hd5;refine run ?_;refine aF (j+1) ⟨hjl,fun l hl=>?_⟩;by_cases e9:l=j
 ·subst e9;rw[he9];exact hd5
 ·exact hK4 l bA4
end
theorem Hg(pages:List o6):∀ lv,lv<4→∀ tb,tb<kU lv→∀ a,a<8→(kJ pages lv tb a).word 2 lv=iQ (dw pages) 64 ((lv+tb)*8+a):=by
 intro lv hl tb ht a ha;unfold kU at ht;have h64:decide ((64:Nat)=0)=false:=by decide
 by_cases h3:lv=3
 ·subst h3;rw[if_pos rfl] at ht;unfold kJ iQ;rw[decide_eq_true rfl,h64,decide_eq_false (show ¬ (3+tb)*8+a=0 by omega),decide_eq_false (show ¬ (3+tb)*8+a=8 by omega),decide_eq_false (show ¬ (16≤(3+tb)*8+a∧(3+tb)*8+a<24∧8*((3+tb)*8+a-16)<64) by omega),decide_eq_true (show 24≤(3+tb)*8+a∧(3+tb)*8+a<24+64 by omega)];simp only[cond_true,cond_false];rw[show (3+tb)*8+a-24=tb*8+a by omega]
 ·rw[if_neg h3] at ht;obtain rfl:tb=0:=by omega
  unfold kJ iQ;rw[decide_eq_false h3,h64];simp only[cond_false,bK6];by_cases h2:lv=2
  ·subst h2;rw[decide_eq_true rfl,decide_eq_false (show ¬ 2*8+a=0 by omega),decide_eq_false (show ¬ 2*8+a=8 by omega),decide_eq_true (show 16≤2*8+a∧2*8+a<24∧8*(2*8+a-16)<64 by omega)];simp only[cond_true,cond_false];rw[show 2*8+a-16=a by omega,←QM (3+a) 2]
   congr 2
  ·rw[decide_eq_false h2];simp only[cond_false];have hw0:∀ l,l<2→dG.word 2 l=0:=by decide
   have hl2:lv=0∨lv=1:=by omega
   rcases hl2 with rfl | rfl
   ·by_cases h0:a=0
    ·subst h0;rfl
    ·rw[decide_eq_false h0,decide_eq_false (show ¬ 0*8+a=0 by omega),decide_eq_false (show ¬ 0*8+a=8 by omega),decide_eq_false (show ¬ (16≤0*8+a∧0*8+a<24∧8*(0*8+a-16)<64) by omega),decide_eq_false (show ¬ (24≤0*8+a∧0*8+a<24+64) by omega)];exact hw0 0 bA5
   ·by_cases h0:a=0
    ·subst h0;rfl
    ·rw[decide_eq_false h0,decide_eq_false (show ¬ 1*8+a=0 by omega),decide_eq_false (show ¬ 1*8+a=8 by omega),decide_eq_false (show ¬ (16≤1*8+a∧1*8+a<24∧8*(1*8+a-16)<64) by omega),decide_eq_false (show ¬ (24≤1*8+a∧1*8+a<24+64) by omega)];exact hw0 1 bA5
theorem host_eq(hL:vG H):Eu H.ws H.aG.pages=allB 88 H.vK:=by
 have rZ:=bP hL.m;have hf:=hL.f
 have hK:∀ k,k<88→(qh (H.ws.length/8*8) (dw H.aG.pages) 64).ws.getD k 0=iQ (dw H.aG.pages) 64 k:=fun k hk=>by
  rw[nX bA4 _ 64 (bI0 _)];simp only[dO];rw[bG',bJ1,bO1 bA4];rfl
 rw[bH4];constructor
 ·intro h;refine aI.2 fun k hk=>?_;unfold HyD.vK;rw[hK k hk]
  have hlv:∃ lv tb,lv<4∧tb<kU lv∧lv+tb=k/8:=by
   by_cases h3:k/8<3
   ·exact⟨k/8,0,by omega,by unfold kU;rw[if_neg bA4];omega,rfl⟩
   ·exact⟨3,k/8-3,by omega,by unfold kU;rw[if_pos rfl];omega,by omega⟩
  obtain⟨lv,tb,h1,h2,h3⟩:=hlv;have:=Lr h h1 h2 (bU' k (show 0<8 by decide));unfold rH at this;rw[Hg _ lv h1 tb h2 (k%8) (bU' k bA5),show (lv+tb)*8+k%8=k by omega] at this;exact this
 ·intro h;refine Ew fun lv h1 tb h2 a ha=>?_
  have hk:(lv+tb)*8+a<88:=by
   unfold kU at h2;split at h2<;>omega
  have:=aI.1 h _ hk;unfold HyD.vK at this;rw[hK _ hk] at this;unfold rH;rw[Hg _ lv h1 tb h2 a ha];exact this
section
section
variable {ws : List Nat} {may may' : Nat → DsD → Bool} {go go' : List Int → Int → Nat → Option (List Int)} {f : Int} {level page : Nat}
theorem Md{a b:List Int}(h1:(gQ ws (f.toNat*8+k) level).kind=1)(h2:page+k*au level≤15)(h3:go a (gQ ws (f.toNat*8+k) level).frame (page+k*au level)=some b):mX ws may go f level page k a=some b:=by
 unfold mX;dsimp only;rw[decide_eq_true h1,cond_true,decide_eq_false (show ¬ 15<page+k*au level by omega),cond_false];exact h3
theorem Me{a:List Int}(h1:(gQ ws (f.toNat*8+k) level).kind≠1)(h2:ws.getD (f.toNat*8+k) 0≠0→(gQ ws (f.toNat*8+k) level).kind=2∧level=3∧may (page+k) (gQ ws (f.toNat*8+k) level)=true):mX ws may go f level page k a=some a:=by
 unfold mX;dsimp only;rw[decide_eq_false h1,cond_false];by_cases h0:ws.getD (f.toNat*8+k) 0=0
 ·rw[decide_eq_true h0];rfl
 ·obtain⟨e1,e2,e3⟩:=h2 h0;rw[decide_eq_true e1,decide_eq_true e2,e3,decide_eq_false h0];rfl
theorem BK:∀ (n:Nat) (seen s:List Int),(∀ i a b,i<n→dJ ws may go f level page i seen=some a→dJ ws may go f level page (i+1) seen=some b→mX ws may go f level page i a=some b→mX ws may' go' f level page i a=some b)→dJ ws may go f level page n seen=some s→dJ ws may' go' f level page n seen=some s:=by
 intro n
 induction n with
 | zero=>intro seen s _ h;exact h
 | succ n ih=>
  intro seen s hg h;obtain⟨a,b,ha,hs,hb⟩:=nK h n bA4;rw[h] at hb;cases hb;rw[dJ,ih _ _ (fun i a b hi=>hg i a b bA4) ha];exact hg n a _ bA4 ha h hs
theorem Ul(hl:level<4)(hg:∀ a f p b,go a f p=some b→∀ x∈a,x∈b):∀ (n:Nat) (seen s:List Int),dJ ws may go f level page n seen=some s→∀ m b,m≤n→dJ ws may go f level page m seen=some b→∀ x∈b,x∈s:=by
 intro n
 induction n with
 | zero=>
  intro seen s h m b hm hb;obtain rfl:m=0:=by omega
  rw[h] at hb;cases hb
  exact fun x hx=>hx
 | succ n ih=>
  intro seen s h m b hm hb;by_cases e:m=n+1
  ·subst e;rw[h] at hb;cases hb;exact fun x hx=>hx
  obtain⟨a,b',ha,hs,hb'⟩:=nK h n bA4;rw[h] at hb';cases hb';intro x hx;have h1:=ih _ _ ha m b bA4 hb x hx;rcases nM hl hs with⟨_,_,hgo⟩ | ⟨_,rfl,_⟩
  ·exact hg _ _ _ _ hgo x h1
  ·exact h1
end
theorem EK{ws:List Nat}{may may':Nat→DsD→Bool}{root:Int}(hm:∀ q d,(aQ ws root q 3).ok=true→(aQ ws root q 3).lv=3→(aQ ws root q 3).d=d→d.kind=2→may q d=true→may' q d=true):∀ (k level:Nat) (seen:List Int) (f:Int) (page:Nat) (s:List Int),level+k=4→dM ws may k seen f level page=some s→page%(8*au level)=0→BD ws root f level page→dM ws may' k seen f level page=some s:=by
 intro k
 induction k with
 | zero=>intro level seen f page s _ h;cases h
 | succ k ih=>
  intro level seen f page s hlk h hp hon;have hl:level<4:=by omega
  obtain⟨hf,hns,hsl⟩:=rU h;have hc:=fK hl;rw[dM,hf,show (seen.any fun t=>decide (t=f))=false by rw[←bK',gJ];exact hns];refine BK 8 _ _ (fun i a b hi _ _ hs=>?_) hsl;rcases nM hl hs with⟨h1,h2,h3⟩ | ⟨h1,rfl,h2⟩
  ·have hl3:level<3:=tu h1
   have hp2:(page+i*au level)%(8*au (level+1))=0:=by
    rw[←kK hl3];have h8:page%au level=0:=bS6 (bW9 ⟨8,bP6 _ _⟩ (bQ8 hp));rw[Nat.add_mod,h8,Nat.mul_mod_left];rfl
   exact Md h1 h2 (ih (level+1) a _ _ b bA4 h3 hp2 (xK hl3 hp hi hf hon h1))
  ·refine Me h1 fun hne=>?_;obtain⟨e1,e2,e3⟩:=h2 hne;subst e2;refine⟨e1,rfl,?_⟩;obtain⟨fs,d0,hfs,FW⟩:=hon;have hsw:=zh hl hp hi hf FW (j:=0) bA4;rw[cov3,bJ5,bK6] at hsw;rw[show (!decide ((gQ ws (f.toNat*8+i) 3).kind=1)||decide ((3:Nat)=3))=true by simp,cond_true] at hsw;refine hm (page+i) _ ?_ ?_ ?_ e1 e3
   ·rw[hsw]
   ·rw[hsw];simp[qQ.lv,hfs]
   ·rw[hsw]
theorem PT{ws:List Nat}{fs:List Int}{may:Nat→DsD→Bool}:∀ (k level:Nat) (seen:List Int) (f:Int) (page:Nat) (s:List Int),level+k=4→dM ws may k seen f level page=some s→(∀ x∈s,x∈fs)→lq ws fs may k seen f level page=some s:=by
 intro k
 induction k with
 | zero=>intro level seen f page s _ h;cases h
 | succ k ih=>
  intro level seen f page s hlk h hsub;obtain⟨hf,hns,hsl⟩:=rU h;have hfs:=hsub f (tY (k+1) level seen f page s hlk h).2;rw[lq,gJ.2 hfs,show (seen.any fun t=>decide (t=f))=false by rw[←bK',gJ];exact hns];have hgo:∀ a f' p b,dM ws may k a f' (level+1) p=some b→∀ x∈a,x∈b:=fun a f' p b hb x hx=>(tY k (level+1) a f' p b bA4 hb).1.sub hx;refine BK 8 _ _ (fun i a b hi _ hb hs=>?_) hsl;have hbs:=Ul bA4 hgo 8 _ _ hsl (i+1) b bA4 hb;rcases nM bA4 hs with⟨h1,h2,h3⟩ | ⟨h1,rfl,h2⟩
  ·exact Md h1 h2 (ih (level+1) a _ _ b bA4 h3 fun x hx=>hsub x (hbs x hx))
  ·exact Me h1 h2
theorem Js:∀ {a b:List Int},a.Nodup→(∀ x∈a,x∈b)→a.length≤b.length
 | [],_,_,_=>bH3 _
 | x::r,b,hn,h=>by
  obtain⟨h1,h2⟩:=bN6.1 hn;have hx:=h x (bH' ..);have:=Js (a:=r) (b:=b.erase x) h2 fun y hy=>(List.mem_erase_of_ne (show y≠x from fun e=>h1 (e▸hy))).2 (h y (bH8 _ hy));rw[List.length_erase_of_mem hx] at this;have:=bP8 hx;rw[bK8];omega
theorem zu{fs seen fr:List Int}(hn:fs.Nodup)(hs:seen.Nodup)(hr:fr.Nodup)(h1:∀ x∈seen,x∈fs)(h2:∀ x∈fr,x∈fs):((∀ x∈fr,x∉seen)∧seen.length+fr.length=fs.length)↔∀ x∈fs,(x∈seen↔x∉fr):=by
 have hd:(∀ x∈fr,x∉seen)→(seen++fr).Nodup:=fun h=>bL5.2 ⟨hs,hr,fun x hx y hy e=>h y hy (e▸hx)⟩;have hsub:∀ x∈seen++fr,x∈fs:=fun x hx=>(bJ6.1 hx).elim (h1 x) (h2 x);constructor
 ·rintro⟨h3,h4⟩ x hx;constructor
  ·intro h5 h6;exact h3 x h6 h5
  ·intro h5;refine bT0 fun h6=>?_;have hm:x∉seen++fr:=fun h=>(bJ6.1 h).elim h6 h5
   have:=Js (a:=x::(seen++fr)) (b:=fs) (bN6.2 ⟨hm,hd h3⟩) fun y hy=>by
    rcases bI5.1 hy with rfl | hy
    ·exact hx
    ·exact hsub y hy
   simp only[bK8,bJ0] at this;omega
 ·intro h3;have h4:∀ x∈fr,x∉seen:=fun x hx h5=>(h3 x (h2 x hx)).1 h5 hx;have h5:=Js (hd h4) hsub
  have h6:=Js (a:=fs) (b:=seen++fr) hn fun x hx=>by
   by_cases h7:x∈fr
   ·exact bH7 _ h7
   ·exact bI4 _ ((h3 x hx).2 h7)
  rw[bJ0] at h5 h6;exact⟨h4,by omega⟩
end
theorem Rk{ws:List Nat}{root:Int}:∀ n,(∀ j,j<n→(aQ ws root (q+j) 3).ok=true)→∃ xs,dL ws root q n=some xs∧∀ j,j<n→(aQ ws root (q+j) 3).d.kind=2→(⟨((q+j:Nat):Int),(aQ ws root (q+j) 3).d.frame+(((q+j)%au (aQ ws root (q+j) 3).lv:Nat):Int)⟩:jT)∈xs:=by
 intro n
 induction n with
 | zero=>intro _;exact⟨[],rfl,fun j hj=>absurd hj (bK2 _)⟩
 | succ n ih=>
  intro h;obtain⟨xs,h1,h2⟩:=ih fun j hj=>h j bA4;have h3:=h n bA4;by_cases hk:(aQ ws root (q+n) 3).d.kind=2
  ·refine⟨xs++[⟨((q+n:Nat):Int),(aQ ws root (q+n) 3).d.frame+(((q+n)%au (aQ ws root (q+n) 3).lv:Nat):Int)⟩],?_,fun j hj hk2=>?_⟩
   ·rw[dL,h1];unfold lU;dsimp only;rw[h3,decide_eq_true hk];rfl
   ·by_cases e:j=n
    ·subst e;exact bH7 _ (bM5.2 rfl)
    ·exact bI4 _ (h2 j bA4 hk2)
  ·refine⟨xs,?_,fun j hj hk2=>?_⟩
   ·rw[dL,h1];unfold lU;dsimp only;rw[h3,decide_eq_false hk];simp
   ·by_cases e:j=n
    ·subst e;exact absurd hk2 hk
    ·exact h2 j bA4 hk2
theorem uf(h:∀ i j,i<j→j<l.length→l.getD i 0<l.getD j 0):l.Nodup:=by
 refine bU9.2 fun i j hi hj hij=>?_;have:=h i j hij hj;rw[bG',bG',bH0 hi,bH0 hj] at this;simp only[bO3] at this;omega
theorem getD_lt(hk:k<l.length):l.getD k 0∈l:=by
 rw[bG',bH0 hk];exact bW8 hk
theorem ug{x:Int}(h:x∈l):∃ k,k<l.length∧l.getD k 0=x:=by
 obtain⟨k,hk,rfl⟩:=bL6.1 h;exact⟨k,hk,by rw[bG',bH0 hk];rfl⟩
theorem Rl(h:∀ k,k<l.length→k=0∨l.getD (k-1) 0<l.getD k 0):∀ i j,i<j→j<l.length→l.getD i 0<l.getD j 0:=by
 intro i j
 induction j with
 | zero=>intro hi;omega
 | succ j ih=>
  intro hi hj;have h1:=(h (j+1) hj).resolve_left bA4;rw[bU2] at h1;by_cases e:i=j
  ·subst e;exact h1
  ·have:=ih bA4 bA4;omega
theorem ag9{x:Int}(h:x∈l)(h0:l.getD 0 0≠x):1≤gV (fun t=>decide (t=x)) l:=by
 unfold gV
 cases e:PtD.idx (fun t=>decide (t=x)) l 0 with
 | none=>
  have:=PtD.IJ (p:=fun t=>decide (t=x)) (l:=l);rw[e] at this;have h2:=gJ.2 h;rw[←this] at h2
  cases h2
 | some k=>
  obtain⟨_,h2,h3,_⟩:=PtD.pU e;dsimp only
  cases k with
  | zero=>simp only[bV3] at h3;exact absurd (of_decide_eq_true h3) h0
  | succ k=>omega
theorem az8{x:Int}(h:1≤gV (fun t=>decide (t=x)) l):x∈l:=by
 refine gJ.1 ?_;rw[←gG];exact decide_eq_true bA4
theorem Um{may:Nat→DsD→Bool}{s:List Int}(hh:(H.vu i).has=true)(hg:dM H.ws may 4 [] (H.vu i).root 0 0=some s)(hq:q≤15)(h1:(aQ H.ws (H.vu i).root q 3).lv=3)(h2:(aQ H.ws (H.vu i).root q 3).d.kind=2):(H.wY i).any (fun m=>decide (m.mid=(q:Int))&&decide (m.dZ=(aQ H.ws (H.vu i).root q 3).d.frame))=true:=by
 have hw:=He 4 0 [] _ 0 s rfl hg rfl (qo H.ws (H.vu i).root);obtain⟨xs,e,hx⟩:=Rk (q:=0) (ws:=H.ws) (root:=(H.vu i).root) 4096 fun j hj=>(hw j hj).1;have hm:=hx q bA4 (by rw[bJ4];exact h2);rw[bJ4,h1,cov3,bV1] at hm
 have hm2:(⟨(q:Int),(aQ H.ws (H.vu i).root q 3).d.frame+((0:Nat):Int)⟩:jT)∈H.wY i:=by
  unfold HyD.wY;rw[hh,cond_true,e];exact bN1.2 ⟨hm,decide_eq_true (by dsimp only;omega)⟩
 exact bL'.2 ⟨_,hm2,by simp⟩
theorem Un{s:List Int}(hi:i<4)(hh:(H.vu i).has=true)(hl:(H.vu i).live=true)(hg:dM H.ws (lu H.aG ((i:Int)+1)) 4 [] (H.vu i).root 0 0=some s):dM H.ws (H.EC i) 4 [] (H.vu i).root 0 0=some s:=by
 refine EK (root:=(H.vu i).root) (fun q d h1 h2 h3 h4 h5=>?_) 4 0 [] _ 0 s rfl hg rfl (qo _ _);subst h3;unfold lu at h5;simp only[bG8,decide_eq_true_eq] at h5;obtain⟨⟨a,b⟩,c⟩:=h5;unfold HyD.EC vg;rw[decide_eq_true a,decide_eq_true (show (aQ H.ws (H.vu i).root q 3).d.frame<(H.aG.pages.length:Int) by omega),decide_eq_true c,show ((i:Int)+1-1).toNat=i by omega,(rQ H).2.1 i hi];have:(H.bU i).maps=H.wY i:=by unfold HyD.bU;rw[hl];rfl
 rw[this,Um hh hg a h2 h4];rfl
theorem Uo{s:List Int}(hg:dM H.ws (H.EC i) 4 [] (H.vu i).root 0 0=some s):dM H.ws (lu H.aG ((i:Int)+1)) 4 [] (H.vu i).root 0 0=some s:=by
 refine EK (root:=(H.vu i).root) (fun q d h1 h2 h3 h4 h5=>?_) 4 0 [] _ 0 s rfl hg rfl (qo _ _);subst h3;unfold HyD.EC vg at h5;simp only[bG8,decide_eq_true_eq] at h5;obtain⟨a,b,c,_⟩:=h5;have hf:=jR h1;have hd:=mF H.ws ((aQ H.ws (H.vu i).root q 3).place q) (aQ H.ws (H.vu i).root q 3).lv;rw[←hf.d] at hd;have:=((gI hd).2.2.2 h4).2.1;unfold lu;simp only[bG8,decide_eq_true_eq];exact⟨⟨a,this,by omega⟩,c⟩
theorem EL(hP:PtD.Ok H.aG)(hi:i<4)(hl:(H.vu i).live=true)(h5:(H.vu i).fs.length=5):16≤(H.vu i).root∧(H.vu i).root+5≤((H.ws.length/8:Nat):Int)∧∀ k,k<(H.vu i).vs.length→-1≤((H.vu i).vs.getD k default).on:=by
 have hg:=(rQ H).2.1 i hi
 have he:H.bU i=⟨true,(H.vu i).dying,(H.vu i).root,(H.vu i).vs.map AA.on,H.wY i⟩:=by
  unfold HyD.bU;rw[hl,decide_eq_true (show 0<(H.vu i).fs.length by omega)];rfl
 obtain⟨h1,h2,h3,h4,h6,_⟩:=hP.Wy i hi (by rw[hg,he]);rw[hg,he] at h2 h3 h6;have hpl:H.aG.pages.length=H.ws.length/8:=by simp[HyD.aG]
 rw[hpl] at h3;dsimp only at h2 h3 h6;refine⟨h2,by omega,fun k hk=>?_⟩;have:=h6 k (by simpa using hk);unfold PtD.nC at this;rw[hg,he] at this
 have e1:((H.vu i).vs.map AA.on).getD k 0=((H.vu i).vs.getD k default).on:=by
  rw[bG',bG',bJ1,bH0 hk];rfl
 dsimp only at this;rw[e1] at this;simp only[bI9,bG8,PtD.cZ,decide_eq_true_eq] at this;omega
theorem ao7{v:kM}(h:∀ k,k<v.vs.length→-1≤(v.vs.getD k default).on):v.vs.all HyD.Ve=allB v.vs.length v.vcR:=by
 have e:∀ k,k<v.vs.length→HyD.Ve (v.vs.getD k default)=v.vcR k:=fun k hk=>by
  unfold HyD.Ve kM.vcR;have:=h k hk;by_cases h1:(v.vs.getD k default).on= -1
  ·rw[decide_eq_true h1,decide_eq_false (show ¬ 0≤(v.vs.getD k default).on by omega)];rfl
  ·rw[decide_eq_false h1,decide_eq_true (show 0≤(v.vs.getD k default).on by omega)];simp
 rw[bH4,aI,bH1];constructor
 ·intro h1 k hk;rw[←e k hk];exact h1 _ (getD_mem hk)
 ·intro h1 c hc;obtain⟨k,hk,rfl⟩:=bL6.1 hc;have:=h1 k hk;rw[←e k hk,bG',bH0 hk] at this;exact this
theorem Ym(h4:H.vs.length=4)(hi:i<4)(v:kM):(!(H.vs.take i).any fun o=>o.live&&decide (o.aO=v.aO))=allB i (H.oJ v):=by
 rw[bH4,bI8,aI,←bK',bL']
 have e:∀ k,k<i→(H.vs.take i).getD k default=H.vu k:=fun k hk=>by
  unfold HyD.vu;rw[bG',bG',bL9,if_pos hk]
 constructor
 ·intro h k hk;unfold HyD.oJ;rw[bI8,←bK'];intro h1;exact h ⟨_,getD_mem (l:=H.vs.take i) (k:=k) bD1,by rw[e k hk];exact h1⟩
 ·rintro h ⟨o,ho,h1⟩;obtain⟨k,hk,rfl⟩:=bL6.1 ho;have hki:k<i:=by rw[bK1] at hk;omega
  have h2:=h k hki;unfold HyD.oJ at h2;rw[←e k hki,bG',bH0 hk,bI8] at h2;simp only[bO3] at h2;rw[h1] at h2;cases h2
theorem qC{f:Int}:xO l f=true↔f∈l:=gJ
theorem wK{f:Int}:xO l f=false↔f∉l:=by rw[←qC (l:=l) (f:=f),bK']
theorem Rn(hL:vG H)(hP:PtD.Ok H.aG)(hi:i<4):(H.NM i=true∧H.guK i=true)↔(H.Vf i=true∧H.nY i=true):=by
 cases hl:(H.vu i).live with
 | false=>
  have e:H.Vf i=H.NM i:=by
   unfold HyD.Vf HyD.NM;rw[hl];simp only[bK3,cond_true,cond_false];rw[bH4];simp only[bG8,decide_eq_true_eq,bT7];constructor
   ·rintro⟨⟨⟨a,b⟩,c⟩,d⟩;exact⟨⟨⟨b,c⟩,a⟩,d⟩
   ·rintro⟨⟨⟨b,c⟩,a⟩,d⟩;exact⟨⟨⟨a,b⟩,c⟩,d⟩
  rw[e];have e2:H.guK i=true:=by unfold HyD.guK;rw[hl];rfl
  have e3:H.nY i=true:=by unfold HyD.nY;rw[hl];rfl
  rw[e2,e3]
 | true=>
  have hroot:(H.vu i).fs.getD 0 0=(H.vu i).root:=rfl;constructor
  ·rintro⟨h1,h2⟩;obtain⟨h5,hvm,hch⟩:=zq h1 hl;obtain⟨aZ5,hr5,hon⟩:=EL hP hi hl h5
   have hfk:∀ k,k<5→(H.vu i).fs.getD k 0=(H.vu i).root+(k:Int):=by
    intro k
    induction k with
    | zero=>intro _;rw[hroot];omega
    | succ k ih=>
     intro hk;have:=(hch (k+1) hk).2 bA4;rw[bU2,ih bA4] at this;omega
   have aZ6:∀ f∈(H.vu i).fs,bJ H.ws.length f=true:=fun f hf=>by obtain⟨k,hk,rfl⟩:=ug hf;exact (hch k bA4).1
   have hfn:(H.vu i).fs.Nodup:=uf fun a b hab hb=>by rw[hfk a bA4,hfk b bA4];omega
   unfold HyD.NM at h1;rw[hl] at h1;simp only[bJ3,cond_false,bG8] at h1;obtain⟨⟨_,hbt⟩,_,hfr,hone,mQ⟩:=h1
   have hfr2:∀ k,k<(H.vu i).fr.length→(H.vu i).fr.getD k 0∈(H.vu i).fs∧(k=0∨(H.vu i).fr.getD (k-1) 0<(H.vu i).fr.getD k 0):=fun k hk=>by
    have:=aI.1 hfr k hk;unfold kM.EI at this;simp only[bG8,bI9,decide_eq_true_eq] at this;exact⟨az8 this.1,this.2⟩
   have hrn:(H.vu i).fr.Nodup:=uf (Rl fun k hk=>(hfr2 k hk).2);have hrs:∀ x∈(H.vu i).fr,x∈(H.vu i).fs:=fun x hx=>by obtain⟨k,hk,rfl⟩:=ug hx;exact (hfr2 k hk).1
   unfold HyD.guK at h2;rw[hl,bH6,bQ1] at h2;unfold HyD.guR at h2
   cases hz:lq H.ws (H.vu i).fs (lu H.aG ((i:Int)+1)) 4 [] ((H.vu i).fs.getD 0 0) 0 0 with
   | none=>rw[hz] at h2;cases h2
   | some seen=>
    rw[hz] at h2;replace h2:allB 5 (gu1 H.ws (H.vu i) seen)=true:=h2;obtain⟨hg,hsub⟩:=EJ aZ6 4 0 [] _ 0 seen rfl hz;rw[hroot] at hg;have MB:∀ x∈seen,x∈(H.vu i).fs:=fun x hx=>(hsub x hx).resolve_left bA6;have hhas:(H.vu i).has=true:=by unfold kM.has;rw[hl,decide_eq_true (show 0<(H.vu i).fs.length by omega)];rfl
    have hgm:=Un hi hhas hl hg;have hsn:=(tY 4 0 [] _ 0 seen rfl hg).1.nd bV2
    have hgu:∀ k,k<5→(((H.vu i).fs.getD k 0∈seen↔(H.vu i).fs.getD k 0∉(H.vu i).fr))∧((H.vu i).fs.getD k 0∈(H.vu i).fr→GX H.ws ((H.vu i).fs.getD k 0)=true):=fun k hk=>by
     have:=aI.1 h2 k hk;unfold gu1 at this;rw[bG8,bI8,decide_eq_false_iff_not] at this;refine⟨?_,fun hm=>?_⟩
     ·constructor
      ·intro h6 h7;exact this.1 (by rw[qC.2 h6,qC.2 h7])
      ·intro h7;refine bT0 fun h6=>this.1 ?_;rw[wK.2 h6,wK.2 h7]
     ·refine aI.2 fun j hj=>?_;have h8:=aI.1 this.2 j hj;rw[qC.2 hm,bH6,bQ1] at h8;exact h8
    obtain⟨hdis,hcnt⟩:=(zu hfn hsn hrn MB hrs).2 fun x hx=>by
     obtain⟨k,hk,rfl⟩:=ug hx;exact (hgu k bA4).1
    refine⟨?_,?_⟩
    ·unfold HyD.Vf;rw[hl,cond_true,ao7 hon,mQ,Ym hL.v hi,hone,hbt];rfl
    ·unfold HyD.nY;rw[hl,hgm];simp only[bJ3,cond_false,bG8];refine⟨⟨decide_eq_true h5,aI.2 fun k hk=>decide_eq_true (hfk k hk)⟩,⟨decide_eq_true bA4,aI.2 fun k hk=>?_⟩,bH1.2 fun x hx=>gJ.2 (MB x hx)⟩;obtain⟨h6,h7⟩:=hfr2 k hk;have hm:=getD_lt (l:=(H.vu i).fr) hk;unfold xM;simp only[bG8,bI9,decide_eq_true_eq];refine⟨⟨⟨gJ.2 h6,?_⟩,h7⟩,?_⟩
     ·rw[bI8,←bK',gJ];exact hdis _ hm
     ·obtain⟨k2,hk2,e2⟩:=ug h6;have:=(hgu k2 bA4).2 (by rw[e2];exact hm);rw[e2] at this;exact this
  ·rintro⟨h1,h2⟩;unfold HyD.nY at h2;rw[hl] at h2;simp only[bJ3,cond_false,bG8] at h2;obtain⟨⟨h5,hfk⟩,h2⟩:=h2;rw[decide_eq_true_eq] at h5;replace hfk:∀ k,k<5→(H.vu i).fs.getD k 0=(H.vu i).root+(k:Int):=fun k hk=>of_decide_eq_true (aI.1 hfk k hk);obtain⟨aZ5,hr5,hon⟩:=EL hP hi hl h5
   have Zj:∀ k,k<5→bJ H.ws.length ((H.vu i).fs.getD k 0)=true:=fun k hk=>by
    rw[hfk k hk];unfold bJ;simp only[bG8,decide_eq_true_eq];omega
   have hfn:(H.vu i).fs.Nodup:=uf fun a b hab hb=>by rw[hfk a bA4,hfk b bA4];omega
   unfold HyD.Vf at h1;rw[hl,cond_true,ao7 hon,Ym hL.v hi] at h1;simp only[bG8] at h1;obtain⟨⟨mQ,hbt⟩,hone⟩:=h1
   cases hz:dM H.ws (H.EC i) 4 [] (H.vu i).root 0 0 with
   | none=>rw[hz] at h2;cases h2
   | some seen=>
    rw[hz] at h2;simp only[bG8,decide_eq_true_eq] at h2;obtain⟨⟨hcnt,hfr⟩,hsub⟩:=h2;have MB:∀ x∈seen,x∈(H.vu i).fs:=fun x hx=>gJ.1 (bH1.1 hsub x hx);have hg:=Uo hz;have aN0:=tY 4 0 [] _ 0 seen rfl hg;have hsn:=aN0.1.nd bV2
    have hfr2:∀ k,k<(H.vu i).fr.length→((H.vu i).fr.getD k 0∈(H.vu i).fs∧(H.vu i).fr.getD k 0∉seen)∧(k=0∨(H.vu i).fr.getD (k-1) 0<(H.vu i).fr.getD k 0)∧GX H.ws ((H.vu i).fr.getD k 0)=true:=fun k hk=>by
     have:=aI.1 hfr k hk;unfold xM at this;simp only[bG8,bI9,decide_eq_true_eq] at this;obtain⟨⟨⟨a,b⟩,c⟩,d⟩:=this;rw[bI8,←bK',gJ] at b;exact⟨⟨gJ.1 a,b⟩,c,d⟩
    have hrn:(H.vu i).fr.Nodup:=uf (Rl fun k hk=>(hfr2 k hk).2.1);have hrs:∀ x∈(H.vu i).fr,x∈(H.vu i).fs:=fun x hx=>by obtain⟨k,hk,rfl⟩:=ug hx;exact (hfr2 k hk).1.1
    have aZ7:=(zu hfn hsn hrn MB hrs).1 ⟨fun x hx=>by obtain⟨k,hk,rfl⟩:=ug hx;exact (hfr2 k hk).1.2,by omega⟩;refine⟨?_,?_⟩
    ·unfold HyD.NM;rw[hl];simp only[bJ3,cond_false,bG8];refine⟨⟨decide_eq_true h5,hbt⟩,aI.2 fun k hk=>?_,aI.2 fun k hk=>?_,hone,mQ⟩
     ·unfold kM.chain;rw[Zj k hk,bH6];by_cases h0:k=0
      ·rw[decide_eq_true h0];rfl
      ·rw[decide_eq_false h0,bK5,hfk k hk,hfk (k-1) bA4];exact decide_eq_true bA4
     ·obtain⟨⟨h6,h7⟩,h8,_⟩:=hfr2 k hk;unfold kM.EI;simp only[bG8,bI9,decide_eq_true_eq];refine⟨ag9 h6 fun e=>h7 ?_,h8⟩;rw[←e,hroot];exact aN0.2
    ·unfold HyD.guK;rw[hl,bH6,bQ1];unfold HyD.guR;rw[hroot,PT 4 0 [] _ 0 seen rfl hg MB];refine aI.2 fun k hk=>?_;have hx:=aZ7 _ (getD_lt (l:=(H.vu i).fs) (k:=k) bA4);unfold gu1;rw[bG8,bI8,decide_eq_false_iff_not];refine⟨fun e=>?_,aI.2 fun j hj=>?_⟩
     ·cases hm:xO (H.vu i).fr ((H.vu i).fs.getD k 0) with
      | true=>rw[hm] at e;exact hx.1 (qC.1 e) (qC.1 hm)
      | false=>rw[hm] at e;exact wK.1 e (hx.2 (wK.1 hm))
     ·cases hm:xO (H.vu i).fr ((H.vu i).fs.getD k 0) with
      | false=>rfl
      | true=>
       obtain⟨k2,hk2,e2⟩:=ug (qC.1 hm);have:=aI.1 (hfr2 k2 hk2).2.2 j hj;rw[e2] at this;rw[bH6,bQ1];exact this
theorem ag'{ws:List Nat}{page:Nat}:∀ (k level:Nat) (f:Int) (rd fs:List Int) (d:DsD),level+k=4→fs.length=level →
  ((wlk ws 2 page k level f rd).f.kind=0↔(bT ws page 3 k level f fs d).ok=true∧(bT ws page 3 k level f fs d).d.kind=2∧bJ ws.length ((bT ws page 3 k level f fs d).d.frame+((page%au (bT ws page 3 k level f fs d).lv:Nat):Int))=true) ∧
  ((wlk ws 2 page k level f rd).f.kind=0→(wlk ws 2 page k level f rd).h=⟨(bT ws page 3 k level f fs d).d.frame+((page%au (bT ws page 3 k level f fs d).lv:Nat):Int),0,(bT ws page 3 k level f fs d).d.r,(bT ws page 3 k level f fs d).d.w,(bT ws page 3 k level f fs d).d.x,(bT ws page 3 k level f fs d).d.af,(bT ws page 3 k level f fs d).d.ng,(bT ws page 3 k level f fs d).d.soft,(bT ws page 3 k level f fs d).lv⟩):=by
 intro k
 induction k with
 | zero=>intro level f rd fs d _ _;exact⟨⟨fun h=>absurd (show (2:Int)=0 from h) bA5,fun h=>by cases h.1⟩,fun h=>absurd (show (2:Int)=0 from h) bA5⟩
 | succ k ih=>
  intro level f rd fs d hlk hfs;have hl:level<4:=by omega
  rw[wlk,bT]
  cases hf:bJ ws.length f with
  | false=>exact⟨⟨fun h=>absurd (show (1:Int)=0 from h) bA5,fun h=>by cases h.1⟩,fun h=>absurd (show (1:Int)=0 from h) bA5⟩
  | true=>
   simp only[cond_true];rw[show dSt ws 2 (jk f level page) level=gQ ws (jk f level page) level from rfl];by_cases h1:(gQ ws (jk f level page) level).kind=1
   ·have hl3:level<3:=tu h1;rw[decide_eq_true h1,decide_eq_false (show ¬ level=3 by omega)];simp only[cond_true,bJ3,bT5,cond_false];exact ih (level+1) _ (rd++[f]) (fs++[f]) _ bA4 (by simp[hfs])
   ·rw[decide_eq_false h1];simp only[cond_false,bK3,bY7,cond_true];have hlv:(⟨fs++[f],gQ ws (jk f level page) level,true⟩:qQ).lv=level:=by simp[qQ.lv,hfs]
    rw[hlv];unfold ag5;obtain⟨hk3,_⟩:=gI (mF ws (jk f level page) level);by_cases h0:(gQ ws (jk f level page) level).kind=0
    ·rw[decide_eq_true h0];exact⟨⟨fun h=>absurd (show (2:Int)=0 from h) bA5,fun h=>absurd (h.2.1.symm.trans h0) bA5⟩,fun h=>absurd (show (2:Int)=0 from h) bA5⟩
    ·have h2:(gQ ws (jk f level page) level).kind=2:=by omega
     rw[decide_eq_false h0,cond_false]
     cases hh:bJ ws.length ((gQ ws (jk f level page) level).frame+((page%au level:Nat):Int)) with
     | false=>exact⟨⟨fun h=>absurd (show (1:Int)=0 from h) bA5,fun h=>by cases h.2.2⟩,fun h=>absurd (show (1:Int)=0 from h) bA5⟩
     | true=>exact⟨⟨fun _=>⟨trivial,h2,by first | rfl | trivial⟩,fun _=>rfl⟩,fun _=>rfl⟩
def zx(ws:List Nat)(root:Int):Prop:=∀ q,q<4096→(aQ ws root q 3).ok=true∧((aQ ws root q 3).d.kind=2→(aQ ws root q 3).lv=3∧bJ ws.length (aQ ws root q 3).d.frame=true∧q<64)
theorem AV{ws:List Nat}{root:Int}(h:zx ws root)(hq:q<4096):decide ((jW ws 2 root q).f.kind=0)=decide ((aQ ws root q 3).d.kind=2)∧((aQ ws root q 3).d.kind=2→(jW ws 2 root q).h=⟨(aQ ws root q 3).d.frame,0,(aQ ws root q 3).d.r,(aQ ws root q 3).d.w,(aQ ws root q 3).d.x,(aQ ws root q 3).d.af,(aQ ws root q 3).d.ng,(aQ ws root q 3).d.soft,3⟩):=by
 obtain⟨h1,h2⟩:=ag' (ws:=ws) (page:=q) 4 0 root [] [] dG rfl rfl;rw[show bT ws q 3 4 0 root [] dG=aQ ws root q 3 from rfl,show wlk ws 2 q 4 0 root []=jW ws 2 root q from rfl] at h1 h2;obtain⟨hok,hlf⟩:=h q hq
 have hiff:(jW ws 2 root q).f.kind=0↔(aQ ws root q 3).d.kind=2:=by
  rw[h1];constructor
  ·exact fun h=>h.2.1
  ·intro hk;obtain⟨e1,e2,_⟩:=hlf hk;exact⟨hok,hk,by rw[e1,cov3,bV1];simpa using e2⟩
 refine⟨by rw[decide_eq_decide];exact hiff,fun hk=>?_⟩;have:=h2 (hiff.2 hk);obtain⟨e1,e2,_⟩:=hlf hk;rw[e1,cov3,bV1] at this;simpa using this
theorem Jt:∀ f:Nat,f<64→∀ n:Nat,n<3→zM 2 3 ((bg (f:Int) (n:Int)).word 2 3)=bg (f:Int) (n:Int):=by decide +kernel
theorem Ro:∀ n:Nat,n<16→zM 2 3 ((jO (n:Int)).word 2 3)=jO (n:Int):=by decide +kernel
theorem ah0:zM 2 3 (dG.word 2 3)=dG:=by decide +kernel
theorem az9{own pz:Int}(hk:k<64)(h0:-1≤own)(h1:own≤4):zM 2 3 ((kX own pz k).word 2 3)=kX own pz k:=by
 unfold kX
 cases decide (own=0)&&decide (pz= -2) with
 | true=>exact Jt k hk 0 bA5
 | false=>
  cases decide (own=0) with
  | true=>exact Jt k hk 1 bA5
  | false=>
   cases decide (pz=0) with
   | true=>exact Jt k hk 2 bA5
   | false=>
    cases decide (own= -1) with
    | true=>exact Ro 1 bA5
    | false=>
     have:=Ro (1+own).toNat bA4;rw[show (((1+own).toNat:Nat):Int)=1+own by omega] at this;exact this
theorem PU(hL:vG H)(hl:(H.vu i).live=true)(hm:H.nY i=true):zx H.ws (H.vu i).root:=by
 unfold HyD.nY at hm;rw[hl] at hm;simp only[bJ3,cond_false,bG8] at hm;obtain⟨_,hm⟩:=hm
 cases hz:dM H.ws (H.EC i) 4 [] (H.vu i).root 0 0 with
 | none=>rw[hz] at hm;cases hm
 | some seen=>
  intro q hq;obtain⟨h1,h2⟩:=He 4 0 [] _ 0 seen rfl hz rfl (qo _ _) q (by exact hq);rw[bJ4] at h1 h2;refine⟨h1,fun hk=>?_⟩;obtain⟨h3,h4⟩:=h2 hk;unfold HyD.EC vg at h4;simp only[bG8,decide_eq_true_eq] at h4;obtain⟨a,b,_⟩:=h4;have hf:=jR h1;have hd:=mF H.ws ((aQ H.ws (H.vu i).root q 3).place q) (aQ H.ws (H.vu i).root q 3).lv;rw[←hf.d] at hd;have h0:=((gI hd).2.2.2 hk).2.1;have hpl:H.aG.pages.length=H.ws.length/8:=by simp[HyD.aG]
  rw[hpl] at b;refine⟨h3,?_,by omega⟩;unfold bJ;simp only[bG8,decide_eq_true_eq];omega
theorem Ur(h:512≤q)(hq:q<4096):0<jk 0 0 q∧jk 0 0 q<8:=by
 have e:jk 0 0 q=(q/512)%8:=by
  show 0*8+mD 0 q=_;rw[bQ6,bJ4];unfold mD;rw[bO8];rfl
 rw[e];omega
theorem Us:∀ q,q<512→jk 0 0 q=0∧(64≤q→8<jk 1 1 q∧jk 1 1 q<16):=by decide +kernel
theorem Ut(hL:vG H)(hw:allB 88 H.vK=true):zx H.ws 0:=by
 have rZ:=bP hL.m;have aZ3:=hL.f
 have hW:∀ p,p<88→H.ws.getD p 0=iQ (dw H.aG.pages) 64 p:=fun k hk=>by
  have:=aI.1 hw k hk;unfold HyD.vK at this;rw[decide_eq_true_eq] at this;rw[this,nX bA4 _ 64 (bI0 _)];simp only[dO];rw[bG',bJ1,bO1 bA4];rfl
 have hn:128≤H.ws.length:=by omega
 have f0:bJ H.ws.length 0=true:=Ci (f:=0) hn bA5;have f1:bJ H.ws.length 1=true:=Ci (f:=1) hn bA5;have f2:bJ H.ws.length 2=true:=Ci (f:=2) hn bA5
 have e0:gQ H.ws 0 0=jY 1:=by
  unfold gQ;rw[hW 0 bA5];exact qL (f:=1) bA5 bA5
 have e1:gQ H.ws 8 1=jY 2:=by
  unfold gQ;rw[hW 8 bA5];exact qL (f:=2) bA5 bA5
 intro q hq;by_cases aZ8:512≤q
 ·obtain⟨h1,h2⟩:=Ur aZ8 hq
  have hz:gQ H.ws (jk 0 0 q) 0=dG:=by
   unfold gQ;rw[hW _ bA4];unfold iQ;rw[show decide ((64:Nat)=0)=false from rfl,decide_eq_false (show ¬ jk 0 0 q=0 by omega),decide_eq_false (show ¬ jk 0 0 q=8 by omega),decide_eq_false (show ¬ (16≤jk 0 0 q∧jk 0 0 q<24∧8*(jk 0 0 q-16)<64) by omega),decide_eq_false (show ¬ (24≤jk 0 0 q∧jk 0 0 q<24+64) by omega)];exact wG bA5
  have FW:aQ H.ws 0 q 3=⟨[0],dG,true⟩:=by
   unfold aQ;rw[bT,f0,cond_true,hz];rfl
  rw[FW];exact⟨rfl,fun h=>absurd (show (0:Int)=2 from h) bA5⟩
 obtain⟨p0,pm⟩:=Us q bA4;by_cases h64:64≤q
 ·obtain⟨h1,h2⟩:=pm h64
  have hz:gQ H.ws (jk 1 1 q) 1=dG:=by
   unfold gQ;rw[hW _ bA4];unfold iQ;rw[show decide ((64:Nat)=0)=false from rfl,decide_eq_false (show ¬ jk 1 1 q=0 by omega),decide_eq_false (show ¬ jk 1 1 q=8 by omega),decide_eq_false (show ¬ (16≤jk 1 1 q∧jk 1 1 q<24∧8*(jk 1 1 q-16)<64) by omega),decide_eq_false (show ¬ (24≤jk 1 1 q∧jk 1 1 q<24+64) by omega)];exact wG bA5
  have FW:aQ H.ws 0 q 3=⟨[0,1],dG,true⟩:=by
   unfold aQ;rw[bT,f0,cond_true,p0,e0];simp only[jY,decide_true,bJ3,bK5,show decide (0=3)=false from rfl,cond_false];rw[bT,f1,cond_true,hz];rfl
  rw[FW];exact⟨rfl,fun h=>absurd (show (0:Int)=2 from h) bA5⟩
 have hq6:q<64:=by omega
 have p1:=OJ q hq6;have p2:=Jc q hq6;have p3:=Aw q hq6;have f3:bJ H.ws.length ((3+q/8:Nat):Int)=true:=Ci hn bA4
 have e2:gQ H.ws (16+q/8) 2=jY ((3+q/8:Nat):Int):=by
  unfold gQ;rw[hW _ bA4];unfold iQ;rw[show decide ((64:Nat)=0)=false from rfl,decide_eq_false (show ¬ 16+q/8=0 by omega),decide_eq_false (show ¬ 16+q/8=8 by omega),decide_eq_true (show 16≤16+q/8∧16+q/8<24∧8*(16+q/8-16)<64 by omega)];simp only[cond_true,cond_false];rw[show 3+(16+q/8-16)=3+q/8 by omega];exact qL bA4 bA5
 have e3:gQ H.ws (24+q) 3=dw H.aG.pages q:=by
  unfold gQ;rw[hW _ bA4];unfold iQ;rw[show decide ((64:Nat)=0)=false from rfl,decide_eq_false (show ¬ 24+q=0 by omega),decide_eq_false (show ¬ 24+q=8 by omega),decide_eq_false (show ¬ (16≤24+q∧24+q<24∧8*(24+q-16)<64) by omega),decide_eq_true (show 24≤24+q∧24+q<24+64 by omega)];simp only[cond_true,cond_false];rw[show 24+q-24=q by omega];unfold dw
  cases hp:decide (q<H.aG.pages.length) with
  | false=>exact ah0
  | true=>
   have hlt:=of_decide_eq_true hp;have hpl:H.aG.pages.length=H.ws.length/8:=by simp[HyD.aG]
   have ho:=(zn H q).1;have hg:H.aG.pages.getD q default=H.mJ q:=(rQ H).1 q bA4;rw[cond_true,hg];exact az9 hq6 ho.1 ho.2
 have FW:aQ H.ws 0 q 3=⟨[0,1,2,((3+q/8:Nat):Int)],dw H.aG.pages q,true⟩:=by
  unfold aQ;rw[bT,f0,cond_true,p0,e0];simp only[jY,decide_true,bJ3,bK5,show decide (0=3)=false from rfl,cond_false];rw[bT,f1,cond_true,p1,e1];simp only[jY,decide_true,bJ3,bK5,show decide (0+1=3)=false from rfl,cond_false];rw[bT,f2,cond_true,p2,e2];simp only[jY,decide_true,bJ3,bK5,show decide (0+1+1=3)=false from rfl,cond_false];rw[bT,f3,cond_true,p3,e3];simp
 rw[FW];refine⟨rfl,fun hk=>⟨rfl,?_,hq6⟩⟩;dsimp only at hk ⊢;unfold dw at hk ⊢
 cases hp:decide (q<H.aG.pages.length) with
 | false=>rw[hp] at hk;exact absurd (show (0:Int)=2 from hk) bA5
 | true=>
  rw[hp,cond_true] at hk;rw[cond_true];have hlt:=of_decide_eq_true hp;have hpl:H.aG.pages.length=H.ws.length/8:=by simp[HyD.aG]
  have hfr:(kX (H.aG.pages.getD q default).own (H.aG.pages.getD q default).wit q).frame=(q:Int):=by
   revert hk;unfold kX
   cases decide ((H.aG.pages.getD q default).own=0)&&decide ((H.aG.pages.getD q default).wit= -2) with
   | true=>intro _;rfl
   | false=>
    cases decide ((H.aG.pages.getD q default).own=0) with
    | true=>intro _;rfl
    | false=>
     cases decide ((H.aG.pages.getD q default).wit=0) with
     | true=>intro _;rfl
     | false=>
      cases decide ((H.aG.pages.getD q default).own= -1) with
      | true=>intro h;exact absurd (show (0:Int)=2 from h) bA5
      | false=>intro h;exact absurd (show (0:Int)=2 from h) bA5
  rw[hfr];unfold bJ;simp only[bG8,decide_eq_true_eq];omega
theorem oU{root:Int}(h:zx H.ws root)(hq:q<4096)(p:Int)(hp:p=(q:Int)):H.iP root p=((aQ H.ws root q 3).d,decide ((aQ H.ws root q 3).d.kind=2)):=by
 subst hp;obtain⟨hok,hlf⟩:=h q hq;unfold HyD.iP;rw[bM3];have hg:iG H.ws root q=⟨(aQ H.ws root q 3).d,(aQ H.ws root q 3).lv,0⟩:=by unfold iG;dsimp only;rw[hok];rfl
 rw[hg];dsimp only
 cases hk:decide ((aQ H.ws root q 3).d.kind=2) with
 | false=>simp
 | true=>rw[(hlf (of_decide_eq_true hk)).1];simp
theorem az'{root:Int}(h:zx H.ws root)(hq:q<4096)(e:fG):wkM (jW H.ws 2 root q) e=(decide ((aQ H.ws root q 3).d.kind=2)&&decide ((aQ H.ws root q 3).d.frame=e.frame)&&(decide ((aQ H.ws root q 3).d.r=e.r)&&decide ((aQ H.ws root q 3).d.w=e.w)&&decide ((aQ H.ws root q 3).d.x=e.x)&&decide ((aQ H.ws root q 3).d.af=e.af)&&decide ((aQ H.ws root q 3).d.ng=e.ng)&&decide (0=e.soft))):=by
 obtain⟨h1,h2⟩:=AV h hq;unfold wkM;rw[h1]
 cases hk:decide ((aQ H.ws root q 3).d.kind=2) with
 | false=>rfl
 | true=>rw[h2 (of_decide_eq_true hk)]
theorem Yn{root:Int}(h:zx H.ws root)(hq:q<4096)(e:fG):wkW (jW H.ws 2 root q) e=(decide ((aQ H.ws root q 3).d.kind=2)&&decide ((aQ H.ws root q 3).d.frame=e.frame)&&((!e.r||(aQ H.ws root q 3).d.r)&&(!e.w||(aQ H.ws root q 3).d.w)&&(!e.x||(aQ H.ws root q 3).d.x))):=by
 obtain⟨h1,h2⟩:=AV h hq;unfold wkW;rw[h1]
 cases hk:decide ((aQ H.ws root q 3).d.kind=2) with
 | false=>simp
 | true=>
  rw[h2 (of_decide_eq_true hk)];dsimp only;rw[Bool.or_comm (!e.r),Bool.or_comm (!e.w),Bool.or_comm (!e.x)];simp only[bO5]
theorem MC{root:Int}(h:zx H.ws root)(hq:q<4096)(e:fG):Zm (jW H.ws 2 root q) e=(decide ((aQ H.ws root q 3).d.kind=2)&&decide ((aQ H.ws root q 3).d.frame=e.frame)&&(aQ H.ws root q 3).d.r):=by
 obtain⟨h1,h2⟩:=AV h hq;unfold Zm;rw[h1]
 cases hk:decide ((aQ H.ws root q 3).d.kind=2) with
 | false=>simp
 | true=>rw[h2 (of_decide_eq_true hk)]
theorem aA0{root:Int}(h:zx H.ws root)(e:fG):(((dL H.ws root 0 4096).getD []).any fun m=>(H.iP root m.mid).2&&decide (m.dZ=e.frame)&&(H.iP root m.mid).1.r)=(List.range 64).any fun m=>Zm (jW H.ws 2 root m) e:=by
 obtain⟨xs,e1,hx⟩:=Rk (q:=0) (ws:=H.ws) (root:=root) 4096 fun j hj=>by rw[bJ4];exact (h j hj).1
 rw[e1];rw[bH4,bL',bL'];constructor
 ·rintro⟨m,hm,h2⟩;obtain⟨k,hk,h3⟩:=Dl e1 hm;rw[bJ4] at h3;obtain⟨h4,h5,h6,h7⟩:=vH h3;obtain⟨_,hlf⟩:=h k hk;obtain⟨l1,l2,l3⟩:=hlf h5;rw[oU h hk m.mid h6] at h2;simp only[bG8,decide_eq_true_eq] at h2;rw[l1,cov3,bV1] at h7;refine⟨k,bI2.2 l3,?_⟩;rw[MC h hk,decide_eq_true h5,h2.2];simp only[bH6,bM1];refine decide_eq_true ?_;rw[←h2.1.2,h7];simp
 ·rintro⟨k,hk,h2⟩;have hk6:=bI2.1 hk;have hk4:k<4096:=by omega
  rw[MC h hk4] at h2;simp only[bG8,decide_eq_true_eq] at h2;obtain⟨⟨h3,h4⟩,h5⟩:=h2;have hm:=hx k hk4 (by rw[bJ4];exact h3);rw[bJ4] at hm;obtain⟨l1,l2,l3⟩:=(h k hk4).2 h3;rw[l1,cov3,bV1] at hm;refine⟨_,hm,?_⟩;rw[oU h hk4 _ rfl];simp[h3,h4,h5]
def HyD.Uu(H:HyD)(v:Int)(k:Nat):Bool:=(H.vu k).live&&decide ((H.vu k).aO=v)
theorem PV{v:Int}(h0:v≠0):∀ n,(∀ k,k<n→H.Uu v k=false)→H.kV v n= -1:=by
 intro n
 induction n with
 | zero=>intro _;unfold HyD.kV;rw[decide_eq_false h0];rfl
 | succ n ih=>
  intro h;have:=h n bA4;unfold HyD.Uu at this;rw[HyD.kV,bO5,this,bT'];exact ih fun k hk=>h k bA4
theorem Yo{v:Int}(h0:0<v)(hi:H.Uu v i=true):∀ n,i<n→(∀ k,k<n→k≠i→H.Uu v k=false)→H.kV v n=(H.vu i).root:=by
 intro n
 induction n with
 | zero=>intro h;omega
 | succ n ih=>
  intro hin h;rw[HyD.kV,bO5];by_cases e:n=i
  ·subst e;unfold HyD.Uu at hi;rw[hi,decide_eq_true h0];rfl
  ·have:=h n bA4 e;unfold HyD.Uu at this;rw[this,bT'];exact ih bA4 fun k hk=>h k bA4
theorem PW:∀ n,H.kV 0 n=0:=by
 intro n
 induction n with
 | zero=>rfl
 | succ n ih=>rw[HyD.kV,bO5,show decide ((0:Int)<0)=false from rfl,bQ7];exact ih
theorem Yp(hL:vG H)(hP:PtD.Ok H.aG)(hw:allB 88 H.vK=true)(hfr:∀ i,i<4→H.NM i=true)(hm:∀ i,i<4→H.nY i=true){v:Int}(hv:0≤v):(H.ED v=none∧H.kV v 4<0)∨∃ r,H.ED v=some r∧H.kV v 4=r∧0≤r∧zx H.ws r:=by
 by_cases h0:v=0
 ·subst h0;exact .inr ⟨0,rfl,PW 4,Int.le_refl _,Ut hL hw⟩
 have hat:∀ k,k<4→(fun o:kM=>o.live&&decide (o.aO=v)) (H.vs.getD k default)=H.Uu v k:=fun k hk=>rfl;unfold HyD.ED;rw[decide_eq_false h0,cond_false]
 cases hx:PtD.idx (fun o:kM=>o.live&&decide (o.aO=v)) H.vs 0 with
 | none=>
  refine .inl ⟨rfl,?_⟩
  rw[PV h0 4 fun k hk=>by
   have:=PtD.yI hx k (by rw[hL.v];exact hk)
   exact this]
  decide
 | some i=>
  obtain⟨_,h2,h3,h4⟩:=PtD.pU hx;simp only[bV3] at h2 h3 h4;rw[hL.v] at h2;have h3':H.Uu v i=true:=h3;have hl:(H.vu i).live=true:=by unfold HyD.Uu at h3';simp only[bG8] at h3';exact h3'.1
  have hvm:(H.vu i).aO=v:=by unfold HyD.Uu at h3';simp only[bG8,decide_eq_true_eq] at h3';exact h3'.2
  have huq:∀ k,k<4→k≠i→H.Uu v k=false:=fun k hk hne=>by
   by_cases hki:k<i
   ·exact h4 k hki
   ·cases hc:H.Uu v k with
    | false=>rfl
    | true=>
     exfalso;have hlk:(H.vu k).live=true∧(H.vu k).aO=v:=by unfold HyD.Uu at hc;simpa only [bG8,decide_eq_true_eq] using hc
     have h5:=hfr k hk;unfold HyD.NM at h5;rw[hlk.1] at h5;simp only[bJ3,cond_false,bG8] at h5;have h6:=aI.1 h5.2.2.2.1 i bA4;unfold HyD.oJ at h6;rw[hl,hvm,hlk.2] at h6;simp at h6
  obtain⟨h5,_,hch⟩:=zq (hfr i h2) hl;refine .inr ⟨(H.vu i).root,rfl,Yo bA4 h3' 4 h2 huq,?_,PU hL hl (hm i h2)⟩;have:=iK (hch 0 bA5).1;exact this.1
theorem Hl(hL:vG H)(hP:PtD.Ok H.aG)(hw:allB 88 H.vK=true)(hfr:∀ i,i<4→H.NM i=true)(hm:∀ i,i<4→H.nY i=true)(e:fG)(he:e.nums=true):H.qV e=H.Yk e:=by
 unfold fG.nums at he;simp only[bG8,PtD.cZ,decide_eq_true_eq] at he;obtain⟨p,hp⟩:∃ p:Nat,e.page=(p:Int):=⟨e.page.toNat,by omega⟩
 obtain⟨m,hmd⟩:∃ p:Nat,e.mid=(p:Int):=⟨e.mid.toNat,by omega⟩
 unfold HyD.qV HyD.Yk;rcases Yp hL hP hw hfr hm (v:=e.aO) bA4 with⟨h1,h2⟩ | ⟨r,h1,h2,h3,h4⟩
 ·rw[h1,decide_eq_true h2];rfl
 ·rw[h1,h2,decide_eq_false (show ¬ r<0 by omega),cond_false];dsimp only;rw[oU h4 (q:=p) bA4 e.page hp,oU h4 (q:=m) bA4 e.mid hmd,aA0 h4 e,hp,hmd,bM3,bM3,az' h4 bA4,Yn h4 bA4]
theorem aA1:H.ag8=H.ok:=by
 unfold HyD.ag8 HyD.ok
 cases hok:H.iq with
 | false=>rfl
 | true=>
  have hL:=jv hok;rw[bH6,bH6,←PtD.at6,host_eq hL];unfold HyD.quiet;rw[bH4];simp only[bG8]
  have ao8:∀ c,dQ (H.cu c).es (H.cu c).ds=true→∀ e∈(H.cu c).es,e.nums=true:=fun c h e he=>by
   obtain⟨j,hj,rfl⟩:=bL6.1 he;unfold dQ at h;simp only[bG8] at h;have h3:=bH1.1 h.1.1.1 j (bI2.2 hj);unfold Az fG.may at h3;simp only[bG8] at h3;have:=h3.1.1;rw[bG',bH0 hj] at this;exact this
  have hcp:∀ c,((∀ i,i<4→H.NM i=true)∧(∀ i,i<4→H.nY i=true)∧PtD.Ok H.aG∧allB 88 H.vK=true)→(H.cpR c=true↔(H.cpQ c=true∧H.sound c=true)):=fun c ⟨h1,h2,h3,h4⟩=>by
   unfold HyD.cpR HyD.cpQ HyD.sound
   have hall:dQ (H.cu c).es (H.cu c).ds=true→(H.cu c).es.all H.Yk=(H.cu c).es.all H.qV:=fun ht=>by
    rw[bH4,bH1,bH1];constructor
    ·intro h5 e he;rw[Hl hL h3 h4 h1 h2 e (ao8 c ht e he)];exact h5 e he
    ·intro h5 e he;rw[←Hl hL h3 h4 h1 h2 e (ao8 c ht e he)];exact h5 e he
   cases ht:dQ (H.cu c).es (H.cu c).ds with
   | false=>simp
   | true=>
    rw[hall ht];cases decide ((H.cu c).vm=0)<;>cases decide (H.rs.getD c default=jb)<;>simp
  constructor
  ·rintro⟨h1,h2,h3,h4,h5⟩;have hP:=PtD.sS.1 h2;have hb:=fun i hi=>(Rn hL hP (i:=i) hi).1 ⟨aI.1 h1 i hi,aI.1 h4 i hi⟩;have hc:=fun c hc=>(hcp c ⟨aI.1 h1,fun i hi=>(hb i hi).2,hP,h3⟩).1 (aI.1 h5 c hc);exact⟨⟨⟨⟨h2,h3⟩,aI.2 fun c h=>(hc c h).1,aI.2 fun i hi=>(hb i hi).1⟩,aI.2 fun i hi=>(hb i hi).2⟩,aI.2 fun c h=>(hc c h).2⟩
  ·rintro⟨⟨⟨⟨h2,h3⟩,h6,h7⟩,h8⟩,h9⟩;have hP:=PtD.sS.1 h2;have hb:=fun i hi=>(Rn hL hP (i:=i) hi).2 ⟨aI.1 h7 i hi,aI.1 h8 i hi⟩;have hc:=fun c hc=>(hcp c ⟨fun i hi=>(hb i hi).1,aI.1 h8,hP,h3⟩).2 ⟨aI.1 h6 c hc,aI.1 h9 c hc⟩;exact⟨aI.2 fun i hi=>(hb i hi).1,h2,h3,aI.2 fun i hi=>(hb i hi).2,aI.2 hc⟩
section
theorem MF{es:List fG}{ds:List jC}:dQ es ds=true↔(∀ e∈es,e.may=true)∧es.Nodup∧ds.all jC.may=true∧es.length≤8∧ds.length≤8:=by
 constructor
 ·intro h;have hm:=pF h;simp only[dQ,bG8,decide_eq_true_eq] at h;refine⟨hm.1,?_,h.1.1.2,hm.2⟩;rw[List.nodup_iff_pairwise_ne,bU9];intro i j hi hj hij;have h1:=bH1.1 h.1.1.1 j (bI2.2 hj);simp only[Az,bG8,bI8,bR8] at h1;have h2:=h1.2 es[i] (bP9.2 ⟨i,by omega,rfl⟩);rw[bG',bH0 hj] at h2;simpa using h2
 ·rintro⟨h1,h2,h3,h4,h5⟩;simp only[dQ,bG8,decide_eq_true_eq];refine⟨⟨⟨bH1.2 fun j hj=>?_,h3⟩,h4⟩,h5⟩;rw[bI2] at hj;simp only[Az,bG8,bI8,bR8];refine⟨h1 _ (getD_mem hj),fun x hx=>?_⟩;obtain⟨i,hi,rfl⟩:=bP9.1 hx;rw[List.nodup_iff_pairwise_ne,bU9] at h2;have:=h2 i j bA4 hj bA4;rw[bG',bH0 hj];simpa using this
theorem Uw{es:List fG}{ds:List jC}(due:List jC)(h:dQ es ds=true):dQ (mM es due) ds=true:=by
 obtain⟨h1,h2,h3,h4,h5⟩:=MF.1 h;exact MF.2 ⟨fun e he=>h1 e (bN1.1 he).1,h2.filter _,h3,bO' (bR4 ..) h4,h5⟩
theorem Ux(ws:List Nat):dO ws.length (fun p=>ws.getD p 0)=ws:=by
 apply bP';intro i;simp only[dO,bJ1];by_cases hl:i<ws.length
 ·simp[bO1 hl,bG',bH0 hl]
 ·simp[bN4 (show (List.range ws.length).length≤i by simp;omega),bN4 (show ws.length≤i by omega)]
theorem Uy{ws:List Nat}{p v:Nat}:(ws.set p v).getD q 0=bif decide (p=q∧q<ws.length) then v else ws.getD q 0:=by
 rw[bG',bG',bR9];by_cases h:p=q
 ·subst h;by_cases hl:p<ws.length
  ·simp[hl]
  ·simp[hl,bN4 (show ws.length≤p by omega)]
 ·simp[h]
theorem AX{ws:List Nat}{p v:Nat}(h:p≠q):(ws.set p v).getD q 0=ws.getD q 0:=by
 rw[Uy,decide_eq_false (fun e=>h e.1)];rfl
structure HostT(ws:List Nat):Prop where
 n:128≤ws.length
 a:ws.getD 0 0=iL 1
 b:ws.getD 8 0=iL 2
 c:∀ j,j<8→ws.getD (16+j) 0=iL (3+j)
namespace HostT
variable {ws : List Nat} {k : Nat}
theorem way(h:HostT ws)(hk:k<64):aQ ws 0 k 3=⟨[0,1,2,((3+k/8:Nat):Int)],gQ ws (24+k) 3,true⟩:=by
 have:=aw5 (g:=fun p=>ws.getD p 0) h.n hk h.a h.b (h.c _ bA4);rw[Ux] at this;exact this
theorem get(h:HostT ws)(hk:k<64):iG ws 0 k=⟨gQ ws (24+k) 3,3,0⟩:=by
 unfold iG;rw[h.way hk];rfl
theorem put(h:HostT ws)(hk:k<64)(d:DsD):fC ws 0 k 3 d=⟨lI ws (24+k) 3 d,[],0⟩:=by
 unfold fC;rw[h.way hk];simp only[bJ3,cond_false,qQ.lv,bK8,bR0,qQ.place];rw[show (0+1+1+1+1-1:Nat)=3 from rfl];simp only[decide_true,bJ3,cond_false];rw[show ([0,1,2,((3+k/8:Nat):Int)]:List Int).getD 3 0=((3+k/8:Nat):Int) from rfl,Aw k hk]
theorem set(h:HostT ws){p:Nat}(hp:24≤p)(v:Nat):HostT (ws.set p v):=
 ⟨by rw[bL3];exact h.n,by rw[AX bA4];exact h.a,by rw[AX bA4];exact h.b,fun j hj=>by rw[AX bA4];exact h.c j hj⟩
theorem two(h:HostT ws)(hk:k<64)(d:DsD):fC (fC ws 0 k 3 dG).ws 0 k 3 d=⟨lI ws (24+k) 3 d,[],0⟩:=by
 rw[h.put hk];have h2:HostT (lI ws (24+k) 3 dG):=h.set bA4 _;dsimp only;rw[h2.put hk];unfold lI;rw[List.set_set]
theorem of(hL:vG H)(hw:Eu H.ws H.aG.pages=true):HostT H.ws:=by
 have hf:=hL.f;have rZ:=bP hL.m;rw[host_eq hL] at hw
 have hW:∀ p,p<88→H.ws.getD p 0=iQ (dw H.aG.pages) 64 p:=fun k hk=>by
  have:=aI.1 hw k hk;unfold HyD.vK at this;rw[decide_eq_true_eq] at this;rw[this,nX bA4 _ 64 (bI0 _)];exact KZ _ bA4
 have he:=Jd (dd:=dw H.aG.pages) (k:=64) bA5;refine⟨by omega,by rw[hW 0 bA5];exact he.1,by rw[hW 8 bA5];exact he.2,fun j hj=>?_⟩;rw[hW _ bA4,yV bA5 hj,decide_eq_true (show 8*j<64 by omega)];rfl
end HostT
namespace HyD
def fgt(H:HyD)(aO mid:Int):HyD:={ H with cs:=H.cs.map fun c=>{ c with es:=mM c.es (tK aO mid) } }
def chg(H:HyD)(root aO:Int)(mid:Nat)(d:DsD):HyD:={ H.fgt aO mid with ws:=(fC (fC H.ws root mid 3 dG).ws root mid 3 d).ws }
def hst(H:HyD)(f:Nat)(d:DsD):HyD:={ H.fgt 0 f with ws:=lI H.ws (24+f) 3 d }
structure lW(H:HyD):Prop where
 m:fM H.ws.length=true
 Df:lT H.ws
 t:HostT H.ws
 c1:1≤H.cs.length
 c3:H.cs.length≤3
 r:H.rs.length=H.cs.length
 v:H.vs.length=4
 tl:∀ c∈H.cs,dQ c.es c.ds=true
variable {H : HyD}
theorem ah1(h:HostT H.ws){f:Nat}(hf:f<64)(d:DsD):H.chg 0 0 f d=H.hst f d:=by
 unfold chg hst;rw[h.two hf]
theorem lW.cs(h:lW H){cs:List JP}(hl:cs.length=H.cs.length)(ht:∀ c∈cs,dQ c.es c.ds=true):lW { H with cs:=cs }:=
 ⟨h.m,h.Df,h.t,by rw[hl];exact h.c1,by rw[hl];exact h.c3,by rw[hl];exact h.r,h.v,ht⟩
theorem lW.fgt(h:lW H)(aO mid:Int):lW (H.fgt aO mid):=by
 refine h.cs (bG9 ..) fun c hc=>?_;obtain⟨x,hx,rfl⟩:=bH9.1 hc;exact Uw _ (h.tl x hx)
theorem lW.ws(h:lW H){ws:List Nat}(hl:ws.length=H.ws.length)(hw:lT ws)(ht:HostT ws):lW { H with ws:=ws }:=
 ⟨by rw[hl];exact h.m,hw,ht,h.c1,h.c3,h.r,h.v,h.tl⟩
theorem lW.hst(h:lW H){f:Nat}(d:DsD):lW (H.hst f d):=(h.fgt 0 f).ws (kG ..) (h.Df.lI _ _ _) (h.t.set bA4 _)
end HyD
end
section
def kM.bare(v:kM):kM:={ v with vs:=v.vs.map fun c=>⟨jb,c.on⟩ }
def JP.bare(c:JP):JP:={ c with r:=jb }
namespace HyD
def bare(H:HyD):HyD:=⟨H.ws,H.cs.map JP.bare,H.vs.map kM.bare,H.rs.map fun _=>jb⟩
variable (H : HyD)
variable {H}
end HyD
end
section
attribute [local irreducible] Hy St Ops DH dI jl iR gX DS iw lV
theorem ao9(xs:List Nat):∀ c∈xs.map uV,c.length=1∧c.all (·.oneCell')=true:=by
 intro c hc;obtain⟨x,_,rfl⟩:=bH9.1 hc;exact⟨rfl,rfl⟩
theorem PX(n cap:Nat)(hn:n<4611686018427387904)(q:Option Addr)(w:World):Fn Tryz.prog 193 [.agg #[.slice q n cap]].toArray w [] (fun u _=>u=.int .i64 ((n/8:Nat):Int)):=by
 refine enter Tryz.func193 ?_;refine run ?_;intro B;refine run ?_;refine jL bA9 (uK rfl rfl n 8 bA9 bA9 bA5 bA4) ?_;refine run ?_;exact fin1 rfl
theorem ah2(n cap:Nat)(hn:n<4611686018427387904)(q:Option Addr)(f:Int)(B:Nat)(w:World)(hB:w.cell? ⟨B,0,none⟩=some (.slice q n cap)):Fn Tryz.prog 340 ([]++[Value.int .i64 f]++[Value.pointer (some ⟨B,0,none⟩)]).toArray w [] (fun u _=>u=.bool (!bJ n f)):=by
 have hr:w.rangeAt B 0 [.slice q n cap]:=fun j v hj=>by
  cases j with
  | zero=>simp at hj;subst hj;exact hB
  | succ j=>simp at hj
 refine enter Tryz.func340 ?_;refine aC ?_;refine bG (fun _ wc hG=>PX n cap hn q wc) ?_;refine aC ?_;refine fin1 ?_;unfold bJ;rw[bV5]
 congr 1
 rw[←decide_not,←decide_not]
 congr 1<;>(rw[bH4,decide_eq_true_eq,decide_eq_true_eq];omega)
theorem aA2(n cap:Nat)(hn:n<4611686018427387904)(q:Option Addr)(xs:List Int)(h:aA w v 1 (xs.map bY)):Fn Tryz.prog 308 [.agg #[.slice q n cap],v].toArray w [] (fun u _=>u=.bool (xs.all (bJ n))):=by
 refine enter Tryz.func308 ?_;refine run ?_;intro B;refine run ?_;refine az (fun wc hG=>qy (us:=[.pointer (some ⟨B,0,none⟩)]) (fun x=>!bJ n x) xs _ (h.good hG) (fun x _ w' ha=>ah2 n cap hn q x B w' ?_)) ?_
 ·obtain⟨hp,hg⟩:=ha;exact hg.cell bF3 bA6
 refine run ?_;refine fin1 ?_;rw[←bP3,bQ1]
theorem aA3(n cap:Nat)(hn:n<4611686018427387904)(q:Option Addr)(xs:List Int)(h:aA w v 1 (xs.map bY)):Fn Tryz.prog 249 [.agg #[.slice q n cap],v].toArray w [] (fun u _=>u=.int .i64 (bif !fM n then 1 else bif xs.all (bJ n) then 0 else 2)):=by
 have h':=h;obtain⟨qv,cv,rfl,_,_⟩:=h.opened;refine enter Tryz.func249 ?_;refine run ?_;intro B;refine run ?_;refine az (fun wc hG=>Xg n cap hn q wc) ?_;refine run ?_;refine ah _ rfl (fun hc=>?_) (fun hc=>?_)
 ·refine run ?_;refine fin1 ?_;rw[hc];rfl
 ·refine run ?_;refine az (fun wc hG=>aA2 n cap hn q xs (h'.good hG)) ?_;refine run ?_;rw[hc,cond_false];refine ah _ rfl (fun hc2=>?_) (fun hc2=>?_)
  ·refine run ?_;refine fin1 ?_;rw[show xs.all (bJ n)=false by simpa using hc2];rfl
  ·refine run ?_;refine fin1 ?_;rw[show xs.all (bJ n)=true by simpa using hc2];rfl
theorem aN2(n cap f:Nat)(hf:f*8+8≤n)(hc:n≤cap)(hn:n<1000000)(b o:Nat)(w:World):Fn Tryz.prog 251 [.agg #[.slice (some ⟨b,o,none⟩) n cap],.int .i64 (f:Int)].toArray w [] (fun u _=>u=.slice (some ⟨b,o+f*8,none⟩) 8 (cap-f*8)):=by
 refine enter Tryz.func251 ?_;refine run ?_;intro B;refine run ?_;refine jL bA9 (wo aB rfl rfl rfl bA9 bA4 bA4 bA4 bA4 (o':=o+f*8) bA4 (m':=8) bA4 (c':=cap-f*8) bA4) ?_;refine run ?_;exact fin1 rfl
theorem Uz(ws:List Nat)(hl:ws.length<1000000)(hm:aA w v 1 (ws.map uV)):Fn Tryz.prog 250 [.agg #[v]].toArray w [] (fun u hn=>∃ v' h',u=.agg #[v']∧Own 53 1 v' h' (ws.map uV)∧aJ h' hn):=by
 obtain⟨q,cap,rfl,_⟩:=id hm.opened;refine enter Tryz.func250 ?_;refine run ?_;intro B;refine run ?_;intro X;refine bH (fun wc hG=>oM _ (ws.map uV) (hm.good hG) (ao9 ws) (by simpa using hl)) ?_;intro u hn hO;obtain⟨q2,c2,e2⟩:=hO.opened;subst e2;refine aS (⟨X,#[.slice none 0 0],270⟩::⟨B,#[.slice q ws.length cap],24⟩::hn) aj ?_;refine run ?_;refine dS ?_;exact⟨_,hn,rfl,hO,by (exact aj)⟩
def oq(ws:List Nat)(l:List Int):List Nat:=l.foldl kT ws
theorem xP(l:List Int):∀ ws:List Nat,(oq ws l).length=ws.length:=by
 induction l with
 | nil=>intro ws;rfl
 | cons f l ih=>intro ws;rw[oq,bX1,←oq,ih,jr]
theorem MG(ws:List Nat)(l:List Int)(f:Int):oq ws (l++[f])=kT (oq ws l) f:=by
 unfold oq;rw[List.foldl_append];rfl
theorem ah3(ws:List Nat){vl:Value}(h:aA w v 1 (ws.map uV))(l:List Int)(hv:aA w vl 1 (l.map bY))(hmm:fM ws.length=true)(hl:l.all (bJ ws.length)=true):
  Fn Tryz.prog 167 [.agg #[v],vl].toArray w [] (fun u hn=>av8 ⟨oq ws l,[],0⟩ u hn):=by
 have rZ:=bP hmm;have h':=h;obtain⟨q,cap,rfl,_,hcap⟩:=h.opened;obtain⟨q2,cap2,rfl,hne2,_⟩:=hv.opened;refine enter Tryz.func167 ?_;refine run ?_;intro Mb Rb;refine run ?_;refine az (fun wc hG=>aA3 ws.length cap bA4 q l (hv.good hG)) ?_;rw[hmm,hl];refine aN ?_;refine bH (fun wc hG=>Uz ws bA4 (h'.good hG)) ?_;rintro u hn ⟨v1,h1,rfl,hO,hle⟩;obtain⟨g,cap1,cur,rfl,rfl,hrow⟩:=hO.row (n:=ws.length) bA6 bA4;refine aS [⟨Rb,#[.slice none 0 0],24⟩,⟨g,cur,53⟩] (cnt1 hle) ?_;refine run ?_;intro Xb;refine run ?_;refine aK (σ:=Nat×Array Value) (fun s=>[(21,.int .i64 (s.1:Int))]) (fun s=>[⟨Xb,#[.slice (some ⟨g,0,none⟩) ws.length cap1],270⟩,⟨Rb,#[.slice none 0 0],24⟩,⟨g,s.2,53⟩]) (fun s=>s.1≤l.length∧Own 53 1 (.slice (some ⟨g,0,none⟩) ws.length cap1) [⟨g,s.2,53⟩] ((oq ws (l.take s.1)).map uV)) (fun s=>l.length-s.1) (0,cur) ⟨bH3 _,hO⟩ ?_;rintro⟨k,cu⟩ m hm ⟨hk,hU⟩;dsimp only at hm hk hU ⊢;have hcap1:=hrow.le;refine run ?_;refine ah _ rfl (fun hc=>?_) (fun hc=>?_)
 ·have hlt:k<l.length:=by simpa using hc
  obtain⟨b2,o2,rfl⟩:=hne2 bA8;have hr:=ak (hv.row hlt);have hf:=iK (bH1.1 hl _ (getD_mem hlt));have htn:=dW hlt;generalize l.getD k default=f at hr hf htn;simp only[bJ5] at hr;refine run ?_;refine az (fun wc hG=>by have h:=aN2 ws.length cap1 f.toNat bA4 bA4 bA4 g 0 wc;rw[hf.2.2] at h;exact h) ?_;obtain⟨aw0,_,_,_⟩:=hU.Cf (k:=ws.length-1) (by rw[xP];omega)
  have hUz:Own 53 1 (.slice (some ⟨g,0,none⟩) ws.length cap1) [⟨g,putAt cu (0+f.toNat*8) (List.replicate 8 (.int .u64 0)),53⟩] ((oq ws (l.take (k+1))).map uV):=by
   rw[htn,MG,bJ4];exact hU.zeros 8 (by rw[xP];omega)
  refine KY aB (hp':=[⟨Xb,#[.slice (some ⟨g,0,none⟩) ws.length cap1],270⟩,⟨Rb,#[.slice none 0 0],24⟩]) rfl rfl rfl rfl rfl rfl bA5 p2 bA4 ?_;generalize hcz:putAt cu (0+f.toNat*8) (List.replicate 8 (.int .u64 0))=cz at hUz ⊢;clear hcz;refine run ?_;exact aF (k+1,cz) ⟨hlt,hUz⟩ (hm:=by dsimp only;omega)
 ·have hge:k=l.length:=by simp at hc;omega
  subst hge;rw[bM6] at hU;have hop:=hU.opened;rw[bG9,xP] at hop;refine run ?_;refine gB ?_;obtain⟨p3,c3,e3⟩:=hop;exact⟨_,[⟨g,cu,53⟩],rfl,hU,by (exact aj)⟩
end
section
attribute [local irreducible] Hy St Ops DH dI
theorem Ju(v:Value)(xs:List (List Value))(h:aA w v 1 xs)(hall:∀ c∈xs,c.length=1∧c.all (·.oneCell')=true)(hl:xs.length<1000000):Fn Tryz.prog 74 [v].toArray w [] (fun u hn=>Own 3 1 u hn xs):=by
 obtain⟨⟨q,cap,rfl,hne⟩,_⟩:=h;refine enter Tryz.func74 ?_;refine run ?_;refine jL bA9 (nH aB rfl rfl) ?_;refine run ?_;refine ah _ rfl (fun hp=>?_) (fun hp=>?_)
 ·obtain rfl:xs=[]:=by
   rcases bL8 (xs=[]) with h | h
   ·exact h
   ·obtain⟨b,o,rfl,_⟩:=hne h;cases hp
  refine run ?_;refine fin1 ?_;exact⟨by simp,.inl ⟨rfl,rfl,rfl⟩⟩
 refine run ?_;refine iF aB bA9 bA9 (fun g=>?_);refine run ?_;rcases bL8 (xs=[]) with rfl | hx
 ·cases q with
  | none=>cases hp
  | some q=>
  refine jL bA9 (iE aB (jB:=0) rfl rfl rfl (bI0 _)) ?_;refine run ?_;refine fin1 ?_;exact⟨by simp,.inr ⟨g,0,#[],rfl,rfl,⟨rfl,bI0 _,by decide,rfl,rfl⟩⟩⟩
 ·obtain⟨b,o,rfl,hr⟩:=hne hx;refine eX aB bA9 rfl ⟨rfl,bI0 _,by decide,rfl,rfl⟩ rfl rfl rfl rfl rfl rfl (.refl _) rfl hall hr bA6 hl (fun v' ha' hA=>?_);refine run ?_;refine fin1 ?_;rw[bI3];exact hA
theorem Jv(v:Value)(xs:List (List Value))(h:aA w v 2 xs)(hall:∀ c∈xs,c.length=2∧c.all (·.oneCell')=true)(hl:xs.length<1000000):Fn Tryz.prog 140 [v].toArray w [] (fun u hn=>Own 51 2 u hn xs):=by
 obtain⟨⟨q,cap,rfl,hne⟩,_⟩:=h;refine enter Tryz.func140 ?_;refine run ?_;refine jL bA9 (nH aB rfl rfl) ?_;refine run ?_;refine ah _ rfl (fun hp=>?_) (fun hp=>?_)
 ·obtain rfl:xs=[]:=by
   rcases bL8 (xs=[]) with h | h
   ·exact h
   ·obtain⟨b,o,rfl,_⟩:=hne h;cases hp
  refine run ?_;refine fin1 ?_;exact⟨by simp,.inl ⟨rfl,rfl,rfl⟩⟩
 refine run ?_;refine iF aB bA9 bA9 (fun g=>?_);refine run ?_;rcases bL8 (xs=[]) with rfl | hx
 ·cases q with
  | none=>cases hp
  | some q=>
  refine jL bA9 (iE aB (jB:=0) rfl rfl rfl (bI0 _)) ?_;refine run ?_;refine fin1 ?_;exact⟨by simp,.inr ⟨g,0,#[],rfl,rfl,⟨rfl,bI0 _,by decide,rfl,rfl⟩⟩⟩
 ·obtain⟨b,o,rfl,hr⟩:=hne hx;refine eX aB bA9 rfl ⟨rfl,bI0 _,by decide,rfl,rfl⟩ rfl rfl rfl rfl rfl rfl (.refl _) rfl hall hr bA6 hl (fun v' ha' hA=>?_);refine run ?_;refine fin1 ?_;rw[bI3];exact hA
theorem Jw(v:Value)(xs:List (List Value))(h:aA w v 2 xs)(hall:∀ c∈xs,c.length=2∧c.all (·.oneCell')=true)(hl:xs.length<1000000):Fn Tryz.prog 142 [v].toArray w [] (fun u hn=>Own 104 2 u hn xs):=by
 obtain⟨⟨q,cap,rfl,hne⟩,_⟩:=h;refine enter Tryz.func142 ?_;refine run ?_;refine jL bA9 (nH aB rfl rfl) ?_;refine run ?_;refine ah _ rfl (fun hp=>?_) (fun hp=>?_)
 ·obtain rfl:xs=[]:=by
   rcases bL8 (xs=[]) with h | h
   ·exact h
   ·obtain⟨b,o,rfl,_⟩:=hne h;cases hp
  refine run ?_;refine fin1 ?_;exact⟨by simp,.inl ⟨rfl,rfl,rfl⟩⟩
 refine run ?_;refine iF aB bA9 bA9 (fun g=>?_);refine run ?_;rcases bL8 (xs=[]) with rfl | hx
 ·cases q with
  | none=>cases hp
  | some q=>
  refine jL bA9 (iE aB (jB:=0) rfl rfl rfl (bI0 _)) ?_;refine run ?_;refine fin1 ?_;exact⟨by simp,.inr ⟨g,0,#[],rfl,rfl,⟨rfl,bI0 _,by decide,rfl,rfl⟩⟩⟩
 ·obtain⟨b,o,rfl,hr⟩:=hne hx;refine eX aB bA9 rfl ⟨rfl,bI0 _,by decide,rfl,rfl⟩ rfl rfl rfl rfl rfl rfl (.refl _) rfl hall hr bA6 hl (fun v' ha' hA=>?_);refine run ?_;refine fin1 ?_;rw[bI3];exact hA
theorem MH(v:Value)(xs:List (List Value))(h:aA w v 2 xs)(hall:∀ c∈xs,c.length=2∧c.all (·.oneCell')=true)(hl:xs.length<1000000):Fn Tryz.prog 143 [v].toArray w [] (fun u hn=>Own 173 2 u hn xs):=by
 obtain⟨⟨q,cap,rfl,hne⟩,_⟩:=h;refine enter Tryz.func143 ?_;refine run ?_;refine jL bA9 (nH aB rfl rfl) ?_;refine run ?_;refine ah _ rfl (fun hp=>?_) (fun hp=>?_)
 ·obtain rfl:xs=[]:=by
   rcases bL8 (xs=[]) with h | h
   ·exact h
   ·obtain⟨b,o,rfl,_⟩:=hne h;cases hp
  refine run ?_;refine fin1 ?_;exact⟨by simp,.inl ⟨rfl,rfl,rfl⟩⟩
 refine run ?_;refine iF aB bA9 bA9 (fun g=>?_);refine run ?_;rcases bL8 (xs=[]) with rfl | hx
 ·cases q with
  | none=>cases hp
  | some q=>
  refine jL bA9 (iE aB (jB:=0) rfl rfl rfl (bI0 _)) ?_;refine run ?_;refine fin1 ?_;exact⟨by simp,.inr ⟨g,0,#[],rfl,rfl,⟨rfl,bI0 _,by decide,rfl,rfl⟩⟩⟩
 ·obtain⟨b,o,rfl,hr⟩:=hne hx;refine eX aB bA9 rfl ⟨rfl,bI0 _,by decide,rfl,rfl⟩ rfl rfl rfl rfl rfl rfl (.refl _) rfl hall hr bA6 hl (fun v' ha' hA=>?_);refine run ?_;refine fin1 ?_;rw[bI3];exact hA
theorem FZ(v:Value)(xs:List (List Value))(h:aA w v 5 xs)(hall:∀ c∈xs,c.length=5∧c.all (·.oneCell')=true)(hl:xs.length<1000000):Fn Tryz.prog 141 [v].toArray w [] (fun u hn=>Own 100 5 u hn xs):=by
 obtain⟨⟨q,cap,rfl,hne⟩,_⟩:=h;refine enter Tryz.func141 ?_;refine run ?_;refine jL bA9 (nH aB rfl rfl) ?_;refine run ?_;refine ah _ rfl (fun hp=>?_) (fun hp=>?_)
 ·obtain rfl:xs=[]:=by
   rcases bL8 (xs=[]) with h | h
   ·exact h
   ·obtain⟨b,o,rfl,_⟩:=hne h;cases hp
  refine run ?_;refine fin1 ?_;exact⟨by simp,.inl ⟨rfl,rfl,rfl⟩⟩
 refine run ?_;refine iF aB bA9 bA9 (fun g=>?_);refine run ?_;rcases bL8 (xs=[]) with rfl | hx
 ·cases q with
  | none=>cases hp
  | some q=>
  refine jL bA9 (iE aB (jB:=0) rfl rfl rfl (bI0 _)) ?_;refine run ?_;refine fin1 ?_;exact⟨by simp,.inr ⟨g,0,#[],rfl,rfl,⟨rfl,bI0 _,by decide,rfl,rfl⟩⟩⟩
 ·obtain⟨b,o,rfl,hr⟩:=hne hx;refine eX aB bA9 rfl ⟨rfl,bI0 _,by decide,rfl,rfl⟩ rfl rfl rfl rfl rfl rfl (.refl _) rfl hall hr bA6 hl (fun v' ha' hA=>?_);refine run ?_;refine fin1 ?_;rw[bI3];exact hA
structure GB where
 vv:Value
 mv:Value
 hv:Hp
 hm:Hp
def zy(G:Nat→GB):Nat→Hp
 | 0=>[]
 | n+1=>zy G n++((G n).hv++(G n).hm)
theorem AY{G G':Nat→GB}:∀ n,(∀ i,i<n→G' i=G i)→zy G' n=zy G n:=by
 intro n
 induction n with
 | zero=>intro _;rfl
 | succ n ih=>intro h;rw[zy,zy,ih (fun i hi=>h i bA4),h n bA4]
theorem Yq:∀ (n:Nat) (G:Nat→GB),i<n→∃ r,∀ G':Nat→GB,(∀ j,j≠i→G' j=G j)→(zy G' n).Perm ((G' i).hv++((G' i).hm++r)):=by
 intro n
 induction n with
 | zero=>intro G h;omega
 | succ n ih=>
  intro G hi;rcases bI1.1 hi with h | rfl
  ·obtain⟨r,hr⟩:=ih G h;refine⟨r++((G n).hv++(G n).hm),fun G' hG=>?_⟩;rw[zy,hG n bA4];refine ((hr G' hG).append_right _).trans ?_;rw[bJ',bJ']
  ·refine⟨zy G i,fun G' hG=>?_⟩;rw[zy,AY i (fun j hj=>hG j bA4),←bJ' (G' i).hv];exact bI7
structure Lay where
 pb:Nat
 zA:Nat
 gb:Nat
 AZ:Nat
 ob:Nat
 A7:Nat
 pc:Array Value
 gc:Array Value
 oc:Array Value
 G:Nat→GB
def jd(P:PtD)(G:Nat→GB)(i:Nat):List Value:=[.bool (P.gs i).live,.bool (P.gs i).dying,.int .i64 (P.gs i).first,(G i).vv,(G i).mv]
structure dR(P:PtD)(Y:Lay):Prop where
 pg:Row Y.pb Y.zA Y.pc 2 P.pages.length (P.pages.map sU).flatten
 gs:Row Y.gb Y.AZ Y.gc 5 P.ay.length ((List.range P.ay.length).map (jd P Y.G)).flatten
 on:Row Y.ob Y.A7 Y.oc 2 P.on.length (P.on.map yJ).flatten
 vc:∀ i,i<4→Own 3 1 (Y.G i).vv (Y.G i).hv ((P.gs i).aP.map bY)
 mp:∀ i,i<4→Own 173 2 (Y.G i).mv (Y.G i).hm ((P.gs i).maps.map eu)
 wf:P.Wf
 n:P.Len
 sm:P.Small 1000
abbrev Lay.pv(Y:Lay)(P:PtD):Value:=.slice (some ⟨Y.pb,0,none⟩) P.pages.length Y.zA
abbrev Lay.gv(Y:Lay)(P:PtD):Value:=.slice (some ⟨Y.gb,0,none⟩) P.ay.length Y.AZ
abbrev Lay.ov(Y:Lay)(P:PtD):Value:=.slice (some ⟨Y.ob,0,none⟩) P.on.length Y.A7
abbrev Lay.in(Y:Lay):Hp:=⟨Y.pb,Y.pc,51⟩::⟨Y.gb,Y.gc,100⟩::⟨Y.ob,Y.oc,104⟩::zy Y.G 4
def Lay.L(Y:Lay):JO:=⟨Y.pb,0,Y.zA,Y.gb,0,Y.AZ,Y.ob,0,Y.A7,fun i=>(Y.G i).vv,fun i=>(Y.G i).mv⟩
theorem Jy{G:Nat→GB}{e:mP}:∀ n,i<n→(e∈(G i).hv∨e∈(G i).hm)→e∈zy G n:=by
 intro n
 induction n with
 | zero=>intro h;omega
 | succ n ih=>
  intro hi he;rw[zy,bJ6,bJ6];rcases bI1.1 hi with h | rfl
  ·exact .inl (ih h he)
  ·exact .inr he
theorem MI(hi:i<P.pages.length):(P.pages.map sU)[i]?=some [.int .i64 (P.pg i).own,.int .i64 (P.pg i).wit]:=by
 rw[bJ1,PtD.pg,bG',bH0 hi];rfl
theorem MJ(hi:i<P.on.length):(P.on.map yJ)[i]?=some [.int .i64 (P.st i).vm,.int .i64 (P.st i).cpu]:=by
 rw[bJ1,PtD.st,bG',bH0 hi];rfl
theorem A8{xs:List o6}:∀ c∈xs.map sU,c.length=2:=fun c hc=>by obtain⟨x,_,rfl⟩:=bH9.1 hc;rfl
theorem st_len{xs:List JM}:∀ c∈xs.map yJ,c.length=2:=fun c hc=>by obtain⟨x,_,rfl⟩:=bH9.1 hc;rfl
theorem qE{P:PtD}{G:Nat→GB}{n:Nat}:∀ c∈(List.range n).map (jd P G),c.length=5:=fun c hc=>by obtain⟨x,_,rfl⟩:=bH9.1 hc;rfl
theorem dR.ap0{Y:Lay}(h:dR P Y)(hh:Here Y.in w):jo w Y.L P:=by
 have h4:=h.n.g4;have hsm:=h.sm;have hp:=hh _ (bH' ..);have hg:=hh _ (bH8 _ (bH' ..));have ho:=hh _ (bH8 _ (bH8 _ (bH' ..)));have hr:∀ e∈zy Y.G 4,w.heap[e.b]?=some (.cells e.cs e.t (0,0)):=fun e he=>hh e (bH8 _ (bH8 _ (bH8 _ he)));refine⟨fun i hi=>h.pg.range A8 hp (MI hi),fun i hi=>h.gs.range qE hg (iI _ hi),fun i hi=>?_,fun i hi=>?_,fun i hi=>h.on.range st_len ho (MJ hi),h.wf⟩
 ·have:=hsm.vc i hi;exact (h.vc i bA4).lie (fun e he=>hr e (Jy 4 bA4 (.inl he))) bA7
 ·have:=hsm.vc i hi;exact (h.mp i bA4).lie (fun e he=>hr e (Jy 4 bA4 (.inr he))) bA7
theorem dR.Yr{Y:Lay}(h:dR P Y){bx tx:Nat}(hh:Here (⟨bx,#[Y.pv P,Y.gv P,Y.ov P],tx⟩::Y.in) w):ry w bx Y.L P:=by
 have h0:=hh _ (bH' ..);exact⟨h.ap0 fun e he=>hh e (bH8 _ he),h.n,by rw[cell_of_block h0];rfl,by rw[cell_of_block h0];rfl,by rw[cell_of_block h0];rfl⟩
theorem dR.ap1{Y:Lay}(h:dR P Y)(hh:Here Y.in w):dN w (Y.pv P) (Y.gv P) (Y.ov P) P:=by
 have hv:=h.ap0 hh;have hsm:=h.sm;refine⟨?_,⟨fun i=>(Y.G i).vv,fun i=>(Y.G i).mv,aA.Aa (α:=Nat) (by have:=hsm.gs;omega) (fun i hi=>hv.gs i hi),fun i hi=>⟨hv.vc i hi,hv.mp i hi⟩⟩,?_,h.wf⟩
 ·have:=aA.Aa (α:=Nat) (cap:=Y.zA) (by have:=hsm.pg;omega) (fun i hi=>hv.pg i hi);rw[←map_range P.pages sU];exact this
 ·have:=aA.Aa (α:=Nat) (cap:=Y.A7) (by have:=hsm.on;omega) (fun i hi=>hv.st i hi);rw[←map_range P.on yJ];exact this
theorem Yt{xs:List o6}:∀ c∈xs.map sU,c.length=2∧c.all (·.oneCell')=true:=fun c hc=>by obtain⟨x,_,rfl⟩:=bH9.1 hc;exact⟨rfl,rfl⟩
theorem st_all{xs:List JM}:∀ c∈xs.map yJ,c.length=2∧c.all (·.oneCell')=true:=fun c hc=>by obtain⟨x,_,rfl⟩:=bH9.1 hc;exact⟨rfl,rfl⟩
theorem Ba{xs:List jT}:∀ c∈xs.map eu,c.length=2∧c.all (·.oneCell')=true:=fun c hc=>by obtain⟨x,_,rfl⟩:=bH9.1 hc;exact⟨rfl,rfl⟩
theorem aA.one{sz:Nat}{xs:List (List Value)}(h:aA w v sz xs):v.oneCell'=true:=by
 obtain⟨⟨q,cap,rfl,_⟩,_⟩:=h;rfl
theorem Own.one{e sz:Nat}{h:Hp}{xs:List (List Value)}(hA:Own e sz v h xs):v.oneCell'=true:=by
 obtain⟨q,cap,rfl⟩:=hA.opened;rfl
def qH(G:Nat→GB)(i:Nat)(b:GB):Nat→GB:=fun j=>if j=i then b else G j
theorem jy(G:Nat→GB)(i:Nat)(b:GB):qH G i b i=b:=by simp[qH]
theorem mO(G:Nat→GB)(i:Nat)(b:GB){j:Nat}(h:j≠i):qH G i b j=G j:=by simp[qH,h]
theorem xg{α:Type}{f g:Nat→α}{n:Nat}(hk:k<n)(h:∀ j,j≠k→g j=f j):((List.range n).map f).set k (g k)=(List.range n).map g:=by
 apply bP';intro i;by_cases hi:i=k
 ·subst hi;simp[hk]
 ·rw[bY9 (bO2 hi)];by_cases hn:i<n
  ·simp[hn,h i hi]
  ·simp[hn]
theorem Jz{g cap n:Nat}{gc:Array Value}{G:Nat→GB}(h:Row g cap gc 5 n ((List.range n).map (jd P G)).flatten)(hk:k<n)(b:GB):Row g cap (putAt gc (k*5+3) [b.vv,b.mv]) 5 n ((List.range n).map (jd P (qH G k b))).flatten:=by
 have:=h.put qE (iI _ hk) (k:=3) (vs:=[b.vv,b.mv]) bA6;rw[←xg (f:=jd P G) (g:=jd P (qH G k b)) hk (fun j hj=>by simp only[jd,mO _ _ _ hj])];have e:(jd P G k).take 3++[b.vv,b.mv]++(jd P G k).drop (3+[b.vv,b.mv].length)=jd P (qH G k b) k:=by simp only[jd,jy];rfl
 rwa [e] at this
theorem Yu{pv gv ov:Value}(h:dN w pv gv ov P)(hn:P.Len)(hs:P.Small 1000):Fn Tryz.prog 66 [.agg #[pv,gv,ov]].toArray w [] (fun u hn=>∃ Y bx,u=.pointer (some ⟨bx,0,none⟩)∧dR P Y∧aJ (⟨bx,#[Y.pv P,Y.gv P,Y.ov P],149⟩::Y.in) hn):=by
 obtain⟨L,rfl,rfl,rfl,hv⟩:=h.open hn;obtain⟨vv,mv,hg1,hg2⟩:=h.ay
 have ap2:∀ c∈(List.range P.ay.length).map (fun i=>[Value.bool (P.gs i).live,.bool (P.gs i).dying,.int .i64 (P.gs i).first,vv i,mv i]),c.length=5∧c.all (·.oneCell')=true:=fun c hc=>by
  obtain⟨i,hi,rfl⟩:=bH9.1 hc;have:=hg2 i (bI2.1 hi);exact⟨rfl,by simp only[bV7,bW4,this.1.one,this.2.one];rfl⟩
 have g4:=hn.g4;have l1:(P.pages.map sU).length≤64:=by have:=hn.p1;simpa using this
 have l2:(P.on.map yJ).length≤3:=by have:=hn.o1;simpa using this
 have l3:((List.range P.ay.length).map (fun i=>[Value.bool (P.gs i).live,.bool (P.gs i).dying,.int .i64 (P.gs i).first,vv i,mv i])).length=4:=by simp[g4]
 refine enter Tryz.func66 ?_;refine run ?_;intro B;refine run ?_;refine drawM 11 [0,1,3,4,6,7] [2,5,8] [9,10] ?_;refine gK ?_;refine kD (fun wc hG=>Jv _ _ (h.pages.good hG) Yt bA4) (dY Yt bA4) ?_;refine kD (fun wc hG=>FZ _ _ (hg1.good hG) ap2 bA4) (dY ap2 bA4) ?_;refine kD (fun wc hG=>Jw _ _ (h.on.good hG) st_all bA4) (dY st_all bA4) ?_;refine kP ?_;rintro _ _ hO _ _ hGu _ _ hPg;obtain⟨ob,A7,oc,rfl,rfl,ro⟩:=hO.row (n:=P.on.length) bA6 (by have:=hn.o0;omega);obtain⟨gb,AZ,gc,rfl,rfl,rg⟩:=hGu.row (n:=P.ay.length) bA6 bA4;obtain⟨pb,zA,pc,rfl,rfl,rp⟩:=hPg.row (n:=P.pages.length) bA6 (by have:=hn.p0;omega);refine uG ?_;refine uG ?_;refine jM ?_;refine ru ?_;simp only[bH2,bH5];refine run ?_;intro X;refine run ?_
 refine aK (σ:=Nat×(Nat→GB)×Array Value) (fun s=>[(24,.int .i64 (s.1:Int))]) (fun s=>⟨X,#[.slice (some ⟨pb,0,none⟩) P.pages.length zA,.slice (some ⟨gb,0,none⟩) P.ay.length AZ,.slice (some ⟨ob,0,none⟩) P.on.length A7],149⟩::⟨ob,oc,104⟩::⟨gb,s.2.2,100⟩::⟨pb,pc,51⟩::zy s.2.1 s.1)
  (fun s=>s.1≤4∧Row gb AZ s.2.2 5 P.ay.length ((List.range P.ay.length).map (jd P s.2.1)).flatten∧(∀ i,i<s.1→Own 3 1 (s.2.1 i).vv (s.2.1 i).hv ((P.gs i).aP.map bY)∧Own 173 2 (s.2.1 i).mv (s.2.1 i).hm ((P.gs i).maps.map eu))∧∀ i,s.1≤i→i<4→(s.2.1 i).vv=vv i∧(s.2.1 i).mv=mv i) (fun s=>4-s.1) (0,fun i=>⟨vv i,mv i,[],[]⟩,gc) ⟨by simp,rg,fun i hi=>absurd hi bA6,fun i _ _=>⟨rfl,rfl⟩⟩ ?_
 rintro⟨k,G,gc⟩ m hm ⟨hk,hrow,hown,hold⟩;dsimp only at hm hk hrow hown hold ⊢;refine run ?_;refine ah _ rfl (fun hc=>?_) (fun hc=>?_)
 ·have hlt:k<4:=by simp at hc;omega
  obtain⟨hvk,hmk⟩:=hg2 k bA4;have hat:((List.range P.ay.length).map (jd P G))[k]?=some (jd P G k):=iI _ bA4;have n3:=hrow.nth qE hat (k:=3) rfl;have n4:=hrow.nth qE hat (k:=4) rfl;rw[(hold k (bI0 _) hlt).1] at n3;rw[(hold k (bI0 _) hlt).2] at n4;refine run ?_;refine late 14 1 ?_;refine Wx 13 1 ?_;refine Wx 12 1 ?_;refine xE 12 [0,1,2,3,4,5,7,8,9,10] [6,11] [] ?_;refine gK ?_;have sv:=(hs.vc k bA4).1;have sm:=(hs.vc k bA4).2;refine kD (fun wc hG=>Ju _ _ (hvk.good hG) IL bA') (dY IL bA') ?_;refine kD (fun wc hG=>MH _ _ (hmk.good hG) Ba bA') (dY Ba bA') ?_;refine kP ?_;rintro mv' hm' hM vv' hv' hV;simp only[DN];refine jM ?_;refine ru ?_;refine dm ([_,_,_,_]++(zy G k++(hv'++hm'))) ((bW3 _ (bW3 _ bI7)).trans (by rw[bI3];exact WG _ _ _)) ?_;obtain⟨q1,c1,rfl⟩:=hV.opened;obtain⟨q2,c2,rfl⟩:=hM.opened;simp only[bH2,bH5];have hgz:20≤gc.size:=by have:=hrow.size;have:=hrow.le;omega
  refine run ?_;refine aF (k+1,qH G k ⟨(.slice q1 ((P.gs k).aP.map bY).length c1),(.slice q2 ((P.gs k).maps.map eu).length c2),hv',hm'⟩,putAt gc (k*5+3) [(.slice q1 ((P.gs k).aP.map bY).length c1),(.slice q2 ((P.gs k).maps.map eu).length c2)]) ⟨by dsimp only;omega,Jz hrow bA4 ⟨(.slice q1 ((P.gs k).aP.map bY).length c1),(.slice q2 ((P.gs k).maps.map eu).length c2),hv',hm'⟩,fun i hi=>?_,fun i h1 h2=>?_⟩ (h2:=?_)
  ·dsimp only at hi ⊢;rcases bI1.1 hi with hi | rfl
   ·rw[mO _ _ _ bA4];exact hown i hi
   ·rw[jy];exact⟨hV,hM⟩
  ·dsimp only at h1 ⊢;rw[mO _ _ _ bA4];exact hold i bA4 h2
  ·dsimp only;rw[zy,AY (G:=G) k (fun i hi=>mO _ _ _ bA4),jy];simp only[putAt]
   (repeat (first | exact True.intro | exact aJ.refl _ | (with_reducible exact aJ.left _ _) | (with_reducible exact aJ.right _ _) | (refine Exists.intro _ (And.intro bB8 ?_)) | (with_reducible apply aJ.app) | (with_reducible apply aJ.skip)))
 have hk4:k=4:=by simp at hc;omega
 subst hk4;refine run ?_;refine fin1 ?_;refine⟨⟨pb,zA,gb,AZ,ob,A7,pc,gc,oc,G⟩,X,rfl,⟨rp,hrow,ro,fun i hi=>(hown i hi).1,fun i hi=>(hown i hi).2,h.wf,hn,hs⟩,?_⟩
 (repeat (first | exact True.intro | exact aJ.refl _ | (with_reducible exact aJ.left _ _) | (with_reducible exact aJ.right _ _) | (refine Exists.intro _ (And.intro bB8 ?_)) | (with_reducible apply aJ.app) | (with_reducible apply aJ.skip)))
theorem MK(xs:List o6)(v:Value)(h:aA w v 2 (xs.map sU))(hl:xs.length<1000000):Fn Tryz.prog 314 [v].toArray w [] (fun u hp=>Acc 51 2 u hp (xs.map sU)):=by
 obtain⟨q,cap,rfl,hne,hle⟩:=h.opened;refine enter Tryz.func314 ?_;refine run ?_;refine aK (σ:=Nat×Value×Hp) (fun s=>[(3,s.2.1),(4,.int .i64 (s.1:Int))]) (fun s=>s.2.2) (fun s=>s.1≤xs.length∧Acc 51 2 s.2.1 s.2.2 ((xs.take s.1).map sU)) (fun s=>xs.length-s.1) (0,_,[]) ⟨by omega,Acc.nil _ _⟩ ?_;rintro⟨k,v,ha⟩ m hm ⟨hk,hA⟩;dsimp only at hm hk hA ⊢;refine run ?_;refine ah _ rfl (fun hc=>?_) (fun hc=>?_)
 ·have hlt:k<xs.length:=by simp at hc;omega
  obtain⟨b,o,rfl⟩:=hne bA8;have h1:=(h.row hlt)
  simp only[sU] at h1;refine run ?_;intro T;refine dK (c:=sU (xs.getD k default)) hA (fun v' ha' hA'=>?_) bA' (aY (m:=2) mh rfl);refine run ?_;refine aF (k+1,v',ha') ⟨hlt,?_⟩;dsimp only;rw[dW hlt,bI6];exact hA'
 ·have:k=xs.length:=by simp at hc;omega
  subst this;refine run ?_;refine fin1 ?_;simpa using hA
theorem ML(xs:List JM)(v:Value)(h:aA w v 2 (xs.map yJ))(hl:xs.length<1000000):Fn Tryz.prog 316 [v].toArray w [] (fun u hp=>Acc 104 2 u hp (xs.map yJ)):=by
 obtain⟨q,cap,rfl,hne,hle⟩:=h.opened;refine enter Tryz.func316 ?_;refine run ?_;refine aK (σ:=Nat×Value×Hp) (fun s=>[(3,s.2.1),(4,.int .i64 (s.1:Int))]) (fun s=>s.2.2) (fun s=>s.1≤xs.length∧Acc 104 2 s.2.1 s.2.2 ((xs.take s.1).map yJ)) (fun s=>xs.length-s.1) (0,_,[]) ⟨by omega,Acc.nil _ _⟩ ?_;rintro⟨k,v,ha⟩ m hm ⟨hk,hA⟩;dsimp only at hm hk hA ⊢;refine run ?_;refine ah _ rfl (fun hc=>?_) (fun hc=>?_)
 ·have hlt:k<xs.length:=by simp at hc;omega
  obtain⟨b,o,rfl⟩:=hne bA8;have h1:=(h.row hlt)
  simp only[yJ] at h1;refine run ?_;intro T;refine dK (c:=yJ (xs.getD k default)) hA (fun v' ha' hA'=>?_) bA' (aY (m:=2) mh rfl);refine run ?_;refine aF (k+1,v',ha') ⟨hlt,?_⟩;dsimp only;rw[dW hlt,bI6];exact hA'
 ·have:k=xs.length:=by simp at hc;omega
  subst this;refine run ?_;refine fin1 ?_;simpa using hA
theorem PY(xs:List jT)(v:Value)(h:aA w v 2 (xs.map eu))(hl:xs.length<1000000):Fn Tryz.prog 344 [v].toArray w [] (fun u hp=>Acc 173 2 u hp (xs.map eu)):=by
 obtain⟨q,cap,rfl,hne,hle⟩:=h.opened;refine enter Tryz.func344 ?_;refine run ?_;refine aK (σ:=Nat×Value×Hp) (fun s=>[(3,s.2.1),(4,.int .i64 (s.1:Int))]) (fun s=>s.2.2) (fun s=>s.1≤xs.length∧Acc 173 2 s.2.1 s.2.2 ((xs.take s.1).map eu)) (fun s=>xs.length-s.1) (0,_,[]) ⟨by omega,Acc.nil _ _⟩ ?_;rintro⟨k,v,ha⟩ m hm ⟨hk,hA⟩;dsimp only at hm hk hA ⊢;refine run ?_;refine ah _ rfl (fun hc=>?_) (fun hc=>?_)
 ·have hlt:k<xs.length:=by simp at hc;omega
  obtain⟨b,o,rfl⟩:=hne bA8;have h1:=(h.row hlt)
  simp only[eu] at h1;refine run ?_;intro T;refine dK (c:=eu (xs.getD k default)) hA (fun v' ha' hA'=>?_) bA' (aY (m:=2) mh rfl);refine run ?_;refine aF (k+1,v',ha') ⟨hlt,?_⟩;dsimp only;rw[dW hlt,bI6];exact hA'
 ·have:k=xs.length:=by simp at hc;omega
  subst this;refine run ?_;refine fin1 ?_;simpa using hA
theorem EM(xs:List Int)(v:Value)(h:aA w v 1 (xs.map bY))(hl:xs.length<1000000):Fn Tryz.prog 107 [v].toArray w [] (fun u hp=>Acc 3 1 u hp (xs.map bY)):=by
 obtain⟨q,cap,rfl,hne,hle⟩:=h.opened;refine enter Tryz.func107 ?_;refine run ?_;refine aK (σ:=Nat×Value×Hp) (fun s=>[(3,s.2.1),(4,.int .i64 (s.1:Int))]) (fun s=>s.2.2) (fun s=>s.1≤xs.length∧Acc 3 1 s.2.1 s.2.2 ((xs.take s.1).map bY)) (fun s=>xs.length-s.1) (0,_,[]) ⟨by omega,Acc.nil _ _⟩ ?_;rintro⟨k,v,ha⟩ m hm ⟨hk,hA⟩;dsimp only at hm hk hA ⊢;refine run ?_;refine ah _ rfl (fun hc=>?_) (fun hc=>?_)
 ·have hlt:k<xs.length:=by simp at hc;omega
  obtain⟨b,o,rfl⟩:=hne bA8;have h1:=ak (h.row hlt);simp only[bY,bJ5] at h1;refine run ?_;intro T;refine dK (c:=bY (xs.getD k default)) hA (fun v' ha' hA'=>?_) bA' (aY (m:=1) mh rfl);refine run ?_;refine aF (k+1,v',ha') ⟨hlt,?_⟩;dsimp only;rw[dW hlt,bI6];exact hA'
 ·have:k=xs.length:=by simp at hc;omega
  subst this;refine run ?_;refine fin1 ?_;simpa using hA
theorem MM(g:Va)(vv mv:Value)(hv:aA w vv 1 (g.aP.map bY))(hm:aA w mv 2 (g.maps.map eu))(l1:g.aP.length<1000000)(l2:g.maps.length<1000000):
  Fn Tryz.prog 343 [.agg #[.bool g.live,.bool g.dying,.int .i64 g.first,vv,mv]].toArray w [] (fun u hn=>∃ b:GB,u=.agg #[.bool g.live,.bool g.dying,.int .i64 g.first,b.vv,b.mv]∧Own 3 1 b.vv b.hv (g.aP.map bY)∧Own 173 2 b.mv b.hm (g.maps.map eu)∧aJ (b.hv++b.hm) hn):=by
 obtain⟨q1,c1,rfl,_⟩:=hv.opened;obtain⟨q2,c2,rfl,_⟩:=hm.opened;refine enter Tryz.func343 ?_;refine run ?_;intro B1 B2 B3;refine bH (fun wc hG=>EM g.aP _ (hv.good hG) l1) (fun v' hv' hA=>?_);refine dm (_++hv') bI7 ?_;have hA':=hA.own;obtain⟨s1,d1,rfl⟩:=hA'.opened;simp only[bH2,bH5];refine run ?_;refine bH (fun wc hG=>PY g.maps _ (hm.good hG) l2) (fun m' hm' hB=>?_);refine dm (_++hm') bI7 ?_;have hB':=hB.own;obtain⟨s2,d2,rfl⟩:=hB'.opened;simp only[bH2,bH5];refine run ?_;refine dS ?_;refine⟨⟨_,_,hv',hm'⟩,rfl,hA',hB',?_⟩
 (repeat (first | exact True.intro | exact aJ.refl _ | (with_reducible exact aJ.left _ _) | (with_reducible exact aJ.right _ _) | (refine Exists.intro _ (And.intro bB8 ?_)) | (with_reducible apply aJ.app) | (with_reducible apply aJ.skip)))
theorem JA(g4:P.ay.length=4)(hs:P.Small 1000)(vv mv:Nat→Value)(gv:Value)(h:aA w gv 5 ((List.range P.ay.length).map fun i=>[.bool (P.gs i).live,.bool (P.gs i).dying,.int .i64 (P.gs i).first,vv i,mv i]))(h2:∀ i,i<P.ay.length→aA w (vv i) 1 ((P.gs i).aP.map bY)∧aA w (mv i) 2 ((P.gs i).maps.map eu)):
  Fn Tryz.prog 315 [gv].toArray w [] (fun u hn=>∃ (G:Nat→GB) (hg:Hp),Own 100 5 u hg ((List.range P.ay.length).map (jd P G))∧(∀ i,i<4→Own 3 1 (G i).vv (G i).hv ((P.gs i).aP.map bY)∧Own 173 2 (G i).mv (G i).hm ((P.gs i).maps.map eu))∧aJ (hg++zy G 4) hn):=by
 obtain⟨⟨q,cap,rfl,hne⟩,_⟩:=h;simp only[bG9,bN2];obtain⟨b,o,rfl,hr⟩:=hne (by intro e;rw[bQ9,List.range_eq_nil] at e;omega);refine enter Tryz.func315 ?_;refine run ?_;refine aK (σ:=Nat×Value×Hp×(Nat→GB)) (fun s=>[(3,s.2.1),(4,.int .i64 (s.1:Int))]) (fun s=>s.2.2.1++zy s.2.2.2 s.1) (fun s=>s.1≤4∧Acc 100 5 s.2.1 s.2.2.1 ((List.range s.1).map (jd P s.2.2.2))∧∀ i,i<s.1→Own 3 1 (s.2.2.2 i).vv (s.2.2.2 i).hv ((P.gs i).aP.map bY)∧Own 173 2 (s.2.2.2 i).mv (s.2.2.2 i).hm ((P.gs i).maps.map eu)) (fun s=>4-s.1) (0,_,[],fun i=>⟨vv i,mv i,[],[]⟩) ⟨by simp,Acc.nil _ _,fun i hi=>absurd hi bA6⟩ ?_;rintro⟨k,v,ha,G⟩ m hm ⟨hk,hA,hown⟩;dsimp only at hm hk hA hown ⊢;refine run ?_;refine ah _ rfl (fun hc=>?_) (fun hc=>?_)
 ·have hlt:k<4:=by simp at hc;omega
  have h1:=hr k _ (iI _ bA4);obtain⟨a1,a2⟩:=h2 k bA4;have sv:=hs.vc k bA4;refine run ?_;refine bH (fun wc hG=>MM (P.gs k) (vv k) (mv k) (a1.good hG) (a2.good hG) bA4 bA4) ?_;rintro _ hn ⟨b2,rfl,o1,o2,hle⟩;refine aS (ha++(zy G k++(b2.hv++b2.hm))) (cnt1 hle) ?_;refine run ?_;intro T;refine dK (c:=jd P (qH G k b2) k) hA (fun v' ha' hA'=>?_) bA' (aY (m:=5) mh (by simp only[jd,jy];rfl)) (hp':=⟨T,#[.bool (P.gs k).live,.bool (P.gs k).dying,.int .i64 (P.gs k).first,b2.vv,b2.mv],100⟩::(zy G k++(b2.hv++b2.hm))) (hperm:=by (exact aT)) (hl:=rfl) (h1:=?_)
  ·refine run ?_;refine aF (k+1,v',ha',qH G k b2) ⟨by dsimp only;omega,?_,fun i hi=>?_⟩ (h2:=?_)
   ·dsimp only;rw[bN7,bI6]
    have e:(List.range k).map (jd P (qH G k b2))=(List.range k).map (jd P G):=List.map_congr_left fun i hi=>by
     have:=bI2.1 hi;simp only[jd,mO G k b2 (show i≠k by omega)]
    rw[e];exact hA'
   ·dsimp only at hi ⊢;rcases bI1.1 hi with hi | rfl
    ·rw[mO _ _ _ bA4];exact hown i hi
    ·rw[jy];exact⟨o1,o2⟩
   ·dsimp only;rw[zy,AY (G:=G) k (fun i hi=>mO _ _ _ bA4),jy]
    (exact aj)
  ·simp only[jd,jy,bV7,bW4,o1.one,o2.one];rfl
 have hk4:k=4:=by simp at hc;omega
 subst hk4;refine run ?_;refine fin1 ?_;refine⟨G,ha,by rw[g4];exact hA.own,hown,aJ.refl _⟩
theorem PZ{pv gv ov:Value}(h:dN w pv gv ov P)(hn:P.Len)(hs:P.Small 1000):Fn Tryz.prog 261 [.agg #[pv,gv,ov]].toArray w [] (fun u hn=>∃ Y:Lay,u=.agg #[Y.pv P,Y.gv P,Y.ov P]∧dR P Y∧aJ Y.in hn):=by
 obtain⟨L,rfl,rfl,rfl,hv⟩:=h.open hn;obtain⟨vv,mv,hg1,hg2⟩:=h.ay;have hg4:=hn.g4;have np:=hn.p1;have no:=hn.o1;refine enter Tryz.func261 ?_;refine run ?_;intro B1 B2 B3;refine bH (fun wc hG=>MK P.pages _ (h.pages.good hG) bA4) (fun v1 h1 hA=>?_);obtain⟨pb,zA,pc,rfl,rfl,rp⟩:=hA.own.row (n:=P.pages.length) bA6 (by have:=hn.p0;omega);refine dm (_++[⟨pb,pc,51⟩]) bI7 ?_;simp only[bH2,bH5];refine run ?_;refine bH (fun wc hG=>JA hg4 hs vv mv _ (hg1.good hG) (fun i hi=>⟨(hg2 i hi).1.good hG,(hg2 i hi).2.good hG⟩)) ?_;rintro v2 h2 ⟨G,hgb,hGo,hown,hle⟩;obtain⟨gb,AZ,gc,rfl,rfl,rg⟩:=hGo.row (n:=P.ay.length) bA6 bA4;refine dm (_++h2) bI7 ?_;simp only[bH2,bH5];refine run ?_;refine bH (fun wc hG=>ML P.on _ (h.on.good hG) bA4) (fun v3 h3 hO=>?_);obtain⟨ob,A7,oc,rfl,rfl,ro⟩:=hO.own.row (n:=P.on.length) bA6 (by have:=hn.o0;omega);refine dm (_++[⟨ob,oc,104⟩]) bI7 ?_;simp only[bH2,bH5];refine run ?_;refine dS ?_;refine⟨⟨pb,zA,gb,AZ,ob,A7,pc,gc,oc,G⟩,rfl,⟨rp,rg,ro,fun i hi=>(hown i hi).1,fun i hi=>(hown i hi).2,h.wf,hn,hs⟩,?_⟩
 (exact cnt1 hle)
end
section
attribute [local irreducible] Hy St Ops DH dI
namespace PtD
def kL(P:PtD)(f:Nat)(x:o6):PtD:={ P with pages:=P.pages.set f x }
def iD(P:PtD)(i:Nat)(g:Va):PtD:={ P with ay:=P.ay.set i g }
def setSt(P:PtD)(c:Nat)(s:JM):PtD:={ P with on:=P.on.set c s }
variable (P : PtD)
theorem Yv(f:Nat)(x:o6)(hf:f<P.pages.length)(k:Nat):(P.kL f x).pg k=if k=f then x else P.pg k:=by
 unfold kL pg;simp only[bG',bR9];by_cases h:f=k
 ·subst h;simp[hf]
 ·simp[h,bO2 h]
theorem Yw(i:Nat)(g:Va)(hi:i<P.ay.length)(k:Nat):(P.iD i g).gs k=if k=i then g else P.gs k:=by
 unfold iD gs;simp only[bG',bR9];by_cases h:i=k
 ·subst h;simp[hi]
 ·simp[h,bO2 h]
theorem Yx(c:Nat)(s:JM)(hc:c<P.on.length)(k:Nat):(P.setSt c s).st k=if k=c then s else P.st k:=by
 unfold setSt st;simp only[bG',bR9];by_cases h:c=k
 ·subst h;simp[hc]
 ·simp[h,bO2 h]
end PtD
theorem Yy{h r:Hp}(hp:h.Perm r):aJ h r:=dH fun a=>by rw[vY hp];exact bI0 _
theorem dR.aN3{Y:Lay}(h:dR P Y){f:Nat}(hf:f<P.pages.length)(x:o6){pc:Array Value}(hr:Row Y.pb Y.zA pc 2 P.pages.length ((P.pages.map sU).set f (sU x)).flatten)(hx:I64 x.own∧I64 x.wit):dR (P.kL f x) { Y with pc:=pc }:=by
 have hl:(P.kL f x).pages.length=P.pages.length:=by simp[PtD.kL]
 refine⟨?_,h.gs,h.on,h.vc,h.mp,⟨fun k hk=>?_,h.wf.gs,h.wf.st⟩,⟨by rw[hl];exact h.n.p0,by rw[hl];exact h.n.p1,h.n.g4,h.n.o0,h.n.o1⟩,⟨by rw[hl];exact h.sm.pg,h.sm.gs,h.sm.on,h.sm.vc⟩⟩
 ·rw[hl];simpa [PtD.kL,bM'] using hr
 ·rw[hl] at hk;rw[PtD.Yv P f x hf];split
  ·exact hx
  ·exact h.wf.pg k hk
theorem dR.aZ'{Y:Lay}(h:dR P Y){c:Nat}(hc:c<P.on.length)(x:JM){oc:Array Value}(hr:Row Y.ob Y.A7 oc 2 P.on.length ((P.on.map yJ).set c (yJ x)).flatten)(hx:I64 x.vm∧I64 x.cpu):dR (P.setSt c x) { Y with oc:=oc }:=by
 have hl:(P.setSt c x).on.length=P.on.length:=by simp[PtD.setSt]
 refine⟨h.pg,h.gs,?_,h.vc,h.mp,⟨h.wf.pg,h.wf.gs,fun k hk=>?_⟩,⟨h.n.p0,h.n.p1,h.n.g4,by rw[hl];exact h.n.o0,by rw[hl];exact h.n.o1⟩,⟨h.sm.pg,h.sm.gs,by rw[hl];exact h.sm.on,h.sm.vc⟩⟩
 ·rw[hl];simpa [PtD.setSt,bM'] using hr
 ·rw[hl] at hk;rw[PtD.Yx P c x hc];split
  ·exact hx
  ·exact h.wf.st k hk
theorem dR.Cf{Y:Lay}(h:dR P Y)(hi:i<4)(g:Va)(b:GB){gc:Array Value}(hr:Row Y.gb Y.AZ gc 5 P.ay.length (((List.range P.ay.length).map (jd P Y.G)).set i [.bool g.live,.bool g.dying,.int .i64 g.first,b.vv,b.mv]).flatten)
  (hv:Own 3 1 b.vv b.hv (g.aP.map bY)) (hm:Own 173 2 b.mv b.hm (g.maps.map eu)) (hw:I64 g.first∧(∀ x∈g.aP,I64 x)∧∀ x∈g.maps,I64 x.mid∧I64 x.dZ) (hs:g.aP.length≤1000∧g.maps.length≤1000):dR (P.iD i g) { Y with gc:=gc,G:=qH Y.G i b }:=by
 have g4:=h.n.g4;have hl:(P.iD i g).ay.length=P.ay.length:=by simp[PtD.iD]
 have hg:∀ k,(P.iD i g).gs k=if k=i then g else P.gs k:=PtD.Yw P i g bA4
 refine⟨h.pg,?_,h.on,fun k hk=>?_,fun k hk=>?_,⟨h.wf.pg,fun k hk=>?_,h.wf.st⟩,⟨h.n.p0,h.n.p1,by rw[hl];exact g4,h.n.o0,h.n.o1⟩,⟨h.sm.pg,by rw[hl];exact h.sm.gs,h.sm.on,fun k hk=>?_⟩⟩
 ·rw[hl];have e:=xg (f:=jd P Y.G) (g:=jd (P.iD i g) (qH Y.G i b)) (n:=P.ay.length) (k:=i) bA4 (fun j hj=>by simp only[jd,mO _ _ _ hj,hg j,if_neg hj]);have e2:jd (P.iD i g) (qH Y.G i b) i=[.bool g.live,.bool g.dying,.int .i64 g.first,b.vv,b.mv]:=by simp only[jd,jy,hg i,if_true]
  rw[e2] at e;rw[←e];exact hr
 ·show Own _ 1 (qH Y.G i b k).vv (qH Y.G i b k).hv _;rw[hg k];by_cases hk':k=i
  ·subst hk';rw[jy,if_pos rfl];exact hv
  ·rw[mO _ _ _ hk',if_neg hk'];exact h.vc k hk
 ·show Own _ 2 (qH Y.G i b k).mv (qH Y.G i b k).hm _;rw[hg k];by_cases hk':k=i
  ·subst hk';rw[jy,if_pos rfl];exact hm
  ·rw[mO _ _ _ hk',if_neg hk'];exact h.mp k hk
 ·rw[hl] at hk;rw[hg k];split
  ·exact hw
  ·exact h.wf.gs k hk
 ·rw[hl] at hk;rw[hg k];split
  ·exact hs
  ·exact h.sm.vc k hk
abbrev Lay.hd(Y:Lay)(P:PtD)(bx tx:Nat):Hp:=⟨bx,#[Y.pv P,Y.gv P,Y.ov P],tx⟩::Y.in
theorem hdG(Y:Lay)(P:PtD)(i:Nat)(g:Va)(gc:Array Value)(G:Nat→GB)(bx tx:Nat):Lay.hd { Y with gc:=gc,G:=G } (P.iD i g) bx tx=⟨bx,#[Y.pv P,Y.gv P,Y.ov P],tx⟩::⟨Y.pb,Y.pc,51⟩::⟨Y.gb,gc,100⟩::⟨Y.ob,Y.oc,104⟩::zy G 4:=by
 have:(P.iD i g).ay.length=P.ay.length:=by simp[PtD.iD]
 simp only[Lay.hd,Lay.in,Lay.pv,Lay.gv,Lay.ov,this];rfl
theorem hdP(Y:Lay)(P:PtD)(f:Nat)(x:o6)(pc:Array Value)(bx tx:Nat):Lay.hd { Y with pc:=pc } (P.kL f x) bx tx=⟨bx,#[Y.pv P,Y.gv P,Y.ov P],tx⟩::⟨Y.pb,pc,51⟩::⟨Y.gb,Y.gc,100⟩::⟨Y.ob,Y.oc,104⟩::zy Y.G 4:=by
 have:(P.kL f x).pages.length=P.pages.length:=by simp[PtD.kL]
 simp only[Lay.hd,Lay.in,Lay.pv,Lay.gv,Lay.ov,this];rfl
theorem Ho(Y:Lay)(P:PtD)(bx tx:Nat):Lay.hd Y P bx tx=⟨bx,#[Y.pv P,Y.gv P,Y.ov P],tx⟩::⟨Y.pb,Y.pc,51⟩::⟨Y.gb,Y.gc,100⟩::⟨Y.ob,Y.oc,104⟩::zy Y.G 4:=rfl
def jh(bx tx:Nat)(r:Except Int PtD)(u:Value)(hn:Hp):Prop:=match r with
 | .error e=>u=.int .i64 e
 | .ok P=>u=.int .i64 0∧∃ Y:Lay,dR P Y∧aJ (Y.hd P bx tx) hn
section
variable {P : PtD} {Y : Lay} {bx tx : Nat} {w : World}
theorem MN(h:dR P Y)(hh:Here (Y.hd P bx tx) w){n:Int}(hn:1≤n∧n≤4):Fn Tryz.prog 199 [.pointer (some ⟨bx,0,none⟩),.int .i64 n].toArray w [] (fun u _=>u=.pointer (some ⟨Y.gb,(n-1).toNat*5,none⟩)):=by
 refine Fn.mono (tX (h.Yr hh) (n-1).toNat (by have:=h.n.g4;omega) n bA4) fun v hp e=>?_;rw[e];show Value.pointer (some ⟨Y.gb,0+(n-1).toNat*5,none⟩)=_;rw[bJ4]
theorem dR.MO(h:dR P Y)(hi:i<4):((List.range P.ay.length).map (jd P Y.G))[i]?=some [.bool (P.gs i).live,.bool (P.gs i).dying,.int .i64 (P.gs i).first,(Y.G i).vv,(Y.G i).mv]:=iI _ (by have:=h.n.g4;omega)
theorem dR.g0(h:dR P Y)(hi:i<4):nth Y.gc.toList (i*5)=some (.bool (P.gs i).live):=h.gs.nth qE (h.MO hi) (k:=0) rfl
theorem dR.g3(h:dR P Y)(hi:i<4):nth Y.gc.toList (i*5+3)=some (Y.G i).vv:=h.gs.nth qE (h.MO hi) (k:=3) rfl
theorem dR.g4'(h:dR P Y)(hi:i<4):nth Y.gc.toList (i*5+4)=some (Y.G i).mv:=h.gs.nth qE (h.MO hi) (k:=4) rfl
theorem dR.p0'(h:dR P Y)(hi:i<P.pages.length):nth Y.pc.toList (i*2)=some (.int .i64 (P.pg i).own):=h.pg.nth A8 (MI hi) (k:=0) rfl
theorem dR.p1'(h:dR P Y)(hi:i<P.pages.length):nth Y.pc.toList (i*2+1)=some (.int .i64 (P.pg i).wit):=h.pg.nth A8 (MI hi) (k:=1) rfl
theorem dR.s0(h:dR P Y)(hi:i<P.on.length):nth Y.oc.toList (i*2)=some (.int .i64 (P.st i).vm):=h.on.nth st_len (MJ hi) (k:=0) rfl
theorem dR.s1(h:dR P Y)(hi:i<P.on.length):nth Y.oc.toList (i*2+1)=some (.int .i64 (P.st i).cpu):=h.on.nth st_len (MJ hi) (k:=1) rfl
theorem dR.a00(h:dR P Y)(hi:i<P.on.length):(Y.oc.toList.drop (i*2)).take 2=[.int .i64 (P.st i).vm,.int .i64 (P.st i).cpu]:=h.on.cut st_len (MJ hi)
theorem dR.zQ(h:dR P Y):20≤Y.gc.size:=by have:=h.gs.size;have:=h.gs.le;have:=h.n.g4;omega
theorem dR.psz(h:dR P Y):P.pages.length*2≤Y.pc.size:=by rw[h.pg.size];exact bK0 _ h.pg.le
theorem dR.osz(h:dR P Y):P.on.length*2≤Y.oc.size:=by rw[h.on.size];exact bK0 _ h.on.le
end
theorem Dp(G:Nat→GB)(hi:i<4):∃ r,aJ ((G i).hv++((G i).hm++r)) (zy G 4)∧∀ vv mv hv hm,aJ (zy (qH G i ⟨vv,mv,hv,hm⟩) 4) (hv++(hm++r)):=by
 obtain⟨r,hr⟩:=Yq 4 G hi;refine⟨r,Yy (hr G (fun _ _=>rfl)).symm,fun vv mv hv hm=>?_⟩;have:=Yy (hr (qH G i ⟨vv,mv,hv,hm⟩) (fun j hj=>mO _ _ _ hj));rwa [jy] at this
theorem nZ(b:Bool)(e:Int)(w:World):Fn Tryz.prog 229 [.bool b,.int .i64 e].toArray w [] (fun u _=>u=.int .i64 (bif b then 0 else e)):=by
 refine enter Tryz.func229 ?_;refine run ?_;refine ah _ rfl (fun h=>?_) (fun h=>?_)
 ·refine run ?_;refine fin1 ?_;rw[h];rfl
 ·refine run ?_;refine fin1 ?_;rw[h];rfl
theorem EN(n:Int)(w:World):Fn Tryz.prog 231 [.int .i64 n].toArray w [] (fun u _=>u=.int .i64 (bif PtD.cZ n 1 4 then 0 else 2)):=by
 refine enter Tryz.func231 ?_;refine run ?_;refine az (fun wc hG=>fQ _ _ _ wc) ?_;refine run ?_;refine az (fun wc hG=>nZ _ _ wc) ?_;refine run ?_;exact fin1 rfl
theorem UA(n:Int)(w:World):Fn Tryz.prog 226 [.int .i64 n].toArray w [] (fun u _=>u=.int .i64 (bif PtD.cZ n 0 15 then 0 else 2)):=by
 refine enter Tryz.func226 ?_;refine run ?_;refine az (fun wc hG=>fQ _ _ _ wc) ?_;refine run ?_;refine az (fun wc hG=>nZ _ _ wc) ?_;refine run ?_;exact fin1 rfl
def jU:List Int→Int
 | []=>0
 | x::r=>bif decide (x=0) then jU r else x
theorem UB:∀ (l:List Int) (k:Nat),k<l.length→(∀ j,j<k→l.getD j 0=0)→l.getD k 0≠0→jU l=l.getD k 0:=by
 intro l
 induction l with
 | nil=>intro k h;simp at h
 | cons x r ih=>
  intro k hk hj hn
  cases k with
  | zero=>simp at hn ⊢;simp[jU,hn]
  | succ k=>
   have h0:=hj 0 bA4;simp at h0;subst h0;have:=ih k (by simpa using hk) (fun j hj'=>by have:=hj (j+1) bA4;simpa using this) (by simpa using hn);simpa [jU] using this
theorem MP:∀ (l:List Int),(∀ j,j<l.length→l.getD j 0=0)→jU l=0:=by
 intro l
 induction l with
 | nil=>intro _;rfl
 | cons x r ih=>
  intro h;have h0:=h 0 bA6;simp at h0;subst h0;have:=ih fun j hj=>by have:=h (j+1) (by simpa using hj);simpa using this
  simpa [jU] using this
theorem JB(xs:List Int)(v:Value)(h:aA w v 1 (xs.map bY)):Fn Tryz.prog 228 [v].toArray w [] (fun u _=>u=.int .i64 (jU xs)):=by
 obtain⟨q,cap,rfl,hne,hle⟩:=h.opened;refine enter Tryz.func228 ?_;refine run ?_;refine aK (σ:=Nat) (fun k=>[(7,.int .i64 (k:Int))]) (fun _=>[]) (fun k=>k≤xs.length∧∀ j,j<k→xs.getD j 0=0) (fun k=>xs.length-k) 0 ⟨bH3 _,fun j hj=>absurd hj bA4⟩ ?_;rintro k m hm ⟨hk,hno⟩;refine run ?_;refine ah _ rfl (fun hc=>?_) (fun hc=>?_)
 ·have hlt:k<xs.length:=by simp at hc;omega
  obtain⟨b,o,rfl⟩:=hne bA8;have hr:=ak (h.row hlt);simp only[bJ5] at hr;have e0:xs.getD k default=xs.getD k 0:=rfl;rw[e0] at hr;refine run ?_;refine ah _ rfl (fun hp=>?_) (fun hp=>?_)
  ·refine run ?_;refine fin1 ?_;rw[UB xs k hlt hno bE0]
  ·refine run ?_;refine aF (k+1) ⟨hlt,fun j hj=>?_⟩;rcases bI1.1 hj with hj | rfl
   ·exact hno j hj
   ·simpa using hp
 ·have hge:k=xs.length:=by simp at hc;omega
  subst hge;refine run ?_;refine fin1 ?_;rw[MP xs hno]
theorem lits{w0:World}{mu:List Nat}{hp:Hp}(hG:Good w0 mu hp w){b t n cap:Nat}{cs:Array Value}(hm:(⟨b,cs,t⟩:mP)∈hp)(xs:List Int)(hx:cs=((xs.map bY).flatten).toArray)(hn:n=xs.length)(hl:xs.length≤1000):aA w (.slice (some ⟨b,0,none⟩) n cap) 1 (xs.map bY):=by
 subst hx hn;have:=iJ (w:=w) (cap:=cap) (sz:=1) (xs:=xs.map bY) (hG.here _ hm) (fun c hc=>by obtain⟨x,_,rfl⟩:=bH9.1 hc;rfl) bA7;rwa [bG9] at this
section
variable {P : PtD} {Y : Lay} {bx tx : Nat} {w : World}
theorem MQ(h:dR P Y)(hh:Here (Y.hd P bx tx) w)(f:Int):Fn Tryz.prog 230 [.pointer (some ⟨bx,0,none⟩),.int .i64 f].toArray w [] (fun u _=>u=.int .i64 (bif PtD.cZ f 16 ((P.pages.length:Int)-1) then 0 else 2)):=by
 have hc:=(h.Yr hh).cp;have:=h.n.p1;refine enter Tryz.func230 ?_;refine run ?_;refine az (fun wc hG=>fQ _ _ _ wc) ?_;refine run ?_;refine az (fun wc hG=>nZ _ _ wc) ?_;refine run ?_;exact fin1 rfl
end
end
section
attribute [local irreducible] Hy St Ops DH dI
structure wR where
 kind:Int
 vm:Int
 frame:Int
 mid:Int
 fO:Int
 lX:Int
abbrev uh(c:wR):Value:=.agg #[.int .i64 c.kind,.int .i64 c.vm,.int .i64 c.frame,.int .i64 c.mid,.int .i64 c.fO,.int .i64 c.lX]
structure wR.Wf(c:wR):Prop where
 vm:I64 c.vm
 frame:I64 c.frame
 mid:I64 c.mid
 fO:I64 c.fO
def ix(n:Int):Nat:=(n-1).toNat
theorem MR{n:Int}(h:1≤n∧n≤4):ix n<4:=by unfold ix;omega
namespace PtD
def moreL(P:PtD)(vm:Int):Except Int PtD:=
 bif !cZ vm 1 4 then .error 2 else bif !(P.gs (ix vm)).live then .error 3 else bif decide (2≤(P.gs (ix vm)).aP.length) then .error 5
 else .ok (P.iD (ix vm) { P.gs (ix vm) with aP:=(P.gs (ix vm)).aP++[-1] })
end PtD
section
variable {P : PtD} {Y : Lay} {bx tx : Nat} {w : World}
theorem ah4(c:wR)(w:World):Fn Tryz.prog 317 [uh c].toArray w [] (fun u _=>u=.bool (decide (c.kind=3)||decide (c.kind=6)||decide (c.kind=7)||decide (c.kind=8))):=by
 refine enter Tryz.func317 ?_;refine run ?_;intro B;refine aC ?_;exact fin1 rfl
end
end
section
attribute [local irreducible] Hy St Ops DH dI
def DoR(r:Except Int PtD)(u:Value)(hn:Hp):Prop:=match r with
 | .error e=>u=.tuple #[.agg #[.slice none 0 0,.slice none 0 0,.slice none 0 0],.int .i64 e]
 | .ok P=>∃ Y:Lay,u=.tuple #[.agg #[Y.pv P,Y.gv P,Y.ov P],.int .i64 0]∧dR P Y∧aJ Y.in hn
section
variable {P : PtD} {w : World} {pv gv ov : Value}
theorem ah5(h:dN w pv gv ov P):Fn Tryz.prog 60 [.agg #[pv,gv,ov]].toArray w [] (fun u _=>u=.int .i64 (bif P.may then 0 else 1)):=by
 obtain⟨p,pc,g,gc,o,oc,rfl,rfl,rfl,_⟩:=h.slices;refine enter Tryz.func60 ?_;refine run ?_;intro B X;refine az (fun wc hG=>XR h hG mh) ?_;refine run ?_;refine ah _ rfl (fun hc=>?_) (fun hc=>?_)
 ·refine run ?_;refine fin1 ?_;simp at hc;rw[hc];rfl
 ·refine run ?_;refine fin1 ?_;simp at hc;rw[hc];rfl
set_option maxHeartbeats 4000000 in
theorem EO(h:dN w pv gv ov P)(hs:P.Small 1000)(cpu:Nat)(hc:cpu<P.on.length)(c:wR)(r:Except Int PtD)(hr:∀ e,r=.error e→e≠0)
  (hH:P.may=true→(P.st cpu).vm=0→∀ Y bx w,dR P Y→eU (Y.hd P bx 149) w→Fn Tryz.prog 68 [.pointer (some ⟨bx,0,none⟩),.int .i64 (cpu:Int),uh c].toArray w ((Y.hd P bx 149).map (·.b)) (jh bx 149 r))
  (hU:P.may=true→(P.st cpu).vm≠0→∀ Y bx w,dR P Y→eU (Y.hd P bx 149) w→Fn Tryz.prog 67 [.pointer (some ⟨bx,0,none⟩),.int .i64 (cpu:Int),uh c].toArray w ((Y.hd P bx 149).map (·.b)) (jh bx 149 r)):
  Fn Tryz.prog 33 [.agg #[pv,gv,ov],.int .i64 (cpu:Int),uh c].toArray w [] (DoR (bif P.may then r else .error 1)):=by
 obtain⟨p,pc,g,gc,o,oc,rfl,rfl,rfl,_⟩:=h.slices;have hlo:=hs.on;refine enter Tryz.func33 ?_;refine run ?_;intro B C R;refine run ?_;refine az (fun wc hG=>ah5 (h.good hG)) ?_;cases hm:P.may
 ·refine aN ?_;refine gB ?_;rfl
 have hb:PtD.cZ (cpu:Int) 0 ((P.on.length:Int)-1)=true:=by simp only[PtD.cZ,bG8,decide_eq_true_eq];omega
 refine aN ?_;refine bG (fun hg wc hG=>fQ _ _ _ wc) ?_;rw[hb];refine aN ?_;refine bH (fun wc hG=>Yu (h.good hG) (wJ hm) hs) ?_;rintro _ hn ⟨Y,bx,rfl,hO,hle⟩;refine aS (⟨R,#[.slice none 0 0,.slice none 0 0,.slice none 0 0],48⟩::⟨C,#[.int .i64 c.kind,.int .i64 c.vm,.int .i64 c.frame,.int .i64 c.mid,.int .i64 c.fO,.int .i64 c.lX],37⟩::⟨B,#[.slice p P.pages.length pc,.slice g P.ay.length gc,.slice o P.on.length oc],48⟩::Y.hd P bx 149) (by rw[Ho];(exact cnt1 hle)) ?_;obtain⟨L,e1,e2,e3,hV⟩:=h.open (wJ hm);cases e1;cases e2;cases e3;have hst:=hV.st0 hc;refine aN ?_;refine ah _ rfl (fun hv=>?_) (fun hv=>?_)
 ·simp only[decide_eq_true_eq] at hv;refine aN ?_;refine Wv (fs:=[.pointer (some ⟨bx,0,none⟩)]) (vs:=[.int .i64 (cpu:Int),uh c]) (us:=[]) (Y.hd P bx 149) [⟨R,#[.slice none 0 0,.slice none 0 0,.slice none 0 0],48⟩,⟨C,#[.int .i64 c.kind,.int .i64 c.vm,.int .i64 c.frame,.int .i64 c.mid,.int .i64 c.fO,.int .i64 c.lX],37⟩,⟨B,#[.slice (some ⟨L.pb,L.po,none⟩) P.pages.length L.pc,.slice (some ⟨L.gb,L.go,none⟩) P.ay.length L.gc,.slice (some ⟨L.ob,L.oo,none⟩) P.on.length L.oc],48⟩] (fun wc hG=>hH hm hv Y bx wc hO hG.iT) (fun v hn2 hR=>?_) bD7
  cases hrr:r with
  | error e=>
   rw[hrr] at hR;obtain rfl:v=.int .i64 e:=hR;have he:decide (e=0)=false:=by simp[hr e hrr]
   refine aS [⟨R,#[.slice none 0 0,.slice none 0 0,.slice none 0 0],48⟩] aj ?_;refine run ?_;refine ah _ rfl (fun hp=>?_) (fun hp=>by rw[he] at hp;cases hp);refine run ?_;refine gB ?_
   rfl
  | ok P'=>
   rw[hrr] at hR;obtain⟨rfl,Y',hO',hle'⟩:=hR;refine aS (⟨R,#[.slice none 0 0,.slice none 0 0,.slice none 0 0],48⟩::Y'.hd P' bx 149) bD4 ?_;refine aN ?_;refine gB ?_;refine⟨Y',rfl,hO',?_⟩;simp only[Ho]
   (exact aj)
 ·simp only[decide_eq_false_iff_not] at hv;refine aN ?_;refine Wv (fs:=[.pointer (some ⟨bx,0,none⟩)]) (vs:=[.int .i64 (cpu:Int),uh c]) (us:=[]) (Y.hd P bx 149) [⟨R,#[.slice none 0 0,.slice none 0 0,.slice none 0 0],48⟩,⟨C,#[.int .i64 c.kind,.int .i64 c.vm,.int .i64 c.frame,.int .i64 c.mid,.int .i64 c.fO,.int .i64 c.lX],37⟩,⟨B,#[.slice (some ⟨L.pb,L.po,none⟩) P.pages.length L.pc,.slice (some ⟨L.gb,L.go,none⟩) P.ay.length L.gc,.slice (some ⟨L.ob,L.oo,none⟩) P.on.length L.oc],48⟩] (fun wc hG=>hU hm hv Y bx wc hO hG.iT) (fun v hn2 hR=>?_) bD7
  cases hrr:r with
  | error e=>
   rw[hrr] at hR;obtain rfl:v=.int .i64 e:=hR;have he:decide (e=0)=false:=by simp[hr e hrr]
   refine aS [⟨R,#[.slice none 0 0,.slice none 0 0,.slice none 0 0],48⟩] aj ?_;refine run ?_;refine ah _ rfl (fun hp=>?_) (fun hp=>by rw[he] at hp;cases hp);refine run ?_;refine gB ?_
   rfl
  | ok P'=>
   rw[hrr] at hR;obtain⟨rfl,Y',hO',hle'⟩:=hR;refine aS (⟨R,#[.slice none 0 0,.slice none 0 0,.slice none 0 0],48⟩::Y'.hd P' bx 149) bD4 ?_;refine aN ?_;refine gB ?_;refine⟨Y',rfl,hO',?_⟩;simp only[Ho]
   (exact aj)
set_option maxHeartbeats 4000000 in
theorem ah6(h:dN w pv gv ov P)(hs:P.Small 1000)(hm:P.may=true)(cpu:Nat)(hc:cpu<P.on.length)(c:wR)(r:Except Int PtD)(hr:∀ e,r=.error e→e≠0)
  (hH:(P.st cpu).vm=0→∀ Y bx w,dR P Y→eU (Y.hd P bx 48) w→Fn Tryz.prog 262 [.pointer (some ⟨bx,0,none⟩),.int .i64 (cpu:Int),uh c].toArray w ((Y.hd P bx 48).map (·.b)) (jh bx 48 r))
  (hU:(P.st cpu).vm≠0→∀ Y bx w,dR P Y→eU (Y.hd P bx 48) w→Fn Tryz.prog 263 [.pointer (some ⟨bx,0,none⟩),.int .i64 (cpu:Int),uh c].toArray w ((Y.hd P bx 48).map (·.b)) (jh bx 48 r)):
  Fn Tryz.prog 176 [.agg #[pv,gv,ov],.int .i64 (cpu:Int),uh c].toArray w [] (DoR r):=by
 have hlo:=hs.on;obtain⟨L,rfl,rfl,rfl,hV⟩:=h.open (wJ hm);have hst:=hV.st0 hc;refine enter Tryz.func176 ?_;refine run ?_;intro B C R;refine run ?_;refine bH (fun wc hG=>PZ (h.good hG) (wJ hm) hs) ?_;rintro _ hn ⟨Y,rfl,hO,hle⟩;refine aS (⟨R,#[.slice none 0 0,.slice none 0 0,.slice none 0 0],48⟩::⟨C,#[.int .i64 c.kind,.int .i64 c.vm,.int .i64 c.frame,.int .i64 c.mid,.int .i64 c.fO,.int .i64 c.lX],37⟩::⟨B,#[L.pv P.pages.length,L.gv P.ay.length,L.ov P.on.length],48⟩::Y.in) (cnt1 hle) ?_;refine run ?_;intro X;refine aN ?_;refine ah _ rfl (fun hv=>?_) (fun hv=>?_)
 ·simp only[decide_eq_true_eq] at hv;refine aN ?_;refine ja (Y.hd P X 48) [⟨R,#[.slice none 0 0,.slice none 0 0,.slice none 0 0],48⟩,⟨C,#[.int .i64 c.kind,.int .i64 c.vm,.int .i64 c.frame,.int .i64 c.mid,.int .i64 c.fO,.int .i64 c.lX],37⟩,⟨B,#[L.pv P.pages.length,L.gv P.ay.length,L.ov P.on.length],48⟩] (fun wc hG=>hH hv Y X wc hO hG.iT) (fun v hn2 hR=>?_) bD7
  cases hrr:r with
  | error e=>
   rw[hrr] at hR;obtain rfl:v=.int .i64 e:=hR;have he:decide (e=0)=false:=by simp[hr e hrr]
   refine aS [⟨R,#[.slice none 0 0,.slice none 0 0,.slice none 0 0],48⟩] aj ?_;refine run ?_;refine ah _ rfl (fun hp=>?_) (fun hp=>by rw[he] at hp;cases hp);refine run ?_;refine gB ?_
   rfl
  | ok P'=>
   rw[hrr] at hR;obtain⟨rfl,Y',hO',hle'⟩:=hR;refine aS (⟨R,#[.slice none 0 0,.slice none 0 0,.slice none 0 0],48⟩::Y'.hd P' X 48) bD4 ?_;refine aN ?_;refine gB ?_;refine⟨Y',rfl,hO',?_⟩;simp only[Ho]
   (exact aj)
 ·simp only[decide_eq_false_iff_not] at hv;refine aN ?_;refine ja (Y.hd P X 48) [⟨R,#[.slice none 0 0,.slice none 0 0,.slice none 0 0],48⟩,⟨C,#[.int .i64 c.kind,.int .i64 c.vm,.int .i64 c.frame,.int .i64 c.mid,.int .i64 c.fO,.int .i64 c.lX],37⟩,⟨B,#[L.pv P.pages.length,L.gv P.ay.length,L.ov P.on.length],48⟩] (fun wc hG=>hU hv Y X wc hO hG.iT) (fun v hn2 hR=>?_) bD7
  cases hrr:r with
  | error e=>
   rw[hrr] at hR;obtain rfl:v=.int .i64 e:=hR;have he:decide (e=0)=false:=by simp[hr e hrr]
   refine aS [⟨R,#[.slice none 0 0,.slice none 0 0,.slice none 0 0],48⟩] aj ?_;refine run ?_;refine ah _ rfl (fun hp=>?_) (fun hp=>by rw[he] at hp;cases hp);refine run ?_;refine gB ?_
   rfl
  | ok P'=>
   rw[hrr] at hR;obtain⟨rfl,Y',hO',hle'⟩:=hR;refine aS (⟨R,#[.slice none 0 0,.slice none 0 0,.slice none 0 0],48⟩::Y'.hd P' X 48) bD4 ?_;refine aN ?_;refine gB ?_;refine⟨Y',rfl,hO',?_⟩;simp only[Ho]
   (exact aj)
end
end
section
attribute [local irreducible] Hy St Ops DH dI
structure EP where
 cpu:Int
 kind:Int
 vm:Int
 frame:Int
 mid:Int
 fO:Int
 lX:Int
 stop:Bool
deriving Inhabited
def ah7(x:EP):List Value:=[.int .i64 x.cpu,.int .i64 x.kind,.int .i64 x.vm,.int .i64 x.frame,.int .i64 x.mid,.int .i64 x.fO,.int .i64 x.lX,.bool x.stop]
structure EP.Wf(x:EP):Prop where
 cpu:I64 x.cpu
 kind:I64 x.kind
 vm:I64 x.vm
 frame:I64 x.frame
 mid:I64 x.mid
 fO:I64 x.fO
 lX:I64 x.lX
end
section
attribute [local irreducible] Hy St Ops DH dI
theorem jh.le{bx tx:Nat}{r:Except Int PtD}{hn hn':Hp}(h:jh bx tx r v hn)(hl:aJ hn hn'):jh bx tx r v hn':=by
 cases r with
 | error e=>exact h
 | ok P=>obtain⟨e,Y,hO,hle⟩:=h;exact⟨e,Y,hO,dH fun a=>bO' (hle.cnt a) (hl.cnt a)⟩
theorem MS(hm:P.may=true){cpu:Nat}(hc:cpu<P.on.length)(hv:(P.st cpu).vm≠0):1≤(P.st cpu).vm∧(P.st cpu).vm≤4∧(P.gs (ix (P.st cpu).vm)).live=true∧0≤(P.st cpu).cpu∧(P.st cpu).cpu.toNat<(P.gs (ix (P.st cpu).vm)).aP.length∧(P.gs (ix (P.st cpu).vm)).aP.getD (P.st cpu).cpu.toNat 0=(cpu:Int):=by
 have h:=(PtD.sS.1 hm).seat cpu hc;simp only[PtD.seated,hv,decide_false,cond_false,PtD.lives,PtD.cZ,bG8,decide_eq_true_eq] at h;obtain⟨⟨⟨⟨h1,h2⟩,h3⟩,h4,h5⟩,h6⟩:=h;exact⟨h1,h2,h3,h4,by unfold ix;omega,h6⟩
section
variable {P : PtD} {Y : Lay} {bx : Nat} {w : World}
theorem qF(h:dR P Y)(hN:eU (Y.hd P bx 149) w)(k vm fr mid vc cc:Int)(cpu:Nat)(hc:cpu<P.on.length)(h10:decide (k=10)=false)(h11:decide (k=11)=false)(h9:decide (k=9)=false):Fn Tryz.prog 67 [.pointer (some ⟨bx,0,none⟩),.int .i64 (cpu:Int),uh ⟨k,vm,fr,mid,vc,cc⟩].toArray w ((Y.hd P bx 149).map (·.b)) (jh bx 149 (.error 9)):=by
 have hs0:=h.s0 hc;refine eH _ hN Tryz.func67 ?_;refine run ?_;intro C;refine aN ?_;refine ah _ rfl (fun hp=>by rw[h10] at hp;cases hp) (fun _=>?_);refine aN ?_;refine ah _ rfl (fun hp=>by rw[h11] at hp;cases hp) (fun _=>?_);refine aN ?_;refine ah _ rfl (fun hp=>by rw[h9] at hp;cases hp) (fun _=>?_);refine aN ?_;refine fin1 ?_;rfl
theorem Yz(h:dR P Y)(hN:eU (Y.hd P bx 48) w)(k vm fr mid vc cc:Int)(cpu:Nat)(hc:cpu<P.on.length)(hv:1≤(P.st cpu).vm∧(P.st cpu).vm≤4)(h10:decide (k=10)=false)(h11:decide (k=11)=false)(h9:decide (k=9)=false):Fn Tryz.prog 263 [.pointer (some ⟨bx,0,none⟩),.int .i64 (cpu:Int),uh ⟨k,vm,fr,mid,vc,cc⟩].toArray w ((Y.hd P bx 48).map (·.b)) (jh bx 48 (.error 9)):=by
 have hs0:=h.s0 hc;have hs1:=h.s1 hc;have hrow:=h.a00 hc;have g4:=h.n.g4;refine eH _ hN Tryz.func263 ?_;refine run ?_;intro C;refine aN ?_;intro S;refine aN ?_;refine eP 8 ?_;refine dF ?_;refine aN ?_;refine ah _ rfl (fun hp=>by rw[h9] at hp;cases hp) (fun _=>?_);refine aN ?_;refine ah _ rfl (fun hp=>by rw[h10] at hp;cases hp) (fun _=>?_);refine aN ?_;refine ah _ rfl (fun hp=>by rw[h11] at hp;cases hp) (fun _=>?_);refine aN ?_;refine fin1 ?_;rfl
end
end
section
open Go.ChangeShapes Go.WideShapes Go.ChangeAt Go.RowKit
theorem aA5{cs:List Value}(h:jD [.i .i64,.i .i64,.i .i64,.i .i64,.i .i64,.i .i64,.i .i64,.b] cs=true):∃ x:EP,cs=ah7 x∧x.Wf:=by
 obtain⟨_,_,rfl,h1,h⟩:=aH h;obtain⟨_,_,rfl,h2,h⟩:=aH h;obtain⟨_,_,rfl,h3,h⟩:=aH h;obtain⟨_,_,rfl,h4,h⟩:=aH h;obtain⟨_,_,rfl,h5,h⟩:=aH h;obtain⟨_,_,rfl,h6,h⟩:=aH h;obtain⟨_,_,rfl,h7,h⟩:=aH h;obtain⟨_,_,rfl,h8,h⟩:=aH h;obtain rfl:=kQ h;obtain⟨a1,rfl,b1⟩:=kS h1;obtain⟨a2,rfl,b2⟩:=kS h2;obtain⟨a3,rfl,b3⟩:=kS h3;obtain⟨a4,rfl,b4⟩:=kS h4;obtain⟨a5,rfl,b5⟩:=kS h5;obtain⟨a6,rfl,b6⟩:=kS h6;obtain⟨a7,rfl,b7⟩:=kS h7;obtain⟨a8,rfl⟩:=BA h8;exact⟨⟨a1,a2,a3,a4,a5,a6,a7,a8⟩,rfl,⟨b1,b2,b3,b4,b5,b6,b7⟩⟩
section
variable {H : Type} {enc : TypeId × Value → H} {w : World} {base : Nat} {spare : Nat → Bool} {held : Bool}
theorem UC{fuel:Nat}{cs:List Value}{x:DataW H×List MemPlace}(h:DataW.trod enc Tryz.prog w base spare held fuel 30 cs=some x)(hz:FH Tryz.prog 30 x.1):∃ v,∃ xs:List EP,cs=[v]∧aA w v 8 (xs.map ah7)∧∀ a∈xs,a.Wf:=
 SB (ks:=[.i .i64,.i .i64,.i .i64,.i .i64,.i .i64,.i .i64,.i .i64,.b]) Tryz.underlying30 bB6 bB6 bA5 bB6 (fun cs h=>aA5 h) h hz
end
end
section
attribute [local irreducible] Hy St Ops DH dI
section
variable {n : Nat} {w0 : World} {mu : List Nat} {l : Fm} {hp : Hp} {Q : Exit → Fm → Hp → Prop} {all : Array Oper} {rest : List Oper} {ty : TypeId} {pos : String} {af : Array Edge}
theorem ah8{f d j dj:Nat}{want b:Bool}{x:Operand}{xs:List Operand}{vs fs us:List Value}{tys:Array TypeId}(hc:jf b want=true→∀ w,Good w0 mu hp w→Fn Tryz.prog f (fs++vs++us).toArray w [] (fun u _=>u=v))(h:Ops Tryz.prog n w0 mu all rest ((d,gv (jf b want) v)::l) hp Q)
  (hj:(all[j]?).bind (·.dst)=some dj:=by rfl) (hb:look l dj=some (.bool b):=by rfl) (hdj:Nat.blt dj n=true:=by rfl) (hx:jf b want=true→ev l x=some (.func (.func f) fs.toArray us.toArray):=by (intro hg1;(try simp only[hg1,bI,bH6]);rfl)) (bK:mem iZ f=true:=by rfl) (hd:Nat.blt d n=true:=by rfl) (hv:jf b want=true→evs l xs=some vs:=by (intro hg1;(try simp only[hg1,bI,bH6]);rfl)):Ops Tryz.prog n w0 mu all (⟨some d,.call { callee:=.value x,args:=xs.toArray,argTypes:=tys },ty,pos,af,some (j,want)⟩::rest) l hp Q:=
 RY hd hj hb hdj (fun hg=>yz (fD f bK) (hx hg) (hv hg) (hc hg)) h
end
theorem MV(x:jT)(mid:Int)(h1:0≤x.mid∧x.mid≤15)(h2:0≤mid∧mid≤15)(w:World):Fn Tryz.prog 300 ([]++[Value.agg #[.int .i64 x.mid,.int .i64 x.dZ],.int .i64 mid]++[]).toArray w [] (fun u _=>u=.int .i64 (x.mid-mid)):=by
 refine enter Tryz.func300 ?_;refine run ?_;intro b;refine run ?_;exact fin1 rfl
theorem JC{w:World}(xs:List jT)(mid:Int)(v:Value)(h:aA w v 2 (xs.map eu))(h2:0≤mid∧mid≤15)(hx:∀ k,k<xs.length→0≤(xs.getD k default).mid∧(xs.getD k default).mid≤15)(hs:PtD.Sorted xs)(hl:xs.length≤1000000):
  Fn Tryz.prog 299 [v,.int .i64 mid,.func (.func 300) [].toArray [].toArray].toArray w [] (fun u _=>u=.tuple #[.int .i64 (PtD.og xs mid),.bool (PtD.sV xs mid)]):=by
 obtain⟨q,cap,rfl,hne,hle⟩:=h.opened;have hlb:=PtD.CU xs mid;refine enter Tryz.func299 ?_;refine run ?_;refine aK (σ:=Nat×Nat) (fun s=>[(9,.int .i64 (s.1:Int)),(10,.int .i64 (s.2:Int))]) (fun _=>[]) (fun s=>s.1≤s.2∧s.2≤xs.length∧(∀ j,j<s.1→(xs.getD j default).mid<mid)∧∀ j,s.2≤j→j<xs.length→mid≤(xs.getD j default).mid) (fun s=>s.2-s.1) (0,xs.length) ⟨bH3 _,bI0 _,fun j hj=>absurd hj bA6,fun j h1 h2=>absurd h1 bA4⟩ ?_;rintro⟨i,j⟩ m hm ⟨hij,hj,ha,hb⟩;dsimp only at hm hij hj ha hb ⊢;refine run ?_;refine ah _ rfl (fun hc=>?_) (fun hc=>?_)
 ·have hlt:i<j:=by simpa using hc
  obtain⟨b,o,rfl⟩:=hne (by intro e;subst e;simp at hj;omega);have hlt2:(i+j)/2<xs.length:=by omega
  have hr:=h.row hlt2;simp only[eu] at hr;refine run ?_;refine jL bA9 (au0 (q:=(((i+j)/2:Nat):Int)) rfl rfl bA4 bA4 bA6) ?_;refine run ?_;refine l9 (fun wc hG=>MV (xs.getD ((i+j)/2) default) mid (hx _ hlt2) h2 wc) ?_;refine run ?_;refine ah _ rfl (fun hp=>?_) (fun hp=>?_)
  ·have hp':(xs.getD ((i+j)/2) default).mid<mid:=by simp only[decide_eq_true_eq] at hp;omega
   refine run ?_;refine aF ((i+j)/2+1,j) ⟨by dsimp only;omega,hj,fun t ht=>?_,hb⟩;dsimp only at ht;rcases bI1.1 ht with h3 | rfl
   ·have:=hs _ _ h3 hlt2;omega
   ·exact hp'
  ·have hp':mid≤(xs.getD ((i+j)/2) default).mid:=by simp only[decide_eq_false_iff_not] at hp;omega
   refine run ?_;refine aF (i,(i+j)/2) ⟨by dsimp only;omega,by dsimp only;omega,ha,fun t h3 h4=>?_⟩;dsimp only at h3;rcases bP5 ((i+j)/2) t with h5 | h5
   ·have:=hs _ _ h5 h4;omega
   ·rw[show t=(i+j)/2 by omega];exact hp'
 ·have hij':i=j:=by simp at hc;omega
  subst hij';have hlow:=PtD.SA hs hj ha hb;rcases bP5 i xs.length with hi | hi
  ·obtain⟨b,o,rfl⟩:=hne (by intro e;subst e;simp at hi);have hr:=h.row hi;simp only[eu] at hr;have hxi:=hx i hi;refine aC ?_;refine ah8 (fun hg wc hG=>MV (xs.getD i default) mid hxi h2 wc) ?_;refine aC ?_;refine fin2 ?_;have e:decide ((i:Int)<(xs.length:Int))=true:=by simp;omega
   have e2:decide (i<xs.length)=true:=by simp;omega
   have e3:decide ((xs.getD i default).mid-mid=0)=decide ((xs.getD i default).mid=mid):=by rw[decide_eq_decide];omega
   rw[←hlow,PtD.sV,←hlow,e,e2,e3]
  ·refine run ?_;have e2:decide (i<xs.length)=false:=by simp;omega
   rw[show decide ((i:Int)<(xs.length:Int))=false by simp;omega];refine aC ?_;refine fin2 ?_;rw[←hlow,PtD.sV,←hlow,e2];rfl
theorem ah9(xs:List jT)(mid:Int)(b o:Nat)(v:Value)(hv:w.cell? ⟨b,o+4,none⟩=some v)(h:aA w v 2 (xs.map eu))(h2:0≤mid∧mid≤15)(hx:∀ k,k<xs.length→0≤(xs.getD k default).mid∧(xs.getD k default).mid≤15)(hs:PtD.Sorted xs)(hl:xs.length≤1000000):
  Fn Tryz.prog 227 [.pointer (some ⟨b,o,none⟩),.int .i64 mid].toArray w [] (fun u _=>u=.tuple #[.int .i64 (PtD.og xs mid),.bool (PtD.sV xs mid)]):=by
 refine enter Tryz.func227 ?_;refine run ?_;refine az (fun wc hG=>JC xs mid v (h.good hG) h2 hx hs hl) ?_;refine run ?_;exact fin2 rfl
end
section
attribute [local irreducible] Hy St Ops DH dI
namespace PtD
def vM(P:PtD)(cpu:Nat)(vm vc:Int):Except Int PtD:=
 bif !cZ vm 1 4 then .error 2 else bif !(P.gs (ix vm)).live||!cZ vc 0 (((P.gs (ix vm)).aP.length:Int)-1) then .error 3 else bif !decide ((P.gs (ix vm)).aP.getD vc.toNat 0= -1) then .error 6
 else .ok ((P.iD (ix vm) { P.gs (ix vm) with aP:=(P.gs (ix vm)).aP.set vc.toNat (cpu:Int) }).setSt cpu ⟨vm,vc⟩)
end PtD
section
variable {P : PtD} {Y : Lay} {bx tx : Nat} {w : World}
theorem dR.ap3(h:dR P Y){cpu:Nat}(hi:i<4)(hk:k<(P.gs i).aP.length)(hc:cpu<P.on.length)(z:Int)(hz:I64 z)(s:JM)(hs:I64 s.vm∧I64 s.cpu){g:Nat}{cur:Array Value}(hv:Own 3 1 (Y.G i).vv [⟨g,cur,3⟩] (((P.gs i).aP.set k z).map bY)):
  dR ((P.iD i { P.gs i with aP:=(P.gs i).aP.set k z }).setSt cpu s) { Y with oc:=putAt Y.oc (cpu*2) (yJ s),G:=qH Y.G i ⟨(Y.G i).vv,(Y.G i).mv,[⟨g,cur,3⟩],(Y.G i).hm⟩ }:=by
 have g4:=h.n.g4;have hf:=h.wf.gs i bA4;have hsm:=h.sm.vc i bA4
 have hg:=h.Cf hi { P.gs i with aP:=(P.gs i).aP.set k z } ⟨(Y.G i).vv,(Y.G i).mv,[⟨g,cur,3⟩],(Y.G i).hm⟩ (gc:=Y.gc) (by
  rw[pX (h.MO hi)]
  exact h.gs) hv (h.mp i hi) ⟨hf.1,fun x hx=>?_,hf.2.2⟩ ⟨by simpa using hsm.1,hsm.2⟩
 ·have hon:(P.iD i { P.gs i with aP:=(P.gs i).aP.set k z }).on=P.on:=rfl
  have:=hg.aZ' (c:=cpu) (by rw[hon];exact hc) s (oc:=putAt Y.oc (cpu*2) (yJ s)) (by
   have:=h.on.put st_len (MJ hc) (k:=0) (vs:=yJ s) (by simp[yJ]);have e:([Value.int .i64 (P.st cpu).vm,.int .i64 (P.st cpu).cpu]).take 0++yJ s++([Value.int .i64 (P.st cpu).vm,.int .i64 (P.st cpu).cpu]).drop (0+(yJ s).length)=yJ s:=rfl;rw[e] at this
   exact this) hs
  exact this
 ·rcases bR3 hx with hx | rfl
  ·exact hf.2.1 x hx
  ·exact hz
theorem aN4(Y:Lay)(P:PtD)(i cpu:Nat)(g:Va)(s:JM)(oc:Array Value)(G:Nat→GB)(bx tx:Nat):Lay.hd { Y with oc:=oc,G:=G } ((P.iD i g).setSt cpu s) bx tx=⟨bx,#[Y.pv P,Y.gv P,Y.ov P],tx⟩::⟨Y.pb,Y.pc,51⟩::⟨Y.gb,Y.gc,100⟩::⟨Y.ob,oc,104⟩::zy G 4:=by
 have h1:((P.iD i g).setSt cpu s).ay.length=P.ay.length:=by simp[PtD.iD,PtD.setSt]
 have h2:((P.iD i g).setSt cpu s).on.length=P.on.length:=by simp[PtD.iD,PtD.setSt]
 simp only[Lay.hd,Lay.in,Lay.pv,Lay.gv,Lay.ov,h1,h2];rfl
theorem aN5(h:dR P Y)(hN:eU (Y.hd P bx 149) w)(cpu:Nat)(hc:cpu<P.on.length)(c:wR)(hw:c.Wf):Fn Tryz.prog 153 [.pointer (some ⟨bx,0,none⟩),.int .i64 (cpu:Int),uh c].toArray w ((Y.hd P bx 149).map (·.b)) (jh bx 149 (P.vM cpu c.vm c.fO)):=by
 refine eH _ hN Tryz.func153 ?_;refine run ?_;intro C;refine run ?_;refine az (fun wc hG=>EN _ wc) ?_;cases hb:PtD.cZ c.vm 1 4
 ·refine aN ?_;refine fin1 ?_;simp[jh,PtD.vM,hb]
 refine aN ?_;have hb':=hb;simp only[PtD.cZ,bG8,decide_eq_true_eq] at hb';have hi:ix c.vm<4:=MR hb';refine az (fun wc hG=>MN (bx:=bx) (tx:=149) h (hG.here' aj) hb') ?_;rw[show (c.vm-1).toNat=ix c.vm from rfl];obtain⟨q,cap,ev⟩:=(h.vc _ hi).opened;have n0:=h.g0 hi;have n3:=h.g3 hi;rw[ev,bG9] at n3;have hz:=h.zQ;have hlen:=(h.sm.vc (ix c.vm) (by have:=h.n.g4;omega)).1;refine aN ?_;refine eP 17 ?_;refine aZ ?_;refine eG (fun hg wc hG=>fQ _ _ _ wc) ?_;refine aZ ?_;refine aC ?_;refine ah _ rfl (fun hp=>?_) (fun hp=>?_)
 ·refine aN ?_;refine fin1 ?_;simp only[PtD.vM,hb,hp];rfl
 have hp':=hp;simp only[bJ9,bJ7,PtD.cZ,bG8,decide_eq_true_eq] at hp';obtain⟨hl,hv0,hv1⟩:=hp';have hk:c.fO.toNat<(P.gs (ix c.vm)).aP.length:=by omega
 obtain⟨g,cap',cur,eg,eh,hn,hsz,hset⟩:=(h.vc _ hi).aa1 hk;rw[ev,bG9] at eg;cases eg;obtain⟨r,g1,g2⟩:=Dp Y.G hi;rw[eh] at g1;refine pM (⟨C,#[.int .i64 c.kind,.int .i64 c.vm,.int .i64 c.frame,.int .i64 c.mid,.int .i64 c.fO,.int .i64 c.lX],37⟩::⟨g,cur,3⟩::⟨bx,#[Y.pv P,Y.gv P,Y.ov P],149⟩::⟨Y.ob,Y.oc,104⟩::⟨Y.pb,Y.pc,51⟩::⟨Y.gb,Y.gc,100⟩::((Y.G (ix c.vm)).hm++r)) (cnt1 g1) ?_;refine aN ?_;refine eP 9 ?_;refine dF ?_;refine aN ?_;refine ah _ rfl (fun hp2=>?_) (fun hp2=>?_)
 ·refine aN ?_;refine fin1 ?_;simp only[PtD.vM,hb,hp];simp at hp2;simp[hp2,jh]
 refine aN ?_;refine eP 7 ?_;refine dF ?_;refine aN ?_;have a01:=h.osz;refine eP 11 ?_;refine dF ?_;refine aN ?_;refine fin1 ?_
 have key:P.vM cpu c.vm c.fO=.ok ((P.iD (ix c.vm) { P.gs (ix c.vm) with aP:=(P.gs (ix c.vm)).aP.set c.fO.toNat (cpu:Int) }).setSt cpu ⟨c.vm,c.fO⟩):=by
  simp only[PtD.vM,hb,hp];simp only[bJ7] at hp2;rw[hp2];rfl
 rw[key];have lY:I64 (cpu:Int):=by have:=h.sm.on;unfold I64;omega
 refine⟨rfl,_,h.ap3 hi hk hc (cpu:Int) lY ⟨c.vm,c.fO⟩ ⟨hw.vm,hw.fO⟩ (hset _),?_⟩;have g3:=g2 (Y.G (ix c.vm)).vv (Y.G (ix c.vm)).mv [⟨g,cur.setIfInBounds c.fO.toNat (.int .i64 cpu),3⟩] (Y.G (ix c.vm)).hm;rw[aN4];simp only[putAt,yJ]
 (exact cnt1 g3)
end
end
section
attribute [local irreducible] Hy St Ops DH dI
def PtD.aN6(P:PtD)(cpu:Nat):PtD:=(P.iD (ix (P.st cpu).vm) { P.gs (ix (P.st cpu).vm) with aP:=(P.gs (ix (P.st cpu).vm)).aP.set (P.st cpu).cpu.toNat (-1) }).setSt cpu ⟨0,0⟩
section
variable {P : PtD} {Y : Lay} {bx tx : Nat} {w : World}
end
end
section
attribute [local irreducible] Hy St Ops DH dI
namespace PtD
def YA(P:PtD)(n mid was is bad:Int):Except Int PtD:=
 bif !cZ mid 0 15 then .error 2 else bif !sV (P.gs (ix n)).maps mid then .error 3
 else bif !decide ((P.pg ((P.gs (ix n)).maps.getD (og (P.gs (ix n)).maps mid) default).dZ.toNat).own=n) then .error 7
 else bif !decide ((P.pg ((P.gs (ix n)).maps.getD (og (P.gs (ix n)).maps mid) default).dZ.toNat).wit=was) then .error bad
 else .ok (P.kL ((P.gs (ix n)).maps.getD (og (P.gs (ix n)).maps mid) default).dZ.toNat ⟨n,is⟩)
end PtD
section
variable {P : PtD} {Y : Lay} {bx tx : Nat} {w : World}
theorem dR.slM(h:dR P Y)(hi:i<4)(hh:Here (Y.hd P bx tx) w):aA w (Y.G i).mv 2 ((P.gs i).maps.map eu):=by
 have:=h.sm.vc i (by have:=h.n.g4;omega);exact (h.mp i hi).lie (fun e he=>hh e (bH8 _ (bH8 _ (bH8 _ (bH8 _ (Jy 4 hi (.inr he))))))) bA7
end
end
end Go.Proofs.YtellmabgmnbhcaaGreat
