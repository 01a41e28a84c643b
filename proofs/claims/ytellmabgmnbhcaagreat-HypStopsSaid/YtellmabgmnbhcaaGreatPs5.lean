/- Texts of one's own, merged: the engine, what the functions do, plain laws. -/
import Derived.Test.YtellmabgmnbhcaaGreatPs4
namespace Go.Proofs.YtellmabgmnbhcaaGreat
open Go.RowKit
set_option linter.unusedVariables false
set_option linter.unusedSimpArgs false
set_option maxRecDepth 20000
variable {w:World}{wv cv v:Value}{H:HyD}{i q k:Nat}{P:PtD}{l:List Int}
section
attribute [local irreducible] Hy St Ops DH dH jg iP gQ DS gX lJ
theorem ag1{α:Type}{p:α→Bool}[Inhabited α]:∀ {l:List α} {k s:Nat},k<l.length→p (l.getD k default)=true→(∀ j,j<k→p (l.getD j default)=false)→PtD.idx p l s=some (s+k):=by
 intro l
 induction l with
 | nil=>intro k s h;simp at h
 | cons x r ih=>
  intro k s hk he hn;unfold PtD.idx
  cases k with
  | zero=>simp at he;simp[he]
  | succ k=>
   have:=hn 0 bB3;simp at this;simp only[this,cond_false];rw[ih (k:=k) (s:=s+1) (by simpa using hk) (by simpa using he) (fun j hj=>by have:=hn (j+1) bB3;simpa using this)]
   congr 1;omega
theorem ag2{α:Type}{p:α→Bool}[Inhabited α]:∀ {l:List α} {s:Nat},(∀ j,j<l.length→p (l.getD j default)=false)→PtD.idx p l s=none:=by
 intro l
 induction l with
 | nil=>intro s _;rfl
 | cons x r ih=>
  intro s hn;unfold PtD.idx;have:=hn 0 bB5;simp at this;simp only[this,cond_false];exact ih fun j hj=>by have:=hn (j+1) (by simpa using hj);simpa using this
def Yd(r:Option Int):Value:=match r with
 | some f=>.tuple #[.int .i64 f,.bool true]
 | none=>.tuple #[.int .i64 0,.bool false]
theorem ag3{X:Nat}{vv rv:Value}{mv:Nat→Value}(h:xM w X wv cv vv rv mv H)(hf5:∀ i,i<4→(H.vu i).live=true→0<(H.vu i).fs.length)(aN:Int):Fn Tryz.prog 221 [.pointer (some ⟨X,0,none⟩),.int .i64 aN].toArray w [] (fun u _=>u=Yd (H.EF aN)):=by
 have hL:=jq h.ok;obtain⟨cs,vs,e1,e2,_,hH⟩:=h.h.ex;have hvl:vs.length=4:=by rw[←hL.v,←e2,bH7]
 have hop:=hH.vs.rows.opened;rw[hvl] at hop;obtain⟨q2,cap2,rfl,hne2,_⟩:=hop;obtain⟨b2,o2,rfl⟩:=hne2 bC7;have h2:w.rangeAt X 2 [.slice (some ⟨b2,o2,none⟩) 4 cap2]:=aV (k:=2) (n:=1) h.x rfl;have h2':=aj h2;unfold HyD.EF;refine enter Tryz.func221 ?_;refine run ?_;refine ah _ rfl (fun hc=>?_) (fun hc=>?_)
 ·rw[hc,cond_true];refine run ?_;exact fin2 rfl
 rw[hc,cond_false];refine run ?_;refine aK (σ:=Nat) (fun k=>[(16,.int .i64 (k:Int))]) (fun _=>[]) (fun k=>k≤4∧∀ j,j<k→((H.vs.getD j default).live&&decide ((H.vs.getD j default).aN=aN))=false) (fun k=>4-k) 0 ⟨bI1 _,fun j hj=>absurd hj (bL0 _)⟩ ?_;rintro k m hm ⟨hk,hK⟩;refine run ?_;refine ah _ rfl (fun hc2=>?_) (fun hc2=>?_)
 rotate_left
 ·have hk4:k=4:=by have:=of_decide_eq_false hc2;omega
  subst hk4;rw[ag2 (fun j hj=>hK j (by have:=hL.v;omega))];refine run ?_;exact fin2 rfl
 have hk4:k<4:=by have:=of_decide_eq_true hc2;omega
 have hr:=hH.vs.rows.row (k:=k) bB3;have hfs:=hH.vs.fs _ (getD_mem (l:=vs) (k:=k) bB3);have hu:=rM e2 k;have hp:((H.vs.getD k default).live&&decide ((H.vs.getD k default).aN=aN))=((vs.getD k default).live&&decide ((vs.getD k default).aN=aN)):=by rw[←hu];rfl
 have h5:=hf5 k hk4;have hroot:(H.vu k).root=(vs.getD k default).fs.getD 0 0:=by unfold HyD.vu kJ.root;rw[←hu];rfl
 unfold HyD.vu at h5;rw[←hu] at h5;simp only[eG.u] at h5;generalize vs.getD k default=v at *;refine run ?_;intro V;refine aC ?_;refine ah _ rfl (fun hd=>?_) (fun hd=>?_)
 ·have hlv:v.live=true:=by rw[bH6] at hd;exact hd.1
  have h0:=h5 hlv;obtain⟨qf,lf,ef,rP,_⟩:=hfs.opened;obtain⟨bf,BJ,rfl⟩:=rP (by intro e;rw[e] at h0;cases h0);rw[ef] at hfs;have hrow:=aj (hfs.row h0);simp only[bK3] at hrow;rw[ag1 (by have:=hL.v;omega) (hp.trans hd) hK,bK2];refine run ?_;rw[ef];refine run ?_;refine fin2 ?_;show _=Yd (some (H.vu k).root);rw[hroot];rfl
 refine run ?_;refine aF (k+1) ⟨hk4,fun j hj=>?_⟩;by_cases e:j=k
 ·subst e;rw[hp];exact hd
 ·exact hK j bB3
theorem ag4(ar aw ax aa an br bw bx ba bn:Bool)(as_ bs:Int)(w:World):Fn Tryz.prog 223 [.agg #[.bool ar,.bool aw,.bool ax,.bool aa,.bool an,.int .i64 as_],.agg #[.bool br,.bool bw,.bool bx,.bool ba,.bool bn,.int .i64 bs]].toArray w [] (fun u _=>u=.bool ((!ar||br)&&(!aw||bw)&&(!ax||bx))):=by
 refine enter Tryz.func223 ?_;refine run ?_;intro B C;refine aC ?_;refine fin1 ?_;rfl
theorem Jq{X:Nat}{vv rv:Value}{mv:Nat→Value}(h:xM w X wv cv vv rv mv H)(root:Int)(page:Int)(h0:0≤page)(hp:page≤4095):Fn Tryz.prog 222 [.pointer (some ⟨X,0,none⟩),.int .i64 root,.int .i64 page].toArray w [] (fun u _=>u=.tuple #[uj (H.iO root page).1,.bool (H.iO root page).2]):=by
 have hL:=jq h.ok;obtain⟨cs,vs,e1,e2,_,hH⟩:=h.h.ex;have h0w:w.rangeAt X 0 [wv]:=aV (k:=0) (n:=1) h.x rfl;have h0':=aj h0w;have hws:=hH.ws;obtain⟨q,cap,rfl,_,_⟩:=hws.opened;unfold HyD.iO;obtain⟨pn,rfl⟩:∃ n:Nat,page=(n:Int):=⟨page.toNat,by omega⟩
 rw[bN1];have hge:=fun wc hp (hG:Good w [] hp wc)=>Jb H.ws hH.Df (hws.good hG) hL.m root pn bB3;generalize iE H.ws root pn=g at hge;refine enter Tryz.func222 ?_;refine run ?_;intro D;refine az (fun wc hG=>hge wc _ hG) ?_;refine aC ?_;intro E;refine fZ (cs:=#[.int .i64 g.d.kind,.int .i64 g.d.frame,.bool g.d.r,.bool g.d.w,.bool g.d.x,.bool g.d.af,.bool g.d.ng,.int .i64 g.d.soft,.int .i64 g.d.note]) ?_;have e1:decide ((g.level:Int)=3)=decide (g.level=3):=by rw[bI2,decide_eq_true_eq,decide_eq_true_eq];omega
 rw[e1]
theorem Uh{X Y Z E:Nat}{vv rv:Value}{mv:Nat→Value}(h:xM w X wv cv vv rv mv H)(root:Int)(m:jQ)(hm:0≤m.mid∧m.mid≤4095)(e:fF)(hY:w.cell? ⟨Y,0,none⟩=some (.pointer (some ⟨X,0,none⟩)))(hZ:w.cell? ⟨Z,0,none⟩=some (.int .i64 root))(hE:w.rangeAt E 0 (iy e)):Fn Tryz.prog 225 ([]++[Value.agg (eF m).toArray]++[Value.pointer (some ⟨Y,0,none⟩),.pointer (some ⟨Z,0,none⟩),.pointer (some ⟨E,0,none⟩)]).toArray w [] (fun u _=>u=.bool ((H.iO root m.mid).2&&decide (m.eu=e.frame)&&(H.iO root m.mid).1.r)):=by
 have hE6:=cO (k:=6) hE rfl;refine enter Tryz.func225 ?_;refine run ?_;intro B;refine run ?_;refine az (fun wc hG=>Jq (h.good hG) root m.mid hm.1 hm.2) ?_;generalize (H.iO root m.mid).2=b;generalize (H.iO root m.mid).1=d;refine run ?_;intro D;refine aC ?_;exact fin1 rfl
theorem Ye{e:fF}(h:e.may=true):(0≤e.page∧e.page≤4095)∧(0≤e.mid∧e.mid≤4095):=by
 unfold fF.may at h;rw[bH6] at h;have:=h.1;simp only[fF.nums,PtD.dD,bH6,decide_eq_true_eq] at this;omega
theorem Ui{X:Nat}{vv rv:Value}{mv:Nat→Value}(h:xM w X wv cv vv rv mv H)(hf5:∀ i,i<4→(H.vu i).live=true→0<(H.vu i).fs.length)(e:fF)(he:e.may=true):Fn Tryz.prog 139 [.pointer (some ⟨X,0,none⟩),.agg (iy e).toArray].toArray w [] (fun u _=>u=.bool (H.qV e)):=by
 have hL:=jq h.ok;have hb:=Ye he;obtain⟨cs,vs,e1,e2,_,hH⟩:=h.h.ex;have h0w:w.rangeAt X 0 [wv]:=aV (k:=0) (n:=1) h.x rfl;have h0':=aj h0w;have hws:=hH.ws;obtain⟨q,cap,rfl,_,_⟩:=hws.opened;refine enter Tryz.func139 ?_;refine run ?_;intro Y E;refine run ?_;refine az (fun wc hG=>ag3 (h.good hG) hf5 e.aN) ?_;unfold HyD.qV
 cases hr:H.EF e.aN with
 | none=>
  refine run ?_;intro R;refine aP ?_
  exact fin1 rfl
 | some root=>
  unfold Yd;dsimp only;refine run ?_;intro R;refine aP ?_;refine ah _ rfl (fun hk=>?_) (fun hk=>?_)
  ·rw[hk,cond_true];refine run ?_;refine az (fun wc hG=>Jq (h.good hG) root e.page hb.1.1 hb.1.2) ?_;generalize (H.iO root e.page).2=b;generalize (H.iO root e.page).1=d;refine run ?_;intro D;refine run ?_;refine aC ?_;refine fin1 ?_
   congr 2
   rw[bI2];simp[aW,iF,and_assoc]
  rw[hk,cond_false];refine run ?_;refine ah _ rfl (fun hk2=>?_) (fun hk2=>?_)
  ·rw[hk2,cond_true];refine run ?_;refine az (fun wc hG=>Jq (h.good hG) root e.mid hb.2.1 hb.2.2) ?_;generalize (H.iO root e.mid).2=b;generalize (H.iO root e.mid).1=d;refine run ?_;intro D;refine aC ?_;refine bG (fun hg wc hG=>ag4 _ _ _ _ _ _ _ _ _ _ _ _ wc) ?_;refine aC ?_;exact fin1 rfl
  rw[hk2,cond_false];refine run ?_;refine late 10 9 ?_;refine xB 10 [0,1,2,3,4,5] [6] [7,8,9] ?_;refine gI ?_
  have hxl:((dL H.ws root 0 4096).getD []).length≤4096:=by
   cases hz:dL H.ws root 0 4096 with
   | none=>exact bI1 _
   | some zs=>exact vz _ _ _ _ _ hz
  refine jZ (fun wc hG=>(X4 H.ws hH.Df (hws.good hG) hL.m root).mono (R':=FV ((dL H.ws root 0 4096).getD [])) (fun u hn hu=>FV.of hu)) (FV.ex hxl) ?_;refine kL ?_;rintro u hn ⟨v1,h1,e9,rfl,hO,hle⟩
  have hxm:∀ m∈(dL H.ws root 0 4096).getD [],0≤m.mid∧m.mid≤4095:=fun m hm=>by
   cases hz:dL H.ws root 0 4096 with
   | none=>rw[hz] at hm;cases hm
   | some zs=>
    rw[hz] at hm;obtain⟨k,hk,e⟩:=Dp hz hm;have:=(vH e).2.2.1;omega
  generalize (dL H.ws root 0 4096).getD []=xs at hO hxl hxm;refine yD ?_;refine dX ?_;refine dX ?_;refine jJ ?_;refine ry ?_;simp only[bI0,bI3,bI'];obtain⟨q5,c5,x5⟩:=hO.opened;rw[bH7] at x5;subst x5;refine run ?_;refine az (fun wc hG=>FP (F:=225) (us:=[.pointer (some ⟨Y,0,none⟩),.pointer (some ⟨R,0,none⟩),.pointer (some ⟨E,0,none⟩)]) (fun m=>(H.iO root m.mid).2&&decide (m.eu=e.frame)&&(H.iO root m.mid).1.r) xs _ (hO.lie (hG.lie fun x hx=>by have:=hle.mem hx;simp[this]) bB6) (fun m hm w' ha=>?_)) ?_
  ·obtain⟨hp,hg⟩:=ha;refine Uh (h.good (hG.trans hg)) root m (hxm m hm) e ?_ ?_ ?_
   ·exact hg.cell bE1 bB5
   ·exact hg.cell (by rw[cell_of_block (hG.here ⟨R,#[.int .i64 root],3⟩ bB5)];rfl) bB5
   ·exact hg.range (qN (t:=80) (hG.here ⟨E,(iy e).toArray,80⟩ bB5)) bB5
  refine run ?_;exact fin1 rfl
theorem Yf{X Y:Nat}{vv rv:Value}{mv:Nat→Value}(h:xM w X wv cv vv rv mv H)(hf5:∀ i,i<4→(H.vu i).live=true→0<(H.vu i).fs.length)(e:fF)(he:e.may=true)(hY:w.cell? ⟨Y,0,none⟩=some (.pointer (some ⟨X,0,none⟩))):Fn Tryz.prog 138 ([]++[Value.agg (iy e).toArray]++[Value.pointer (some ⟨Y,0,none⟩)]).toArray w [] (fun u _=>u=.bool (!H.qV e)):=by
 refine enter Tryz.func138 ?_;refine run ?_;intro B;refine az (fun wc hG=>Ui (h.good hG) hf5 e he) ?_;refine run ?_;exact fin1 rfl
theorem Yg{X:Nat}{vv rv:Value}{mv:Nat→Value}(h:xM w X wv cv vv rv mv H)(hf5:∀ i,i<4→(H.vu i).live=true→0<(H.vu i).fs.length)(t:uo)(h1:aA w t.ev 14 (t.es.map iy))(h2:aA w t.dv 4 (t.ds.map lg))(hc:t.es.length≤t.ec):Fn Tryz.prog 64 [.pointer (some ⟨X,0,none⟩),.agg (TF t).toArray].toArray w [] (fun u _=>u=.bool (dQ t.es t.ds&&t.es.all H.qV)):=by
 refine enter Tryz.func64 ?_;refine run ?_;intro Y T;refine run ?_;refine az (fun wc hG=>zg t.es t.ds _ _ (h1.good hG) (h2.good hG) ⟨_,_,rfl,hc⟩) ?_;refine aC ?_
 have hok:jd (decide ((bif dQ t.es t.ds then (0:Int) else 1)=0)) true=true→∀ e∈t.es,e.may=true:=fun hg=>by
  cases hb:dQ t.es t.ds with
  | true=>exact (pI hb).1
  | false=>rw[hb] at hg;cases hg
 refine bG (fun hg wc hG=>FU (F:=138) (us:=[.pointer (some ⟨Y,0,none⟩)]) (fun e=>!H.qV e) t.es _ (h1.good hG) (fun e hm w' ha=>?_)) ?_
 ·obtain⟨hp,hg'⟩:=ha;exact Yf (h.good (hG.trans hg')) hf5 e (hok hg e hm) (hg'.cell bE1 bB5)
 refine aC ?_;refine fin1 ?_;rw[←bQ1,bQ'];cases dQ t.es t.ds<;>rfl
theorem Yh(h:H.nY i=true)(hl:(H.vu i).live=true):0<(H.vu i).fs.length:=by
 unfold HyD.nY at h;rw[hl] at h;simp only[bK1,cond_false,bH6,decide_eq_true_eq] at h;omega
theorem Yi{pv gv ov:Value}(h:dO w pv gv ov P):Fn Tryz.prog 60 [.agg #[pv,gv,ov]].toArray w [] (fun u _=>u=.int .i64 (bif P.may then 0 else 1)):=by
 obtain⟨p,pc,g,gc,o,oc,rfl,rfl,rfl,_⟩:=h.slices;refine enter Tryz.func60 ?_;refine run ?_;intro B X;refine az (fun wc hG=>XW h hG mh) ?_;refine run ?_;refine ah _ rfl (fun hc=>?_) (fun hc=>?_)
 ·refine run ?_;refine fin1 ?_;simp at hc;rw[hc];rfl
 ·refine run ?_;refine fin1 ?_;simp at hc;rw[hc];rfl
theorem vJ{vv rv:Value}(h:vw w wv cv vv rv H):Fn Tryz.prog 31 [.agg #[wv,cv,vv,rv]].toArray w [] (fun u _=>u=.int .i64 (bif H.ok then 0 else 1)):=by
 have h':=h;obtain⟨cs,vs,e1,e2,hcc,hH⟩:=h.ex;have hcl:cs.length=H.cs.length:=by rw[←e1,bH7]
 obtain⟨q,cap,rfl,hne,_⟩:=hH.ws.opened;have Me:=hH.cs.rows.opened;rw[hcl] at Me;obtain⟨q2,cap2,rfl,hne2,_⟩:=Me;obtain⟨q3,cap3,rfl,jG,_⟩:=hH.vs.rows.opened;obtain⟨q4,cap4,rfl,oV,_⟩:=hH.rs.opened;unfold HyD.ok;refine enter Tryz.func31 ?_;refine run ?_;intro B;refine run ?_;refine bH (fun wc hG=>Rl (h'.good hG)) ?_;intro u hn hu;unfold MB at hu
 cases hL:H.iq with
 | false=>
  rw[hL,cond_false] at hu;subst hu;refine aS [] ak ?_;refine run ?_;refine ah _ rfl (fun hd=>?_) (fun hd=>absurd hd bB4);refine run ?_
  exact fin1 rfl
 | true=>
  rw[hL,cond_true] at hu;obtain⟨X,mv,hx,rfl,hM,hX⟩:=hu;have hS:=jq hL;refine aS (⟨X,Jo (.slice q H.ws.length cap) (.slice q2 H.cs.length cap2) (.slice q3 vs.length cap3) (.slice q4 H.rs.length cap4) mv,142⟩::hx) (cnt1 hX) ?_;refine run ?_;refine ah _ rfl (fun hd=>absurd hd bB4) (fun hd=>?_);clear hd;refine run ?_;have hAw:∀ wc hp,Good w [] hp wc→(∀ e∈⟨X,Jo (.slice q H.ws.length cap) (.slice q2 H.cs.length cap2) (.slice q3 vs.length cap3) (.slice q4 H.rs.length cap4) mv,142⟩::hx,e∈hp)→xM wc X (.slice q H.ws.length cap) (.slice q2 H.cs.length cap2) (.slice q3 vs.length cap3) (.slice q4 H.rs.length cap4) mv H:=fun wc hp hG hs=>He (t:=142) (h'.good hG) hM hL (hG.lie hs);refine bH (fun wc hG=>Ri (hAw wc _ hG (fun e he=>by simp at he ⊢;rcases he with he | he<;>simp[he]))) ?_;rintro _ hn2 ⟨a1,a2,a3,k1,k2,k3,m1,m2,m3,rfl,hP⟩;refine aS (⟨X,Jo (.slice q H.ws.length cap) (.slice q2 H.cs.length cap2) (.slice q3 vs.length cap3) (.slice q4 H.rs.length cap4) mv,142⟩::(hx++hn2)) ak ?_;refine run ?_;intro Q;refine run ?_;have hPw:∀ wc hp,Good w [] hp wc→(∀ e∈hn2,e∈hp)→dO wc (.slice a1 m1 k1) (.slice a2 m2 k2) (.slice a3 m3 k3) H.aG:=fun wc hp hG hs=>hP _ (hG.lie hs)
  have hpo:∀ a∈H.aG.pages,-1≤a.own∧a.own≤14:=fun a ha=>by
   obtain⟨f,_,rfl⟩:=bI7.1 ha;have:=zh H f;omega
  refine az (fun wc hG=>Yi (hPw wc _ hG (fun e he=>by simp[he]))) ?_;refine aC ?_;refine bG (fun hg wc hG=>XH (aV (k:=0) (n:=1) (hAw wc _ hG (fun e he=>by simp at he ⊢;rcases he with he | he<;>simp[he])).x rfl) (hH.ws.good hG) (by have:=hS.f;omega) H.aG.pages (hPw wc _ hG (fun e he=>by simp[he])).pages hpo) ?_;refine aC ?_;refine bG (fun hg wc hG=>X7 (hAw wc _ hG (fun e he=>by simp at he ⊢;rcases he with he | he<;>simp[he]))) ?_;refine aC ?_
  have aA0:(!decide ((bif H.aG.may then (0:Int) else 1)=0)||!Ey H.ws H.aG.pages||!H.quiet)=!(H.aG.may&&Ey H.ws H.aG.pages&&H.quiet):=by
   cases H.aG.may<;>cases Ey H.ws H.aG.pages<;>cases H.quiet<;>rfl
  refine ah _ rfl (fun hd=>?_) (fun hd=>?_)
  ·replace hd:=aA0.symm.trans hd;rw[bJ6] at hd;refine run ?_;refine fin1 ?_;rw[hd];rfl
  replace hd:=aA0.symm.trans hd;rw[bK6] at hd;rw[hd];have hmay:H.aG.may=true:=by rw[bH6,bH6] at hd;exact hd.1.1
  have hok:=PtD.sQ.1 hmay;have hLen:H.aG.Len:=⟨hok.n0,hok.n1,hok.g4,hok.o1,hok.o3⟩
  clear hd aA0;refine run ?_;refine aK (σ:=Nat) (fun k=>[(37,.int .i64 (k:Int))]) (fun _=>⟨Q,#[.slice a1 m1 k1,.slice a2 m2 k2,.slice a3 m3 k3],48⟩::⟨X,Jo (.slice q H.ws.length cap) (.slice q2 H.cs.length cap2) (.slice q3 vs.length cap3) (.slice q4 H.rs.length cap4) mv,142⟩::(hx++hn2)) (fun k=>k≤4∧∀ j,j<k→H.nY j=true) (fun k=>4-k) 0 ⟨bI1 _,fun j hj=>absurd hj (bL0 _)⟩ ?_;rintro k m hm2 ⟨hk,hK⟩;refine run ?_;have hvl:vs.length=4:=by rw[←hS.v,←e2,bH7]
  refine ah _ rfl (fun hd=>?_) (fun hd=>?_)
  ·have hk4:k<4:=by have:=of_decide_eq_true hd;omega
   refine run ?_;refine az (fun wc hG=>PO (hAw wc _ hG (fun e he=>by simp at he ⊢;rcases he with he | he<;>simp[he])) (hPw wc _ hG (fun e he=>by simp[he])) hLen hmay k hk4) ?_;refine run ?_;refine ah _ rfl (fun hd2=>?_) (fun hd2=>?_)
   ·refine run ?_;refine fin1 ?_;rw[fU hk4 (by simpa using hd2)];rfl
   refine run ?_;refine aF (k+1) ⟨hk4,fun j hj=>?_⟩;by_cases e:j=k
   ·subst e;simpa using hd2
   ·exact hK j bB3
  have hk4:k=4:=by have:=of_decide_eq_false hd;omega
  subst hk4;rw[fE hK,bI6];have hf5:∀ i,i<4→(H.vu i).live=true→0<(H.vu i).fs.length:=fun i hi hl=>Yh (hK i hi) hl;refine run ?_;refine aK (σ:=Nat) (fun k=>[(52,.int .i64 (k:Int))]) (fun _=>⟨Q,#[.slice a1 m1 k1,.slice a2 m2 k2,.slice a3 m3 k3],48⟩::⟨X,Jo (.slice q H.ws.length cap) (.slice q2 H.cs.length cap2) (.slice q3 vs.length cap3) (.slice q4 H.rs.length cap4) mv,142⟩::(hx++hn2)) (fun k=>k≤H.cs.length∧∀ j,j<k→H.sound j=true) (fun k=>H.cs.length-k) 0 ⟨bI1 _,fun j hj=>absurd hj (bL0 _)⟩ ?_;rintro k3 m3 Q3 ⟨hk3,hK3⟩;refine run ?_;refine ah _ rfl (fun hd=>?_) (fun hd=>?_)
  ·have hlt:k3<H.cs.length:=by have:=of_decide_eq_true hd;omega
   obtain⟨b3,o3,rfl⟩:=hne2 bF8;have hr3:=hH.cs.rows.row (k:=k3) bB3;have hen:=hH.cs.en _ (getD_mem (l:=cs) (k:=k3) bB3);have hiv:=hH.cs.iv _ (getD_mem (l:=cs) (k:=k3) bB3);have hec:=hcc _ (getD_mem (l:=cs) (k:=k3) bB3);have Uf:=FM e1 k3;have hsd:H.sound k3=(dQ (cs.getD k3 default).t.es (cs.getD k3 default).t.ds&&(cs.getD k3 default).t.es.all H.qV):=by unfold HyD.sound HyD.cu;rw[←Uf];rfl
   generalize cs.getD k3 default=c at hr3 hen hiv hec hsd;have hr4:w.rangeAt b3 (o3+k3*19+17) [c.t.ev,c.t.dv]:=aV (k:=17) (n:=2) hr3 rfl;refine run ?_;refine az (fun wc hG=>Yg (hAw wc _ hG (fun e he=>by simp at he ⊢;rcases he with he | he<;>simp[he])) hf5 c.t (hen.good hG) (hiv.good hG) hec) ?_;rw[←hsd];refine run ?_;refine ah _ rfl (fun hd2=>?_) (fun hd2=>?_)
   ·refine run ?_;refine fin1 ?_;rw[fU hlt (by simpa using hd2)];rfl
   refine run ?_;refine aF (k3+1) ⟨hlt,fun j hj=>?_⟩;by_cases e:j=k3
   ·subst e;simpa using hd2
   ·exact hK3 j bB3
  have hkc:k3=H.cs.length:=by have:=of_decide_eq_false hd;omega
  subst hkc;rw[fE hK3];refine run ?_;exact fin1 rfl
end
section
attribute [local irreducible] Hy St Ops DH dH jg iP gQ DS gX
def Hg(ms:List eG)(vm:Int):Bool:=decide (1≤vm)&&decide (vm≤(ms.length:Int))&&(ms.getD (vm.toNat-1) default).live&&decide (0<(ms.getD (vm.toNat-1) default).fs.length)
theorem ag5{q2 q3 q5:Option Addr}{n2 n3 n5 c2 c3 c5:Nat}{mv:Value}{ms:List eG}(h:yT w mv ms)(vm:Int)(hv:-10≤vm∧vm≤10):Fn Tryz.prog 91 [.agg #[.slice q2 n2 c2,.slice q3 n3 c3,mv,.slice q5 n5 c5],.int .i64 vm].toArray w [] (fun u _=>u=.bool (Hg ms vm)):=by
 obtain⟨q4,c4,rfl,hne,_⟩:=h.rows.opened;refine enter Tryz.func91 ?_;refine run ?_;intro B;by_cases hr:1≤vm∧vm≤(ms.length:Int)
 ·obtain⟨k,rfl⟩:∃ k:Nat,vm=(k:Int)+1:=⟨(vm-1).toNat,by omega⟩
  have hk:k<ms.length:=by omega
  obtain⟨b4,o4,rfl⟩:=hne (by intro e;rw[e] at hk;simp at hk);have hrow:=h.rows.row hk;have e2:((k:Int)+1).toNat-1=k:=by omega
  have e1:(k:Int)+1-1=(k:Int):=by omega
  have e3:decide (1≤(k:Int)+1)=true:=by simp;omega
  have e4:decide ((k:Int)+1≤(ms.length:Int))=true:=by simp;omega
  have e5:(decide (1≤(k:Int)+1)&&decide ((k:Int)+1≤(ms.length:Int)))=true:=by rw[e3,e4];rfl
  simp only[Hg,e2,e3,e4,bI6];generalize ms.getD k default=m at hrow;have hl:=cO (k:=0) hrow rfl;have hfv:=cO (k:=3) hrow rfl;obtain⟨live,dying,aN,fs,fp,fc,fr,rp,rc,vs,vp,vk⟩:=m;dsimp only[eG.fv,eG.rv,eG.vv,mW] at hrow hl hfv ⊢;refine aC ?_;simp only[e4,bI6,show jd true true=true from rfl,bI];refine aC ?_;simp only[e1];refine aC ?_;simp only[e1,bN1,show jd true true=true from rfl,bI];refine aC ?_
  cases live with
  | false=>
   refine aP ?_
   exact fin1 rfl
  | true=>
  simp only[bI6,show jd true true=true from rfl,bI];refine aC ?_;simp only[e1];refine aC ?_;simp only[e1,bN1,bI6,show jd true true=true from rfl,bI];refine aC ?_;refine fin1 ?_;simp
 ·have e:(decide (1≤vm)&&decide (vm≤(ms.length:Int)))=false:=by
   cases h1:(decide (1≤vm)&&decide (vm≤(ms.length:Int))) with
   | false=>rfl
   | true=>simp at h1;omega
  have hL:Hg ms vm=false:=by simp only[Hg,e,bR7]
  rw[hL];refine aC ?_;simp only[e];refine aP ?_;exact fin1 rfl
end
section
attribute [local irreducible] Hy St Ops DH dH jg iP gQ DS gX lJ
theorem Yj{vs:List eG}(e2:vs.map eG.u=H.vs)(hi:i<H.vs.length):Hg vs ((i:Int)+1)=(H.vu i).has:=by
 have hl:vs.length=H.vs.length:=by rw[←e2,bH7]
 have hu:=rM e2 i;rw[show H.vs.getD i default=H.vu i from rfl] at hu;rw[←hu];unfold Hg kJ.has eG.u;have e3:((i:Int)+1).toNat-1=i:=by omega
 rw[e3];have e4:decide (1≤(i:Int)+1)=true:=by simp;omega
 have e5:decide ((i:Int)+1≤(vs.length:Int))=true:=by simp;omega
 rw[e4,e5];rfl
def PR(xs:List jQ)(u:Value)(hn:Hp):Prop:=∃ v h b,u=.tuple #[v,.bool b]∧(b=false→xs=[])∧Own 173 2 v h (xs.map eF)∧aI h hn
theorem PR.of{r:Option (List jQ)}{u:Value}{hn:Hp}(h:ap0 r u hn):PR (r.getD []) u hn:=by
 cases r with
 | none=>exact⟨_,[],false,h,fun _=>rfl,Own.nil _ _,by (exact ak)⟩
 | some xs=>
  obtain⟨v,h1,e,hO,hle⟩:=h;exact⟨v,h1,true,e,(fun hf=>by cases hf),hO,hle⟩
theorem PR.ex{xs:List jQ}(h:xs.length≤4096):∃ u hn,PR xs u hn:=by
 obtain⟨v,h1,hO⟩:=dZ (e:=173) (sz:=2) (xs:=xs.map eF) (fun c hc=>by obtain⟨m,_,rfl⟩:=bI7.1 hc;exact⟨rfl,rfl⟩) bB6;exact⟨_,h1,v,h1,true,rfl,(fun hf=>by cases hf),hO,aI.refl _⟩
theorem ag6{vv rv:Value}(h:vw w wv cv vv rv H)(i:Nat)(hi:i<4)(h4:H.vs.length=4):Fn Tryz.prog 36 [.agg #[wv,cv,vv,rv],.int .i64 ((i:Int)+1)].toArray w [] (fun u hn=>∃ h1,Acc 173 2 u h1 ((H.wZ i).map eF)∧aI h1 hn):=by
 have hfit:=h.fit;obtain⟨cs,vs,e1,e2,_,hH⟩:=h.ex;have hvl:vs.length=4:=by rw[←h4,←e2,bH7]
 have hws:=hH.ws;have hms:=hH.vs;obtain⟨q,cap,rfl,hne,_⟩:=hws.opened;obtain⟨q2,cap2,rfl,hne2,_⟩:=hH.cs.rows.opened;have hop:=hH.vs.rows.opened;rw[hvl] at hop;obtain⟨q3,cap3,rfl,jG,_⟩:=hop;obtain⟨b3,o3,rfl⟩:=jG bC7;obtain⟨q4,cap4,rfl,oV,_⟩:=hH.rs.opened;have hr:=hH.vs.rows.row (k:=i) bB3;have hfs:=hH.vs.fs _ (getD_mem (l:=vs) (k:=i) bB3);have hu:=rM e2 i;rw[show H.vs.getD i default=H.vu i from rfl] at hu;have hlh:=Yj e2 (i:=i) bB3;have MC:H.wZ i=bif (H.vu i).has then ((dL H.ws (H.vu i).root 0 4096).getD []).filter (fun m=>decide (m.mid≤15)) else []:=rfl
 have hroot:(H.vu i).root=(vs.getD i default).fs.getD 0 0:=by rw[←hu];rfl
 have hhs:(H.vu i).has=true→0<(vs.getD i default).fs.length:=fun hh=>by
  rw[←hu] at hh;unfold kJ.has eG.u at hh;rw[bH6] at hh;exact of_decide_eq_true hh.2
 generalize vs.getD i default=v at *;refine enter Tryz.func36 ?_;refine run ?_;intro B;refine az (fun wc hG=>ag5 (hms.good hG) ((i:Int)+1) bB3) ?_;rw[hlh];refine run ?_;refine ah _ rfl (fun hc=>?_) (fun hc=>?_)
 ·have hh:(H.vu i).has=false:=by simpa using hc
  rw[hh] at MC;refine run ?_;refine fin1 ?_;rw[MC];exact⟨[],Acc.nil _ _,by (exact ak)⟩
 have hh:(H.vu i).has=true:=by simpa using hc
 rw[hh,cond_true] at MC;have h0:=hhs hh;obtain⟨qf,cf,ef,rP,_⟩:=hfs.opened;obtain⟨bf,BJ,rfl⟩:=rP (by intro e;rw[e] at h0;cases h0);rw[ef] at hfs;have hrf:=aj (hfs.row h0);simp only[bK3] at hrf;rw[show v.fs.getD 0 default=v.fs.getD 0 0 from rfl,←hroot] at hrf;have hi1:((i:Int)+1-1).toNat=i:=by omega
 have hr3:w.cell? ⟨b3,o3+((i:Int)+1-1).toNat*6+3,none⟩=some v.fv:=by rw[hi1];exact hr 3 _ rfl
 rw[ef] at hr3;have hfl:=hfit.l;refine run ?_;refine late 15 14 ?_;refine xB 15 [0,1,2,3,4,5,6,7,8,9,10] [11] [12,13,14] ?_;refine gI ?_
 have hxl:((dL H.ws (H.vu i).root 0 4096).getD []).length≤4096:=by
  cases hz:dL H.ws (H.vu i).root 0 4096 with
  | none=>exact bI1 _
  | some zs=>exact vz _ _ _ _ _ hz
 refine jZ (fun wc hG=>(az6 H.ws hH.Df (hws.good hG) (H.vu i).root bB3).mono (R':=PR ((dL H.ws (H.vu i).root 0 4096).getD [])) (fun u hn hu=>PR.of hu)) (PR.ex hxl) ?_;refine kL ?_;rintro u hn ⟨v1,h1,b,rfl,hbf,hO,hle⟩;generalize (dL H.ws (H.vu i).root 0 4096).getD []=xs at hO hxl hbf MC;refine yD ?_;refine dX ?_;refine dX ?_;refine jJ ?_;refine ry ?_;simp only[bI0,bI3,bI'];obtain⟨q5,c5,x5⟩:=hO.opened;rw[bH7] at x5;subst x5;refine run ?_;refine ah _ rfl (fun hc2=>?_) (fun hc2=>?_)
 ·have hbb:b=false:=by simpa using hc2
  have:=hbf hbb;refine run ?_;refine fin1 ?_;rw[MC,this];exact⟨[],Acc.nil _ _,by (exact ak)⟩
 refine run ?_;refine aK (σ:=Nat×Value×Hp) (fun s=>[(8,.int .i64 (s.1:Int)),(7,s.2.1)]) (fun s=>h1++s.2.2) (fun s=>s.1≤xs.length∧Acc 173 2 s.2.1 s.2.2 (((xs.take s.1).filter fun m=>decide (m.mid≤15)).map eF)) (fun s=>xs.length-s.1) (0,.slice none 0 0,[]) ⟨bI1 _,Acc.nil _ _⟩ ?_ (hh:=by dsimp only;(exact cnt1 hle));rintro⟨k,gv,ha⟩ m hm ⟨hk,hA⟩;dsimp only at hm hk hA ⊢;refine run ?_;refine ah _ rfl (fun hc3=>?_) (fun hc3=>?_)
 ·have hkl:k<xs.length:=by have:=of_decide_eq_true hc3;omega
  obtain⟨g5,k5,FW,e5,eh5,_,hn5,_⟩:=hO.oq hkl;have hm0:=hn5 0 _ rfl;have hm1:=hn5 1 _ rfl;rw[bL4] at hm0;have ht5:List.take 2 (List.drop (k*2) FW.toList)=eF (xs.getD k default):=Dj hm0 hm1
  have htk:(xs.take (k+1)).filter (fun m=>decide (m.mid≤15))=(xs.take k).filter (fun m=>decide (m.mid≤15))++(if (xs.getD k default).mid≤15 then [xs.getD k default] else []):=by
   rw[bM5 hkl,bW6,jH xs hkl]
   congr 1
   exact Rj _
  have bo7:((xs.take k).filter (fun m=>decide (m.mid≤15))).length≤4096:=bP8 (bS4 _ _) bD8;generalize xs.getD k default=mp at ht5 hm0 hm1 htk;simp only[eF] at ht5;injection e5 with e5 _ e5'
  subst e5 e5' eh5;refine oD (⟨g5,FW,173⟩::ha) ak ?_;refine run ?_;refine ah _ rfl (fun hd2=>?_) (fun hd2=>?_)
  rotate_left
  ·have hqn:¬ mp.mid≤15:=of_decide_eq_false hd2;rw[if_neg hqn,bI'] at htk;refine run ?_;refine aF (k+1,gv,ha) ⟨hkl,by dsimp only;rw[htk];exact hA⟩ (hm:=by dsimp only;omega) (h2:=by (exact ak))
  have hqy:mp.mid≤15:=of_decide_eq_true hd2;rw[if_pos hqy] at htk;obtain⟨q9,c9,e9⟩:=hA.own.opened;refine run ?_;intro M;refine dK (c:=[.int .i64 mp.mid,.int .i64 mp.eu]) (hp':=[⟨M,#[.int .i64 mp.mid,.int .i64 mp.eu],173⟩,⟨g5,FW,173⟩]) hA (fun v' ha' hA2=>?_) bB6 (aY (m:=2) mh rfl) (hperm:=by (exact aU));refine run ?_;refine aF (k+1,v',ha') ⟨hkl,by dsimp only;rw[htk,bJ4];exact hA2⟩ (hm:=by dsimp only;omega) (h2:=by (exact ak))
 have hke:k=xs.length:=by have:=of_decide_eq_false hc3;omega
 subst hke;rw[bN4,←MC] at hA;refine run ?_;refine fin1 ?_;exact⟨ha,hA,by (exact ak)⟩
theorem Uj{ws:List Nat}{root:Int}{s:Int}(hs:s≠0)(h:(iE ws root q).d.soft=s):(iE ws root q).e=0∧(iE ws root q).d.kind=2:=by
 unfold iE at h ⊢;dsimp only at h ⊢
 cases hk:(aO ws root q 3).ok with
 | false=>rw[hk] at h;exact absurd h.symm hs
 | true=>
  rw[hk,cond_true] at h;refine⟨rfl,?_⟩;rw[cond_true];have hf:=jO hk;have hd:=mD ws ((aO ws root q 3).place q) (aO ws root q 3).lv;rw[←hf.d] at hd;dsimp only at h ⊢;generalize (aO ws root q 3).d=d at hd h;obtain⟨hk3,hk0,hk1,_⟩:=gy hd;unfold DsD.may at hd;rcases hk3 with e | e | e
  ·exfalso;simp only[e,decide_true,cond_true,bH6] at hd;have:=hd.1.2;simp only[DsD.bare,bH6,decide_eq_true_eq] at this;omega
  ·exfalso;simp only[e,decide_true,cond_true,bH6,show decide ((1:Int)=0)=false from rfl,cond_false] at hd;have:=hd.1.1.1;simp only[DsD.bare,bH6,decide_eq_true_eq] at this;omega
  ·exact e
structure ap4(w:World)(v:Value)(H:HyD):Prop where
 ex:∃ b o cap,∃ u:Nat→Value,v=.slice (some ⟨b,o,none⟩) 4 cap∧∀ i,i<4→w.rangeAt b (o+i*1) [u i]∧aA w (u i) 2 ((H.wZ i).map eF)
theorem ap5{vv rv mv:Value}(h:vw w wv cv vv rv H)(h4:H.vs.length=4)(hmem:fJ H.ws.length=true)(hA:ap4 w mv H)(f s:Int)(hs:s≠0):Fn Tryz.prog 38 [.agg #[wv,cv,vv,rv],mv,.int .i64 f,.int .i64 s].toArray w [] (fun u _=>u=.int .i64 (H.pG f s)):=by
 have hfit:=h.fit;have rY:=bP hmem;obtain⟨cs,vs,e1,e2,_,hH⟩:=h.ex;have hvl:vs.length=4:=by rw[←h4,←e2,bH7]
 have hws:=hH.ws;obtain⟨q,cap,rfl,hne,_⟩:=hws.opened;obtain⟨q2,cap2,rfl,hne2,_⟩:=hH.cs.rows.opened;have hop:=hH.vs.rows.opened;rw[hvl] at hop;obtain⟨q3,cap3,rfl,jG,_⟩:=hop;obtain⟨b3,o3,rfl⟩:=jG bC7;obtain⟨q4,cap4,rfl,oV,_⟩:=hH.rs.opened;obtain⟨bm,om,cm,us,rfl,hrow⟩:=hA;refine enter Tryz.func38 ?_;refine run ?_;intro B;refine aK (σ:=Nat) (fun k=>[(9,.int .i64 ((k:Int)+1))]) (fun _=>[⟨B,#[.slice q H.ws.length cap,.slice q2 cs.length cap2,.slice (some ⟨b3,o3,none⟩) 4 cap3,.slice q4 H.rs.length cap4],29⟩]) (fun k=>k≤4∧∀ j,j<k→H.oU f s j=false) (fun k=>4-k) 0 ⟨bI1 _,fun j hj=>absurd hj (bL0 _)⟩ ?_;rintro k m hm ⟨hk,hK⟩;refine run ?_;refine ah _ rfl (fun hc=>?_) (fun hc=>?_)
 rotate_left
 ·have hk4:k=4:=by have:=of_decide_eq_false hc;omega
  subst hk4;refine run ?_;refine fin1 ?_;rw[XZ hK]
 have hk4:k<4:=by have:=of_decide_eq_true hc;omega
 obtain⟨hcm,hsm⟩:=hrow k hk4
 have hcm':w.cell? ⟨bm,om+((k:Int)+1-1).toNat,none⟩=some (us k):=by
  rw[show ((k:Int)+1-1).toNat=k by omega];have:=aj hcm;simpa using this
 have hwB:H.oU f s k=(H.wZ k).any fun m=>decide (m.eu=f)&&decide (qM H.ws (H.vu k).root m.mid=s):=by unfold HyD.oU HyD.msA;rw[List.any_map];rfl
 have hml:=zf H k;have ap6:∀ m∈H.wZ k,0≤m.mid∧m.mid≤15:=fun m hm=>by have:=Rh hm;omega
 have hhas:H.wZ k≠[]→(H.vu k).has=true:=fun hne=>by
  cases hh:(H.vu k).has with
  | true=>rfl
  | false=>exact absurd (by unfold HyD.wZ;rw[hh];rfl) hne
 generalize H.wZ k=xs at hsm hwB hml ap6 hhas;obtain⟨qx,cx,ex,aZ7,_⟩:=hsm.opened;rw[ex] at hsm hcm';refine run ?_;refine aK (σ:=Nat) (fun j=>[(10,.int .i64 (j:Int))]) (fun _=>[⟨B,#[.slice q H.ws.length cap,.slice q2 cs.length cap2,.slice (some ⟨b3,o3,none⟩) 4 cap3,.slice q4 H.rs.length cap4],29⟩]) (fun j=>j≤xs.length∧∀ t,t<j→(decide ((xs.getD t default).eu=f)&&decide (qM H.ws (H.vu k).root (xs.getD t default).mid=s))=false) (fun j=>xs.length-j) 0 ⟨bI1 _,fun j hj=>absurd hj (bL0 _)⟩ ?_;rintro j m2 hm2 ⟨hj,hJ⟩;refine run ?_;refine ah _ rfl (fun hc2=>?_) (fun hc2=>?_)
 rotate_left
 ·have hje:j=xs.length:=by have:=of_decide_eq_false hc2;omega
  subst hje;refine run ?_;refine aF (k+1) ⟨hk4,fun t ht=>?_⟩ (h1:=by rw[show ((k+1:Nat):Int)+1=(k:Int)+1+1 by omega];(repeat (first | exact True.intro | (refine And.intro bC1 ?_))));by_cases e:t=k
  ·subst e;rw[hwB]
   cases ha:xs.any fun m=>decide (m.eu=f)&&decide (qM H.ws (H.vu t).root m.mid=s) with
   | false=>rfl
   | true=>
    obtain⟨y,hy,hyp⟩:=bM8.1 ha;obtain⟨i,hi,e⟩:=bT0 hy;have:=hJ i hi;rw[bH8,bH9 hi,bP1,e] at this;rw[hyp] at this;cases this
  ·exact hK t bB3
 have hjl:j<xs.length:=by have:=of_decide_eq_true hc2;omega
 have hne0:xs≠[]:=by intro e;rw[e] at hjl;simp at hjl
 obtain⟨bx,ox,rfl⟩:=aZ7 hne0;have hrx:=hsm.row hjl;have hmm:=ap6 _ (getD_mem hjl)
 have FD:∀ b,(decide ((xs.getD j default).eu=f)&&decide (qM H.ws (H.vu k).root (xs.getD j default).mid=s))=b→(b=true→H.oU f s k=true)∧(b=false→∀ t,t<j+1→(decide ((xs.getD t default).eu=f)&&decide (qM H.ws (H.vu k).root (xs.getD t default).mid=s))=false):=fun b hb=>⟨fun h=>by
  rw[hwB];exact bM8.2 ⟨_,getD_mem hjl,hb.trans h⟩,fun h t ht=>by
  by_cases e:t=j
  ·subst e;rw[hb,h]
  ·exact hJ t bB3⟩
 generalize xs.getD j default=mp at hrx hmm FD;simp only[eF] at hrx;have hr0:=cO (k:=0) hrx rfl;have hr1:=cO (k:=1) hrx rfl;have hh:=hhas hne0;have hr:=hH.vs.rows.row (k:=k) bB3;have hfs:=hH.vs.fs _ (getD_mem (l:=vs) (k:=k) bB3);have hu:=rM e2 k;rw[show H.vs.getD k default=H.vu k from rfl] at hu;have hroot:(H.vu k).root=(vs.getD k default).fs.getD 0 0:=by rw[←hu];rfl
 have h0:0<(vs.getD k default).fs.length:=by
  rw[←hu] at hh;unfold kJ.has eG.u at hh;rw[bH6] at hh;exact of_decide_eq_true hh.2
 generalize vs.getD k default=v at hr hfs hroot h0;obtain⟨qf,cf,ef,rP,_⟩:=hfs.opened;obtain⟨bf,BJ,rfl⟩:=rP (by intro e;rw[e] at h0;cases h0);rw[ef] at hfs;have hrf:=aj (hfs.row h0);simp only[bK3] at hrf;rw[show v.fs.getD 0 default=v.fs.getD 0 0 from rfl,←hroot] at hrf;have hi1:((k:Int)+1-1).toNat=k:=by omega
 have hr3:w.cell? ⟨b3,o3+((k:Int)+1-1).toNat*6+3,none⟩=some v.fv:=by rw[hi1];exact hr 3 _ rfl
 rw[ef] at hr3;refine run ?_;refine ah _ rfl (fun hc3=>?_) (fun hc3=>?_)
 ·have hnf:decide (mp.eu=f)=false:=by simpa using hc3
  refine run ?_;exact aF (j+1) ⟨hjl,(FD false (by rw[hnf];rfl)).2 rfl⟩
 have hyf:decide (mp.eu=f)=true:=by simpa using hc3
 rw[hyf,bI6] at FD;refine run ?_;obtain⟨mm,mf⟩:=mp;dsimp only at hmm hr0 FD;obtain⟨pn,rfl⟩:∃ n:Nat,mm=(n:Int):=⟨mm.toNat,by omega⟩
 have hfl:=hfit.l;refine Ag 26 [0,1,2,3,4,5,6,7,8,9,10,11,12,13,14,15,16,17,18,19,20] [25] [21,22,23,24] [27,28] [26] ?_;refine gI ?_;refine Eo (fun wc hx hG=>QN H.ws hH.Df (hws.good hG) (H.vu k).root pn bB3 bB3) ?_;refine gI ?_;refine sO ?_;refine kL ?_;rintro _ _ ⟨D,rfl,rfl⟩;have hso:qM H.ws (H.vu k).root (pn:Int)=(iE H.ws (H.vu k).root pn).d.soft:=by unfold qM;rw[bN1]
 have hlf:=fun hq=>Uj (ws:=H.ws) (root:=(H.vu k).root) (q:=pn) hs hq;rw[hso] at FD;generalize iE H.ws (H.vu k).root pn=g at FD hlf;refine yD ?_;refine dX ?_;refine dX ?_;refine dX ?_;refine jJ ?_;refine oQ ?_;refine oQ ?_;refine jJ ?_;simp only[DN,bI0,bI3,bI'];refine je (b:=D) (tb:=95) (cs:=#[.int .i64 0,.int .i64 0,.bool false,.bool false,.bool false,.bool false,.bool false,.int .i64 0,.int .i64 0]) (cs':=#[.int .i64 g.d.kind,.int .i64 g.d.frame,.bool g.d.r,.bool g.d.w,.bool g.d.x,.bool g.d.af,.bool g.d.ng,.int .i64 g.d.soft,.int .i64 g.d.note]) (hp':=[⟨B,#[.slice q H.ws.length cap,.slice q2 cs.length cap2,.slice (some ⟨b3,o3,none⟩) 4 cap3,.slice q4 H.rs.length cap4],29⟩]) ?_ aU;refine di ?_;refine kV ?_;refine aC ?_
 have hg3:(decide (g.e=0)&&decide (g.d.kind=2)&&decide (g.d.soft=s))=decide (g.d.soft=s):=by
  by_cases e:g.d.soft=s
  ·obtain⟨a,b⟩:=hlf e;rw[a,b];simp
  ·rw[decide_eq_false e,bU8]
 refine ah _ rfl (fun hc4=>?_) (fun hc4=>?_)
 ·replace hc4:=hg3.symm.trans hc4;refine run ?_;refine fin1 ?_;rw[XY hk4 ((FD true hc4).1 rfl) hK]
 replace hc4:=hg3.symm.trans hc4;refine run ?_;exact aF (j+1) ⟨hjl,(FD false hc4).2 rfl⟩ (h2:=by (exact ak))
set_option maxHeartbeats 2000000 in
theorem Jr{w:World}{vv rv:Value}(h:vw w wv cv vv rv H)(hok:H.iq=true):Fn Tryz.prog 18 [.agg #[wv,cv,vv,rv]].toArray w [] (fun u hn=>∃ p1 p2 p3 k1 k2 k3:_,∃ n1 n2 n3:Nat,u=.agg #[.slice p1 n1 k1,.slice p2 n2 k2,.slice p3 n3 k3]∧∀ w,Here hn w→dO w (.slice p1 n1 k1) (.slice p2 n2 k2) (.slice p3 n3 k3) H.aG):=by
 have h':=h;have hL:=jq hok;have rY:=bP hL.m;have hfit:=h.fit;obtain⟨cs,vs,e1,e2,_,hH⟩:=h.ex;have hvl:vs.length=4:=by rw[←hL.v,←e2,bH7]
 have hcl:cs.length=H.cs.length:=by rw[←e1,bH7]
 have hws:=hH.ws;obtain⟨q,cap,rfl,hne,_⟩:=hws.opened;have FY:=hH.cs.rows.opened;rw[hcl] at FY;obtain⟨q2,cap2,rfl,hne2,_⟩:=FY;have hop:=hH.vs.rows.opened;rw[hvl] at hop;obtain⟨q3,cap3,rfl,jG,_⟩:=hop;obtain⟨b3,o3,rfl⟩:=jG bC7;obtain⟨q4,cap4,rfl,oV,_⟩:=hH.rs.opened;refine enter Tryz.func18 ?_;refine run ?_;intro B R P;refine run ?_;refine aK (σ:=Nat×Value×Hp×List Value×Hp) (fun s=>[(5,.int .i64 ((s.1:Int)+1)),(4,s.2.1)]) (fun s=>⟨P,#[.slice none 0 0,.slice none 0 0,.slice none 0 0],48⟩::⟨R,#[.slice none 0 0,.slice none 0 0,.slice none 0 0],48⟩::⟨B,#[.slice q H.ws.length cap,.slice q2 H.cs.length cap2,.slice (some ⟨b3,o3,none⟩) 4 cap3,.slice q4 H.rs.length cap4],29⟩::(s.2.2.1++s.2.2.2.2)) (fun s=>s.1≤4∧Acc 92 1 s.2.1 s.2.2.1 (s.2.2.2.1.map fun v=>[v])∧s.2.2.2.1.length=s.1∧∀ i,i<s.1→(∃ q n c,s.2.2.2.1.getD i default=.slice q n c)∧∀ w,Here s.2.2.2.2 w→aA w (s.2.2.2.1.getD i default) 2 ((H.wZ i).map eF)) (fun s=>4-s.1) (0,.slice none 0 0,[],[],[]) ⟨bI1 _,Acc.nil _ _,rfl,fun i hi=>absurd hi (bL0 _)⟩ ?_ (hh:=by dsimp only;(exact ak));rintro⟨k,av,ha,us,hx⟩ m hm ⟨hk,hA,Fv,hU⟩;dsimp only at hm hk hA Fv hU ⊢;refine run ?_;refine ah _ rfl (fun hc=>?_) (fun hc=>?_)
 ·have hk4:k<4:=by have:=of_decide_eq_true hc;omega
  refine run ?_;refine bH (fun wc hG=>ag6 (h'.good hG) k hk4 hL.v) ?_;rintro u1 hn ⟨h1,hA1,hle⟩;obtain⟨q1,c1,x1⟩:=hA1.own.opened;rw[bH7] at x1;have hml:=zf H k;have hU1:∀ w,Here h1 w→aA w u1 2 ((H.wZ k).map eF):=fun w hw=>hA1.own.lie hw bB6;subst x1;generalize (H.wZ k).length=n1 at hU1 hml;refine aS (⟨P,#[.slice none 0 0,.slice none 0 0,.slice none 0 0],48⟩::⟨R,#[.slice none 0 0,.slice none 0 0,.slice none 0 0],48⟩::⟨B,#[.slice q H.ws.length cap,.slice q2 H.cs.length cap2,.slice (some ⟨b3,o3,none⟩) 4 cap3,.slice q4 H.rs.length cap4],29⟩::(ha++(hx++h1))) (cnt1 hle) ?_;refine run ?_;intro T;refine dK (c:=[.slice q1 n1 c1]) (hp':=⟨T,#[.slice q1 n1 c1],92⟩::⟨P,#[.slice none 0 0,.slice none 0 0,.slice none 0 0],48⟩::⟨R,#[.slice none 0 0,.slice none 0 0,.slice none 0 0],48⟩::⟨B,#[.slice q H.ws.length cap,.slice q2 H.cs.length cap2,.slice (some ⟨b3,o3,none⟩) 4 cap3,.slice q4 H.rs.length cap4],29⟩::(hx++h1)) hA (fun v' ha' hA2=>?_) bB6 (aY (m:=1) mh rfl) (hperm:=by (exact aU));refine run ?_;refine aF (k+1,v',ha',us++[.slice q1 n1 c1],hx++h1) ⟨hk4,by dsimp only;rw[bJ4];exact hA2,by simp[Fv],fun i hi=>?_⟩ (hm:=by dsimp only;omega) (h1:=by rw[show ((k+1:Nat):Int)+1=(k:Int)+1+1 by omega];(repeat (first | exact True.intro | (refine And.intro bC1 ?_)))) (h2:=by (exact ak));dsimp only;by_cases e:i=k
  ·subst e;rw[show (us++[Value.slice q1 n1 c1]).getD i default=.slice q1 n1 c1 by rw[bH8,bT6 bB3,Fv];simp];exact⟨⟨_,_,_,rfl⟩,fun w hw=>hU1 w (hw.sub fun e he=>bI4 _ he)⟩
  ·rw[show (us++[Value.slice q1 n1 c1]).getD i default=us.getD i default by rw[bH8,bT' bB3,←bH8]];exact⟨(hU i bB3).1,fun w hw=>(hU i bB3).2 w (hw.sub fun e he=>bJ2 _ he)⟩
 have hk4:k=4:=by have:=of_decide_eq_false hc;omega
 subst hk4;obtain⟨gA,cA,rV,eA,ehA,aN2⟩:=hA.own.row (n:=4) (by rw[bH7,Fv]) bB3;subst eA ehA
 have ab3:∀ wc hp,Good w [] hp wc→(∀ e∈⟨gA,rV,92⟩::hx,e∈hp)→ap4 wc (.slice (some ⟨gA,0,none⟩) 4 cA) H:=fun wc hp hG hs=>by
  have hsl:=hA.own.lie (hG.lie fun e he=>hs e (by simp at he;simp[he])) (by rw[bH7,Fv];omega);refine⟨gA,0,cA,fun i=>us.getD i default,rfl,fun i hi=>⟨?_,(hU i hi).2 wc (hG.lie fun e he=>hs e (bI5 _ he))⟩⟩;have:=hsl.row (k:=i) bB3;exact this
 refine run ?_;refine aK (σ:=Nat×Value×Hp) (fun s=>[(6,.int .i64 (s.1:Int))]) (fun s=>⟨P,#[s.2.1,.slice none 0 0,.slice none 0 0],48⟩::⟨R,#[.slice none 0 0,.slice none 0 0,.slice none 0 0],48⟩::⟨B,#[.slice q H.ws.length cap,.slice q2 H.cs.length cap2,.slice (some ⟨b3,o3,none⟩) 4 cap3,.slice q4 H.rs.length cap4],29⟩::⟨gA,rV,92⟩::(hx++s.2.2)) (fun s=>s.1≤H.ws.length/8∧Acc 51 2 s.2.1 s.2.2 (((List.range s.1).map H.mG).map sS)) (fun s=>H.ws.length/8-s.1) (0,.slice none 0 0,[]) ⟨bI1 _,Acc.nil _ _⟩ ?_ (hh:=by dsimp only;(exact ak));rintro⟨k,pv,qH⟩ m hm ⟨hk,hPg⟩;dsimp only at hm hk hPg ⊢;refine run ?_;refine az (fun wc hG=>pz H.ws.length cap bB3 q wc) ?_;refine run ?_;refine ah _ rfl (fun hc2=>?_) (fun hc2=>?_)
 ·have hkF:k<H.ws.length/8:=by have:=of_decide_eq_true hc2;omega
  refine run ?_;intro A;refine az (fun wc hG=>QN H.ws hH.Df (hws.good hG) 0 k bB3 bB3) ?_
  have BK:H.mG k=(let g:=iE H.ws 0 k
 bif !decide (g.e=0) then ⟨-1,-2⟩ else bif decide (g.d.kind=2)&&decide (g.d.soft=0) then ⟨0,-2⟩
 else bif decide (g.d.kind=2)&&decide (g.d.soft=1) then (bif decide (0<H.pG k 2) then ⟨0,H.pG k 2⟩ else ⟨0,-1⟩)
 else bif decide (g.d.kind=2)&&decide (g.d.soft=2) then (bif decide (0<H.pG k 1) then ⟨H.pG k 1,0⟩ else ⟨-1,-2⟩)
 else bif decide (g.d.kind=0)&&decide (1<g.d.note)&&decide (g.d.note≤5) then ⟨g.d.note-1,-2⟩ else ⟨-1,-2⟩):=rfl
  dsimp only at BK;generalize iE H.ws 0 k=g at BK;refine Mc ?_;intro D;refine sF (σ:=o8) (fun _=>[]) (fun z=>⟨A,#[.int .i64 (z.own),.int .i64 (z.wit)],51⟩::⟨P,#[pv,.slice none 0 0,.slice none 0 0],48⟩::⟨R,#[.slice none 0 0,.slice none 0 0,.slice none 0 0],48⟩::⟨B,#[.slice q H.ws.length cap,.slice q2 H.cs.length cap2,.slice (some ⟨b3,o3,none⟩) 4 cap3,.slice q4 H.rs.length cap4],29⟩::⟨gA,rV,92⟩::(hx++qH)) (fun z=>z=H.mG k) ?_ ?_
  ·refine run ?_;refine ah _ rfl (fun hs1=>?_) (fun hs1=>?_)
   ·rw[hs1,cond_true] at BK;refine aP ?_;exact kZ (⟨-1,-2⟩:o8) BK.symm (h2:=by (exact ak))
   rw[hs1,cond_false] at BK;refine aC ?_;refine ah _ rfl (fun hs2=>?_) (fun hs2=>?_)
   ·rw[hs2,cond_true] at BK;refine run ?_;exact kZ (⟨0,-2⟩:o8) BK.symm (h2:=by (exact ak))
   rw[hs2,cond_false] at BK;refine aC ?_;refine ah _ rfl (fun hs3=>?_) (fun hs3=>?_)
   ·rw[hs3,cond_true] at BK;refine run ?_;refine az (fun wc hG=>ap5 (h'.good hG) hL.v hL.m (ab3 wc _ hG (fun e he=>by simp at he ⊢;rcases he with he | he<;>simp[he])) (k:Int) 2 bB4) ?_;have hwl:=Px H (k:Int) 2;generalize H.pG (k:Int) 2=n at BK hwl;refine run ?_;refine ah _ rfl (fun hs5=>?_) (fun hs5=>?_)
    ·have hn0:decide (0<n)=false:=decide_eq_false (by have:=of_decide_eq_true hs5;omega);rw[hn0,cond_false] at BK;refine run ?_;exact kZ (⟨0,-1⟩:o8) BK.symm (h2:=by (exact ak))
    ·have hn0:decide (0<n)=true:=decide_eq_true (by have:=of_decide_eq_false hs5;omega);rw[hn0,cond_true] at BK;refine run ?_;exact kZ (⟨0,n⟩:o8) BK.symm (h2:=by (exact ak))
   rw[hs3,cond_false] at BK;refine aC ?_;refine ah _ rfl (fun hs4=>?_) (fun hs4=>?_)
   ·rw[hs4,cond_true] at BK;refine run ?_;refine az (fun wc hG=>ap5 (h'.good hG) hL.v hL.m (ab3 wc _ hG (fun e he=>by simp at he ⊢;rcases he with he | he<;>simp[he])) (k:Int) 1 bB4) ?_;generalize H.pG (k:Int) 1=n at BK;refine run ?_;refine ah _ rfl (fun hs5=>?_) (fun hs5=>?_)
    ·rw[hs5,cond_true] at BK;refine run ?_;exact kZ (⟨n,0⟩:o8) BK.symm (h2:=by (exact ak))
    ·rw[hs5,cond_false] at BK;refine run ?_;exact kZ (⟨-1,-2⟩:o8) BK.symm (h2:=by (exact ak))
   rw[hs4,cond_false] at BK;refine aC ?_;refine ah _ rfl (fun hs5=>?_) (fun hs5=>?_)
   ·rw[hs5,cond_true] at BK;have hn:1<g.d.note∧g.d.note≤5:=by simp at hs5;omega
    refine run ?_;exact kZ (⟨g.d.note-1,-2⟩:o8) BK.symm (h2:=by (exact ak))
   rw[hs5,cond_false] at BK;refine run ?_;exact kZ (⟨-1,-2⟩:o8) BK.symm (h2:=by (exact ak))
  rintro z hz;refine run ?_;intro T;refine dK (c:=sS z) (hp':=⟨T,#[.int .i64 z.own,.int .i64 z.wit],51⟩::⟨A,#[.int .i64 (z.own),.int .i64 (z.wit)],51⟩::⟨P,#[pv,.slice none 0 0,.slice none 0 0],48⟩::⟨R,#[.slice none 0 0,.slice none 0 0,.slice none 0 0],48⟩::⟨B,#[.slice q H.ws.length cap,.slice q2 H.cs.length cap2,.slice (some ⟨b3,o3,none⟩) 4 cap3,.slice q4 H.rs.length cap4],29⟩::⟨gA,rV,92⟩::hx) hPg (fun v' ha' hA2=>?_) (by rw[bH7,bH7,bO0];omega) (aY (m:=2) mh rfl) (hperm:=by (exact aU));obtain⟨q9,c9,e9⟩:=hA2.own.opened;subst e9;refine aS (⟨P,#[pv,.slice none 0 0,.slice none 0 0],48⟩::⟨R,#[.slice none 0 0,.slice none 0 0,.slice none 0 0],48⟩::⟨B,#[.slice q H.ws.length cap,.slice q2 H.cs.length cap2,.slice (some ⟨b3,o3,none⟩) 4 cap3,.slice q4 H.rs.length cap4],29⟩::⟨gA,rV,92⟩::(hx++ha')) ak ?_;refine run ?_;exact aF (k+1,_,ha') ⟨hkF,by dsimp only;rw[bO5,bJ4,bJ4,bN5,bN5,←hz];exact hA2⟩ (hm:=by dsimp only;omega) (h2:=by (exact ak))
 have hkF:k=H.ws.length/8:=by have:=of_decide_eq_false hc2;omega
 subst hkF;obtain⟨qa,ca,xa⟩:=hPg.own.opened;simp only[bH7,bO0] at xa;subst xa;have hmn:H.ws.length/8≤64:=by omega
 refine run ?_;refine aK (σ:=Nat×Value×Hp×List (List Value)×Hp) (fun s=>[(12,.int .i64 ((s.1:Int)+1))]) (fun s=>⟨P,#[.slice qa (H.ws.length/8) ca,s.2.1,.slice none 0 0],48⟩::⟨R,#[.slice none 0 0,.slice none 0 0,.slice none 0 0],48⟩::⟨B,#[.slice q H.ws.length cap,.slice q2 H.cs.length cap2,.slice (some ⟨b3,o3,none⟩) 4 cap3,.slice q4 H.rs.length cap4],29⟩::⟨gA,rV,92⟩::(hx++qH++(s.2.2.1++s.2.2.2.2))) (fun s=>s.1≤4∧Acc 100 5 s.2.1 s.2.2.1 s.2.2.2.1∧s.2.2.2.1.length=s.1∧∀ i,i<s.1→Md H (hx++s.2.2.2.2) i (s.2.2.2.1.getD i [])) (fun s=>4-s.1) (0,.slice none 0 0,[],[],[]) ⟨bI1 _,Acc.nil _ _,rfl,fun i hi=>absurd hi (bL0 _)⟩ ?_ (hh:=by dsimp only;(exact ak));rintro⟨k,gv,hg,G,hy⟩ m hm ⟨hk,hGu,Ue,hR⟩;dsimp only at hm hk hGu Ue hR ⊢;obtain⟨qb,cb,xb⟩:=hGu.own.opened;rw[Ue] at xb;subst xb;refine run ?_;refine ah _ rfl (fun hc2=>?_) (fun hc2=>?_)
 ·have hk4:k<4:=by have:=of_decide_eq_true hc2;omega
  have hr:=hH.vs.rows.row (k:=k) bB3;have hfs:=hH.vs.fs _ (getD_mem (l:=vs) (k:=k) bB3);have lC:=hH.vs.vs _ (getD_mem (l:=vs) (k:=k) bB3);have hu:=rM e2 k;rw[show H.vs.getD k default=H.vu k from rfl] at hu;have Ro:=hfit.v (H.vu k) (getD_mem (by rw[hL.v];exact hk4))
  have hgh:H.bU k=bif (vs.getD k default).live then ⟨true,(vs.getD k default).dying,bif decide (0<(vs.getD k default).fs.length) then (vs.getD k default).fs.getD 0 0 else 0,(vs.getD k default).vs.map Az.on,H.wZ k⟩ else ⟨false,(vs.getD k default).dying,0,[],[]⟩:=by
   unfold HyD.bU kJ.root;rw[←hu];rfl
  rw[←hu] at Ro;simp only[eG.u] at Ro;obtain⟨⟨u1,u2,u3,hu4⟩,hUk⟩:=hU k hk4
  have hnA:nth rV.toList k=some (us.getD k default):=by
   have:=aN2.nth (xs:=us.map fun v=>[v]) (by intro c hc;obtain⟨x,_,rfl⟩:=bI7.1 hc;rfl) (i:=k) (c:=[us.getD k default]) bD9 (k:=0) (u:=us.getD k default) rfl;simpa using this
  rw[hu4] at hnA hUk;have bp0:nth rV.toList (((k:Int)+1-1).toNat)=some (.slice u1 u2 u3):=by rw[show ((k:Int)+1-1).toNat=k by omega];exact hnA
  have hgr:∀ a b (r:List Value),r=[.bool (H.bU k).live,.bool (H.bU k).dying,.int .i64 (H.bU k).first,a,b]→∀ hz,(∀ w,Here hz w→aA w a 1 ((H.bU k).aQ.map bY)∧aA w b 2 ((H.bU k).maps.map eF))→Md H hz k r:=fun a b r e hz hs=>⟨a,b,e,hs⟩
  rw[hgh] at hgr;generalize vs.getD k default=v at *;have hi1:((k:Int)+1-1).toNat=k:=by omega
  obtain⟨qf,cf,ef,rP,_⟩:=hfs.opened;obtain⟨qv,AL,ev,X3,_⟩:=lC.opened;have hr6:w.rangeAt b3 (o3+((k:Int)+1-1).toNat*6) [.bool v.live,.bool v.dying,.int .i64 v.aN,.slice qf v.fs.length cf,v.rv,.slice qv v.vs.length AL]:=by rw[hi1,←ef,←ev];exact hr
  rw[ev] at lC;rw[ef] at hfs;refine run ?_;intro V;refine run ?_;intro Q;refine Mc ?_;obtain⟨g,hgg⟩:∃ g:Vg,g=bif v.live then ⟨true,v.dying,bif decide (0<v.fs.length) then v.fs.getD 0 0 else 0,v.vs.map Az.on,H.wZ k⟩ else ⟨false,v.dying,0,[],[]⟩:=⟨_,rfl⟩
  rw[←hgg] at hgr;have aA1:g.live=v.live:=by rw[hgg];cases v.live<;>rfl
  have aZ8:g.dying=v.dying:=by rw[hgg];cases v.live<;>rfl
  refine sF (σ:=Int×Value×Value×Hp) (fun _=>[]) (fun z=>⟨Q,#[.bool v.live,.bool v.dying,.int .i64 (z.1),z.2.1,z.2.2.1],100⟩::⟨P,#[.slice qa (H.ws.length/8) ca,.slice qb k cb,.slice none 0 0],48⟩::⟨R,#[.slice none 0 0,.slice none 0 0,.slice none 0 0],48⟩::⟨B,#[.slice q H.ws.length cap,.slice q2 H.cs.length cap2,.slice (some ⟨b3,o3,none⟩) 4 cap3,.slice q4 H.rs.length cap4],29⟩::⟨gA,rV,92⟩::(hx++qH++(hg++(hy++z.2.2.2)))) (fun z=>z.1=g.first∧(∃ q n c,z.2.1=.slice q n c)∧(∃ q n c,z.2.2.1=.slice q n c)∧∀ w,Here (hx++z.2.2.2) w→aA w z.2.1 1 (g.aQ.map bY)∧aA w z.2.2.1 2 (g.maps.map eF)) ?_ ?_
  ·refine ah _ rfl (fun hlv=>?_) (fun hlv=>?_)
   rotate_left
   ·have hlf:v.live=false:=by simpa using hlv
    rw[hlf,cond_false] at hgg;refine run ?_;refine kZ (0,.slice none 0 0,.slice none 0 0,[]) ⟨by rw[hgg],⟨_,_,_,rfl⟩,⟨_,_,_,rfl⟩,fun w _=>by rw[hgg];exact⟨gW w 1,gW w 2⟩⟩ (h2:=by (exact ak))
   have hlt:v.live=true:=by simpa using hlv
   rw[hlt,cond_true] at hgg;refine Mc ?_;refine sF (σ:=Int) (fun _=>[]) (fun z=>⟨Q,#[.bool v.live,.bool v.dying,.int .i64 (z),.slice none 0 0,.slice none 0 0],100⟩::⟨V,#[.bool v.live,.bool v.dying,.int .i64 v.aN,.slice qf v.fs.length cf,v.rv,.slice qv v.vs.length AL],62⟩::⟨P,#[.slice qa (H.ws.length/8) ca,.slice qb k cb,.slice none 0 0],48⟩::⟨R,#[.slice none 0 0,.slice none 0 0,.slice none 0 0],48⟩::⟨B,#[.slice q H.ws.length cap,.slice q2 H.cs.length cap2,.slice (some ⟨b3,o3,none⟩) 4 cap3,.slice q4 H.rs.length cap4],29⟩::⟨gA,rV,92⟩::(hx++qH++(hg++hy))) (fun z=>z=g.first) ?_ ?_
   ·refine ah _ rfl (fun hc3=>?_) (fun hc3=>?_)
    ·have h0:0<v.fs.length:=by simpa using hc3
     obtain⟨bf,BJ,rfl⟩:=rP (by intro e;rw[e] at h0;simp at h0);have hrf:=aj (hfs.row h0);simp only[bK3] at hrf;refine run ?_;exact kZ (v.fs.getD 0 default) (by rw[hgg,decide_eq_true h0];rfl) (h2:=by (exact ak))
    ·have h0:¬ 0<v.fs.length:=by simpa using hc3
     refine run ?_;exact kZ 0 (by rw[hgg,decide_eq_false h0];rfl) (h2:=by (exact ak))
   rintro z hz;have hgv:g.aQ=v.vs.map Az.on:=by rw[hgg]
   have hgm:g.maps=H.wZ k:=by rw[hgg]
   refine run ?_;refine aK (σ:=Nat×Value×Hp) (fun s=>[(15,.int .i64 (s.1:Int))]) (fun s=>⟨Q,#[.bool v.live,.bool v.dying,.int .i64 (z),s.2.1,.slice none 0 0],100⟩::⟨V,#[.bool v.live,.bool v.dying,.int .i64 v.aN,.slice qf v.fs.length cf,v.rv,.slice qv v.vs.length AL],62⟩::⟨P,#[.slice qa (H.ws.length/8) ca,.slice qb k cb,.slice none 0 0],48⟩::⟨R,#[.slice none 0 0,.slice none 0 0,.slice none 0 0],48⟩::⟨B,#[.slice q H.ws.length cap,.slice q2 H.cs.length cap2,.slice (some ⟨b3,o3,none⟩) 4 cap3,.slice q4 H.rs.length cap4],29⟩::⟨gA,rV,92⟩::(hx++qH++(hg++hy)++s.2.2)) (fun s=>s.1≤v.vs.length∧Acc 3 1 s.2.1 s.2.2 (((v.vs.take s.1).map Az.on).map bY)) (fun s=>v.vs.length-s.1) (0,.slice none 0 0,[]) ⟨bI1 _,Acc.nil _ _⟩ ?_ (hh:=by dsimp only;(exact ak));rintro⟨j,cw,hc⟩ m2 hm2 ⟨hj,hC⟩;dsimp only at hm2 hj hC ⊢;refine run ?_;refine ah _ rfl (fun hc4=>?_) (fun hc4=>?_)
   ·have hjl:j<v.vs.length:=by have:=of_decide_eq_true hc4;omega
    obtain⟨bv,ov,rfl⟩:=X3 bG8;have Zq:=lC.row hjl;refine run ?_;generalize hon:(v.vs.getD j default).on=on;have aZ9:w.rangeAt bv (ov+j*16+15) [.int .i64 on]:=by rw[←hon];exact aV (k:=15) (n:=1) Zq rfl
    have bp1:=aj aZ9;refine ve 12 9 [0,1,2,3,4,5,6,7,10] [(8,false),(9,false),(11,false)] (⟨V,#[.bool v.live,.bool v.dying,.int .i64 v.aN,.slice qf v.fs.length cf,v.rv,.slice (some ⟨bv,ov,none⟩) v.vs.length AL],62⟩::⟨P,#[.slice qa (H.ws.length/8) ca,.slice qb k cb,.slice none 0 0],48⟩::⟨R,#[.slice none 0 0,.slice none 0 0,.slice none 0 0],48⟩::⟨B,#[.slice q H.ws.length cap,.slice q2 H.cs.length cap2,.slice (some ⟨b3,o3,none⟩) 4 cap3,.slice q4 H.rs.length cap4],29⟩::⟨gA,rV,92⟩::(hx++qH++(hg++hy))) ?_;refine kU ?_;refine xC ?_;refine Ae [.int .i64 on] (fun Z=>?_);refine di ?_;refine XG (c:=[.int .i64 on]) (hp':=⟨Z,#[.int .i64 on],3⟩::⟨Q,#[.bool v.live,.bool v.dying,.int .i64 (z),cw,.slice none 0 0],100⟩::⟨V,#[.bool v.live,.bool v.dying,.int .i64 v.aN,.slice qf v.fs.length cf,v.rv,.slice (some ⟨bv,ov,none⟩) v.vs.length AL],62⟩::⟨P,#[.slice qa (H.ws.length/8) ca,.slice qb k cb,.slice none 0 0],48⟩::⟨R,#[.slice none 0 0,.slice none 0 0,.slice none 0 0],48⟩::⟨B,#[.slice q H.ws.length cap,.slice q2 H.cs.length cap2,.slice (some ⟨b3,o3,none⟩) 4 cap3,.slice q4 H.rs.length cap4],29⟩::⟨gA,rV,92⟩::(hx++qH++(hg++hy))) hC (aY (m:=1) mh rfl) bB9 aU ak (fun v' ha' hA2=>?_);obtain⟨q9,c9,e9⟩:=hA2.own.opened;subst e9;refine xC ?_;refine je (b:=Q) (tb:=100) (cs:=#[.bool v.live,.bool v.dying,.int .i64 z,cw,.slice none 0 0]) (cs':=#[.bool v.live,.bool v.dying,.int .i64 z,.slice q9 _ c9,.slice none 0 0]) (hp':=ha'++(⟨Z,#[.int .i64 on],3⟩::⟨V,#[.bool v.live,.bool v.dying,.int .i64 v.aN,.slice qf v.fs.length cf,v.rv,.slice (some ⟨bv,ov,none⟩) v.vs.length AL],62⟩::⟨P,#[.slice qa (H.ws.length/8) ca,.slice qb k cb,.slice none 0 0],48⟩::⟨R,#[.slice none 0 0,.slice none 0 0,.slice none 0 0],48⟩::⟨B,#[.slice q H.ws.length cap,.slice q2 H.cs.length cap2,.slice (some ⟨b3,o3,none⟩) 4 cap3,.slice q4 H.rs.length cap4],29⟩::⟨gA,rV,92⟩::(hx++qH++(hg++hy)))) ?_ aU;refine di ?_;refine Ji ?_;refine kV ?_;refine run ?_;exact aF (j+1,_,ha') ⟨hjl,by dsimp only;rw[bM5 hjl,bJ4,bJ4,bN5,bN5,jH v.vs hjl,hon];exact hA2⟩ (hm:=by dsimp only;omega) (h2:=by (exact ak))
   have hje:j=v.vs.length:=by have:=of_decide_eq_false hc4;omega
   subst hje;rw[bN4] at hC;obtain⟨qc,cc,xc⟩:=hC.own.opened;simp only[bH7] at xc;subst xc;have aZ':∀ w',Here hx w'→aA w' (.slice u1 u2 u3) 2 (g.maps.map eF):=fun w' hw=>by rw[hgm];exact hUk w' hw
   refine run ?_;refine kZ (z,.slice qc v.vs.length cc,.slice u1 u2 u3,hc) ⟨hz,⟨_,_,_,rfl⟩,⟨_,_,_,rfl⟩,fun w' hw=>⟨by dsimp only;rw[hgv];exact hC.own.lie (hw.sub fun e he=>bI4 _ he) bB9,aZ' w' (hw.sub fun e he=>bJ2 _ he)⟩⟩ (h2:=by (exact ak))
  rintro⟨z1,z2,z3,hz⟩ ⟨hz1,⟨y1,y2,y3,hz2⟩,⟨y4,y5,y6,hz3⟩,hzS⟩;dsimp only at hz1 hz2 hz3 hzS;subst hz2 hz3;refine run ?_;intro T;refine dK (c:=[.bool v.live,.bool v.dying,.int .i64 z1,.slice y1 y2 y3,.slice y4 y5 y6]) (hp':=⟨T,#[.bool v.live,.bool v.dying,.int .i64 z1,.slice y1 y2 y3,.slice y4 y5 y6],100⟩::⟨Q,#[.bool v.live,.bool v.dying,.int .i64 (z1),.slice y1 y2 y3,.slice y4 y5 y6],100⟩::⟨P,#[.slice qa (H.ws.length/8) ca,.slice qb k cb,.slice none 0 0],48⟩::⟨R,#[.slice none 0 0,.slice none 0 0,.slice none 0 0],48⟩::⟨B,#[.slice q H.ws.length cap,.slice q2 H.cs.length cap2,.slice (some ⟨b3,o3,none⟩) 4 cap3,.slice q4 H.rs.length cap4],29⟩::⟨gA,rV,92⟩::(hx++qH++(hy++hz))) hGu (fun v' ha' hA2=>?_) bB3 (aY (m:=5) mh rfl) (hperm:=by (exact aU));obtain⟨q9,c9,e9⟩:=hA2.own.opened;subst e9;refine aS (⟨P,#[.slice qa (H.ws.length/8) ca,.slice qb k cb,.slice none 0 0],48⟩::⟨R,#[.slice none 0 0,.slice none 0 0,.slice none 0 0],48⟩::⟨B,#[.slice q H.ws.length cap,.slice q2 H.cs.length cap2,.slice (some ⟨b3,o3,none⟩) 4 cap3,.slice q4 H.rs.length cap4],29⟩::⟨gA,rV,92⟩::(hx++qH++(ha'++(hy++hz)))) ak ?_;refine run ?_;refine aF (k+1,_,ha',_,hy++hz) ⟨hk4,hA2,by simp[Ue],fun i hi=>?_⟩ (hm:=by dsimp only;omega) (h1:=by rw[show ((k+1:Nat):Int)+1=(k:Int)+1+1 by omega];(repeat (first | exact True.intro | (refine And.intro bC1 ?_)))) (h2:=by (exact ak));dsimp only;by_cases e:i=k
  ·subst e
   have:(G++[[Value.bool v.live,.bool v.dying,.int .i64 z1,.slice y1 y2 y3,.slice y4 y5 y6]]).getD i []=[.bool g.live,.bool g.dying,.int .i64 g.first,.slice y1 y2 y3,.slice y4 y5 y6]:=by
    rw[bH8,bT6 bB3,Ue,aA1,aZ8,←hz1];simp
   rw[this];refine hgr _ _ _ rfl _ fun w hw=>hzS w (hw.sub fun e he=>by simp at he ⊢;rcases he with he | he<;>simp[he])
  ·have:(G++[[Value.bool v.live,.bool v.dying,.int .i64 z1,.slice y1 y2 y3,.slice y4 y5 y6]]).getD i []=G.getD i []:=by
    rw[bH8,bT' bB3,←bH8]
   rw[this];exact (hR i bB3).le fun e he=>by simp at he ⊢;rcases he with he | he<;>simp[he]
 have hk4:k=4:=by have:=of_decide_eq_false hc2;omega
 subst hk4;refine run ?_;refine aK (σ:=Nat×Value×Hp) (fun s=>[(16,.int .i64 (s.1:Int))]) (fun s=>⟨P,#[.slice qa (H.ws.length/8) ca,.slice qb 4 cb,s.2.1],48⟩::⟨R,#[.slice none 0 0,.slice none 0 0,.slice none 0 0],48⟩::⟨B,#[.slice q H.ws.length cap,.slice q2 H.cs.length cap2,.slice (some ⟨b3,o3,none⟩) 4 cap3,.slice q4 H.rs.length cap4],29⟩::⟨gA,rV,92⟩::(hx++qH++(hg++hy)++s.2.2)) (fun s=>s.1≤H.cs.length∧Acc 104 2 s.2.1 s.2.2 (((H.cs.take s.1).map fun c=>(⟨c.vm,c.vc⟩:JR)).map yG)) (fun s=>H.cs.length-s.1) (0,.slice none 0 0,[]) ⟨bI1 _,Acc.nil _ _⟩ ?_ (hh:=by dsimp only;(exact ak));rintro⟨k,ov,ho⟩ m3 Q3 ⟨hk3,hC⟩;dsimp only at Q3 hk3 hC ⊢;have hkm:min k H.cs.length=k:=by omega
 obtain⟨qc,cc,xc⟩:=hC.own.opened;rw[bH7,bH7,bK',hkm] at xc;subst xc;refine run ?_;refine ah _ rfl (fun hc3=>?_) (fun hc3=>?_)
 ·have hlt:k<H.cs.length:=by have:=of_decide_eq_true hc3;omega
  obtain⟨bc,oc,rfl⟩:=hne2 bF8;have hr3:=hH.cs.rows.row (k:=k) bB3;have Uf:=FM e1 k
  have ht:(H.cs.take (k+1)).map (fun c=>(⟨c.vm,c.vc⟩:JR))=(H.cs.take k).map (fun c=>(⟨c.vm,c.vc⟩:JR))++[⟨(cs.getD k default).vm,(cs.getD k default).vc⟩]:=by
   rw[bM5 hlt,bJ4,bN5,jH H.cs hlt,←Uf];rfl
  clear Uf;generalize cs.getD k default=c at hr3 ht;have hv1:w.rangeAt bc (oc+k*19+15) [.int .i64 c.vm]:=aV (k:=15) (n:=1) hr3 rfl;have hv2:w.rangeAt bc (oc+k*19+16) [.int .i64 c.vc]:=aV (k:=16) (n:=1) hr3 rfl;have bp2:=aj hv1;have bp3:=aj hv2;have hC3:=hL.c3;refine run ?_;refine ve 19 16 [0,1,2,3,4,5,6,7,8,9,10,11,12,13,14,17] [(15,false),(16,false),(18,false)] (⟨R,#[.slice none 0 0,.slice none 0 0,.slice none 0 0],48⟩::⟨B,#[.slice q H.ws.length cap,.slice (some ⟨bc,oc,none⟩) H.cs.length cap2,.slice (some ⟨b3,o3,none⟩) 4 cap3,.slice q4 H.rs.length cap4],29⟩::⟨gA,rV,92⟩::(hx++qH++(hg++hy))) ?_;refine kU ?_;refine xC ?_;refine Ae [.int .i64 c.vm,.int .i64 c.vc] (fun Z=>?_);refine di ?_;refine XG (c:=[.int .i64 c.vm,.int .i64 c.vc]) (hp':=⟨Z,#[.int .i64 c.vm,.int .i64 c.vc],104⟩::⟨P,#[.slice qa (H.ws.length/8) ca,.slice qb 4 cb,.slice qc k cc],48⟩::⟨R,#[.slice none 0 0,.slice none 0 0,.slice none 0 0],48⟩::⟨B,#[.slice q H.ws.length cap,.slice (some ⟨bc,oc,none⟩) H.cs.length cap2,.slice (some ⟨b3,o3,none⟩) 4 cap3,.slice q4 H.rs.length cap4],29⟩::⟨gA,rV,92⟩::(hx++qH++(hg++hy))) hC (aY (m:=2) mh rfl) (by rw[bH7,bH7,bK'];omega) aU ak (fun v' ha' hA2=>?_);obtain⟨q9,c9,e9⟩:=hA2.own.opened;subst e9;refine xC ?_;refine je (b:=P) (tb:=48) (cs:=#[.slice qa (H.ws.length/8) ca,.slice qb 4 cb,.slice qc k cc]) (cs':=#[.slice qa (H.ws.length/8) ca,.slice qb 4 cb,.slice q9 _ c9]) (hp':=ha'++(⟨Z,#[.int .i64 c.vm,.int .i64 c.vc],104⟩::⟨R,#[.slice none 0 0,.slice none 0 0,.slice none 0 0],48⟩::⟨B,#[.slice q H.ws.length cap,.slice (some ⟨bc,oc,none⟩) H.cs.length cap2,.slice (some ⟨b3,o3,none⟩) 4 cap3,.slice q4 H.rs.length cap4],29⟩::⟨gA,rV,92⟩::(hx++qH++(hg++hy)))) ?_ aU;refine di ?_;refine Ji ?_;refine kV ?_;refine run ?_;exact aF (k+1,_,ha') ⟨hlt,by dsimp only;rw[ht,bJ4,bN5];exact hA2⟩ (hm:=by dsimp only;omega) (h2:=by (exact ak))
 have hkC:k=H.cs.length:=by have:=of_decide_eq_false hc3;omega
 subst hkC;rw[bN4] at hC;refine run ?_;refine dR (cs:=#[.slice qa (H.ws.length/8) ca,.slice qb 4 cb,.slice qc H.cs.length cc]) ⟨_,_,_,_,_,_,_,_,_,rfl,fun w hw=>G9 hPg hGu Ue hR hC.own hfit hL.v (hw.sub fun e he=>?_)⟩;simp only[bK4,bJ3] at he ⊢;rcases he with ((he | he) | (he | he)) | he<;>simp[he]
def kJ.chain(n:Nat)(v:kJ)(k:Nat):Bool:=bK n (v.fs.getD k 0)&&(decide (k=0)||decide (v.fs.getD k 0=v.fs.getD (k-1) 0+1))
def kJ.EK(v:kJ)(k:Nat):Bool:=decide (1≤gV (fun t=>decide (t=v.fr.getD k 0)) v.fs)&&(decide (k=0)||decide (v.fr.getD (k-1) 0<v.fr.getD k 0))
def kJ.vcR(v:kJ)(k:Nat):Bool:=!(decide (0≤(v.vs.getD k default).on)&&!decide ((v.vs.getD k default).r=jA))
def HyD.oM(H:HyD)(v:kJ)(k:Nat):Bool:=!((H.vu k).live&&decide ((H.vu k).aN=v.aN))
def HyD.NP(H:HyD)(i:Nat):Bool:=
 bif !(H.vu i).live then decide ((H.vu i).fs.length=0)&&decide ((H.vu i).fr.length=0)&&decide ((H.vu i).vs.length=0)&&decide ((H.vu i).aN=0)
 else (decide ((H.vu i).fs.length=5)&&PtD.dD (H.vu i).aN 1 15)&&(allB 5 ((H.vu i).chain H.ws.length)&&(allB (H.vu i).fr.length (H.vu i).EK&&(allB i (H.oM (H.vu i))&&allB (H.vu i).vs.length (H.vu i).vcR)))
set_option maxHeartbeats 2000000 in
theorem PS{vv rv:Value}(h:vw w wv cv vv rv H)(hok:H.iq=true)(i:Nat)(hi:i<4):Fn Tryz.prog 24 [.agg #[wv,cv,vv,rv],.int .i64 ((i:Int)+1)].toArray w [] (fun u _=>u=.bool (H.NP i)):=by
 have hL:=jq hok;have rY:=bP hL.m;have hfit:=h.fit;obtain⟨cs,vs,e1,e2,_,hH⟩:=h.ex;have hvl:vs.length=4:=by rw[←hL.v,←e2,bH7]
 have hcl:cs.length=H.cs.length:=by rw[←e1,bH7]
 have hws:=hH.ws;obtain⟨q,cap,rfl,hne,_⟩:=hws.opened;obtain⟨q2,cap2,rfl,hne2,_⟩:=hH.cs.rows.opened;have hop:=hH.vs.rows.opened;rw[hvl] at hop;obtain⟨q3,cap3,rfl,jG,_⟩:=hop;obtain⟨b3,o3,rfl⟩:=jG bC7;obtain⟨q4,cap4,rfl,oV,_⟩:=hH.rs.opened;have hr:=hH.vs.rows.row (k:=i) bB3;have hfs:=hH.vs.fs _ (getD_mem (l:=vs) (k:=i) bB3);have hfr:=hH.vs.fr _ (getD_mem (l:=vs) (k:=i) bB3);have lC:=hH.vs.vs _ (getD_mem (l:=vs) (k:=i) bB3);have hu:=rM e2 i;rw[show H.vs.getD i default=H.vu i from rfl] at hu;have Ro:=hfit.v (H.vu i) (getD_mem bG');unfold HyD.NP;rw[←hu] at Ro ⊢;generalize vs.getD i default=v at hr hfs hfr lC Ro ⊢;simp only[eG.u] at Ro;obtain⟨qf,cf,ef,rP,_⟩:=hfs.opened;obtain⟨qr,cr,er,az9,_⟩:=hfr.opened;obtain⟨qv,AL,ev,X3,_⟩:=lC.opened;have hi1:((i:Int)+1-1).toNat=i:=by omega
 have hr6:w.rangeAt b3 (o3+((i:Int)+1-1).toNat*6) [.bool v.live,.bool v.dying,.int .i64 v.aN,.slice qf v.fs.length cf,.slice qr v.fr.length cr,.slice qv v.vs.length AL]:=by rw[hi1,←ef,←er,←ev];exact hr
 rw[ev] at lC;rw[ef] at hfs;rw[er] at hfr;refine enter Tryz.func24 ?_;refine run ?_;intro B V;refine aC ?_;refine ah _ rfl (fun hlv=>?_) (fun hlv=>?_)
 ·refine aC ?_;refine fin1 ?_;have hlf:v.live=false:=by simpa using hlv
  simp only[eG.u,hlf,bL1,cond_true];have e0:∀ n:Nat,decide ((n:Int)=0)=decide (n=0):=fun n=>by rw[decide_eq_decide];omega
  simp only[e0]
 have hlt:v.live=true:=by simpa using hlv
 rw[show v.u.live=true from hlt,bK1,cond_false];refine aC ?_
 have hA:(!decide ((v.fs.length:Int)=5)||decide (v.aN<1)||decide (15<v.aN))=!(decide (v.u.fs.length=5)&&PtD.dD v.u.aN 1 15):=by
  show _=!(decide (v.fs.length=5)&&PtD.dD v.aN 1 15);rw[bI2];simp only[PtD.dD,bJ7,bJ6,bN7,decide_eq_true_eq,decide_eq_false_iff_not];omega
 refine ah _ rfl (fun hd=>?_) (fun hd=>?_)
 ·replace hd:=hA.symm.trans hd;rw[bJ6] at hd;rw[hd];refine run ?_;exact fin1 rfl
 replace hd:=hA.symm.trans hd;rw[bK6] at hd;rw[hd,bI6]
 have h5:v.fs.length=5:=by
  simp only[bH6,decide_eq_true_eq] at hd;exact hd.1
 clear hd hA hlv;obtain⟨bf,BJ,rfl⟩:=rP bF5;refine run ?_;refine aK (σ:=Nat) (fun k=>[(6,.int .i64 (k:Int))]) (fun _=>[⟨V,#[.bool v.live,.bool v.dying,.int .i64 v.aN,.slice (some ⟨bf,BJ,none⟩) v.fs.length cf,.slice qr v.fr.length cr,.slice qv v.vs.length AL],62⟩,⟨B,#[.slice q H.ws.length cap,.slice q2 cs.length cap2,.slice (some ⟨b3,o3,none⟩) 4 cap3,.slice q4 H.rs.length cap4],29⟩]) (fun k=>k≤5∧∀ j,j<k→kJ.chain H.ws.length v.u j=true) (fun k=>5-k) 0 ⟨bI1 _,fun j hj=>absurd hj (bL0 _)⟩ ?_;rintro k m hm ⟨hk,hK⟩;refine run ?_;refine ah _ rfl (fun hc=>?_) (fun hc=>?_)
 ·have hk5:k<5:=by have:=of_decide_eq_true hc;omega
  have hrk:=aj (hfs.row (k:=k) bB3);simp only[bK3] at hrk;have hrp:=aj (hfs.row (k:=((k:Int)-1).toNat) bB3);simp only[bK3] at hrp
  have ao5:0<k→0≤v.fs.getD ((k:Int)-1).toNat default∧v.fs.getD ((k:Int)-1).toNat default<100000:=fun h0=>by
   have:=hK (k-1) bB3;unfold kJ.chain bK at this;simp only[bH6,decide_eq_true_eq] at this;have h1:=this.1;rw[show ((k:Int)-1).toNat=k-1 by omega];simp only[eG.u] at h1;show 0≤v.fs.getD (k-1) 0∧v.fs.getD (k-1) 0<100000;omega
  refine run ?_;refine dA ?_;refine bg ?_;refine fB (fun wc hG=>yP H.ws.length cap q bB3 (v.fs.getD k 0) wc) ?_;refine bg ?_;refine run ?_
  have hC:(!bK H.ws.length (v.fs.getD k 0)||decide (0<(k:Int))&&!decide (v.fs.getD k default=v.fs.getD ((k:Int)-1).toNat default+1))=!kJ.chain H.ws.length v.u k:=by
   unfold kJ.chain;simp only[eG.u];rw[show ((k:Int)-1).toNat=k-1 by omega,show (default:Int)=0 from rfl,bW3,Bool.not_or]
   congr 2
   rw[←decide_not,decide_eq_decide];omega
  refine ah _ rfl (fun hd=>?_) (fun hd=>?_)
  ·replace hd:=hC.symm.trans hd;refine run ?_;refine fin1 ?_;rw[fU (p:=kJ.chain H.ws.length _) hk5 bG5];rfl
  replace hd:=hC.symm.trans hd;refine run ?_;refine aF (k+1) ⟨hk5,fun j hj=>?_⟩;by_cases e:j=k
  ·subst e;simpa using hd
  ·exact hK j bB3
 have hk5:k=5:=by have:=of_decide_eq_false hc;omega
 subst hk5;rw[fE (p:=kJ.chain H.ws.length _) hK,bI6];refine run ?_;refine aK (σ:=Nat) (fun k=>[(7,.int .i64 (k:Int))]) (fun _=>[⟨V,#[.bool v.live,.bool v.dying,.int .i64 v.aN,.slice (some ⟨bf,BJ,none⟩) v.fs.length cf,.slice qr v.fr.length cr,.slice qv v.vs.length AL],62⟩,⟨B,#[.slice q H.ws.length cap,.slice q2 cs.length cap2,.slice (some ⟨b3,o3,none⟩) 4 cap3,.slice q4 H.rs.length cap4],29⟩]) (fun k=>k≤v.fr.length∧∀ j,j<k→kJ.EK v.u j=true) (fun k=>v.fr.length-k) 0 ⟨bI1 _,fun j hj=>absurd hj (bL0 _)⟩ ?_;rintro k m2 hm2 ⟨hk2,hK2⟩;refine run ?_;refine ah _ rfl (fun hc2=>?_) (fun hc2=>?_)
 ·have hkl:k<v.fr.length:=by have:=of_decide_eq_true hc2;omega
  obtain⟨br,or_,rfl⟩:=az9 bG7;have hrk:=aj (hfr.row (k:=k) bB3);have hrp:=aj (hfr.row (k:=((k:Int)-1).toNat) bB3);simp only[bK3] at hrk hrp;refine run ?_;refine dA ?_;refine bg ?_;refine fB (fun wc hG=>KU (v.fr.getD k 0) v.fs _ (hfs.good hG)) ?_;refine bg ?_;refine run ?_
  have hC:(decide (gV (fun t=>decide (t=v.fr.getD k 0)) v.fs<1)||decide (0<(k:Int))&&decide (v.fr.getD k default≤v.fr.getD ((k:Int)-1).toNat default))=!kJ.EK v.u k:=by
   show _=!(decide (1≤gV (fun t=>decide (t=v.fr.getD k 0)) v.fs)&&(decide (k=0)||decide (v.fr.getD (k-1) 0<v.fr.getD k 0)));rw[show ((k:Int)-1).toNat=k-1 by omega,show (default:Int)=0 from rfl,bW3,Bool.not_or]
   congr 1
   ·rw[←decide_not,decide_eq_decide];omega
   congr 1
   ·rw[←decide_not,decide_eq_decide];omega
   ·rw[←decide_not,decide_eq_decide];omega
  refine ah _ rfl (fun hd=>?_) (fun hd=>?_)
  ·replace hd:=hC.symm.trans hd;refine run ?_;refine fin1 ?_;rw[fU (n:=v.u.fr.length) (p:=kJ.EK _) hkl bG5];rfl
  replace hd:=hC.symm.trans hd;refine run ?_;refine aF (k+1) ⟨hkl,fun j hj=>?_⟩;by_cases e:j=k
  ·subst e;simpa using hd
  ·exact hK2 j bB3
 have hke:k=v.fr.length:=by have:=of_decide_eq_false hc2;omega
 subst hke;rw[fE (n:=v.u.fr.length) (p:=kJ.EK _) hK2,bI6];refine run ?_;refine aK (σ:=Nat) (fun k=>[(8,.int .i64 (k:Int))]) (fun _=>[⟨V,#[.bool v.live,.bool v.dying,.int .i64 v.aN,.slice (some ⟨bf,BJ,none⟩) v.fs.length cf,.slice qr v.fr.length cr,.slice qv v.vs.length AL],62⟩,⟨B,#[.slice q H.ws.length cap,.slice q2 cs.length cap2,.slice (some ⟨b3,o3,none⟩) 4 cap3,.slice q4 H.rs.length cap4],29⟩]) (fun k=>k≤i∧∀ j,j<k→H.oM v.u j=true) (fun k=>i-k) 0 ⟨bI1 _,fun j hj=>absurd hj (bL0 _)⟩ ?_;rintro k m3 Q3 ⟨hk3,hK3⟩;refine run ?_;refine ah _ rfl (fun hc3=>?_) (fun hc3=>?_)
 ·have hkl:k<i:=by have:=of_decide_eq_true hc3;omega
  have hr3:=hH.vs.rows.row (k:=k) bB3;have hu3:=rM e2 k;rw[show H.vs.getD k default=H.vu k from rfl] at hu3
  have hC:((vs.getD k default).live&&decide ((vs.getD k default).aN=v.aN))=!H.oM v.u k:=by
   unfold HyD.oM;rw[←hu3,bQ'];rfl
  clear hu3;generalize vs.getD k default=o at hr3 hC;have ho1:=aj (show w.rangeAt b3 (o3+k*6) [.bool o.live] from aV (k:=0) (n:=1) hr3 rfl);have ho2:=aj (show w.rangeAt b3 (o3+k*6+2) [.int .i64 o.aN] from aV (k:=2) (n:=1) hr3 rfl);refine run ?_;refine dA ?_;refine bg ?_;refine run ?_;refine ah _ rfl (fun hd=>?_) (fun hd=>?_)
  ·replace hd:=hC.symm.trans hd;refine run ?_;refine fin1 ?_;rw[fU (p:=H.oM _) hkl bG5];rfl
  replace hd:=hC.symm.trans hd;refine run ?_;refine aF (k+1) ⟨hkl,fun j hj=>?_⟩;by_cases e:j=k
  ·subst e;simpa using hd
  ·exact hK3 j bB3
 have hki:k=i:=by have:=of_decide_eq_false hc3;omega
 subst hki;rw[fE (p:=H.oM _) hK3,bI6];refine run ?_;refine aK (σ:=Nat) (fun k=>[(9,.int .i64 (k:Int))]) (fun _=>[⟨V,#[.bool v.live,.bool v.dying,.int .i64 v.aN,.slice (some ⟨bf,BJ,none⟩) v.fs.length cf,.slice qr v.fr.length cr,.slice qv v.vs.length AL],62⟩,⟨B,#[.slice q H.ws.length cap,.slice q2 cs.length cap2,.slice (some ⟨b3,o3,none⟩) 4 cap3,.slice q4 H.rs.length cap4],29⟩]) (fun k=>k≤v.vs.length∧∀ j,j<k→kJ.vcR v.u j=true) (fun k=>v.vs.length-k) 0 ⟨bI1 _,fun j hj=>absurd hj (bL0 _)⟩ ?_;rintro j m4 hm4 ⟨hk4,hK4⟩;refine run ?_;refine ah _ rfl (fun hc4=>?_) (fun hc4=>?_)
 ·have hjl:j<v.vs.length:=by have:=of_decide_eq_true hc4;omega
  obtain⟨bv,ov,rfl⟩:=X3 bG8;have Zq:=lC.row hjl
  have hC:(decide (0≤(v.vs.getD j default).on)&&!aW (kN (v.vs.getD j default).r) (kN jA))=!kJ.vcR v.u j:=by
   unfold kJ.vcR;rw[OT,bQ'];rfl
  generalize v.vs.getD j default=c at Zq hC;have hr1:w.rangeAt bv (ov+j*16+15) [.int .i64 c.on]:=aV (k:=15) (n:=1) Zq rfl;have hr1':=aj hr1;have hr2:w.rangeAt bv (ov+j*16) (kN c.r):=aV (k:=0) (n:=15) Zq rfl;refine run ?_;refine aC ?_;refine ah _ rfl (fun hd=>?_) (fun hd=>?_)
  ·replace hd:=hC.symm.trans hd;refine run ?_;refine fin1 ?_;rw[fU (n:=v.u.vs.length) (p:=kJ.vcR _) hjl bG5]
  replace hd:=hC.symm.trans hd;refine run ?_;refine aF (j+1) ⟨hjl,fun l hl=>?_⟩;by_cases e:l=j
  ·subst e;simpa using hd
  ·exact hK4 l bB3
 have hje:j=v.vs.length:=by have:=of_decide_eq_false hc4;omega
 subst hje;rw[fE (n:=v.u.vs.length) (p:=kJ.vcR _) hK4];refine run ?_;exact fin1 rfl
end
section
section
variable {n : Nat} {w0 : World} {mu : List Nat} {l : Fm} {hp : Hp} {Q : Exit → Fm → Hp → Prop} {all : Array Oper} {rest : List Oper} {ty : TypeId} {pos : String} {af : Array Edge}
theorem aA2{f d j dj:Nat}{want b:Bool}{xs:List Operand}{vs:List Value}{tys:Array TypeId}{R:Value→Hp→Prop}(hi hp':Hp)(hwt:jd b want=true)(hc:∀ w,Good w0 mu (hi++hp') w→Fn Tryz.prog f vs.toArray w (hi.map (·.b)) R)(h:∀ v hn,R v hn→Ops Tryz.prog n w0 mu all rest ((d,v)::l) (hn++hp') Q)
  (hperm:(hi++hp').Perm hp) (bM:mem iV f=true:=by rfl) (hj:(all[j]?).bind (·.dst)=some dj:=by rfl) (hb:look l dj=some (gv true (.bool b)):=by rfl) (hdj:Nat.blt dj n=true:=by rfl) (hd:Nat.blt d n=true:=by rfl) (hv:evs l xs=some vs:=by rfl):Ops Tryz.prog n w0 mu all (⟨some d,.call { callee:=.value (.func f),args:=xs.toArray,argTypes:=tys },ty,pos,af,some (j,want)⟩::rest) l hp Q:=by
 obtain⟨fn,c,hf,hname,hbd⟩:=fA f bM;intro a w hk hG;have hw:=jL (o:=⟨some d,.call { callee:=.value (.func f),args:=xs.toArray,argTypes:=tys },ty,pos,af,some (j,want)⟩) hk rfl hj hb hdj;refine wpList_step fun K hK=>?_;rw[hwt,bQ9] at hw;rw[if_pos hw];unfold Oper.wp;rw[qZ rfl hf hname hbd hk hv w];refine Calls.mono (hc w (hG.perm hperm)) ?_;rintro e w' ⟨u,hn,rfl,hg',hR⟩;exact hK _ _ (h u hn hR _ _ (hk.put (xq (show Zn (some d) n=true from hd)) u) ((hG.perm hperm).lH hg'))
end
attribute [local irreducible] Hy St Ops DH dH jg iP gQ DS gX lJ
theorem Good.off{w0:World}{hp:Hp}(h:Good w0 [] hp w){b o:Nat}(hc:w0.cell? ⟨b,o,none⟩=some v):b∉hp.map (·.b):=fun hm=>by
 obtain⟨e,he,rfl⟩:=bI7.1 hm;have h1:e.b<w0.heap.size:=block_lt_of_cell hc;rcases h.own e he with h2 | h2
 ·cases h2
 ·omega
theorem Good.aN4{w0:World}{hp:Hp}(h:Good w0 [] hp w){b o:Nat}{vs:List Value}(hc:w0.rangeAt b o (v::vs)):b∉hp.map (·.b):=h.off (aj (aV (k:=0) (n:=1) hc rfl))
theorem ag9{pv gv ov:Value}(hP:dO w pv gv ov P)(hn:P.Len)(n f:Int)(h0:0≤f)(h1:f<(P.pages.length:Int)):Fn Tryz.prog 111 [.agg #[pv,gv,ov],.int .i64 n,.int .i64 f].toArray w [] (fun u _=>u=.int .i64 (BG P n f.toNat)):=by
 have hl:=hn;obtain⟨L,rfl,rfl,rfl,hV⟩:=hP.open hn;have hpr:=hV.pg f.toNat bB3;refine enter Tryz.func111 ?_;refine run ?_;intro B A;refine run ?_;unfold BG;refine ah _ rfl (fun hc2=>?_) (fun hc2=>?_)
 ·refine run ?_;refine fin1 ?_;rw[hc2];rfl
 refine run ?_;refine ah _ rfl (fun hc3=>?_) (fun hc3=>?_)
 ·refine run ?_;refine fin1 ?_;rw[hc2,hc3];rfl
 ·refine run ?_;refine fin1 ?_;rw[hc2,hc3];rfl
def lq(ws:List Nat)(fs:List Int)(may:Nat→DsD→Bool):Nat→List Int→Int→Nat→Nat→Option (List Int)
 | 0,_,_,_,_=>none
 | k+1,seen,f,level,page=>bif !(fs.any fun t=>decide (t=f))||seen.any (fun t=>decide (t=f)) then none
  else dJ ws may (fun s f' p=>lq ws fs may k s f' (level+1) p) f level page 8 (seen++[f])
def lu(P:PtD)(n:Int)(page:Nat)(d:DsD):Bool:=decide (page≤15)&&(decide (0≤d.frame)&&decide (d.frame≤(P.pages.length:Int)-1))&&decide (d=aZ d.frame (BG P n d.frame.toNat))
def ap7(S:Nat)(r:Option (List Int))(u:Value)(hn:Hp):Prop:=match r with
 | none=>u=.bool false
 | some s=>u=.bool true∧∃ v h,Acc 3 1 v h (s.map bY)∧aI (⟨S,#[v],59⟩::h) hn
theorem Uk{ws:List Nat}{may:Nat→DsD→Bool}{go:List Int→Int→Nat→Option (List Int)}{f:Int}{level page:Nat}(hl:level<4){R:List Int→List Int→Prop}(hr:∀ a,R a a)(ht:∀ a b c,R a b→R b c→R a c)(hg:∀ a f p b,go a f p=some b→R a b):∀ (n:Nat) (seen s:List Int),dJ ws may go f level page n seen=some s→R seen s:=by
 intro n
 induction n with
 | zero=>intro seen s h;cases h;exact hr _
 | succ n ih=>
  intro seen s h;obtain⟨a,b,ha,hs,hb⟩:=nK h n bB3;rw[h] at hb;cases hb;refine ht _ _ _ (ih _ _ ha) ?_;rcases nM hl hs with⟨_,_,hgo⟩ | ⟨_,rfl,_⟩
  ·exact hg _ _ _ _ hgo
  ·exact hr _
theorem Ul{ws:List Nat}{may:Nat→DsD→Bool}{go go':List Int→Int→Nat→Option (List Int)}{f:Int}{level page:Nat}(k:Nat)(a b:List Int)(hg:∀ f p,go a f p=some b→go' a f p=some b)(h:mX ws may go f level page k a=some b):mX ws may go' f level page k a=some b:=by
 unfold mX at h ⊢;dsimp only at h ⊢
 cases hk:decide ((gJ ws (f.toNat*8+k) level).kind=1) with
 | true=>
  rw[hk] at h;simp only[cond_true] at h ⊢
  cases hc:decide (15<page+k*au level) with
  | true=>rw[hc] at h;cases h
  | false=>
   rw[hc] at h
   exact hg _ _ h
 | false=>rw[hk] at h;exact h
theorem PT{ws:List Nat}{may:Nat→DsD→Bool}{go go':List Int→Int→Nat→Option (List Int)}{f:Int}{level page:Nat}:∀ (n:Nat) (seen s:List Int),(∀ i a b,i<n→dJ ws may go f level page i seen=some a→dJ ws may go f level page (i+1) seen=some b→∀ f p,go a f p=some b→go' a f p=some b)→dJ ws may go f level page n seen=some s→dJ ws may go' f level page n seen=some s:=by
 intro n
 induction n with
 | zero=>intro seen s _ h;exact h
 | succ n ih=>
  intro seen s hg h;obtain⟨a,b,ha,hs,hb⟩:=nK h n bB3;rw[h] at hb;cases hb;rw[dJ,ih _ _ (fun i a b hi=>hg i a b bB3) ha];exact Ul n a _ (hg n a _ bB3 ha h) hs
theorem Yk{ws:List Nat}{fs:List Int}{may:Nat→DsD→Bool}{seen s:List Int}{f:Int}{level page:Nat}(h:lq ws fs may (k+1) seen f level page=some s):f∈fs∧f∉seen∧dJ ws may (fun s f' p=>lq ws fs may k s f' (level+1) p) f level page 8 (seen++[f])=some s:=by
 rw[lq] at h
 cases hc:(!(fs.any fun t=>decide (t=f))||seen.any (fun t=>decide (t=f))) with
 | true=>rw[hc] at h;cases h
 | false=>
  rw[hc,cond_false] at h;rw[bK9,bK6] at hc;refine⟨gG.1 hc.1,fun hm=>?_,h⟩;rw[gG.2 hm] at hc;cases hc.2
theorem EL{ws:List Nat}{fs:List Int}{may:Nat→DsD→Bool}(hfs:∀ f∈fs,bK ws.length f=true):∀ (k level:Nat) (seen:List Int) (f:Int) (page:Nat) (s:List Int),level+k=4→lq ws fs may k seen f level page=some s→dM ws may k seen f level page=some s∧∀ x∈s,x∈seen∨x∈fs:=by
 intro k
 induction k with
 | zero=>intro level seen f page s _ h;cases h
 | succ k ih=>
  intro level seen f page s hlk h;obtain⟨h1,h2,h3⟩:=Yk h;refine⟨?_,?_⟩
  ·rw[dM,hfs f h1,show (seen.any fun t=>decide (t=f))=false by rw[←bL8,gG];exact h2];exact PT 8 _ _ (fun i a b _ _ _ f' p hgo=>(ih (level+1) a f' p b bB3 hgo).1) h3
  ·have:=Uk bB3 (R:=fun a b=>∀ x∈b,x∈a∨x∈fs) (fun a x hx=>.inl hx) (fun a b c h1 h2 x hx=>(h2 x hx).elim (h1 x) .inr) (fun a f' p b hgo=>(ih (level+1) a f' p b bB3 hgo).2) 8 _ _ h3;intro x hx;rcases this x hx with h4 | h4
   ·rcases bK4.1 h4 with h5 | h5
    ·exact .inl h5
    ·rw[bN3.1 h5];exact .inr h1
   ·exact .inr h4
theorem Yl{ws:List Nat}{fs:List Int}{may:Nat→DsD→Bool}(hfs:∀ f∈fs,bK ws.length f=true)(k level:Nat)(seen:List Int)(f:Int)(page:Nat)(s:List Int)(hlk:level+k=4)(h:lq ws fs may k seen f level page=some s):Fz ws.length seen s:=(tX k level seen f page s hlk (EL hfs k level seen f page s hlk h).1).1
theorem aA3{wb:World}{vv rv:Value}{H:HyD}(h:vw wb wv cv vv rv H)(hok:H.iq=true){pv gv ov:Value}(hP:dO wb pv gv ov P)(hn:P.Len)(i:Nat)(hi:i<4)(hfs:∀ f∈(H.vu i).fs,bK H.ws.length f=true):
  ∀ (k level:Nat),level+k=3→∀ (w:World) (seen:List Int) (v:Value) (S:Nat) (ha:Hp) (f:Int) (page:Nat),Acc 3 1 v ha (seen.map bY)→Good wb [] (⟨S,#[v],59⟩::ha) w→seen.Nodup→(∀ f∈seen,bK H.ws.length f=true)→page%(8*au level)=0→page+8*au level≤4096 →
  Fn Tryz.prog 53 [.agg #[wv,cv,vv,rv],.agg #[pv,gv,ov],.int .i64 ((i:Int)+1),.int .i64 f,.int .i64 (level:Int),.int .i64 (page:Int),.pointer (some ⟨S,0,none⟩)].toArray w (S::ha.map (·.b)) (ap7 S (lq H.ws (H.vu i).fs (lu P ((i:Int)+1)) (k+1) seen f level page)):=by
 have hL:=jq hok;have rY:=bP hL.m;have hfit:=h.fit;obtain⟨cs,vs,e1,e2,_,hH⟩:=h.ex;have hvl:vs.length=4:=by rw[←hL.v,←e2,bH7]
 have hws:=hH.ws;obtain⟨q,cap,rfl,hne,_⟩:=hws.opened;obtain⟨bw,ow,rfl⟩:=hne bF0;obtain⟨q2,cap2,rfl,hne2,_⟩:=hH.cs.rows.opened;have hop:=hH.vs.rows.opened;rw[hvl] at hop;obtain⟨q3,cap3,rfl,jG,_⟩:=hop;obtain⟨b3,o3,rfl⟩:=jG bC7;obtain⟨q4,cap4,rfl,oV,_⟩:=hH.rs.opened;obtain⟨qp,cp,rfl,_⟩:=hP.pages.opened;have hr:=hH.vs.rows.row (k:=i) bB3;have FZ:=hH.vs.fs _ (getD_mem (l:=vs) (k:=i) bB3);have hu:=rM e2 i;rw[show H.vs.getD i default=H.vu i from rfl] at hu;have Ro:=hfit.v (H.vu i) (getD_mem bG');rw[←hu] at Ro hfs ⊢;generalize vs.getD i default=vm at hr FZ Ro hfs ⊢;simp only[eG.u] at Ro hfs ⊢;obtain⟨qf,cf,ef,rP,_⟩:=FZ.opened;have hi1:((i:Int)+1-1).toNat=i:=by omega
 have hr6:wb.rangeAt b3 (o3+((i:Int)+1-1).toNat*6) [.bool vm.live,.bool vm.dying,.int .i64 vm.aN,.slice qf vm.fs.length cf,vm.rv,vm.vv]:=by rw[hi1,←ef];exact hr
 rw[ef] at FZ;intro k
 induction k using Nat.strongRecOn with
 | ind k ih=>
 intro level hlk w seen v S ha f page hA hG0 hnd hhas hp hpl;have hl:level<4:=by omega
 have hc9:=fH hl;have hsl:=rU hnd hhas;have haft:∀ wc hp,Good w (S::ha.map (·.b)) hp wc→rO wb wc:=fun wc hp hG=>X9 (ha:=⟨S,#[v],59⟩::ha) hG0 hG;have hb3:b3∉S::ha.map (·.b):=hG0.aN4 hr6;have hr7:w.rangeAt b3 (o3+((i:Int)+1-1).toNat*6) [.bool vm.live,.bool vm.dying,.int .i64 vm.aN,.slice qf vm.fs.length cf,vm.rv,vm.vv]:=hG0.range hr6 bR5;obtain⟨qs,csl,ev⟩:=hA.own.opened;rw[bH7] at ev;subst ev;refine dS (⟨S,#[.slice qs seen.length csl],59⟩::ha) ⟨hG0.here,hG0.nodup⟩ Tryz.func53 ?_;refine run ?_;intro B Pb V;refine run ?_
 refine az (fun wc hG=>by
  obtain⟨_,hg⟩:=haft wc _ hG
  exact KU f vm.fs _ (FZ.good hg)) ?_
 refine aC ?_;have hcs:∀ wc hp,Good w (S::ha.map (·.b)) hp wc→(∀ e∈ha,e∈hp)→aA wc (.slice qs seen.length csl) 1 (seen.map bY):=fun wc hp hG hsb=>hA.own.lie (hG.lie hsb) bB6;refine bG (fun hg wc hG=>KU f seen _ (hcs wc _ hG (fun e he=>by simp[he]))) ?_;refine aC ?_
 have hgc:(decide (gV (fun t=>decide (t=f)) vm.fs<0)||decide (0≤gV (fun t=>decide (t=f)) seen))=(!(vm.fs.any fun t=>decide (t=f))||seen.any fun t=>decide (t=f)):=by
  have e9:∀ x:Int,decide (x<0)=!decide (0≤x):=fun x=>by rw[←decide_not,decide_eq_decide];omega
  rw[e9,gq,gq]
 refine ah _ rfl (fun hc=>?_) (fun hc=>?_)
 ·replace hc:=hgc.symm.trans hc;refine run ?_;refine fin1 ?_;rw[lq,hc];rfl
 replace hc:=hgc.symm.trans hc;have hgr:lq H.ws vm.fs (lu P ((i:Int)+1)) (k+1) seen f level page=dJ H.ws (lu P ((i:Int)+1)) (fun s f' p=>lq H.ws vm.fs (lu P ((i:Int)+1)) k s f' (level+1) p) f level page 8 (seen++[f]):=by rw[lq,hc];rfl
 rw[bK9,bK6] at hc;have hh:bK H.ws.length f=true:=hfs f (gG.1 hc.1);have hnm:f∉seen:=fun hm=>by rw[gG.2 hm] at hc;cases hc.2
 have hfi:=iJ hh;have hG2:=Fz.snoc (a:=seen) hh hnm;rw[hgr];clear hgc hgr;refine run ?_;intro T;refine dK (c:=bY f) hA (fun v2 h2 hA2=>?_) bB6 (aY (m:=1) mh rfl) (hp':=⟨T,#[.int .i64 f],3⟩::⟨V,#[.bool vm.live,.bool vm.dying,.int .i64 vm.aN,.slice qf vm.fs.length cf,vm.rv,vm.vv],62⟩::⟨Pb,#[.slice qp P.pages.length cp,gv,ov],48⟩::⟨B,#[.slice (some ⟨bw,ow,none⟩) H.ws.length cap,.slice q2 cs.length cap2,.slice (some ⟨b3,o3,none⟩) 4 cap3,.slice q4 H.rs.length cap4],29⟩::[⟨S,#[.slice qs seen.length csl],59⟩]) (hperm:=by (exact aU));rw[←bN5 (f:=bY),←bJ4] at hA2;obtain⟨q2',c2,ev2⟩:=hA2.own.opened;rw[bH7] at ev2;subst ev2;refine aS (⟨S,#[.slice qs seen.length csl],59⟩::⟨V,#[.bool vm.live,.bool vm.dying,.int .i64 vm.aN,.slice qf vm.fs.length cf,vm.rv,vm.vv],62⟩::⟨Pb,#[.slice qp P.pages.length cp,gv,ov],48⟩::⟨B,#[.slice (some ⟨bw,ow,none⟩) H.ws.length cap,.slice q2 cs.length cap2,.slice (some ⟨b3,o3,none⟩) 4 cap3,.slice q4 H.rs.length cap4],29⟩::h2) ak ?_;refine run ?_;refine aK (σ:=Nat×List Int×Value×Hp) (fun s=>[(16,.int .i64 (s.1:Int))]) (fun s=>⟨S,#[s.2.2.1],59⟩::⟨V,#[.bool vm.live,.bool vm.dying,.int .i64 vm.aN,.slice qf vm.fs.length cf,vm.rv,vm.vv],62⟩::⟨Pb,#[.slice qp P.pages.length cp,gv,ov],48⟩::⟨B,#[.slice (some ⟨bw,ow,none⟩) H.ws.length cap,.slice q2 cs.length cap2,.slice (some ⟨b3,o3,none⟩) 4 cap3,.slice q4 H.rs.length cap4],29⟩::s.2.2.2) (fun s=>s.1≤8∧dJ H.ws (lu P ((i:Int)+1)) (fun s f' p=>lq H.ws vm.fs (lu P ((i:Int)+1)) k s f' (level+1) p) f level page s.1 (seen++[f])=some s.2.1∧Fz H.ws.length (seen++[f]) s.2.1∧Acc 3 1 s.2.2.1 s.2.2.2 (s.2.1.map bY)) (fun s=>8-s.1) (0,seen++[f],.slice q2' (seen++[f]).length c2,h2) ⟨bI1 _,rfl,Fz.refl _ _,hA2⟩ ?_;rintro⟨j,s1,ov1,h1⟩ m hm2 ⟨hj,hsl1,hG3,hA1⟩;dsimp only at hm2 hj hsl1 hG3 hA1 ⊢;have hs1:s1.length≤H.ws.length/8:=rU (hG3.nd (hG2.nd hnd)) (hG3.has (hG2.has hhas));obtain⟨q1,c1,e1'⟩:=hA1.own.opened;rw[bH7] at e1';subst e1';refine run ?_;refine ah _ rfl (fun hc2=>?_) (fun hc2=>?_)
 rotate_left
 ·have NL:j=8:=by have:=of_decide_eq_false hc2;omega
  subst NL;rw[hsl1];refine run ?_;refine fin1 ⟨rfl,_,h1,hA1,?_⟩
  (exact ak)
 have hj8:j<8:=by have:=of_decide_eq_true hc2;omega
 have hic:j*au level≤7*au level:=bK8 _ bB3;refine run ?_;rw[show f*8+(j:Int)=((f.toNat*8+j:Nat):Int) by omega];have Yb:f.toNat*8+j<H.ws.length:=by omega
 have hwc:wb.rangeAt bw (ow+(f.toNat*8+j)) [.int .u64 ((H.ws.getD (f.toNat*8+j) 0:Nat):Int)]:=by
  have:=hws.row Yb;simp only[bK3] at this;exact this
 have hbw:bw∉S::ha.map (·.b):=hG0.aN4 hwc;have bp4:=aj (hG0.range hwc bR5);refine run ?_;have hw64:=hH.Df.at (f.toNat*8+j)
 have hdt:zK 2 level (H.ws.getD (f.toNat*8+j) 0)=gJ H.ws (f.toNat*8+j) level:=rfl;have hdm:=mD H.ws (f.toNat*8+j) level;have hstep:=fun (b:Option (List Int)) (hb:mX H.ws (lu P ((i:Int)+1)) (fun s f' p=>lq H.ws vm.fs (lu P ((i:Int)+1)) k s f' (level+1) p) f level page j s1=b)=>(show dJ H.ws (lu P ((i:Int)+1)) (fun s f' p=>lq H.ws vm.fs (lu P ((i:Int)+1)) k s f' (level+1) p) f level page (j+1) (seen++[f])=b by rw[dJ,hsl1];exact hb)
 refine ah _ rfl (fun hz=>?_) (fun hz=>?_)
 ·have hz0:H.ws.getD (f.toNat*8+j) 0=0:=by have:=of_decide_eq_true hz;omega
  have hs0:=hstep (some s1) (by unfold mX;rw[MF hl hz0,hz0];rfl);refine run ?_;exact aF (j+1,s1,.slice q1 s1.length c1,h1) ⟨hj8,hs0,hG3,hA1⟩ (hm:=by dsimp only;omega) (h2:=by (exact ak))
 refine run ?_;refine az (fun wc hG=>pq level hl wc) ?_;refine run ?_;refine az (fun wc hG=>an9 2 (.inr rfl) level hl _ hw64 wc) ?_;rw[hdt];unfold mX at hstep;dsimp only at hstep;have hz0:decide (H.ws.getD (f.toNat*8+j) 0=0)=false:=by rw[decide_eq_false_iff_not];have:=of_decide_eq_false hz;omega
 rw[hz0] at hstep;generalize gJ H.ws (f.toNat*8+j) level=d at *;generalize H.ws.getD (f.toNat*8+j) 0=wd at *;obtain⟨hk3,hk0,hk1,hk2⟩:=gy hdm
 have hfr0:0≤d.frame:=by
  rcases hk3 with e | e | e
  ·have:=(hk0 e).1;omega
  ·exact (hk1 e).2.1
  ·exact (hk2 e).2.1
 refine run ?_;intro D;refine run ?_;refine ah _ rfl (fun hk=>?_) (fun hk=>?_)
 ·have hk':=of_decide_eq_true hk;simp only[hk',decide_true,cond_true] at hstep;have hl3:level<3:=(hk1 hk').1;have hcn:=kG hl3;have hmul:(j:Int)*(au level:Int)=((j*au level:Nat):Int):=(Int.natCast_mul _ _).symm;rw[show (page:Int)+(j:Int)*(au level:Int)=((page+j*au level:Nat):Int) by rw[hmul];omega];by_cases h15:15<page+j*au level
  ·have aA4:decide (15<page+j*au level)=true:=decide_eq_true h15;have hdi:decide ((15:Int)<((page+j*au level:Nat):Int))=true:=decide_eq_true bB3;have hno:=hstep none (by rw[aA4];rfl);refine aC ?_;rw[hdi];refine Vh (v:=.bool false) (hy:=fun hg=>absurd hg bB4) (h:=?_);refine aC ?_;refine ah _ rfl (fun hd=>?_) (fun hd=>absurd hd bB4);refine run ?_;refine fin1 ?_;rw[qE hno bB3];rfl
  have aA4:decide (15<page+j*au level)=false:=decide_eq_false h15;have hdi:decide ((15:Int)<((page+j*au level:Nat):Int))=false:=decide_eq_false bB3;rw[aA4] at hstep;simp only[cond_false] at hstep
  have hcm:(page+j*au level)%(8*au (level+1))=0:=by
   rw[←hcn];have h8:au level ∣ page:=bX8 ⟨8,bQ4 _ _⟩ (bR8 hp);exact bT4 (Nat.dvd_add h8 ⟨j,bQ4 _ _⟩)
  obtain⟨k',rfl⟩:∃ k',k=k'+1:=⟨k-1,by omega⟩
  refine aC ?_;rw[hdi];refine aC ?_;refine aA2 (R:=fun u hn=>ap7 S (lq H.ws vm.fs (lu P ((i:Int)+1)) (k'+1) s1 d.frame (level+1) (page+j*au level)) u hn) (⟨S,#[.slice q1 s1.length c1],59⟩::h1) [⟨D,#[.int .i64 d.kind,.int .i64 d.frame,.bool d.r,.bool d.w,.bool d.x,.bool d.af,.bool d.ng,.int .i64 d.soft,.int .i64 d.note],95⟩,⟨V,#[.bool vm.live,.bool vm.dying,.int .i64 vm.aN,.slice qf vm.fs.length cf,vm.rv,vm.vv],62⟩,⟨Pb,#[.slice qp P.pages.length cp,gv,ov],48⟩,⟨B,#[.slice (some ⟨bw,ow,none⟩) H.ws.length cap,.slice q2 cs.length cap2,.slice (some ⟨b3,o3,none⟩) 4 cap3,.slice q4 H.rs.length cap4],29⟩] rfl (fun wc hG=>?_) ?_ aU
  ·refine ih k' bB3 (level+1) bB3 wc s1 _ S h1 d.frame _ hA1 ?_ (hG3.nd (hG2.nd hnd)) (hG3.has (hG2.has hhas)) hcm (by rw[←hcn];omega);have h5:=Good.lH (hi:=⟨S,#[.slice qs seen.length csl],59⟩::ha) (hp:=[]) (by rw[bI'];exact hG0) hG;rw[bI'] at h5;exact h5.sub (bY1 _ _)
  intro u hn hu
  cases hz:lq H.ws vm.fs (lu P ((i:Int)+1)) (k'+1) s1 d.frame (level+1) (page+j*au level) with
  | none=>
   rw[hz] at hu;obtain rfl:u=_:=hu;have hno:=hstep none hz;refine aC ?_;refine ah _ rfl (fun hd=>?_) (fun hd=>absurd hd bB4);refine run ?_;refine fin1 ?_
   rw[qE hno bB3];rfl
  | some s2=>
   rw[hz] at hu;obtain⟨rfl,v5,h5,Vm,PI⟩:=hu;obtain⟨q5,c5,e5⟩:=Vm.own.opened;rw[bH7] at e5;subst e5;refine aS (⟨S,#[.slice q5 s2.length c5],59⟩::⟨D,#[.int .i64 d.kind,.int .i64 d.frame,.bool d.r,.bool d.w,.bool d.x,.bool d.af,.bool d.ng,.int .i64 d.soft,.int .i64 d.note],95⟩::⟨V,#[.bool vm.live,.bool vm.dying,.int .i64 vm.aN,.slice qf vm.fs.length cf,vm.rv,vm.vv],62⟩::⟨Pb,#[.slice qp P.pages.length cp,gv,ov],48⟩::⟨B,#[.slice (some ⟨bw,ow,none⟩) H.ws.length cap,.slice q2 cs.length cap2,.slice (some ⟨b3,o3,none⟩) 4 cap3,.slice q4 H.rs.length cap4],29⟩::h5) (cnt1 PI) ?_;have hG5:=Yl hfs (k'+1) (level+1) s1 d.frame (page+j*au level) s2 bB3 hz;refine aC ?_;refine ah _ rfl (fun hd=>absurd hd bB4) (fun hd=>?_);refine run ?_;exact aF (j+1,s2,.slice q5 s2.length c5,h5) ⟨hj8,hstep _ hz,hG3.trans hG5,Vm⟩ (hm:=by dsimp only;omega) (h2:=by (exact ak))
 have hk':=of_decide_eq_false hk;rw[decide_eq_false hk'] at hstep;simp only[cond_false] at hstep;refine run ?_;refine ah _ rfl (fun Cc=>?_) (fun Cc=>?_)
 rotate_left
 ·have hno:=hstep none (by rw[Cc];rfl);refine run ?_;refine fin1 ?_;rw[qE hno bB3];rfl
 rw[Cc] at hstep
 have hhP:∀ wc hp,Good w (S::ha.map (·.b)) hp wc→dO wc (.slice qp P.pages.length cp) gv ov P:=fun wc hp hG=>by
  obtain⟨_,hg⟩:=haft wc hp hG;exact hP.good hg
 have hpl':=hn.p1;refine run ?_;refine dA ?_;refine bg ?_;refine eX (fun hg wc hG=>GG d.frame ((P.pages.length:Int)-1) wc) ?_;refine bg ?_;refine eX (fun hg wc hG=>ag9 (hhP wc _ hG) hn ((i:Int)+1) d.frame hfr0 ?_) ?_
 ·have:=Qj.1 hg;simp only[bK9,bK6,bH6,decide_eq_true_eq] at this;omega
 refine bg ?_;refine eX (fun hg wc hG=>yV d.frame (BG P ((i:Int)+1) d.frame.toNat) wc) ?_;refine bg ?_;refine run ?_
 have hcc:(decide ((level:Int)<3)||decide ((15:Int)<(page:Int)+(j:Int)*(au level:Int))||!(decide (0≤d.frame)&&decide (d.frame≤(P.pages.length:Int)-1))||!aW (dsR d) (dsR (aZ d.frame (BG P ((i:Int)+1) d.frame.toNat))))=(!false&&(!true||!decide (level=3)||!lu P ((i:Int)+1) (page+j) d)):=by
  rw[ap3];unfold lu;by_cases hl3:level=3
  ·subst hl3;rw[show decide ((15:Int)<(page:Int)+(j:Int)*(au 3:Int))=!decide (page+j≤15) by rw[←decide_not,decide_eq_decide,show au 3=1 from rfl];omega];simp[bW3,Bool.or_assoc]
  ·rw[decide_eq_true (show (level:Int)<3 by omega),decide_eq_false hl3];simp
 refine ah _ rfl (fun hd=>?_) (fun hd=>?_)
 ·replace hd:=hcc.symm.trans hd;have hno:=hstep none (by rw[hd];rfl);refine run ?_;refine fin1 ?_;rw[qE hno bB3];rfl
 replace hd:=hcc.symm.trans hd;refine run ?_;exact aF (j+1,s1,.slice q1 s1.length c1,h1) ⟨hj8,hstep _ (by rw[hd];rfl),hG3,hA1⟩ (hm:=by dsimp only;omega) (h2:=by (exact ak))
end
section
section
variable {n : Nat} {w0 : World} {mu : List Nat} {l : Fm} {h0 hp hc : Hp} {all : Array Oper} {ds : List (Nat × Nat)} {t0 : Nat} {aX bz : Fm} {Y : Fm → Fm → Hp → Prop} {i d : Nat} {r : List (Nat × Bool)} {ty : TypeId} {pos : String} {af : Array Edge}
theorem aA5{f:FuncId}{xs:List Operand}{vs:List Value}{tys:Array TypeId}{R:RT}(hi rest:Hp)(hcl:∀ w,Good w0 mu (hi++rest) w→Fn Tryz.prog f vs.toArray w (hi.map (·.b)) R)(hperm:(hi++rest).Perm hc)(hle:aI h0 rest)
  (h:∀ v hn,R v hn→GV Tryz.prog n w0 mu all ds l h0 hp t0 Y r aX ((i,v)::bz) (hn++rest)) (ho:all[i]?=some ⟨some d,.call { callee:=.value (.func f),args:=xs.toArray,argTypes:=tys },ty,pos,af,none⟩:=by rfl) (hit:i=t0∨Region.waitsFor .any all i t0=true:=by exact .inl rfl) (bM:mem iV f=true:=by rfl)
  (hv:evs (aT ds (bz++aX) af.toList++l) xs=some vs:=by rfl):GV Tryz.prog n w0 mu all ds l h0 hp t0 Y ((i,false)::r) aX bz hc:=by
 obtain⟨fn,c,hf,hname,hb⟩:=fA f bM;refine⟨_,ho,.inr (.inr ⟨rfl,fun v h'=>∃ hn,R v hn∧h'=hn++rest,⟨fun a _=>by simp[Region.wanted],fun a w hk hG K Q hK=>?_⟩,?_⟩)⟩
 ·unfold Oper.wp;rw[qZ rfl hf hname hb hk hv w];refine Calls.mono (hcl w (hG.perm hperm)) ?_;rintro e w' ⟨u,hn,rfl,hg',hR⟩;exact hK u (hn++rest) w' ⟨hn,hR,rfl⟩ ((hG.perm hperm).lH hg')
 ·rintro v h' ⟨hn,hR,rfl⟩;exact⟨by (exact cnt1 hle),.inl hit,h v hn hR⟩
theorem aN6{t:TypeId}{x:Operand}{b:Bool}(h:GV Tryz.prog n w0 mu all ds l h0 hp t0 Y r ((i,.bool (!b))::aX) bz hc)(ho:all[i]?=some ⟨some d,.unOp .not t x,ty,pos,af,none⟩:=by rfl)(hx:ev (aT ds (bz++aX) af.toList++l) x=some (.bool b):=by rfl):GV Tryz.prog n w0 mu all ds l h0 hp t0 Y ((i,true)::r) aX bz hc:=⟨_,_,ho,⟨rfl,fun a w hk _=>by simp only[execOp,hk.ev hx];simp[go_sem]⟩,h⟩
end
attribute [local irreducible] Hy St Ops DH dH jg iP gQ DS gX lJ
def xN(l:List Int)(f:Int):Bool:=l.any fun t=>decide (t=f)
def gu1(ws:List Nat)(v:kJ)(seen:List Int)(k:Nat):Bool:=!decide (xN seen (v.fs.getD k 0)=xN v.fr (v.fs.getD k 0))&&allB 8 fun j=>!(xN v.fr (v.fs.getD k 0)&&!decide (ws.getD ((v.fs.getD k 0).toNat*8+j) 0=0))
def HyD.guR(H:HyD)(P:PtD)(i:Nat):Bool:=match lq H.ws (H.vu i).fs (lu P ((i:Int)+1)) 4 [] ((H.vu i).fs.getD 0 0) 0 0 with
 | none=>false
 | some seen=>allB 5 (gu1 H.ws (H.vu i) seen)
set_option maxHeartbeats 2000000 in
theorem Ym{vv rv:Value}{H:HyD}(h:vw w wv cv vv rv H)(hok:H.iq=true){pv gv ov:Value}(hP:dO w pv gv ov P)(hn:P.Len)(i:Nat)(hi:i<4)(hfs:∀ f∈(H.vu i).fs,bK H.ws.length f=true)(h5:(H.vu i).fs.length=5):
  Fn Tryz.prog 28 [.agg #[wv,cv,vv,rv],.agg #[pv,gv,ov],.int .i64 ((i:Int)+1)].toArray w [] (fun u _=>u=.bool (H.guR P i)):=by
 have h':=h;have hL:=jq hok;have rY:=bP hL.m;have hfit:=h.fit;obtain⟨cs,vs,e1,e2,_,hH⟩:=h.ex;have hvl:vs.length=4:=by rw[←hL.v,←e2,bH7]
 have hws:=hH.ws;obtain⟨q,cap,rfl,hne,_⟩:=hws.opened;obtain⟨bw,ow,rfl⟩:=hne bF0;obtain⟨q2,cap2,rfl,hne2,_⟩:=hH.cs.rows.opened;have hop:=hH.vs.rows.opened;rw[hvl] at hop;obtain⟨q3,cap3,rfl,jG,_⟩:=hop;obtain⟨b3,o3,rfl⟩:=jG bC7;obtain⟨q4,cap4,rfl,oV,_⟩:=hH.rs.opened;have hr:=hH.vs.rows.row (k:=i) bB3;have FZ:=hH.vs.fs _ (getD_mem (l:=vs) (k:=i) bB3);have ag':=hH.vs.fr _ (getD_mem (l:=vs) (k:=i) bB3);have hu:=rM e2 i;rw[show H.vs.getD i default=H.vu i from rfl] at hu;have Ro:=hfit.v (H.vu i) (getD_mem bG');have Rq:=fun (wb:World) (hb:vw wb (.slice (some ⟨bw,ow,none⟩) H.ws.length cap) (.slice q2 cs.length cap2) (.slice (some ⟨b3,o3,none⟩) 4 cap3) (.slice q4 H.rs.length cap4) H) (hpb:dO wb pv gv ov P)=>aA3 hb hok hpb hn i hi hfs;unfold HyD.guR;rw[←hu] at Ro hfs h5 Rq ⊢;generalize vs.getD i default=vm at hr FZ ag' Ro hfs h5 Rq ⊢;simp only[eG.u] at Ro hfs h5 Rq;rw[show vm.u.fs=vm.fs from rfl];obtain⟨qf,cf,ef,rP,_⟩:=FZ.opened;obtain⟨bf,BJ,rfl⟩:=rP bF5;obtain⟨qr,cr,er,_,_⟩:=ag'.opened;have hi1:((i:Int)+1-1).toNat=i:=by omega
 have hr6:w.rangeAt b3 (o3+((i:Int)+1-1).toNat*6) [.bool vm.live,.bool vm.dying,.int .i64 vm.aN,.slice (some ⟨bf,BJ,none⟩) vm.fs.length cf,.slice qr vm.fr.length cr,vm.vv]:=by rw[hi1,←ef,←er];exact hr
 rw[ef] at FZ;rw[er] at ag';have hr0:=aj (FZ.row (k:=0) bB3);simp only[bK3,bR6,bL4] at hr0;refine enter Tryz.func28 ?_;refine run ?_;intro B Pb V S;refine run ?_;refine ve 9 7 [0,1,2,3,4,5,6] [(7,false),(8,true)] [⟨V,#[.bool vm.live,.bool vm.dying,.int .i64 vm.aN,.slice (some ⟨bf,BJ,none⟩) vm.fs.length cf,.slice qr vm.fr.length cr,vm.vv],62⟩,⟨Pb,#[pv,gv,ov],48⟩,⟨B,#[.slice (some ⟨bw,ow,none⟩) H.ws.length cap,.slice q2 cs.length cap2,.slice (some ⟨b3,o3,none⟩) 4 cap3,.slice q4 H.rs.length cap4],29⟩] ?_;refine kU ?_;refine aA5 [⟨S,#[.slice none 0 0],59⟩] [⟨V,#[.bool vm.live,.bool vm.dying,.int .i64 vm.aN,.slice (some ⟨bf,BJ,none⟩) vm.fs.length cf,.slice qr vm.fr.length cr,vm.vv],62⟩,⟨Pb,#[pv,gv,ov],48⟩,⟨B,#[.slice (some ⟨bw,ow,none⟩) H.ws.length cap,.slice q2 cs.length cap2,.slice (some ⟨b3,o3,none⟩) 4 cap3,.slice q4 H.rs.length cap4],29⟩] (fun wc hG=>Rq w h' hP 3 0 rfl wc [] (.slice none 0 0) S [] (vm.fs.getD 0 0) 0 (Acc.nil _ _) (hG.sub bB5) bW0 bB5 rfl bB4) aU ak ?_;intro u hn hu
 cases hz:lq H.ws vm.fs (lu P ((i:Int)+1)) 4 [] (vm.fs.getD 0 0) 0 0 with
 | none=>
  rw[hz] at hu;obtain rfl:u=_:=hu;refine aN6 ?_;refine Ji ?_;refine kV ?_;refine run ?_;refine ah _ rfl (fun hd=>?_) (fun hd=>absurd hd bB4);refine run ?_
  exact fin1 rfl
 | some seen=>
 rw[hz] at hu;obtain⟨rfl,v5,ha5,Vm,PI⟩:=hu;have hs5:=Yl hfs 4 0 _ _ _ _ rfl hz;have hsl:=rU (hs5.nd bW0) (hs5.has bB5);refine aN6 ?_;refine Ji ?_;refine kV ?_;obtain⟨q5,c5,e5⟩:=Vm.own.opened;rw[bH7] at e5;subst e5;refine aS (⟨S,#[.slice q5 seen.length c5],59⟩::⟨V,#[.bool vm.live,.bool vm.dying,.int .i64 vm.aN,.slice (some ⟨bf,BJ,none⟩) vm.fs.length cf,.slice qr vm.fr.length cr,vm.vv],62⟩::⟨Pb,#[pv,gv,ov],48⟩::⟨B,#[.slice (some ⟨bw,ow,none⟩) H.ws.length cap,.slice q2 cs.length cap2,.slice (some ⟨b3,o3,none⟩) 4 cap3,.slice q4 H.rs.length cap4],29⟩::ha5) (cnt1 PI) ?_;refine run ?_;refine ah _ rfl (fun hd=>absurd hd bB4) (fun hd=>?_);refine run ?_;have hfr:=fun (wc:World) (hp:Hp) (hG:Good w [] hp wc)=>ag'.good hG;have hse:=fun (wc:World) (hp:Hp) (hG:Good w [] hp wc) (hsb:∀ e∈ha5,e∈hp)=>Vm.own.lie (hG.lie hsb) bB6;refine aK (σ:=Nat) (fun k=>[(9,.int .i64 (k:Int))]) (fun _=>⟨S,#[.slice q5 seen.length c5],59⟩::⟨V,#[.bool vm.live,.bool vm.dying,.int .i64 vm.aN,.slice (some ⟨bf,BJ,none⟩) vm.fs.length cf,.slice qr vm.fr.length cr,vm.vv],62⟩::⟨Pb,#[pv,gv,ov],48⟩::⟨B,#[.slice (some ⟨bw,ow,none⟩) H.ws.length cap,.slice q2 cs.length cap2,.slice (some ⟨b3,o3,none⟩) 4 cap3,.slice q4 H.rs.length cap4],29⟩::ha5) (fun k=>k≤5∧∀ j,j<k→gu1 H.ws vm.u seen j=true) (fun k=>5-k) 0 ⟨bI1 _,fun j hj=>absurd hj (bL0 _)⟩ ?_;rintro k m hm ⟨hk,hK⟩;refine run ?_;refine ah _ rfl (fun hc=>?_) (fun hc=>?_)
 rotate_left
 ·have hk5:k=5:=by have:=of_decide_eq_false hc;omega
  subst hk5;refine run ?_;refine fin1 ?_;exact congrArg Value.bool (fE hK).symm
 have hk5:k<5:=by have:=of_decide_eq_true hc;omega
 have hrk:=aj (FZ.row (k:=k) bB3);simp only[bK3] at hrk;have hgk:gu1 H.ws vm.u seen k=(!decide (xN seen (vm.fs.getD k default)=xN vm.fr (vm.fs.getD k default))&&allB 8 fun j=>!(xN vm.fr (vm.fs.getD k default)&&!decide (H.ws.getD ((vm.fs.getD k default).toNat*8+j) 0=0))):=rfl;have hfk:=iJ (hfs _ (getD_mem (l:=vm.fs) (k:=k) bB3));generalize hfe:vm.fs.getD k default=f at hrk hgk hfk;refine run ?_;refine dA ?_;refine dI ?_;refine fB (fun wc hG=>KU f seen _ (hse wc _ hG (fun e he=>by simp[he]))) ?_;refine dI ?_;refine fB (fun wc hG=>KU f vm.fr _ (hfr wc _ hG)) ?_;refine dI ?_;refine run ?_;have hA:decide (decide (0≤gV (fun t=>decide (t=f)) seen)=decide (0≤gV (fun t=>decide (t=f)) vm.fr))=decide (xN seen f=xN vm.fr f):=by rw[gq,gq];rfl
 refine ah _ rfl (fun hd=>?_) (fun hd=>?_)
 ·replace hd:=hA.symm.trans hd;rw[hd] at hgk;refine run ?_;refine fin1 ?_;exact congrArg Value.bool (fU hk5 hgk).symm
 replace hd:=hA.symm.trans hd;rw[hd] at hgk;rw[bL1,bI6] at hgk;refine run ?_;refine aK (σ:=Nat) (fun k=>[(11,.int .i64 (k:Int))]) (fun _=>⟨S,#[.slice q5 seen.length c5],59⟩::⟨V,#[.bool vm.live,.bool vm.dying,.int .i64 vm.aN,.slice (some ⟨bf,BJ,none⟩) vm.fs.length cf,.slice qr vm.fr.length cr,vm.vv],62⟩::⟨Pb,#[pv,gv,ov],48⟩::⟨B,#[.slice (some ⟨bw,ow,none⟩) H.ws.length cap,.slice q2 cs.length cap2,.slice (some ⟨b3,o3,none⟩) 4 cap3,.slice q4 H.rs.length cap4],29⟩::ha5) (fun k=>k≤8∧∀ j,j<k→(!(xN vm.fr f&&!decide (H.ws.getD (f.toNat*8+j) 0=0)))=true) (fun k=>8-k) 0 ⟨bI1 _,fun j hj=>absurd hj (bL0 _)⟩ ?_;rintro j m2 hm2 ⟨hj,hJ⟩;refine run ?_;refine ah _ rfl (fun hc2=>?_) (fun hc2=>?_)
 rotate_left
 ·have hj8:j=8:=by have:=of_decide_eq_false hc2;omega
  subst hj8;rw[fE hJ] at hgk;refine run ?_;refine aF (k+1) ⟨hk5,fun l hl=>?_⟩;by_cases e:l=k
  ·subst e;exact hgk
  ·exact hK l bB3
 have hj8:j<8:=by have:=of_decide_eq_true hc2;omega
 have Yb:f.toNat*8+j<H.ws.length:=by omega
 have hwc:=aj (hws.row Yb);simp only[bK3] at hwc;refine run ?_;have hwc':w.cell? ⟨bw,ow+(f*8+(j:Int)).toNat,none⟩=some (.int .u64 ((H.ws.getD (f.toNat*8+j) 0:Nat):Int)):=by rw[show (f*8+(j:Int)).toNat=f.toNat*8+j by omega];exact hwc
 refine az (fun wc hG=>KU f vm.fr _ (hfr wc _ hG)) ?_;refine aC ?_
 have hB:(decide (0≤gV (fun t=>decide (t=f)) vm.fr)&&!decide (((H.ws.getD (f.toNat*8+j) 0:Nat):Int)=0))=!(!(xN vm.fr f&&!decide (H.ws.getD (f.toNat*8+j) 0=0))):=by
  rw[gq,bQ'];unfold xN
  congr 2
  rw[decide_eq_decide];omega
 refine ah _ rfl (fun hd2=>?_) (fun hd2=>?_)
 ·replace hd2:=hB.symm.trans hd2;rw[bJ6] at hd2;rw[fU hj8 hd2] at hgk;refine run ?_;refine fin1 ?_;exact congrArg Value.bool (fU hk5 hgk).symm
 replace hd2:=hB.symm.trans hd2;rw[bK6] at hd2;refine run ?_;refine aF (j+1) ⟨hj8,fun l hl=>?_⟩;by_cases e:l=j
 ·subst e;exact hd2
 ·exact hJ l bB3
end
section
attribute [local irreducible] Hy St Ops DH dH
structure HtD where
 frame:Int
 mid:Int
 r:Bool
 w:Bool
 x:Bool
 af:Bool
 ng:Bool
 soft:Int
 level:Int
deriving DecidableEq
def Yn:HtD:=⟨0,0,false,false,false,false,false,0,0⟩
instance : Inhabited HtD := ⟨Yn⟩
abbrev htV(h:HtD):Value:=.agg #[.int .i64 h.frame,.int .i64 h.mid,.bool h.r,.bool h.w,.bool h.x,.bool h.af,.bool h.ng,.int .i64 h.soft,.int .i64 h.level]
structure FtD where
 kind:Int
 stage:Int
 level:Int
 walk:Bool
 page:Int
deriving DecidableEq
def aN7:FtD:=⟨0,0,0,false,0⟩
instance : Inhabited FtD := ⟨aN7⟩
abbrev ftV(f:FtD):Value:=.agg #[.int .i64 f.kind,.int .i64 f.stage,.int .i64 f.level,.bool f.walk,.int .i64 f.page]
structure WlD where
 h:HtD
 f:FtD
 rd:List Int
deriving Inhabited
def dSt(ws:List Nat)(stage:Int)(p level:Nat):DsD:=zK stage level (ws.getD p 0)
theorem ah0(ws:List Nat)(stage:Int)(p level:Nat):(dSt ws stage p level).may stage level=true:=QL _ _ _
def ah1(n:Nat)(stage:Int)(page level:Nat)(d:DsD)(rd:List Int):WlD:=
 bif decide (d.kind=0) then ⟨Yn,⟨2,stage,level,false,page⟩,rd⟩
 else bif bK n (d.frame+((page%au level:Nat):Int)) then ⟨⟨d.frame+((page%au level:Nat):Int),0,d.r,d.w,d.x,d.af,d.ng,d.soft,level⟩,aN7,rd⟩
 else ⟨Yn,⟨1,stage,level,false,page⟩,rd⟩
def wlk (ws : List Nat) (stage : Int) (page : Nat) : Nat → Nat → Int → List Int → WlD
  | 0, level, f, rd => ⟨Yn, ⟨2, stage, 3, false, page⟩, rd⟩
  | k + 1, level, f, rd => bif bK ws.length f then
      (bif decide ((dSt ws stage (jh f level page) level).kind = 1) then wlk ws stage page k (level + 1) (dSt ws stage (jh f level page) level).frame (rd ++ [f])
       else ah1 ws.length stage page level (dSt ws stage (jh f level page) level) (rd ++ [f]))
    else ⟨Yn, ⟨1, stage, level, false, page⟩, rd⟩
def jT(ws:List Nat)(stage frame:Int)(page:Nat):WlD:=wlk ws stage page 4 0 frame []
theorem Js(ws:List Nat)(hw:lW ws)(h:aA w v 1 (ws.map uV))(hn:ws.length<1000000)(stage:Int)(hs:stage=1∨stage=2)(frame:Int)(h0:0≤frame)(page:Nat)(hp:page≤4095):Fn Tryz.prog 57 [.agg #[v],.int .i64 stage,.int .i64 frame,.int .i64 (page:Int)].toArray w [] (fun u hn=>∃ v2 h2,u=.tuple #[htV (jT ws stage frame page).h,ftV (jT ws stage frame page).f,v2]∧Own 3 1 v2 h2 ((jT ws stage frame page).rd.map bY)∧aI h2 hn):=by
 obtain⟨q,cap,rfl,hne,hle⟩:=h.opened;refine enter Tryz.func57 ?_;refine run ?_;intro B C D E
 have e4:∀ f:Int,0≤f→decide (f ≥ ((ws.length/8:Nat):Int))=!bK ws.length f:=fun f hf=>by
  rw[bI2];simp[bK];omega
 refine aK (σ:=Nat×Int×Value×Hp×List Int×Int) (fun s=>[(13,.int .i64 (s.1:Int)),(2,.int .i64 s.2.1),(11,s.2.2.1)]) (fun s=>⟨E,#[.int .i64 0,.int .i64 stage,.int .i64 s.2.2.2.2.2,.bool false,.int .i64 (page:Int)],131⟩::⟨D,#[.int .i64 0,.int .i64 0,.int .i64 0,.bool false,.int .i64 0],131⟩::⟨C,#[.int .i64 0,.int .i64 0,.bool false,.bool false,.bool false,.bool false,.bool false,.int .i64 0,.int .i64 0],129⟩::⟨B,#[.slice q ws.length cap],24⟩::s.2.2.2.1) (fun s=>s.1<4∧0≤s.2.1∧s.2.2.2.2.1.length=s.1∧wlk ws stage page (4-s.1) s.1 s.2.1 s.2.2.2.2.1=jT ws stage frame page∧Acc 3 1 s.2.2.1 s.2.2.2.1 (s.2.2.2.2.1.map bY)) (fun s=>4-s.1) (0,frame,.slice none 0 0,[],[],0) ⟨(by decide:0<4),h0,rfl,rfl,Acc.nil _ _⟩ ?_ (hh:=by exact aI.refl _);rintro⟨level,f,v2,ha,rd,lv⟩ m hm ⟨hl,hf0,hrd,hwk,hA⟩;dsimp only at hm hl hf0 hrd hwk hA ⊢;obtain⟨q2,cap2,rfl⟩:=hA.own.opened;refine run ?_;refine ah _ rfl (fun hc=>?_) (fun hc=>absurd hc bB9);refine run ?_;refine az (fun wc hG=>pz ws.length cap bB3 q wc) ?_;refine run ?_;have h4:4-level=(3-level)+1:=by omega
 rw[h4,wlk] at hwk;have e5:=e4 f hf0;refine ah _ rfl (fun hc=>?_) (fun hc=>?_)
 ·have hh:bK ws.length f=false:=by simpa using e5.symm.trans hc
  rw[hh,cond_false] at hwk;rw[←hwk];refine run ?_;refine uh 5 3 [0,1,2] [3,4] (⟨E,#[.int .i64 1,.int .i64 stage,.int .i64 (level:Int),.bool false,.int .i64 (page:Int)],131⟩::⟨B,#[.slice q ws.length cap],24⟩::ha) ?_;refine kU ?_;refine je (b:=C) (tb:=129) (cs:=#[.int .i64 0,.int .i64 0,.bool false,.bool false,.bool false,.bool false,.bool false,.int .i64 0,.int .i64 0]) (cs':=#[.int .i64 0,.int .i64 0,.bool false,.bool false,.bool false,.bool false,.bool false,.int .i64 0,.int .i64 0]) (hp':=⟨E,#[.int .i64 1,.int .i64 stage,.int .i64 (level:Int),.bool false,.int .i64 (page:Int)],131⟩::⟨D,#[.int .i64 0,.int .i64 0,.int .i64 0,.bool false,.int .i64 0],131⟩::⟨B,#[.slice q ws.length cap],24⟩::ha) ?_ aU;refine je (b:=D) (tb:=131) (cs:=#[.int .i64 0,.int .i64 0,.int .i64 0,.bool false,.int .i64 0]) (cs':=#[.int .i64 1,.int .i64 stage,.int .i64 (level:Int),.bool false,.int .i64 (page:Int)]) (hp':=⟨C,#[.int .i64 0,.int .i64 0,.bool false,.bool false,.bool false,.bool false,.bool false,.int .i64 0,.int .i64 0],129⟩::⟨E,#[.int .i64 1,.int .i64 stage,.int .i64 (level:Int),.bool false,.int .i64 (page:Int)],131⟩::⟨B,#[.slice q ws.length cap],24⟩::ha) ?_ aU;refine di ?_;refine kV ?_;refine run ?_;exact GI (cs:=#[.int .i64 0,.int .i64 0,.bool false,.bool false,.bool false,.bool false,.bool false,.int .i64 0,.int .i64 0]) (cs2:=#[.int .i64 1,.int .i64 stage,.int .i64 (level:Int),.bool false,.int .i64 (page:Int)]) ⟨_,ha,rfl,hA.own,by (exact ak)⟩
 ·have hh:bK ws.length f=true:=by simpa using e5.symm.trans hc
  rw[hh,cond_true] at hwk;refine run ?_;intro T;refine dK (c:=bY f) (hp':=⟨T,#[.int .i64 f],3⟩::⟨E,#[.int .i64 0,.int .i64 stage,.int .i64 (level:Int),.bool false,.int .i64 (page:Int)],131⟩::⟨D,#[.int .i64 0,.int .i64 0,.int .i64 0,.bool false,.int .i64 0],131⟩::⟨C,#[.int .i64 0,.int .i64 0,.bool false,.bool false,.bool false,.bool false,.bool false,.int .i64 0,.int .i64 0],129⟩::[⟨B,#[.slice q ws.length cap],24⟩]) hA (fun v' ha' hA'=>?_) bB9 (aY (m:=1) mh rfl) (hperm:=by (exact aU));rw[show rd.map bY++[bY f]=(rd++[f]).map bY by simp] at hA';obtain⟨q3,cap3,rfl⟩:=hA'.own.opened;refine aS (⟨E,#[.int .i64 0,.int .i64 stage,.int .i64 (level:Int),.bool false,.int .i64 (page:Int)],131⟩::⟨D,#[.int .i64 0,.int .i64 0,.int .i64 0,.bool false,.int .i64 0],131⟩::⟨C,#[.int .i64 0,.int .i64 0,.bool false,.bool false,.bool false,.bool false,.bool false,.int .i64 0,.int .i64 0],129⟩::⟨B,#[.slice q ws.length cap],24⟩::ha') ak ?_;refine run ?_;refine az (fun wc hG=>KW ws hw (h.good hG) stage hs level hl f hh page hp hn) ?_;rw[show zK stage level (ws.getD (jh f level page) 0)=dSt ws stage (jh f level page) level from rfl];have hmay:=ah0 ws stage (jh f level page) level;generalize dSt ws stage (jh f level page) level=d at hwk hmay;obtain⟨hkk,hk0,hk1,hk2⟩:=gy hmay;refine run ?_;intro X;refine run ?_;refine ah _ rfl (fun hc2=>?_) (fun hc2=>?_)
  ·have hd1:d.kind=1:=by simpa using hc2
   obtain⟨k1,k2,k3,k4⟩:=hk1 hd1;rw[hc2,cond_true] at hwk;refine run ?_;refine aF (level+1,d.frame,.slice q3 ((rd++[f]).map bY).length cap3,ha',rd++[f],(level:Int)) ⟨by dsimp only;omega,k2,by simp[hrd],by rw[←hwk,show 4-(level+1)=3-level by omega],hA'⟩ (hm:=by dsimp only;omega) (h2:=by (exact ak))
  rw[hc2,cond_false] at hwk;refine run ?_;refine ah _ rfl (fun hc3=>?_) (fun hc3=>?_)
  ·rw[ah1,hc3,cond_true] at hwk;rw[←hwk];refine run ?_;refine uh 5 3 [0,1,2] [3,4] (⟨E,#[.int .i64 2,.int .i64 stage,.int .i64 (level:Int),.bool false,.int .i64 (page:Int)],131⟩::⟨X,#[.int .i64 d.kind,.int .i64 d.frame,.bool d.r,.bool d.w,.bool d.x,.bool d.af,.bool d.ng,.int .i64 d.soft,.int .i64 d.note],95⟩::⟨B,#[.slice q ws.length cap],24⟩::ha') ?_;refine kU ?_;refine je (b:=C) (tb:=129) (cs:=#[.int .i64 0,.int .i64 0,.bool false,.bool false,.bool false,.bool false,.bool false,.int .i64 0,.int .i64 0]) (cs':=#[.int .i64 0,.int .i64 0,.bool false,.bool false,.bool false,.bool false,.bool false,.int .i64 0,.int .i64 0]) (hp':=⟨E,#[.int .i64 2,.int .i64 stage,.int .i64 (level:Int),.bool false,.int .i64 (page:Int)],131⟩::⟨D,#[.int .i64 0,.int .i64 0,.int .i64 0,.bool false,.int .i64 0],131⟩::⟨X,#[.int .i64 d.kind,.int .i64 d.frame,.bool d.r,.bool d.w,.bool d.x,.bool d.af,.bool d.ng,.int .i64 d.soft,.int .i64 d.note],95⟩::⟨B,#[.slice q ws.length cap],24⟩::ha') ?_ aU;refine je (b:=D) (tb:=131) (cs:=#[.int .i64 0,.int .i64 0,.int .i64 0,.bool false,.int .i64 0]) (cs':=#[.int .i64 2,.int .i64 stage,.int .i64 (level:Int),.bool false,.int .i64 (page:Int)]) (hp':=⟨C,#[.int .i64 0,.int .i64 0,.bool false,.bool false,.bool false,.bool false,.bool false,.int .i64 0,.int .i64 0],129⟩::⟨E,#[.int .i64 2,.int .i64 stage,.int .i64 (level:Int),.bool false,.int .i64 (page:Int)],131⟩::⟨X,#[.int .i64 d.kind,.int .i64 d.frame,.bool d.r,.bool d.w,.bool d.x,.bool d.af,.bool d.ng,.int .i64 d.soft,.int .i64 d.note],95⟩::⟨B,#[.slice q ws.length cap],24⟩::ha') ?_ aU;refine di ?_;refine kV ?_;refine run ?_;exact GI (cs:=#[.int .i64 0,.int .i64 0,.bool false,.bool false,.bool false,.bool false,.bool false,.int .i64 0,.int .i64 0]) (cs2:=#[.int .i64 2,.int .i64 stage,.int .i64 (level:Int),.bool false,.int .i64 (page:Int)]) ⟨_,ha',rfl,hA'.own,by (exact ak)⟩
  have hd2:d.kind=2:=by simp at hc2 hc3;omega
  obtain⟨k1,k2,k3,k4,k5⟩:=hk2 hd2;have hcv:=fH hl;have hmod:=bV8 page (show 0<au level by omega);rw[ah1,hc3,cond_false] at hwk;refine run ?_;refine dA ?_;refine dI ?_;refine fB (fun wc hG=>pq level hl wc) ?_;refine NJ (uK rfl rfl page (au level) rfl rfl bB3) ?_;refine dI ?_;refine run ?_;have e6:=e4 (d.frame+((page%au level:Nat):Int)) bB3;refine az (fun wc hG=>pz ws.length cap bB3 q wc) ?_;refine run ?_;refine ah _ rfl (fun hc4=>?_) (fun hc4=>?_)
  ·have hh2:bK ws.length (d.frame+((page%au level:Nat):Int))=false:=by simpa using e6.symm.trans hc4
   rw[hh2,cond_false] at hwk;rw[←hwk];refine run ?_;refine uh 5 3 [0,1,2] [3,4] (⟨E,#[.int .i64 1,.int .i64 stage,.int .i64 (level:Int),.bool false,.int .i64 (page:Int)],131⟩::⟨X,#[.int .i64 d.kind,.int .i64 d.frame,.bool d.r,.bool d.w,.bool d.x,.bool d.af,.bool d.ng,.int .i64 d.soft,.int .i64 d.note],95⟩::⟨B,#[.slice q ws.length cap],24⟩::ha') ?_;refine kU ?_;refine je (b:=C) (tb:=129) (cs:=#[.int .i64 0,.int .i64 0,.bool false,.bool false,.bool false,.bool false,.bool false,.int .i64 0,.int .i64 0]) (cs':=#[.int .i64 0,.int .i64 0,.bool false,.bool false,.bool false,.bool false,.bool false,.int .i64 0,.int .i64 0]) (hp':=⟨E,#[.int .i64 1,.int .i64 stage,.int .i64 (level:Int),.bool false,.int .i64 (page:Int)],131⟩::⟨D,#[.int .i64 0,.int .i64 0,.int .i64 0,.bool false,.int .i64 0],131⟩::⟨X,#[.int .i64 d.kind,.int .i64 d.frame,.bool d.r,.bool d.w,.bool d.x,.bool d.af,.bool d.ng,.int .i64 d.soft,.int .i64 d.note],95⟩::⟨B,#[.slice q ws.length cap],24⟩::ha') ?_ aU;refine je (b:=D) (tb:=131) (cs:=#[.int .i64 0,.int .i64 0,.int .i64 0,.bool false,.int .i64 0]) (cs':=#[.int .i64 1,.int .i64 stage,.int .i64 (level:Int),.bool false,.int .i64 (page:Int)]) (hp':=⟨C,#[.int .i64 0,.int .i64 0,.bool false,.bool false,.bool false,.bool false,.bool false,.int .i64 0,.int .i64 0],129⟩::⟨E,#[.int .i64 1,.int .i64 stage,.int .i64 (level:Int),.bool false,.int .i64 (page:Int)],131⟩::⟨X,#[.int .i64 d.kind,.int .i64 d.frame,.bool d.r,.bool d.w,.bool d.x,.bool d.af,.bool d.ng,.int .i64 d.soft,.int .i64 d.note],95⟩::⟨B,#[.slice q ws.length cap],24⟩::ha') ?_ aU;refine di ?_;refine kV ?_;refine run ?_;exact GI (cs:=#[.int .i64 0,.int .i64 0,.bool false,.bool false,.bool false,.bool false,.bool false,.int .i64 0,.int .i64 0]) (cs2:=#[.int .i64 1,.int .i64 stage,.int .i64 (level:Int),.bool false,.int .i64 (page:Int)]) ⟨_,ha',rfl,hA'.own,by (exact ak)⟩
  have hh2:bK ws.length (d.frame+((page%au level:Nat):Int))=true:=by simpa using e6.symm.trans hc4
  rw[hh2,cond_true] at hwk;rw[←hwk];refine run ?_;exact GI (cs:=#[.int .i64 (d.frame+((page%au level:Nat):Int)),.int .i64 0,.bool d.r,.bool d.w,.bool d.x,.bool d.af,.bool d.ng,.int .i64 d.soft,.int .i64 (level:Int)]) (cs2:=#[.int .i64 0,.int .i64 0,.int .i64 0,.bool false,.int .i64 0]) ⟨_,ha',rfl,hA'.own,by (exact ak)⟩
end
section
attribute [local irreducible] Hy St Ops DH dH jg iP gQ DS gX lJ
def HyD.kS(H:HyD)(aN:Int):Nat→Int
 | 0=>bif decide (aN=0) then 0 else -1
 | k+1=>bif decide (0<aN)&&(H.vu k).live&&decide ((H.vu k).aN=aN) then (H.vu k).root else H.kS aN k
def wkM(L:WlD)(e:fF):Bool:=decide (L.f.kind=0)&&decide (L.h.frame=e.frame)&&(decide (L.h.r=e.r)&&decide (L.h.w=e.w)&&decide (L.h.x=e.x)&&decide (L.h.af=e.af)&&decide (L.h.ng=e.ng)&&decide (0=e.soft))
def wkW(L:WlD)(e:fF):Bool:=decide (L.f.kind=0)&&decide (L.h.frame=e.frame)&&(L.h.r||!e.r)&&(L.h.w||!e.w)&&(L.h.x||!e.x)
def Zr(L:WlD)(e:fF):Bool:=decide (L.f.kind=0)&&decide (L.h.frame=e.frame)&&L.h.r
def HyD.Yo(H:HyD)(e:fF):Bool:=
 bif decide (H.kS e.aN 4<0) then false
 else bif decide (e.kind=2) then wkM (jT H.ws 2 (H.kS e.aN 4) e.page.toNat) e
 else bif decide (e.kind=1) then wkW (jT H.ws 2 (H.kS e.aN 4) e.mid.toNat) e
 else (List.range 64).any fun m=>Zr (jT H.ws 2 (H.kS e.aN 4) m) e
theorem zk(h:H.NP i=true)(hl:(H.vu i).live=true):(H.vu i).fs.length=5∧(1≤(H.vu i).aN∧(H.vu i).aN≤15)∧(∀ k,k<5→bK H.ws.length ((H.vu i).fs.getD k 0)=true∧(0<k→(H.vu i).fs.getD k 0=(H.vu i).fs.getD (k-1) 0+1)):=by
 unfold HyD.NP at h;rw[hl] at h;simp only[bK1,cond_false,bH6,decide_eq_true_eq,PtD.dD] at h;refine⟨h.1.1,h.1.2,fun k hk=>?_⟩;have:=aJ.1 h.2.1 k hk;unfold kJ.chain at this;simp only[bH6,bJ7,decide_eq_true_eq] at this;exact⟨this.1,fun h0=>by rcases this.2 with h1 | h1;omega;exact h1⟩
set_option maxHeartbeats 2000000 in
theorem Yp{vv rv:Value}(h:vw w wv cv vv rv H)(hok:H.iq=true)(hfr:∀ i,i<4→H.NP i=true)(e:fF)(he:e.nums=true):Fn Tryz.prog 30 [.agg #[wv,cv,vv,rv],.agg (iy e).toArray].toArray w [] (fun u _=>u=.bool (H.Yo e)):=by
 have h':=h;have hL:=jq hok;have rY:=bP hL.m;have hfit:=h.fit;obtain⟨cs,vs,e1,e2,_,hH⟩:=h.ex;have hvl:vs.length=4:=by rw[←hL.v,←e2,bH7]
 have hws:=hH.ws;obtain⟨q,cap,rfl,hne,_⟩:=hws.opened;obtain⟨q2,cap2,rfl,hne2,_⟩:=hH.cs.rows.opened;have hop:=hH.vs.rows.opened;rw[hvl] at hop;obtain⟨q3,cap3,rfl,jG,_⟩:=hop;obtain⟨b3,o3,rfl⟩:=jG bC7;obtain⟨q4,cap4,rfl,oV,_⟩:=hH.rs.opened;have hr0:0≤H.kS e.aN 4∨H.kS e.aN 4<0:=by omega
 refine enter Tryz.func30 ?_;refine run ?_;intro B E;refine Mc ?_;refine sF (σ:=Int) (fun z=>[(5,.int .i64 z)]) (fun _=>[⟨E,(iy e).toArray,80⟩,⟨B,#[.slice q H.ws.length cap,.slice q2 cs.length cap2,.slice (some ⟨b3,o3,none⟩) 4 cap3,.slice q4 H.rs.length cap4],29⟩]) (fun z=>z=H.kS e.aN 0) ?_ ?_
 ·refine ah _ rfl (fun hd=>?_) (fun hd=>?_)
  ·refine run ?_;exact kZ 0 (by unfold HyD.kS;rw[hd];rfl)
  ·refine run ?_;exact kZ (-1) (by unfold HyD.kS;rw[hd];rfl)
 rintro z hz;refine run ?_;refine aK (σ:=Nat×Int) (fun s=>[(6,.int .i64 (s.1:Int)),(5,.int .i64 s.2)]) (fun _=>[⟨E,(iy e).toArray,80⟩,⟨B,#[.slice q H.ws.length cap,.slice q2 cs.length cap2,.slice (some ⟨b3,o3,none⟩) 4 cap3,.slice q4 H.rs.length cap4],29⟩]) (fun s=>s.1≤4∧s.2=H.kS e.aN s.1) (fun s=>4-s.1) (0,z) ⟨bI1 _,hz⟩ ?_;rintro⟨k,z1⟩ m hm ⟨hk,hz1⟩;dsimp only at hm hk hz1 ⊢;refine run ?_;refine ah _ rfl (fun hc=>?_) (fun hc=>?_)
 ·have hk4:k<4:=by have:=of_decide_eq_true hc;omega
  have hr:=hH.vs.rows.row (k:=k) bB3;have hfs:=hH.vs.fs _ (getD_mem (l:=vs) (k:=k) bB3);have hu:=rM e2 k;rw[show H.vs.getD k default=H.vu k from rfl] at hu
  have hrs:H.kS e.aN (k+1)=bif decide (0<e.aN)&&(vs.getD k default).live&&decide ((vs.getD k default).aN=e.aN) then (vs.getD k default).fs.getD 0 0 else z1:=by
   rw[hz1];show (bif decide (0<e.aN)&&(H.vu k).live&&decide ((H.vu k).aN=e.aN) then (H.vu k).root else H.kS e.aN k)=_;rw[←hu];rfl
  have hlf:(vs.getD k default).live=true→(vs.getD k default).fs.length=5:=fun hl=>by
   have:=(zk (hfr k hk4) (by rw[←hu];exact hl)).1;rw[←hu] at this;exact this
  generalize vs.getD k default=v at hr hfs hrs hlf;obtain⟨qf,cf,ef,rP,_⟩:=hfs.opened;have ho1:=aj (show w.rangeAt b3 (o3+k*6) [.bool v.live] from aV (k:=0) (n:=1) hr rfl);have ho2:=aj (show w.rangeAt b3 (o3+k*6+2) [.int .i64 v.aN] from aV (k:=2) (n:=1) hr rfl);have ho3:=aj (show w.rangeAt b3 (o3+k*6+3) [v.fv] from aV (k:=3) (n:=1) hr rfl);refine run ?_;refine dA ?_;refine bg ?_;refine run ?_;refine ah _ rfl (fun hd=>?_) (fun hd=>?_)
  ·rw[hd,cond_true] at hrs;have hl:v.live=true:=by simp only[bH6] at hd;exact hd.1.2
   have h5:=hlf hl;obtain⟨bf,BJ,rfl⟩:=rP bF5;rw[ef] at ho3 hfs;have hr0:=aj (hfs.row (k:=0) bB3);simp only[bK3,bR6,bL4] at hr0;refine run ?_;exact aF (k+1,_) ⟨hk4,hrs.symm⟩ (hm:=by dsimp only;omega)
  ·rw[hd,cond_false] at hrs;refine run ?_;exact aF (k+1,z1) ⟨hk4,hrs.symm⟩ (hm:=by dsimp only;omega)
 have hk4:k=4:=by have:=of_decide_eq_false hc;omega
 subst hk4;refine run ?_;unfold HyD.Yo;rw[←hz1];refine ah _ rfl (fun hd=>?_) (fun hd=>?_)
 ·rw[hd];refine run ?_;exact fin1 rfl
 rw[hd,cond_false];have hz0:0≤z1:=by have:=of_decide_eq_false hd;omega
 unfold fF.nums at he;simp only[bH6,PtD.dD,decide_eq_true_eq] at he;obtain⟨p,hp⟩:∃ p:Nat,e.page=(p:Int):=⟨e.page.toNat,by omega⟩
 obtain⟨m9,hm9⟩:∃ p:Nat,e.mid=(p:Int):=⟨e.mid.toNat,by omega⟩
 refine run ?_;refine ah _ rfl (fun hk2=>?_) (fun hk2=>?_)
 ·rw[hk2,cond_true];refine run ?_;rw[hp];refine bH (fun wc hG=>Js H.ws hH.Df (hws.good hG) bB3 2 (.inr rfl) z1 hz0 p bB3) ?_;rintro _ hn ⟨v2,h2,rfl,hO2,hle⟩;obtain⟨q6,c6,e6⟩:=hO2.opened;subst e6;rw[bN1];generalize jT H.ws 2 z1 p=L;refine aS [⟨E,(iy e).toArray,80⟩,⟨B,#[.slice q H.ws.length cap,.slice q2 cs.length cap2,.slice (some ⟨b3,o3,none⟩) 4 cap3,.slice q4 H.rs.length cap4],29⟩] ak ?_;refine run ?_;intro XB FB AB;refine aC ?_;refine fin1 ?_
  have:aW [.bool L.h.r,.bool L.h.w,.bool L.h.x,.bool L.h.af,.bool L.h.ng,.int .i64 0] [.bool e.r,.bool e.w,.bool e.x,.bool e.af,.bool e.ng,.int .i64 e.soft]=(decide (L.h.r=e.r)&&decide (L.h.w=e.w)&&decide (L.h.x=e.x)&&decide (L.h.af=e.af)&&decide (L.h.ng=e.ng)&&decide (0=e.soft)):=by
   rw[bI2];simp[aW,iF,and_assoc]
  unfold wkM;rw[←this]
 rw[hk2,cond_false];refine run ?_;refine ah _ rfl (fun hk1=>?_) (fun hk1=>?_)
 ·rw[hk1,cond_true];refine run ?_;rw[hm9];refine bH (fun wc hG=>Js H.ws hH.Df (hws.good hG) bB3 2 (.inr rfl) z1 hz0 m9 bB3) ?_;rintro _ hn ⟨v2,h2,rfl,hO2,hle⟩;obtain⟨q6,c6,e6⟩:=hO2.opened;subst e6;rw[bN1];generalize jT H.ws 2 z1 m9=L;refine aS [⟨E,(iy e).toArray,80⟩,⟨B,#[.slice q H.ws.length cap,.slice q2 cs.length cap2,.slice (some ⟨b3,o3,none⟩) 4 cap3,.slice q4 H.rs.length cap4],29⟩] ak ?_;refine run ?_;intro XB FB;refine aC ?_;refine fin1 ?_;rfl
 rw[hk1,cond_false];refine run ?_;refine aK (σ:=Nat) (fun k=>[(14,.int .i64 (k:Int))]) (fun _=>[⟨E,(iy e).toArray,80⟩,⟨B,#[.slice q H.ws.length cap,.slice q2 cs.length cap2,.slice (some ⟨b3,o3,none⟩) 4 cap3,.slice q4 H.rs.length cap4],29⟩]) (fun k=>k≤64∧∀ j,j<k→Zr (jT H.ws 2 z1 j) e=false) (fun k=>64-k) 0 ⟨bI1 _,fun j hj=>absurd hj (bL0 _)⟩ ?_;rintro k m2 hm2 ⟨hk6,hK⟩;refine run ?_;refine ah _ rfl (fun hc4=>?_) (fun hc4=>?_)
 rotate_left
 ·have h64:k=64:=by have:=of_decide_eq_false hc4;omega
  subst h64;refine run ?_;refine fin1 ?_;rw[show ((List.range 64).any fun m=>Zr (jT H.ws 2 z1 m) e)=false by rw[←bL8,bM8];rintro⟨x,hx,h1⟩;rw[hK x (bJ1.1 hx)] at h1;cases h1]
 have h64:k<64:=by have:=of_decide_eq_true hc4;omega
 have hyes:Zr (jT H.ws 2 z1 k) e=true→((List.range 64).any fun m=>Zr (jT H.ws 2 z1 m) e)=true:=fun h1=>bM8.2 ⟨k,bJ1.2 h64,h1⟩
 have hno:Zr (jT H.ws 2 z1 k) e=false→∀ j,j<k+1→Zr (jT H.ws 2 z1 j) e=false:=fun h1 j hj=>by
  by_cases e9:j=k
  ·subst e9;exact h1
  ·exact hK j bB3
 refine run ?_;refine bH (fun wc hG=>Js H.ws hH.Df (hws.good hG) bB3 2 (.inr rfl) z1 hz0 k bB3) ?_;rintro _ hn ⟨v2,h2,rfl,hO2,hle⟩;obtain⟨q6,c6,e6⟩:=hO2.opened;subst e6;generalize jT H.ws 2 z1 k=L at hyes hno;refine aS [⟨E,(iy e).toArray,80⟩,⟨B,#[.slice q H.ws.length cap,.slice q2 cs.length cap2,.slice (some ⟨b3,o3,none⟩) 4 cap3,.slice q4 H.rs.length cap4],29⟩] ak ?_;refine run ?_;intro XB FB;refine aC ?_;refine ah _ rfl (fun hd4=>?_) (fun hd4=>?_)
 ·refine run ?_;refine fin1 ?_;rw[hyes hd4]
 ·refine run ?_;exact aF (k+1) ⟨h64,hno hd4⟩ (h2:=by (exact ak))
theorem PU{vv rv:Value}(h:vw w wv cv vv rv H):Fn Tryz.prog 23 [.agg #[wv,cv,vv,rv]].toArray w [] (fun u _=>u=.bool H.iq):=by
 have hfit:=h.fit;obtain⟨cs,vs,e1,e2,_,hH⟩:=h.ex;have hvl:vs.length=H.vs.length:=by rw[←e2,bH7]
 have hcl:cs.length=H.cs.length:=by rw[←e1,bH7]
 have hws:=hH.ws;obtain⟨q,cap,rfl,hne,_⟩:=hws.opened;have FY:=hH.cs.rows.opened;rw[hcl] at FY;obtain⟨q2,cap2,rfl,hne2,_⟩:=FY;have hop:=hH.vs.rows.opened;rw[hvl] at hop;obtain⟨q3,cap3,rfl,jG,_⟩:=hop;obtain⟨q4,cap4,rfl,oV,_⟩:=hH.rs.opened;have hl:=hfit.l;refine enter Tryz.func23 ?_;refine run ?_;intro B;refine run ?_;refine az (fun wc hG=>aw8 H.ws.length cap q wc) ?_;refine aC ?_;refine bG (fun hg wc hG=>pz H.ws.length cap bB3 q wc) ?_;refine aC ?_;refine fin1 ?_;unfold HyD.iq;have e1:decide (((H.ws.length/8:Nat):Int) ≥ 24)=decide (24≤H.ws.length/8):=by rw[decide_eq_decide];omega
 have e2:decide ((H.cs.length:Int) ≥ 1)=decide (1≤H.cs.length):=by rw[decide_eq_decide];omega
 have e3:decide ((H.cs.length:Int)≤3)=decide (H.cs.length≤3):=by rw[decide_eq_decide];omega
 have e4:decide ((H.rs.length:Int)=(H.cs.length:Int))=decide (H.rs.length=H.cs.length):=by rw[decide_eq_decide];omega
 have e5:decide ((H.vs.length:Int)=4)=decide (H.vs.length=4):=by rw[decide_eq_decide];omega
 rw[←e1,←e2,←e3,←e4,←e5];simp only[bP3]
def HyD.vK(H:HyD)(k:Nat):Bool:=decide (H.ws.getD k 0=(qo (H.ws.length/8*8) (dm H.aG.pages) 64).ws.getD k 0)
def HyD.guK(H:HyD)(i:Nat):Bool:=!((H.vu i).live&&!H.guR H.aG i)
def HyD.cpR(H:HyD)(c:Nat):Bool:=!(decide ((H.cu c).vm=0)&&!decide (H.rs.getD c default=jA)||!dQ (H.cu c).es (H.cu c).ds)&&(H.cu c).es.all H.Yo
def HyD.ah4(H:HyD):Bool:=H.iq&&(allB 4 H.NP&&(H.aG.DX&&(allB 88 H.vK&&(allB 4 H.guK&&allB H.cs.length H.cpR))))
set_option maxHeartbeats 4000000 in
theorem aA8{vv rv:Value}(h:vw w wv cv vv rv H):Fn Tryz.prog 14 [.agg #[wv,cv,vv,rv]].toArray w [] (fun u _=>u=.bool H.ah4):=by
 have h':=h;have hfit:=h.fit;obtain⟨cs,vs,e1,e2,_,hH⟩:=h.ex;have hvl:vs.length=H.vs.length:=by rw[←e2,bH7]
 have hcl:cs.length=H.cs.length:=by rw[←e1,bH7]
 have hws:=hH.ws;obtain⟨q,cap,rfl,hne,_⟩:=hws.opened;have FY:=hH.cs.rows.opened;rw[hcl] at FY;obtain⟨q2,cap2,rfl,hne2,_⟩:=FY;have hop:=hH.vs.rows.opened;rw[hvl] at hop;obtain⟨q3,cap3,rfl,jG,_⟩:=hop;obtain⟨q4,cap4,rfl,oV,_⟩:=hH.rs.opened;unfold HyD.ah4;refine enter Tryz.func14 ?_;refine run ?_;intro B;refine run ?_;refine az (fun wc hG=>PU (h'.good hG)) ?_;refine run ?_;refine ah _ rfl (fun hd=>?_) (fun hd=>?_)
 ·rw[bJ6] at hd;rw[hd];refine run ?_;exact fin1 rfl
 rw[bK6] at hd;have hok:=hd;rw[hd,bI6];clear hd;have hL:=jq hok;have rY:=bP hL.m;have h4:=hL.v;obtain⟨bw,ow,rfl⟩:=hne bF0;obtain⟨b3,o3,rfl⟩:=jG (by intro e;rw[e] at hvl;rw[h4] at hvl;cases hvl);obtain⟨b2,o2,rfl⟩:=hne2 (by intro e;rw[e] at hcl;have:=hL.c1;simp at hcl;omega);obtain⟨b4,o4,rfl⟩:=oV (by intro e;have:=hL.r;have:=hL.c1;rw[e] at *;simp at *;omega);refine run ?_;refine aK (σ:=Nat) (fun k=>[(3,.int .i64 ((k:Int)+1))]) (fun _=>[⟨B,#[.slice (some ⟨bw,ow,none⟩) H.ws.length cap,.slice (some ⟨b2,o2,none⟩) H.cs.length cap2,.slice (some ⟨b3,o3,none⟩) H.vs.length cap3,.slice (some ⟨b4,o4,none⟩) H.rs.length cap4],29⟩]) (fun k=>k≤4∧∀ j,j<k→H.NP j=true) (fun k=>4-k) 0 ⟨bI1 _,fun j hj=>absurd hj (bL0 _)⟩ ?_;rintro k m hm ⟨hk,hK⟩;refine run ?_;refine ah _ rfl (fun hc=>?_) (fun hc=>?_)
 ·have hk4:k<4:=by have:=of_decide_eq_true hc;omega
  refine run ?_;refine az (fun wc hG=>PS (h'.good hG) hok k hk4) ?_;refine run ?_;refine ah _ rfl (fun hd=>?_) (fun hd=>?_)
  ·rw[bJ6] at hd;rw[fU hk4 hd];refine run ?_;exact fin1 rfl
  rw[bK6] at hd;refine run ?_;refine aF (k+1) ⟨hk4,fun j hj=>?_⟩ (h1:=by rw[show ((k+1:Nat):Int)+1=(k:Int)+1+1 by omega];(repeat (first | exact True.intro | (refine And.intro bC1 ?_))));by_cases e:j=k
  ·subst e;exact hd
  ·exact hK j bB3
 have hk4:k=4:=by have:=of_decide_eq_false hc;omega
 subst hk4;rw[fE hK,bI6];have hFr:=hK;refine run ?_;refine bH (fun wc hG=>Jr (h'.good hG) hok) ?_;rintro _ hn ⟨p1,p2,p3,k1,k2,k3,n1,n2,n3,rfl,hP⟩;refine run ?_;intro Pb;refine run ?_;refine az (fun wc hG=>af1 (hP wc (hG.lie fun e he=>by simp[he]))) ?_;refine run ?_;refine ah _ rfl (fun hd=>?_) (fun hd=>?_)
 ·rw[bJ6] at hd;rw[hd];refine run ?_;exact fin1 rfl
 rw[bK6] at hd;have hmay:=hd;rw[hd,bI6];clear hd;have hPl:H.aG.pages.length=H.ws.length/8:=by simp[HyD.aG]
 have aN8:H.aG.Len:=⟨by rw[hPl];exact hL.f,by omega,rfl,by have:=hL.c1;simpa [HyD.aG] using this,by have:=hL.c3;simpa [HyD.aG] using this⟩
 refine run ?_;have hPg:=fun (wc:World) (hp:Hp) (hG:Good w [] hp wc) (hs:∀ e∈hn,e∈hp)=>hP wc (hG.lie hs)
 have how:∀ a∈H.aG.pages,-1≤a.own∧a.own≤14:=fun a ha=>by
  obtain⟨x,_,rfl⟩:=bI7.1 ha;have:=(zh H x).1;omega
 have hKl:(qo (H.ws.length/8*8) (dm H.aG.pages) 64).ws.length=H.ws.length/8*8:=by rw[nX (by have:=hL.f;omega) _ 64 (bI9 _)];simp[dP]
 have aN9:∃ u hn,Xj (qo (H.ws.length/8*8) (dm H.aG.pages) 64).ws u hn:=by
  obtain⟨v,hh,hO⟩:=Jg (e:=53) ((qo (H.ws.length/8*8) (dm H.aG.pages) 64).ws.map uV) (fun c hc=>by obtain⟨x,_,rfl⟩:=bI7.1 hc;exact⟨rfl,rfl⟩) (by rw[bH7,hKl];omega);exact⟨_,hh,v,hh,rfl,hO,aI.refl _⟩
 refine Ee 8 7 [0,1,2,3,4] [5,6] [7] (⟨Pb,#[.slice p1 n1 k1,.slice p2 n2 k2,.slice p3 n3 k3],48⟩::(hn++[⟨B,#[.slice (some ⟨bw,ow,none⟩) H.ws.length cap,.slice (some ⟨b2,o2,none⟩) H.cs.length cap2,.slice (some ⟨b3,o3,none⟩) H.vs.length cap3,.slice (some ⟨b4,o4,none⟩) H.rs.length cap4],29⟩])) ?_;refine kU ?_;refine Ef (fun wc hx hG=>pz H.ws.length cap bB3 (some ⟨bw,ow,none⟩) wc) ?_;refine kU ?_;refine jZ (fun wc hG=>GU (H.ws.length/8) (by have:=hL.f;omega) bB3 H.aG.pages how (hPg wc _ hG (fun e he=>by simp[he])).pages) aN9 ?_;refine sO ?_;refine kL ?_;rintro _ _ ⟨W,rfl,rfl⟩ _ hn2 ⟨tv,th,rfl,hT,hle⟩;obtain⟨q8,c8,e8⟩:=hT.opened;rw[bH7,hKl] at e8;subst e8;simp only[DN,bI0,bI3,bI'];refine WV ?_;refine di ?_;refine kV ?_;have hwl:H.ws.length/8*8=H.ws.length:=rY.2.2.1;have hwR:H.vK=fun k=>decide (H.ws.getD k 0=(qo (H.ws.length/8*8) (dm H.aG.pages) 64).ws.getD k 0):=rfl;rw[hwR];clear hwR aN9;generalize (qo (H.ws.length/8*8) (dm H.aG.pages) 64).ws=T at hT hKl;obtain⟨gT,cT,aA9,eT,ehT,aN'⟩:=hT.row (n:=H.ws.length/8*8) (by rw[bH7,hKl]) (by have:=hL.f;omega);cases eT;subst ehT;refine aS (⟨W,#[.slice (some ⟨gT,0,none⟩) (H.ws.length/8*8) c8],24⟩::⟨gT,aA9,53⟩::⟨Pb,#[.slice p1 n1 k1,.slice p2 n2 k2,.slice p3 n3 k3],48⟩::(hn++[⟨B,#[.slice (some ⟨bw,ow,none⟩) H.ws.length cap,.slice (some ⟨b2,o2,none⟩) H.cs.length cap2,.slice (some ⟨b3,o3,none⟩) H.vs.length cap3,.slice (some ⟨b4,o4,none⟩) H.rs.length cap4],29⟩])) (cnt1 hle) ?_;refine run ?_;refine aK (σ:=Nat) (fun k=>[(6,.int .i64 (k:Int))]) (fun _=>⟨W,#[.slice (some ⟨gT,0,none⟩) (H.ws.length/8*8) c8],24⟩::⟨gT,aA9,53⟩::⟨Pb,#[.slice p1 n1 k1,.slice p2 n2 k2,.slice p3 n3 k3],48⟩::(hn++[⟨B,#[.slice (some ⟨bw,ow,none⟩) H.ws.length cap,.slice (some ⟨b2,o2,none⟩) H.cs.length cap2,.slice (some ⟨b3,o3,none⟩) H.vs.length cap3,.slice (some ⟨b4,o4,none⟩) H.rs.length cap4],29⟩])) (fun k=>k≤88∧∀ j,j<k→decide (H.ws.getD j 0=T.getD j 0)=true) (fun k=>88-k) 0 ⟨bI1 _,fun j hj=>absurd hj (bL0 _)⟩ ?_;rintro k m hm ⟨hk,hK⟩;have a01:=hL.f;refine run ?_;refine ah _ rfl (fun hc2=>?_) (fun hc2=>?_)
 ·have hk8:k<88:=by have:=of_decide_eq_true hc2;omega
  have hwc:=aj (hws.row (k:=k) bB3);simp only[bK3] at hwc
  have hnT:nth aA9.toList k=some (.int .u64 ((T.getD k 0:Nat):Int)):=by
   have:=aN'.nth (xs:=T.map uV) (by intro c hc;obtain⟨x,_,rfl⟩:=bI7.1 hc;rfl) (i:=k) (c:=uV (T.getD k 0)) bD9 (k:=0) (u:=.int .u64 ((T.getD k 0:Nat):Int)) rfl;simpa using this
  refine run ?_;refine dA ?_;refine bg ?_;refine run ?_;have hC:(!decide (((H.ws.getD k 0:Nat):Int)=((T.getD k 0:Nat):Int)))=!decide (H.ws.getD k 0=T.getD k 0):=by congr 1;rw[decide_eq_decide];omega
  refine ah _ rfl (fun hd=>?_) (fun hd=>?_)
  ·replace hd:=hC.symm.trans hd;rw[bJ6] at hd;rw[fU (p:=fun k=>decide (H.ws.getD k 0=T.getD k 0)) hk8 hd];refine run ?_;exact fin1 rfl
  replace hd:=hC.symm.trans hd;rw[bK6] at hd;refine run ?_;refine aF (k+1) ⟨hk8,fun j hj=>?_⟩;by_cases e:j=k
  ·subst e;exact hd
  ·exact hK j bB3
 have hk8:k=88:=by have:=of_decide_eq_false hc2;omega
 subst hk8;rw[fE (p:=fun k=>decide (H.ws.getD k 0=T.getD k 0)) hK,bI6];refine run ?_;refine aK (σ:=Nat) (fun k=>[(7,.int .i64 ((k:Int)+1))]) (fun _=>⟨Pb,#[.slice p1 n1 k1,.slice p2 n2 k2,.slice p3 n3 k3],48⟩::(hn++[⟨B,#[.slice (some ⟨bw,ow,none⟩) H.ws.length cap,.slice (some ⟨b2,o2,none⟩) H.cs.length cap2,.slice (some ⟨b3,o3,none⟩) H.vs.length cap3,.slice (some ⟨b4,o4,none⟩) H.rs.length cap4],29⟩])) (fun k=>k≤4∧∀ j,j<k→H.guK j=true) (fun k=>4-k) 0 ⟨bI1 _,fun j hj=>absurd hj (bL0 _)⟩ ?_ (hh:=by (exact ak));rintro k m2 hm2 ⟨hk,hK2⟩;refine run ?_;refine ah _ rfl (fun hc3=>?_) (fun hc3=>?_)
 ·have hk4:k<4:=by have:=of_decide_eq_true hc3;omega
  have hr:=hH.vs.rows.row (k:=k) bB3;have hu:=rM e2 k;rw[show H.vs.getD k default=H.vu k from rfl] at hu
  have hgu:(H.vu k).live=true→∀ wc hp,Good w [] hp wc→(∀ e∈hn,e∈hp)→Fn Tryz.prog 28 [.agg #[.slice (some ⟨bw,ow,none⟩) H.ws.length cap,.slice (some ⟨b2,o2,none⟩) H.cs.length cap2,.slice (some ⟨b3,o3,none⟩) H.vs.length cap3,.slice (some ⟨b4,o4,none⟩) H.rs.length cap4],.agg #[.slice p1 n1 k1,.slice p2 n2 k2,.slice p3 n3 k3],.int .i64 ((k:Int)+1)].toArray wc [] (fun u _=>u=.bool (H.guR H.aG k)):=fun hl wc hp hG hs=>by
   obtain⟨h5,_,hch⟩:=zk (hFr k hk4) hl;refine Ym (h'.good hG) hok (hPg wc hp hG hs) aN8 k hk4 (fun f hf=>?_) h5;obtain⟨j,hj,rfl⟩:=bM4.1 hf;have:=(hch j bB3).1;rw[bH8,bH9 hj] at this;exact this
  have hgk:H.guK k=!((vs.getD k default).live&&!H.guR H.aG k):=by unfold HyD.guK;rw[←hu];rfl
  have hgl:(vs.getD k default).live=(H.vu k).live:=by rw[←hu];rfl
  rw[←hgl] at hgu;clear hu hgl;generalize vs.getD k default=o at hr hgk hgu;have ho1:=aj (show w.rangeAt b3 (o3+k*6) [.bool o.live] from aV (k:=0) (n:=1) hr rfl);have hi1:((k:Int)+1-1).toNat=k:=by omega
  have bp9:w.cell? ⟨b3,o3+((k:Int)+1-1).toNat*6,none⟩=some (.bool o.live):=by rw[hi1];exact ho1
  refine run ?_;refine aC ?_;refine bG (fun hg wc hG=>hgu (Qj.1 hg) wc _ hG (fun e he=>by simp[he])) ?_;refine aC ?_;refine ah _ rfl (fun hd=>?_) (fun hd=>?_)
  ·rw[hd] at hgk;rw[fU hk4 hgk];refine run ?_;exact fin1 rfl
  rw[hd] at hgk;refine run ?_;refine aF (k+1) ⟨hk4,fun j hj=>?_⟩ (h1:=by rw[show ((k+1:Nat):Int)+1=(k:Int)+1+1 by omega];(repeat (first | exact True.intro | (refine And.intro bC1 ?_))));by_cases e:j=k
  ·subst e;exact hgk
  ·exact hK2 j bB3
 have hk4:k=4:=by have:=of_decide_eq_false hc3;omega
 subst hk4;rw[fE hK2,bI6];refine run ?_;refine aK (σ:=Nat) (fun k=>[(8,.int .i64 (k:Int))]) (fun _=>⟨Pb,#[.slice p1 n1 k1,.slice p2 n2 k2,.slice p3 n3 k3],48⟩::(hn++[⟨B,#[.slice (some ⟨bw,ow,none⟩) H.ws.length cap,.slice (some ⟨b2,o2,none⟩) H.cs.length cap2,.slice (some ⟨b3,o3,none⟩) H.vs.length cap3,.slice (some ⟨b4,o4,none⟩) H.rs.length cap4],29⟩])) (fun k=>k≤H.cs.length∧∀ j,j<k→H.cpR j=true) (fun k=>H.cs.length-k) 0 ⟨bI1 _,fun j hj=>absurd hj (bL0 _)⟩ ?_ (hh:=by (exact ak));rintro k m3 Q3 ⟨hk,hK3⟩;refine run ?_;refine ah _ rfl (fun hc4=>?_) (fun hc4=>?_)
 rotate_left
 ·have hkC:k=H.cs.length:=by have:=of_decide_eq_false hc4;omega
  subst hkC;rw[fE hK3];refine run ?_;exact fin1 rfl
 have hlt:k<H.cs.length:=by have:=of_decide_eq_true hc4;omega
 have hr:=hH.cs.rows.row (k:=k) bB3;have hen:=hH.cs.en _ (getD_mem (l:=cs) (k:=k) bB3);have hiv:=hH.cs.iv _ (getD_mem (l:=cs) (k:=k) bB3);have hrr:=hH.rs.row (k:=k) (by rw[hL.r];exact hlt);have hlr:k<H.rs.length:=by rw[hL.r];exact hlt
 have Uf:=FM e1 k;have hcf:=hfit.c (H.cu k) (getD_mem hlt)
 have hck:H.cpR k=(!(decide ((cs.getD k default).vm=0)&&!decide (H.rs.getD k default=jA)||!dQ (cs.getD k default).t.es (cs.getD k default).t.ds)&&(cs.getD k default).t.es.all H.Yo):=by
  unfold HyD.cpR HyD.cu;rw[←Uf];rfl
 rw[show H.cu k=H.cs.getD k default from rfl,←Uf] at hcf;clear Uf;generalize cs.getD k default=c at hr hen hiv hck hcf;generalize H.rs.getD k default=r at hrr hck;simp only[jv.u] at hcf;rw[←OT] at hck;obtain⟨qe,ce,ee,a02,_⟩:=hen.opened;obtain⟨qd,cd,ed,_,_⟩:=hiv.opened;rw[ee] at hen;rw[ed] at hiv;have hv1:=aj (show w.rangeAt b2 (o2+k*19+15) [.int .i64 c.vm] from aV (k:=15) (n:=1) hr rfl);have hv3:w.rangeAt b2 (o2+k*19+17) [.slice qe c.t.es.length ce,.slice qd c.t.ds.length cd]:=by rw[←ee,←ed];exact aV (k:=17) (n:=2) hr rfl
 have hv4:=aj (aV (k:=0) (n:=1) hv3 rfl);simp only[bL4] at hv4;refine run ?_;refine aC ?_;refine bG (fun hg wc hG=>ay6 c.t.es c.t.ds _ _ (hen.good hG) (hiv.good hG)) ?_;refine aC ?_;refine ah _ rfl (fun hd=>?_) (fun hd=>?_)
 ·rw[show (decide (c.vm=0)&&!aW (kN r) (kN jA)||!dQ c.t.es c.t.ds)=true from hd] at hck;rw[fU hlt (by rw[hck];rfl)];refine run ?_;exact fin1 rfl
 rw[show (decide (c.vm=0)&&!aW (kN r) (kN jA)||!dQ c.t.es c.t.ds)=false from hd] at hck;rw[bL1,bI6] at hck
 have htb:dQ c.t.es c.t.ds=true:=by
  have h2:=(bK9.1 hd).2;simpa using h2
 refine run ?_;refine aK (σ:=Nat) (fun k=>[(9,.int .i64 (k:Int))]) (fun _=>⟨Pb,#[.slice p1 n1 k1,.slice p2 n2 k2,.slice p3 n3 k3],48⟩::(hn++[⟨B,#[.slice (some ⟨bw,ow,none⟩) H.ws.length cap,.slice (some ⟨b2,o2,none⟩) H.cs.length cap2,.slice (some ⟨b3,o3,none⟩) H.vs.length cap3,.slice (some ⟨b4,o4,none⟩) H.rs.length cap4],29⟩])) (fun j=>j≤c.t.es.length∧∀ l,l<j→H.Yo (c.t.es.getD l default)=true) (fun j=>c.t.es.length-j) 0 ⟨bI1 _,fun j hj=>absurd hj (bL0 _)⟩ ?_;rintro j m4 hm4 ⟨hj,hK4⟩;refine run ?_;refine ah _ rfl (fun hc5=>?_) (fun hc5=>?_)
 rotate_left
 ·have hje:j=c.t.es.length:=by have:=of_decide_eq_false hc5;omega
  subst hje
  have hall:c.t.es.all H.Yo=true:=bH'.2 fun e he=>by
   obtain⟨l,hl,rfl⟩:=bM4.1 he;have:=hK4 l hl;rw[bH8,bH9 hl] at this;exact this
  rw[hall] at hck;refine run ?_;refine aF (k+1) ⟨hlt,fun l hl=>?_⟩;by_cases e:l=k
  ·subst e;exact hck
  ·exact hK3 l bB3
 have hjl:j<c.t.es.length:=by have:=of_decide_eq_true hc5;omega
 obtain⟨be,oe,rfl⟩:=a02 bG8;have hrj:=hen.row hjl
 have hnum:(c.t.es.getD j default).nums=true:=by
  have h2:=htb;unfold dQ at h2;simp only[bH6] at h2;have h3:=bH'.1 h2.1.1.1 j (bJ1.2 hjl);unfold Aw fF.may at h3;simp only[bH6] at h3;exact h3.1.1
 have hno:H.Yo (c.t.es.getD j default)=false→c.t.es.all H.Yo=false:=fun h1=>by
  rw[←bL8,bH'];intro h2;rw[h2 _ (getD_mem hjl)] at h1;cases h1
 have hso:=fun (wc:World) (hp:Hp) (hG:Good w [] hp wc)=>Yp (h'.good hG) hok hFr (c.t.es.getD j default) hnum;generalize he9:c.t.es.getD j default=e at hrj hnum hno hso;refine run ?_;refine dA ?_;refine dI ?_;refine fB (fun wc hG=>hso wc _ hG) ?_;refine dI ?_;refine run ?_;refine ah _ rfl (fun hd5=>?_) (fun hd5=>?_)
 ·rw[bJ6] at hd5;rw[hno hd5] at hck;rw[fU hlt hck];refine run ?_;exact fin1 rfl
 rw[bK6] at hd5;refine run ?_;refine aF (j+1) ⟨hjl,fun l hl=>?_⟩;by_cases e9:l=j
 ·subst e9;rw[he9];exact hd5
 ·exact hK4 l bB3
end
theorem Hl(pages:List o8):∀ lv,lv<4→∀ tb,tb<kR lv→∀ a,a<8→(kF pages lv tb a).word 2 lv=iQ (dm pages) 64 ((lv+tb)*8+a):=by
 intro lv hl tb ht a ha;unfold kR at ht;have h64:decide ((64:Nat)=0)=false:=by decide
 by_cases h3:lv=3
 ·subst h3;rw[if_pos rfl] at ht;unfold kF iQ;rw[decide_eq_true rfl,h64,decide_eq_false (show ¬ (3+tb)*8+a=0 by omega),decide_eq_false (show ¬ (3+tb)*8+a=8 by omega),decide_eq_false (show ¬ (16≤(3+tb)*8+a∧(3+tb)*8+a<24∧8*((3+tb)*8+a-16)<64) by omega),decide_eq_true (show 24≤(3+tb)*8+a∧(3+tb)*8+a<24+64 by omega)];simp only[cond_true,cond_false];rw[show (3+tb)*8+a-24=tb*8+a by omega]
 ·rw[if_neg h3] at ht;obtain rfl:tb=0:=by omega
  unfold kF iQ;rw[decide_eq_false h3,h64];simp only[cond_false,bL4];by_cases h2:lv=2
  ·subst h2;rw[decide_eq_true rfl,decide_eq_false (show ¬ 2*8+a=0 by omega),decide_eq_false (show ¬ 2*8+a=8 by omega),decide_eq_true (show 16≤2*8+a∧2*8+a<24∧8*(2*8+a-16)<64 by omega)];simp only[cond_true,cond_false];rw[show 2*8+a-16=a by omega,←QU (3+a) 2]
   congr 2
  ·rw[decide_eq_false h2];simp only[cond_false];have hw0:∀ l,l<2→dG.word 2 l=0:=by decide
   have hl2:lv=0∨lv=1:=by omega
   rcases hl2 with rfl | rfl
   ·by_cases h0:a=0
    ·subst h0;rfl
    ·rw[decide_eq_false h0,decide_eq_false (show ¬ 0*8+a=0 by omega),decide_eq_false (show ¬ 0*8+a=8 by omega),decide_eq_false (show ¬ (16≤0*8+a∧0*8+a<24∧8*(0*8+a-16)<64) by omega),decide_eq_false (show ¬ (24≤0*8+a∧0*8+a<24+64) by omega)];exact hw0 0 bB4
   ·by_cases h0:a=0
    ·subst h0;rfl
    ·rw[decide_eq_false h0,decide_eq_false (show ¬ 1*8+a=0 by omega),decide_eq_false (show ¬ 1*8+a=8 by omega),decide_eq_false (show ¬ (16≤1*8+a∧1*8+a<24∧8*(1*8+a-16)<64) by omega),decide_eq_false (show ¬ (24≤1*8+a∧1*8+a<24+64) by omega)];exact hw0 1 bB4
theorem host_eq(hL:vG H):Ey H.ws H.aG.pages=allB 88 H.vK:=by
 have rY:=bP hL.m;have hf:=hL.f
 have hK:∀ k,k<88→(qo (H.ws.length/8*8) (dm H.aG.pages) 64).ws.getD k 0=iQ (dm H.aG.pages) 64 k:=fun k hk=>by
  rw[nX bB3 _ 64 (bI9 _)];simp only[dP];rw[bH8,bJ',bO' bB3];rfl
 rw[bI2];constructor
 ·intro h;refine aJ.2 fun k hk=>?_;unfold HyD.vK;rw[hK k hk]
  have hlv:∃ lv tb,lv<4∧tb<kR lv∧lv+tb=k/8:=by
   by_cases h3:k/8<3
   ·exact⟨k/8,0,by omega,by unfold kR;rw[if_neg bB3];omega,rfl⟩
   ·exact⟨3,k/8-3,by omega,by unfold kR;rw[if_pos rfl];omega,by omega⟩
  obtain⟨lv,tb,h1,h2,h3⟩:=hlv;have:=LG h h1 h2 (bV8 k (show 0<8 by decide));unfold rH at this;rw[Hl _ lv h1 tb h2 (k%8) (bV8 k bB4),show (lv+tb)*8+k%8=k by omega] at this;exact this
 ·intro h;refine Ez fun lv h1 tb h2 a ha=>?_
  have hk:(lv+tb)*8+a<88:=by
   unfold kR at h2;split at h2<;>omega
  have:=aJ.1 h _ hk;unfold HyD.vK at this;rw[hK _ hk] at this;unfold rH;rw[Hl _ lv h1 tb h2 a ha];exact this
section
section
variable {ws : List Nat} {may may' : Nat → DsD → Bool} {go go' : List Int → Int → Nat → Option (List Int)} {f : Int} {level page : Nat}
theorem MG{a b:List Int}(h1:(gJ ws (f.toNat*8+k) level).kind=1)(h2:page+k*au level≤15)(h3:go a (gJ ws (f.toNat*8+k) level).frame (page+k*au level)=some b):mX ws may go f level page k a=some b:=by
 unfold mX;dsimp only;rw[decide_eq_true h1,cond_true,decide_eq_false (show ¬ 15<page+k*au level by omega),cond_false];exact h3
theorem MH{a:List Int}(h1:(gJ ws (f.toNat*8+k) level).kind≠1)(h2:ws.getD (f.toNat*8+k) 0≠0→(gJ ws (f.toNat*8+k) level).kind=2∧level=3∧may (page+k) (gJ ws (f.toNat*8+k) level)=true):mX ws may go f level page k a=some a:=by
 unfold mX;dsimp only;rw[decide_eq_false h1,cond_false];by_cases h0:ws.getD (f.toNat*8+k) 0=0
 ·rw[decide_eq_true h0];rfl
 ·obtain⟨e1,e2,e3⟩:=h2 h0;rw[decide_eq_true e1,decide_eq_true e2,e3,decide_eq_false h0];rfl
theorem BL:∀ (n:Nat) (seen s:List Int),(∀ i a b,i<n→dJ ws may go f level page i seen=some a→dJ ws may go f level page (i+1) seen=some b→mX ws may go f level page i a=some b→mX ws may' go' f level page i a=some b)→dJ ws may go f level page n seen=some s→dJ ws may' go' f level page n seen=some s:=by
 intro n
 induction n with
 | zero=>intro seen s _ h;exact h
 | succ n ih=>
  intro seen s hg h;obtain⟨a,b,ha,hs,hb⟩:=nK h n bB3;rw[h] at hb;cases hb;rw[dJ,ih _ _ (fun i a b hi=>hg i a b bB3) ha];exact hg n a _ bB3 ha h hs
theorem Um(hl:level<4)(hg:∀ a f p b,go a f p=some b→∀ x∈a,x∈b):∀ (n:Nat) (seen s:List Int),dJ ws may go f level page n seen=some s→∀ m b,m≤n→dJ ws may go f level page m seen=some b→∀ x∈b,x∈s:=by
 intro n
 induction n with
 | zero=>
  intro seen s h m b hm hb;obtain rfl:m=0:=by omega
  rw[h] at hb;cases hb
  exact fun x hx=>hx
 | succ n ih=>
  intro seen s h m b hm hb;by_cases e:m=n+1
  ·subst e;rw[h] at hb;cases hb;exact fun x hx=>hx
  obtain⟨a,b',ha,hs,hb'⟩:=nK h n bB3;rw[h] at hb';cases hb';intro x hx;have h1:=ih _ _ ha m b bB3 hb x hx;rcases nM hl hs with⟨_,_,hgo⟩ | ⟨_,rfl,_⟩
  ·exact hg _ _ _ _ hgo x h1
  ·exact h1
end
theorem EM{ws:List Nat}{may may':Nat→DsD→Bool}{root:Int}(hm:∀ q d,(aO ws root q 3).ok=true→(aO ws root q 3).lv=3→(aO ws root q 3).d=d→d.kind=2→may q d=true→may' q d=true):∀ (k level:Nat) (seen:List Int) (f:Int) (page:Nat) (s:List Int),level+k=4→dM ws may k seen f level page=some s→page%(8*au level)=0→BF ws root f level page→dM ws may' k seen f level page=some s:=by
 intro k
 induction k with
 | zero=>intro level seen f page s _ h;cases h
 | succ k ih=>
  intro level seen f page s hlk h hp hon;have hl:level<4:=by omega
  obtain⟨hf,hns,hsl⟩:=rQ h;have hc:=fH hl;rw[dM,hf,show (seen.any fun t=>decide (t=f))=false by rw[←bL8,gG];exact hns];refine BL 8 _ _ (fun i a b hi _ _ hs=>?_) hsl;rcases nM hl hs with⟨h1,h2,h3⟩ | ⟨h1,rfl,h2⟩
  ·have hl3:level<3:=sZ h1
   have hp2:(page+i*au level)%(8*au (level+1))=0:=by
    rw[←kG hl3];have h8:page%au level=0:=bT4 (bX8 ⟨8,bQ4 _ _⟩ (bR8 hp));rw[Nat.add_mod,h8,Nat.mul_mod_left];rfl
   exact MG h1 h2 (ih (level+1) a _ _ b bB3 h3 hp2 (xJ hl3 hp hi hf hon h1))
  ·refine MH h1 fun hne=>?_;obtain⟨e1,e2,e3⟩:=h2 hne;subst e2;refine⟨e1,rfl,?_⟩;obtain⟨fs,d0,hfs,FX⟩:=hon;have hsw:=yZ hl hp hi hf FX (j:=0) bB3;rw[cov3,bK3,bL4] at hsw;rw[show (!decide ((gJ ws (f.toNat*8+i) 3).kind=1)||decide ((3:Nat)=3))=true by simp,cond_true] at hsw;refine hm (page+i) _ ?_ ?_ ?_ e1 e3
   ·rw[hsw]
   ·rw[hsw];simp[qQ.lv,hfs]
   ·rw[hsw]
theorem PV{ws:List Nat}{fs:List Int}{may:Nat→DsD→Bool}:∀ (k level:Nat) (seen:List Int) (f:Int) (page:Nat) (s:List Int),level+k=4→dM ws may k seen f level page=some s→(∀ x∈s,x∈fs)→lq ws fs may k seen f level page=some s:=by
 intro k
 induction k with
 | zero=>intro level seen f page s _ h;cases h
 | succ k ih=>
  intro level seen f page s hlk h hsub;obtain⟨hf,hns,hsl⟩:=rQ h;have hfs:=hsub f (tX (k+1) level seen f page s hlk h).2;rw[lq,gG.2 hfs,show (seen.any fun t=>decide (t=f))=false by rw[←bL8,gG];exact hns];have hgo:∀ a f' p b,dM ws may k a f' (level+1) p=some b→∀ x∈a,x∈b:=fun a f' p b hb x hx=>(tX k (level+1) a f' p b bB3 hb).1.sub hx;refine BL 8 _ _ (fun i a b hi _ hb hs=>?_) hsl;have hbs:=Um bB3 hgo 8 _ _ hsl (i+1) b bB3 hb;rcases nM bB3 hs with⟨h1,h2,h3⟩ | ⟨h1,rfl,h2⟩
  ·exact MG h1 h2 (ih (level+1) a _ _ b bB3 h3 fun x hx=>hsub x (hbs x hx))
  ·exact MH h1 h2
theorem Jt:∀ {a b:List Int},a.Nodup→(∀ x∈a,x∈b)→a.length≤b.length
 | [],_,_,_=>bI1 _
 | x::r,b,hn,h=>by
  obtain⟨h1,h2⟩:=bO4.1 hn;have hx:=h x (bI8 ..);have:=Jt (a:=r) (b:=b.erase x) h2 fun y hy=>(List.mem_erase_of_ne (show y≠x from fun e=>h1 (e▸hy))).2 (h y (bI5 _ hy));rw[List.length_erase_of_mem hx] at this;have:=bQ6 hx;rw[bL6];omega
theorem zn{fs seen fr:List Int}(hn:fs.Nodup)(hs:seen.Nodup)(hr:fr.Nodup)(h1:∀ x∈seen,x∈fs)(h2:∀ x∈fr,x∈fs):((∀ x∈fr,x∉seen)∧seen.length+fr.length=fs.length)↔∀ x∈fs,(x∈seen↔x∉fr):=by
 have hd:(∀ x∈fr,x∉seen)→(seen++fr).Nodup:=fun h=>bM3.2 ⟨hs,hr,fun x hx y hy e=>h y hy (e▸hx)⟩;have hsub:∀ x∈seen++fr,x∈fs:=fun x hx=>(bK4.1 hx).elim (h1 x) (h2 x);constructor
 ·rintro⟨h3,h4⟩ x hx;constructor
  ·intro h5 h6;exact h3 x h6 h5
  ·intro h5;refine bT9 fun h6=>?_;have hm:x∉seen++fr:=fun h=>(bK4.1 h).elim h6 h5
   have:=Jt (a:=x::(seen++fr)) (b:=fs) (bO4.2 ⟨hm,hd h3⟩) fun y hy=>by
    rcases bJ3.1 hy with rfl | hy
    ·exact hx
    ·exact hsub y hy
   simp only[bL6,bJ9] at this;omega
 ·intro h3;have h4:∀ x∈fr,x∉seen:=fun x hx h5=>(h3 x (h2 x hx)).1 h5 hx;have h5:=Jt (hd h4) hsub
  have h6:=Jt (a:=fs) (b:=seen++fr) hn fun x hx=>by
   by_cases h7:x∈fr
   ·exact bI4 _ h7
   ·exact bJ2 _ ((h3 x hx).2 h7)
  rw[bJ9] at h5 h6;exact⟨h4,by omega⟩
end
theorem Rt{ws:List Nat}{root:Int}:∀ n,(∀ j,j<n→(aO ws root (q+j) 3).ok=true)→∃ xs,dL ws root q n=some xs∧∀ j,j<n→(aO ws root (q+j) 3).d.kind=2→(⟨((q+j:Nat):Int),(aO ws root (q+j) 3).d.frame+(((q+j)%au (aO ws root (q+j) 3).lv:Nat):Int)⟩:jQ)∈xs:=by
 intro n
 induction n with
 | zero=>intro _;exact⟨[],rfl,fun j hj=>absurd hj (bL0 _)⟩
 | succ n ih=>
  intro h;obtain⟨xs,h1,h2⟩:=ih fun j hj=>h j bB3;have h3:=h n bB3;by_cases hk:(aO ws root (q+n) 3).d.kind=2
  ·refine⟨xs++[⟨((q+n:Nat):Int),(aO ws root (q+n) 3).d.frame+(((q+n)%au (aO ws root (q+n) 3).lv:Nat):Int)⟩],?_,fun j hj hk2=>?_⟩
   ·rw[dL,h1];unfold lX;dsimp only;rw[h3,decide_eq_true hk];rfl
   ·by_cases e:j=n
    ·subst e;exact bI4 _ (bN3.2 rfl)
    ·exact bJ2 _ (h2 j bB3 hk2)
  ·refine⟨xs,?_,fun j hj hk2=>?_⟩
   ·rw[dL,h1];unfold lX;dsimp only;rw[h3,decide_eq_false hk];simp
   ·by_cases e:j=n
    ·subst e;exact absurd hk2 hk
    ·exact h2 j bB3 hk2
theorem tZ(h:∀ i j,i<j→j<l.length→l.getD i 0<l.getD j 0):l.Nodup:=by
 refine bV7.2 fun i j hi hj hij=>?_;have:=h i j hij hj;rw[bH8,bH8,bH9 hi,bH9 hj] at this;simp only[bP1] at this;omega
theorem getD_lt(hk:k<l.length):l.getD k 0∈l:=by
 rw[bH8,bH9 hk];exact bX7 hk
theorem uf{x:Int}(h:x∈l):∃ k,k<l.length∧l.getD k 0=x:=by
 obtain⟨k,hk,rfl⟩:=bM4.1 h;exact⟨k,hk,by rw[bH8,bH9 hk];rfl⟩
theorem Ru(h:∀ k,k<l.length→k=0∨l.getD (k-1) 0<l.getD k 0):∀ i j,i<j→j<l.length→l.getD i 0<l.getD j 0:=by
 intro i j
 induction j with
 | zero=>intro hi;omega
 | succ j ih=>
  intro hi hj;have h1:=(h (j+1) hj).resolve_left bB3;rw[bV0] at h1;by_cases e:i=j
  ·subst e;exact h1
  ·have:=ih bB3 bB3;omega
theorem ah5{x:Int}(h:x∈l)(h0:l.getD 0 0≠x):1≤gV (fun t=>decide (t=x)) l:=by
 unfold gV
 cases e:PtD.idx (fun t=>decide (t=x)) l 0 with
 | none=>
  have:=PtD.IK (p:=fun t=>decide (t=x)) (l:=l);rw[e] at this;have h2:=gG.2 h;rw[←this] at h2
  cases h2
 | some k=>
  obtain⟨_,h2,h3,_⟩:=PtD.pV e;dsimp only
  cases k with
  | zero=>simp only[bW1] at h3;exact absurd (of_decide_eq_true h3) h0
  | succ k=>omega
theorem aA'{x:Int}(h:1≤gV (fun t=>decide (t=x)) l):x∈l:=by
 refine gG.1 ?_;rw[←gq];exact decide_eq_true bB3
theorem Un{may:Nat→DsD→Bool}{s:List Int}(hh:(H.vu i).has=true)(hg:dM H.ws may 4 [] (H.vu i).root 0 0=some s)(hq:q≤15)(h1:(aO H.ws (H.vu i).root q 3).lv=3)(h2:(aO H.ws (H.vu i).root q 3).d.kind=2):(H.wZ i).any (fun m=>decide (m.mid=(q:Int))&&decide (m.eu=(aO H.ws (H.vu i).root q 3).d.frame))=true:=by
 have hw:=Hf 4 0 [] _ 0 s rfl hg rfl (qy H.ws (H.vu i).root);obtain⟨xs,e,hx⟩:=Rt (q:=0) (ws:=H.ws) (root:=(H.vu i).root) 4096 fun j hj=>(hw j hj).1;have hm:=hx q bB3 (by rw[bK2];exact h2);rw[bK2,h1,cov3,bV'] at hm
 have hm2:(⟨(q:Int),(aO H.ws (H.vu i).root q 3).d.frame+((0:Nat):Int)⟩:jQ)∈H.wZ i:=by
  unfold HyD.wZ;rw[hh,cond_true,e];exact bN'.2 ⟨hm,decide_eq_true (by dsimp only;omega)⟩
 exact bM8.2 ⟨_,hm2,by simp⟩
theorem Uo{s:List Int}(hi:i<4)(hh:(H.vu i).has=true)(hl:(H.vu i).live=true)(hg:dM H.ws (lu H.aG ((i:Int)+1)) 4 [] (H.vu i).root 0 0=some s):dM H.ws (H.EE i) 4 [] (H.vu i).root 0 0=some s:=by
 refine EM (root:=(H.vu i).root) (fun q d h1 h2 h3 h4 h5=>?_) 4 0 [] _ 0 s rfl hg rfl (qy _ _);subst h3;unfold lu at h5;simp only[bH6,decide_eq_true_eq] at h5;obtain⟨⟨a,b⟩,c⟩:=h5;unfold HyD.EE vg;rw[decide_eq_true a,decide_eq_true (show (aO H.ws (H.vu i).root q 3).d.frame<(H.aG.pages.length:Int) by omega),decide_eq_true c,show ((i:Int)+1-1).toNat=i by omega,(qC H).2.1 i hi];have:(H.bU i).maps=H.wZ i:=by unfold HyD.bU;rw[hl];rfl
 rw[this,Un hh hg a h2 h4];rfl
theorem Ur{s:List Int}(hg:dM H.ws (H.EE i) 4 [] (H.vu i).root 0 0=some s):dM H.ws (lu H.aG ((i:Int)+1)) 4 [] (H.vu i).root 0 0=some s:=by
 refine EM (root:=(H.vu i).root) (fun q d h1 h2 h3 h4 h5=>?_) 4 0 [] _ 0 s rfl hg rfl (qy _ _);subst h3;unfold HyD.EE vg at h5;simp only[bH6,decide_eq_true_eq] at h5;obtain⟨a,b,c,_⟩:=h5;have hf:=jO h1;have hd:=mD H.ws ((aO H.ws (H.vu i).root q 3).place q) (aO H.ws (H.vu i).root q 3).lv;rw[←hf.d] at hd;have:=((gy hd).2.2.2 h4).2.1;unfold lu;simp only[bH6,decide_eq_true_eq];exact⟨⟨a,this,by omega⟩,c⟩
theorem EN(hP:PtD.Ok H.aG)(hi:i<4)(hl:(H.vu i).live=true)(h5:(H.vu i).fs.length=5):16≤(H.vu i).root∧(H.vu i).root+5≤((H.ws.length/8:Nat):Int)∧∀ k,k<(H.vu i).vs.length→-1≤((H.vu i).vs.getD k default).on:=by
 have hg:=(qC H).2.1 i hi
 have he:H.bU i=⟨true,(H.vu i).dying,(H.vu i).root,(H.vu i).vs.map Az.on,H.wZ i⟩:=by
  unfold HyD.bU;rw[hl,decide_eq_true (show 0<(H.vu i).fs.length by omega)];rfl
 obtain⟨h1,h2,h3,h4,h6,_⟩:=hP.WE i hi (by rw[hg,he]);rw[hg,he] at h2 h3 h6;have hpl:H.aG.pages.length=H.ws.length/8:=by simp[HyD.aG]
 rw[hpl] at h3;dsimp only at h2 h3 h6;refine⟨h2,by omega,fun k hk=>?_⟩;have:=h6 k (by simpa using hk);unfold PtD.nC at this;rw[hg,he] at this
 have e1:((H.vu i).vs.map Az.on).getD k 0=((H.vu i).vs.getD k default).on:=by
  rw[bH8,bH8,bJ',bH9 hk];rfl
 dsimp only at this;rw[e1] at this;simp only[bJ7,bH6,PtD.dD,decide_eq_true_eq] at this;omega
theorem ap'{v:kJ}(h:∀ k,k<v.vs.length→-1≤(v.vs.getD k default).on):v.vs.all HyD.Vj=allB v.vs.length v.vcR:=by
 have e:∀ k,k<v.vs.length→HyD.Vj (v.vs.getD k default)=v.vcR k:=fun k hk=>by
  unfold HyD.Vj kJ.vcR;have:=h k hk;by_cases h1:(v.vs.getD k default).on= -1
  ·rw[decide_eq_true h1,decide_eq_false (show ¬ 0≤(v.vs.getD k default).on by omega)];rfl
  ·rw[decide_eq_false h1,decide_eq_true (show 0≤(v.vs.getD k default).on by omega)];simp
 rw[bI2,aJ,bH'];constructor
 ·intro h1 k hk;rw[←e k hk];exact h1 _ (getD_mem hk)
 ·intro h1 c hc;obtain⟨k,hk,rfl⟩:=bM4.1 hc;have:=h1 k hk;rw[←e k hk,bH8,bH9 hk] at this;exact this
theorem Yq(h4:H.vs.length=4)(hi:i<4)(v:kJ):(!(H.vs.take i).any fun o=>o.live&&decide (o.aN=v.aN))=allB i (H.oM v):=by
 rw[bI2,bJ6,aJ,←bL8,bM8]
 have e:∀ k,k<i→(H.vs.take i).getD k default=H.vu k:=fun k hk=>by
  unfold HyD.vu;rw[bH8,bH8,bM7,if_pos hk]
 constructor
 ·intro h k hk;unfold HyD.oM;rw[bJ6,←bL8];intro h1;exact h ⟨_,getD_mem (l:=H.vs.take i) (k:=k) bD8,by rw[e k hk];exact h1⟩
 ·rintro h ⟨o,ho,h1⟩;obtain⟨k,hk,rfl⟩:=bM4.1 ho;have hki:k<i:=by rw[bK'] at hk;omega
  have h2:=h k hki;unfold HyD.oM at h2;rw[←e k hki,bH8,bH9 hk,bJ6] at h2;simp only[bP1] at h2;rw[h1] at h2;cases h2
theorem qF{f:Int}:xN l f=true↔f∈l:=gG
theorem wL{f:Int}:xN l f=false↔f∉l:=by rw[←qF (l:=l) (f:=f),bL8]
theorem Rw(hL:vG H)(hP:PtD.Ok H.aG)(hi:i<4):(H.NP i=true∧H.guK i=true)↔(H.Vk i=true∧H.nY i=true):=by
 cases hl:(H.vu i).live with
 | false=>
  have e:H.Vk i=H.NP i:=by
   unfold HyD.Vk HyD.NP;rw[hl];simp only[bL1,cond_true,cond_false];rw[bI2];simp only[bH6,decide_eq_true_eq,bU5];constructor
   ·rintro⟨⟨⟨a,b⟩,c⟩,d⟩;exact⟨⟨⟨b,c⟩,a⟩,d⟩
   ·rintro⟨⟨⟨b,c⟩,a⟩,d⟩;exact⟨⟨⟨a,b⟩,c⟩,d⟩
  rw[e];have e2:H.guK i=true:=by unfold HyD.guK;rw[hl];rfl
  have e3:H.nY i=true:=by unfold HyD.nY;rw[hl];rfl
  rw[e2,e3]
 | true=>
  have hroot:(H.vu i).fs.getD 0 0=(H.vu i).root:=rfl;constructor
  ·rintro⟨h1,h2⟩;obtain⟨h5,hvm,hch⟩:=zk h1 hl;obtain⟨a03,hr5,hon⟩:=EN hP hi hl h5
   have hfk:∀ k,k<5→(H.vu i).fs.getD k 0=(H.vu i).root+(k:Int):=by
    intro k
    induction k with
    | zero=>intro _;rw[hroot];omega
    | succ k ih=>
     intro hk;have:=(hch (k+1) hk).2 bB3;rw[bV0,ih bB3] at this;omega
   have a04:∀ f∈(H.vu i).fs,bK H.ws.length f=true:=fun f hf=>by obtain⟨k,hk,rfl⟩:=uf hf;exact (hch k bB3).1
   have hfn:(H.vu i).fs.Nodup:=tZ fun a b hab hb=>by rw[hfk a bB3,hfk b bB3];omega
   unfold HyD.NP at h1;rw[hl] at h1;simp only[bK1,cond_false,bH6] at h1;obtain⟨⟨_,hbt⟩,_,hfr,hone,lC⟩:=h1
   have hfr2:∀ k,k<(H.vu i).fr.length→(H.vu i).fr.getD k 0∈(H.vu i).fs∧(k=0∨(H.vu i).fr.getD (k-1) 0<(H.vu i).fr.getD k 0):=fun k hk=>by
    have:=aJ.1 hfr k hk;unfold kJ.EK at this;simp only[bH6,bJ7,decide_eq_true_eq] at this;exact⟨aA' this.1,this.2⟩
   have hrn:(H.vu i).fr.Nodup:=tZ (Ru fun k hk=>(hfr2 k hk).2);have hrs:∀ x∈(H.vu i).fr,x∈(H.vu i).fs:=fun x hx=>by obtain⟨k,hk,rfl⟩:=uf hx;exact (hfr2 k hk).1
   unfold HyD.guK at h2;rw[hl,bI6,bQ'] at h2;unfold HyD.guR at h2
   cases hz:lq H.ws (H.vu i).fs (lu H.aG ((i:Int)+1)) 4 [] ((H.vu i).fs.getD 0 0) 0 0 with
   | none=>rw[hz] at h2;cases h2
   | some seen=>
    rw[hz] at h2;replace h2:allB 5 (gu1 H.ws (H.vu i) seen)=true:=h2;obtain⟨hg,hsub⟩:=EL a04 4 0 [] _ 0 seen rfl hz;rw[hroot] at hg;have MI:∀ x∈seen,x∈(H.vu i).fs:=fun x hx=>(hsub x hx).resolve_left bB5;have hhas:(H.vu i).has=true:=by unfold kJ.has;rw[hl,decide_eq_true (show 0<(H.vu i).fs.length by omega)];rfl
    have hgm:=Uo hi hhas hl hg;have hsn:=(tX 4 0 [] _ 0 seen rfl hg).1.nd bW0
    have hgu:∀ k,k<5→(((H.vu i).fs.getD k 0∈seen↔(H.vu i).fs.getD k 0∉(H.vu i).fr))∧((H.vu i).fs.getD k 0∈(H.vu i).fr→GY H.ws ((H.vu i).fs.getD k 0)=true):=fun k hk=>by
     have:=aJ.1 h2 k hk;unfold gu1 at this;rw[bH6,bJ6,decide_eq_false_iff_not] at this;refine⟨?_,fun hm=>?_⟩
     ·constructor
      ·intro h6 h7;exact this.1 (by rw[qF.2 h6,qF.2 h7])
      ·intro h7;refine bT9 fun h6=>this.1 ?_;rw[wL.2 h6,wL.2 h7]
     ·refine aJ.2 fun j hj=>?_;have h8:=aJ.1 this.2 j hj;rw[qF.2 hm,bI6,bQ'] at h8;exact h8
    obtain⟨hdis,hcnt⟩:=(zn hfn hsn hrn MI hrs).2 fun x hx=>by
     obtain⟨k,hk,rfl⟩:=uf hx;exact (hgu k bB3).1
    refine⟨?_,?_⟩
    ·unfold HyD.Vk;rw[hl,cond_true,ap' hon,lC,Yq hL.v hi,hone,hbt];rfl
    ·unfold HyD.nY;rw[hl,hgm];simp only[bK1,cond_false,bH6];refine⟨⟨decide_eq_true h5,aJ.2 fun k hk=>decide_eq_true (hfk k hk)⟩,⟨decide_eq_true bB3,aJ.2 fun k hk=>?_⟩,bH'.2 fun x hx=>gG.2 (MI x hx)⟩;obtain⟨h6,h7⟩:=hfr2 k hk;have hm:=getD_lt (l:=(H.vu i).fr) hk;unfold xK;simp only[bH6,bJ7,decide_eq_true_eq];refine⟨⟨⟨gG.2 h6,?_⟩,h7⟩,?_⟩
     ·rw[bJ6,←bL8,gG];exact hdis _ hm
     ·obtain⟨k2,hk2,e2⟩:=uf h6;have:=(hgu k2 bB3).2 (by rw[e2];exact hm);rw[e2] at this;exact this
  ·rintro⟨h1,h2⟩;unfold HyD.nY at h2;rw[hl] at h2;simp only[bK1,cond_false,bH6] at h2;obtain⟨⟨h5,hfk⟩,h2⟩:=h2;rw[decide_eq_true_eq] at h5;replace hfk:∀ k,k<5→(H.vu i).fs.getD k 0=(H.vu i).root+(k:Int):=fun k hk=>of_decide_eq_true (aJ.1 hfk k hk);obtain⟨a03,hr5,hon⟩:=EN hP hi hl h5
   have Zo:∀ k,k<5→bK H.ws.length ((H.vu i).fs.getD k 0)=true:=fun k hk=>by
    rw[hfk k hk];unfold bK;simp only[bH6,decide_eq_true_eq];omega
   have hfn:(H.vu i).fs.Nodup:=tZ fun a b hab hb=>by rw[hfk a bB3,hfk b bB3];omega
   unfold HyD.Vk at h1;rw[hl,cond_true,ap' hon,Yq hL.v hi] at h1;simp only[bH6] at h1;obtain⟨⟨lC,hbt⟩,hone⟩:=h1
   cases hz:dM H.ws (H.EE i) 4 [] (H.vu i).root 0 0 with
   | none=>rw[hz] at h2;cases h2
   | some seen=>
    rw[hz] at h2;simp only[bH6,decide_eq_true_eq] at h2;obtain⟨⟨hcnt,hfr⟩,hsub⟩:=h2;have MI:∀ x∈seen,x∈(H.vu i).fs:=fun x hx=>gG.1 (bH'.1 hsub x hx);have hg:=Ur hz;have aO0:=tX 4 0 [] _ 0 seen rfl hg;have hsn:=aO0.1.nd bW0
    have hfr2:∀ k,k<(H.vu i).fr.length→((H.vu i).fr.getD k 0∈(H.vu i).fs∧(H.vu i).fr.getD k 0∉seen)∧(k=0∨(H.vu i).fr.getD (k-1) 0<(H.vu i).fr.getD k 0)∧GY H.ws ((H.vu i).fr.getD k 0)=true:=fun k hk=>by
     have:=aJ.1 hfr k hk;unfold xK at this;simp only[bH6,bJ7,decide_eq_true_eq] at this;obtain⟨⟨⟨a,b⟩,c⟩,d⟩:=this;rw[bJ6,←bL8,gG] at b;exact⟨⟨gG.1 a,b⟩,c,d⟩
    have hrn:(H.vu i).fr.Nodup:=tZ (Ru fun k hk=>(hfr2 k hk).2.1);have hrs:∀ x∈(H.vu i).fr,x∈(H.vu i).fs:=fun x hx=>by obtain⟨k,hk,rfl⟩:=uf hx;exact (hfr2 k hk).1.1
    have a05:=(zn hfn hsn hrn MI hrs).1 ⟨fun x hx=>by obtain⟨k,hk,rfl⟩:=uf hx;exact (hfr2 k hk).1.2,by omega⟩;refine⟨?_,?_⟩
    ·unfold HyD.NP;rw[hl];simp only[bK1,cond_false,bH6];refine⟨⟨decide_eq_true h5,hbt⟩,aJ.2 fun k hk=>?_,aJ.2 fun k hk=>?_,hone,lC⟩
     ·unfold kJ.chain;rw[Zo k hk,bI6];by_cases h0:k=0
      ·rw[decide_eq_true h0];rfl
      ·rw[decide_eq_false h0,bL3,hfk k hk,hfk (k-1) bB3];exact decide_eq_true bB3
     ·obtain⟨⟨h6,h7⟩,h8,_⟩:=hfr2 k hk;unfold kJ.EK;simp only[bH6,bJ7,decide_eq_true_eq];refine⟨ah5 h6 fun e=>h7 ?_,h8⟩;rw[←e,hroot];exact aO0.2
    ·unfold HyD.guK;rw[hl,bI6,bQ'];unfold HyD.guR;rw[hroot,PV 4 0 [] _ 0 seen rfl hg MI];refine aJ.2 fun k hk=>?_;have hx:=a05 _ (getD_lt (l:=(H.vu i).fs) (k:=k) bB3);unfold gu1;rw[bH6,bJ6,decide_eq_false_iff_not];refine⟨fun e=>?_,aJ.2 fun j hj=>?_⟩
     ·cases hm:xN (H.vu i).fr ((H.vu i).fs.getD k 0) with
      | true=>rw[hm] at e;exact hx.1 (qF.1 e) (qF.1 hm)
      | false=>rw[hm] at e;exact wL.1 e (hx.2 (wL.1 hm))
     ·cases hm:xN (H.vu i).fr ((H.vu i).fs.getD k 0) with
      | false=>rfl
      | true=>
       obtain⟨k2,hk2,e2⟩:=uf (qF.1 hm);have:=aJ.1 (hfr2 k2 hk2).2.2 j hj;rw[e2] at this;rw[bI6,bQ'];exact this
theorem ah6{ws:List Nat}{page:Nat}:∀ (k level:Nat) (f:Int) (rd fs:List Int) (d:DsD),level+k=4→fs.length=level →
  ((wlk ws 2 page k level f rd).f.kind=0↔(bT ws page 3 k level f fs d).ok=true∧(bT ws page 3 k level f fs d).d.kind=2∧bK ws.length ((bT ws page 3 k level f fs d).d.frame+((page%au (bT ws page 3 k level f fs d).lv:Nat):Int))=true) ∧
  ((wlk ws 2 page k level f rd).f.kind=0→(wlk ws 2 page k level f rd).h=⟨(bT ws page 3 k level f fs d).d.frame+((page%au (bT ws page 3 k level f fs d).lv:Nat):Int),0,(bT ws page 3 k level f fs d).d.r,(bT ws page 3 k level f fs d).d.w,(bT ws page 3 k level f fs d).d.x,(bT ws page 3 k level f fs d).d.af,(bT ws page 3 k level f fs d).d.ng,(bT ws page 3 k level f fs d).d.soft,(bT ws page 3 k level f fs d).lv⟩):=by
 intro k
 induction k with
 | zero=>intro level f rd fs d _ _;exact⟨⟨fun h=>absurd (show (2:Int)=0 from h) bB4,fun h=>by cases h.1⟩,fun h=>absurd (show (2:Int)=0 from h) bB4⟩
 | succ k ih=>
  intro level f rd fs d hlk hfs;have hl:level<4:=by omega
  rw[wlk,bT]
  cases hf:bK ws.length f with
  | false=>exact⟨⟨fun h=>absurd (show (1:Int)=0 from h) bB4,fun h=>by cases h.1⟩,fun h=>absurd (show (1:Int)=0 from h) bB4⟩
  | true=>
   simp only[cond_true];rw[show dSt ws 2 (jh f level page) level=gJ ws (jh f level page) level from rfl];by_cases h1:(gJ ws (jh f level page) level).kind=1
   ·have hl3:level<3:=sZ h1;rw[decide_eq_true h1,decide_eq_false (show ¬ level=3 by omega)];simp only[cond_true,bK1,bU3,cond_false];exact ih (level+1) _ (rd++[f]) (fs++[f]) _ bB3 (by simp[hfs])
   ·rw[decide_eq_false h1];simp only[cond_false,bL1,bZ5,cond_true];have hlv:(⟨fs++[f],gJ ws (jh f level page) level,true⟩:qQ).lv=level:=by simp[qQ.lv,hfs]
    rw[hlv];unfold ah1;obtain⟨hk3,_⟩:=gy (mD ws (jh f level page) level);by_cases h0:(gJ ws (jh f level page) level).kind=0
    ·rw[decide_eq_true h0];exact⟨⟨fun h=>absurd (show (2:Int)=0 from h) bB4,fun h=>absurd (h.2.1.symm.trans h0) bB4⟩,fun h=>absurd (show (2:Int)=0 from h) bB4⟩
    ·have h2:(gJ ws (jh f level page) level).kind=2:=by omega
     rw[decide_eq_false h0,cond_false]
     cases hh:bK ws.length ((gJ ws (jh f level page) level).frame+((page%au level:Nat):Int)) with
     | false=>exact⟨⟨fun h=>absurd (show (1:Int)=0 from h) bB4,fun h=>by cases h.2.2⟩,fun h=>absurd (show (1:Int)=0 from h) bB4⟩
     | true=>exact⟨⟨fun _=>⟨trivial,h2,by first | rfl | trivial⟩,fun _=>rfl⟩,fun _=>rfl⟩
def zo(ws:List Nat)(root:Int):Prop:=∀ q,q<4096→(aO ws root q 3).ok=true∧((aO ws root q 3).d.kind=2→(aO ws root q 3).lv=3∧bK ws.length (aO ws root q 3).d.frame=true∧q<64)
theorem AQ{ws:List Nat}{root:Int}(h:zo ws root)(hq:q<4096):decide ((jT ws 2 root q).f.kind=0)=decide ((aO ws root q 3).d.kind=2)∧((aO ws root q 3).d.kind=2→(jT ws 2 root q).h=⟨(aO ws root q 3).d.frame,0,(aO ws root q 3).d.r,(aO ws root q 3).d.w,(aO ws root q 3).d.x,(aO ws root q 3).d.af,(aO ws root q 3).d.ng,(aO ws root q 3).d.soft,3⟩):=by
 obtain⟨h1,h2⟩:=ah6 (ws:=ws) (page:=q) 4 0 root [] [] dG rfl rfl;rw[show bT ws q 3 4 0 root [] dG=aO ws root q 3 from rfl,show wlk ws 2 q 4 0 root []=jT ws 2 root q from rfl] at h1 h2;obtain⟨hok,hlf⟩:=h q hq
 have hiff:(jT ws 2 root q).f.kind=0↔(aO ws root q 3).d.kind=2:=by
  rw[h1];constructor
  ·exact fun h=>h.2.1
  ·intro hk;obtain⟨e1,e2,_⟩:=hlf hk;exact⟨hok,hk,by rw[e1,cov3,bV'];simpa using e2⟩
 refine⟨by rw[decide_eq_decide];exact hiff,fun hk=>?_⟩;have:=h2 (hiff.2 hk);obtain⟨e1,e2,_⟩:=hlf hk;rw[e1,cov3,bV'] at this;simpa using this
theorem Ju:∀ f:Nat,f<64→∀ n:Nat,n<3→zK 2 3 ((aZ (f:Int) (n:Int)).word 2 3)=aZ (f:Int) (n:Int):=by decide +kernel
theorem Rx:∀ n:Nat,n<16→zK 2 3 ((jK (n:Int)).word 2 3)=jK (n:Int):=by decide +kernel
theorem ah7:zK 2 3 (dG.word 2 3)=dG:=by decide +kernel
theorem aB0{own pG:Int}(hk:k<64)(h0:-1≤own)(h1:own≤4):zK 2 3 ((kW own pG k).word 2 3)=kW own pG k:=by
 unfold kW
 cases decide (own=0)&&decide (pG= -2) with
 | true=>exact Ju k hk 0 bB4
 | false=>
  cases decide (own=0) with
  | true=>exact Ju k hk 1 bB4
  | false=>
   cases decide (pG=0) with
   | true=>exact Ju k hk 2 bB4
   | false=>
    cases decide (own= -1) with
    | true=>exact Rx 1 bB4
    | false=>
     have:=Rx (1+own).toNat bB3;rw[show (((1+own).toNat:Nat):Int)=1+own by omega] at this;exact this
theorem PW(hL:vG H)(hl:(H.vu i).live=true)(hm:H.nY i=true):zo H.ws (H.vu i).root:=by
 unfold HyD.nY at hm;rw[hl] at hm;simp only[bK1,cond_false,bH6] at hm;obtain⟨_,hm⟩:=hm
 cases hz:dM H.ws (H.EE i) 4 [] (H.vu i).root 0 0 with
 | none=>rw[hz] at hm;cases hm
 | some seen=>
  intro q hq;obtain⟨h1,h2⟩:=Hf 4 0 [] _ 0 seen rfl hz rfl (qy _ _) q (by exact hq);rw[bK2] at h1 h2;refine⟨h1,fun hk=>?_⟩;obtain⟨h3,h4⟩:=h2 hk;unfold HyD.EE vg at h4;simp only[bH6,decide_eq_true_eq] at h4;obtain⟨a,b,_⟩:=h4;have hf:=jO h1;have hd:=mD H.ws ((aO H.ws (H.vu i).root q 3).place q) (aO H.ws (H.vu i).root q 3).lv;rw[←hf.d] at hd;have h0:=((gy hd).2.2.2 hk).2.1;have hpl:H.aG.pages.length=H.ws.length/8:=by simp[HyD.aG]
  rw[hpl] at b;refine⟨h3,?_,by omega⟩;unfold bK;simp only[bH6,decide_eq_true_eq];omega
theorem Us(h:512≤q)(hq:q<4096):0<jh 0 0 q∧jh 0 0 q<8:=by
 have e:jh 0 0 q=(q/512)%8:=by
  show 0*8+mg 0 q=_;rw[bR6,bK2];unfold mg;rw[bP6];rfl
 rw[e];omega
theorem Ut:∀ q,q<512→jh 0 0 q=0∧(64≤q→8<jh 1 1 q∧jh 1 1 q<16):=by decide +kernel
theorem Uu(hL:vG H)(hw:allB 88 H.vK=true):zo H.ws 0:=by
 have rY:=bP hL.m;have a01:=hL.f
 have hW:∀ p,p<88→H.ws.getD p 0=iQ (dm H.aG.pages) 64 p:=fun k hk=>by
  have:=aJ.1 hw k hk;unfold HyD.vK at this;rw[decide_eq_true_eq] at this;rw[this,nX bB3 _ 64 (bI9 _)];simp only[dP];rw[bH8,bJ',bO' bB3];rfl
 have hn:128≤H.ws.length:=by omega
 have f0:bK H.ws.length 0=true:=Cf (f:=0) hn bB4;have f1:bK H.ws.length 1=true:=Cf (f:=1) hn bB4;have f2:bK H.ws.length 2=true:=Cf (f:=2) hn bB4
 have e0:gJ H.ws 0 0=jV 1:=by
  unfold gJ;rw[hW 0 bB4];exact qL (f:=1) bB4 bB4
 have e1:gJ H.ws 8 1=jV 2:=by
  unfold gJ;rw[hW 8 bB4];exact qL (f:=2) bB4 bB4
 intro q hq;by_cases a06:512≤q
 ·obtain⟨h1,h2⟩:=Us a06 hq
  have hz:gJ H.ws (jh 0 0 q) 0=dG:=by
   unfold gJ;rw[hW _ bB3];unfold iQ;rw[show decide ((64:Nat)=0)=false from rfl,decide_eq_false (show ¬ jh 0 0 q=0 by omega),decide_eq_false (show ¬ jh 0 0 q=8 by omega),decide_eq_false (show ¬ (16≤jh 0 0 q∧jh 0 0 q<24∧8*(jh 0 0 q-16)<64) by omega),decide_eq_false (show ¬ (24≤jh 0 0 q∧jh 0 0 q<24+64) by omega)];exact wH bB4
  have FX:aO H.ws 0 q 3=⟨[0],dG,true⟩:=by
   unfold aO;rw[bT,f0,cond_true,hz];rfl
  rw[FX];exact⟨rfl,fun h=>absurd (show (0:Int)=2 from h) bB4⟩
 obtain⟨p0,pm⟩:=Ut q bB3;by_cases h64:64≤q
 ·obtain⟨h1,h2⟩:=pm h64
  have hz:gJ H.ws (jh 1 1 q) 1=dG:=by
   unfold gJ;rw[hW _ bB3];unfold iQ;rw[show decide ((64:Nat)=0)=false from rfl,decide_eq_false (show ¬ jh 1 1 q=0 by omega),decide_eq_false (show ¬ jh 1 1 q=8 by omega),decide_eq_false (show ¬ (16≤jh 1 1 q∧jh 1 1 q<24∧8*(jh 1 1 q-16)<64) by omega),decide_eq_false (show ¬ (24≤jh 1 1 q∧jh 1 1 q<24+64) by omega)];exact wH bB4
  have FX:aO H.ws 0 q 3=⟨[0,1],dG,true⟩:=by
   unfold aO;rw[bT,f0,cond_true,p0,e0];simp only[jV,decide_true,bK1,bL3,show decide (0=3)=false from rfl,cond_false];rw[bT,f1,cond_true,hz];rfl
  rw[FX];exact⟨rfl,fun h=>absurd (show (0:Int)=2 from h) bB4⟩
 have hq6:q<64:=by omega
 have p1:=OM q hq6;have p2:=Je q hq6;have p3:=Au q hq6;have f3:bK H.ws.length ((3+q/8:Nat):Int)=true:=Cf hn bB3
 have e2:gJ H.ws (16+q/8) 2=jV ((3+q/8:Nat):Int):=by
  unfold gJ;rw[hW _ bB3];unfold iQ;rw[show decide ((64:Nat)=0)=false from rfl,decide_eq_false (show ¬ 16+q/8=0 by omega),decide_eq_false (show ¬ 16+q/8=8 by omega),decide_eq_true (show 16≤16+q/8∧16+q/8<24∧8*(16+q/8-16)<64 by omega)];simp only[cond_true,cond_false];rw[show 3+(16+q/8-16)=3+q/8 by omega];exact qL bB3 bB4
 have e3:gJ H.ws (24+q) 3=dm H.aG.pages q:=by
  unfold gJ;rw[hW _ bB3];unfold iQ;rw[show decide ((64:Nat)=0)=false from rfl,decide_eq_false (show ¬ 24+q=0 by omega),decide_eq_false (show ¬ 24+q=8 by omega),decide_eq_false (show ¬ (16≤24+q∧24+q<24∧8*(24+q-16)<64) by omega),decide_eq_true (show 24≤24+q∧24+q<24+64 by omega)];simp only[cond_true,cond_false];rw[show 24+q-24=q by omega];unfold dm
  cases hp:decide (q<H.aG.pages.length) with
  | false=>exact ah7
  | true=>
   have hlt:=of_decide_eq_true hp;have hpl:H.aG.pages.length=H.ws.length/8:=by simp[HyD.aG]
   have ho:=(zh H q).1;have hg:H.aG.pages.getD q default=H.mG q:=(qC H).1 q bB3;rw[cond_true,hg];exact aB0 hq6 ho.1 ho.2
 have FX:aO H.ws 0 q 3=⟨[0,1,2,((3+q/8:Nat):Int)],dm H.aG.pages q,true⟩:=by
  unfold aO;rw[bT,f0,cond_true,p0,e0];simp only[jV,decide_true,bK1,bL3,show decide (0=3)=false from rfl,cond_false];rw[bT,f1,cond_true,p1,e1];simp only[jV,decide_true,bK1,bL3,show decide (0+1=3)=false from rfl,cond_false];rw[bT,f2,cond_true,p2,e2];simp only[jV,decide_true,bK1,bL3,show decide (0+1+1=3)=false from rfl,cond_false];rw[bT,f3,cond_true,p3,e3];simp
 rw[FX];refine⟨rfl,fun hk=>⟨rfl,?_,hq6⟩⟩;dsimp only at hk ⊢;unfold dm at hk ⊢
 cases hp:decide (q<H.aG.pages.length) with
 | false=>rw[hp] at hk;exact absurd (show (0:Int)=2 from hk) bB4
 | true=>
  rw[hp,cond_true] at hk;rw[cond_true];have hlt:=of_decide_eq_true hp;have hpl:H.aG.pages.length=H.ws.length/8:=by simp[HyD.aG]
  have hfr:(kW (H.aG.pages.getD q default).own (H.aG.pages.getD q default).wit q).frame=(q:Int):=by
   revert hk;unfold kW
   cases decide ((H.aG.pages.getD q default).own=0)&&decide ((H.aG.pages.getD q default).wit= -2) with
   | true=>intro _;rfl
   | false=>
    cases decide ((H.aG.pages.getD q default).own=0) with
    | true=>intro _;rfl
    | false=>
     cases decide ((H.aG.pages.getD q default).wit=0) with
     | true=>intro _;rfl
     | false=>
      cases decide ((H.aG.pages.getD q default).own= -1) with
      | true=>intro h;exact absurd (show (0:Int)=2 from h) bB4
      | false=>intro h;exact absurd (show (0:Int)=2 from h) bB4
  rw[hfr];unfold bK;simp only[bH6,decide_eq_true_eq];omega
theorem oW{root:Int}(h:zo H.ws root)(hq:q<4096)(p:Int)(hp:p=(q:Int)):H.iO root p=((aO H.ws root q 3).d,decide ((aO H.ws root q 3).d.kind=2)):=by
 subst hp;obtain⟨hok,hlf⟩:=h q hq;unfold HyD.iO;rw[bN1];have hg:iE H.ws root q=⟨(aO H.ws root q 3).d,(aO H.ws root q 3).lv,0⟩:=by unfold iE;dsimp only;rw[hok];rfl
 rw[hg];dsimp only
 cases hk:decide ((aO H.ws root q 3).d.kind=2) with
 | false=>simp
 | true=>rw[(hlf (of_decide_eq_true hk)).1];simp
theorem aB1{root:Int}(h:zo H.ws root)(hq:q<4096)(e:fF):wkM (jT H.ws 2 root q) e=(decide ((aO H.ws root q 3).d.kind=2)&&decide ((aO H.ws root q 3).d.frame=e.frame)&&(decide ((aO H.ws root q 3).d.r=e.r)&&decide ((aO H.ws root q 3).d.w=e.w)&&decide ((aO H.ws root q 3).d.x=e.x)&&decide ((aO H.ws root q 3).d.af=e.af)&&decide ((aO H.ws root q 3).d.ng=e.ng)&&decide (0=e.soft))):=by
 obtain⟨h1,h2⟩:=AQ h hq;unfold wkM;rw[h1]
 cases hk:decide ((aO H.ws root q 3).d.kind=2) with
 | false=>rfl
 | true=>rw[h2 (of_decide_eq_true hk)]
theorem Yr{root:Int}(h:zo H.ws root)(hq:q<4096)(e:fF):wkW (jT H.ws 2 root q) e=(decide ((aO H.ws root q 3).d.kind=2)&&decide ((aO H.ws root q 3).d.frame=e.frame)&&((!e.r||(aO H.ws root q 3).d.r)&&(!e.w||(aO H.ws root q 3).d.w)&&(!e.x||(aO H.ws root q 3).d.x))):=by
 obtain⟨h1,h2⟩:=AQ h hq;unfold wkW;rw[h1]
 cases hk:decide ((aO H.ws root q 3).d.kind=2) with
 | false=>simp
 | true=>
  rw[h2 (of_decide_eq_true hk)];dsimp only;rw[Bool.or_comm (!e.r),Bool.or_comm (!e.w),Bool.or_comm (!e.x)];simp only[bP3]
theorem MJ{root:Int}(h:zo H.ws root)(hq:q<4096)(e:fF):Zr (jT H.ws 2 root q) e=(decide ((aO H.ws root q 3).d.kind=2)&&decide ((aO H.ws root q 3).d.frame=e.frame)&&(aO H.ws root q 3).d.r):=by
 obtain⟨h1,h2⟩:=AQ h hq;unfold Zr;rw[h1]
 cases hk:decide ((aO H.ws root q 3).d.kind=2) with
 | false=>simp
 | true=>rw[h2 (of_decide_eq_true hk)]
theorem aB2{root:Int}(h:zo H.ws root)(e:fF):(((dL H.ws root 0 4096).getD []).any fun m=>(H.iO root m.mid).2&&decide (m.eu=e.frame)&&(H.iO root m.mid).1.r)=(List.range 64).any fun m=>Zr (jT H.ws 2 root m) e:=by
 obtain⟨xs,e1,hx⟩:=Rt (q:=0) (ws:=H.ws) (root:=root) 4096 fun j hj=>by rw[bK2];exact (h j hj).1
 rw[e1];rw[bI2,bM8,bM8];constructor
 ·rintro⟨m,hm,h2⟩;obtain⟨k,hk,h3⟩:=Dp e1 hm;rw[bK2] at h3;obtain⟨h4,h5,h6,h7⟩:=vH h3;obtain⟨_,hlf⟩:=h k hk;obtain⟨l1,l2,l3⟩:=hlf h5;rw[oW h hk m.mid h6] at h2;simp only[bH6,decide_eq_true_eq] at h2;rw[l1,cov3,bV'] at h7;refine⟨k,bJ1.2 l3,?_⟩;rw[MJ h hk,decide_eq_true h5,h2.2];simp only[bI6,bM'];refine decide_eq_true ?_;rw[←h2.1.2,h7];simp
 ·rintro⟨k,hk,h2⟩;have hk6:=bJ1.1 hk;have hk4:k<4096:=by omega
  rw[MJ h hk4] at h2;simp only[bH6,decide_eq_true_eq] at h2;obtain⟨⟨h3,h4⟩,h5⟩:=h2;have hm:=hx k hk4 (by rw[bK2];exact h3);rw[bK2] at hm;obtain⟨l1,l2,l3⟩:=(h k hk4).2 h3;rw[l1,cov3,bV'] at hm;refine⟨_,hm,?_⟩;rw[oW h hk4 _ rfl];simp[h3,h4,h5]
def HyD.Uw(H:HyD)(v:Int)(k:Nat):Bool:=(H.vu k).live&&decide ((H.vu k).aN=v)
theorem PX{v:Int}(h0:v≠0):∀ n,(∀ k,k<n→H.Uw v k=false)→H.kS v n= -1:=by
 intro n
 induction n with
 | zero=>intro _;unfold HyD.kS;rw[decide_eq_false h0];rfl
 | succ n ih=>
  intro h;have:=h n bB3;unfold HyD.Uw at this;rw[HyD.kS,bP3,this,bU8];exact ih fun k hk=>h k bB3
theorem Yt{v:Int}(h0:0<v)(hi:H.Uw v i=true):∀ n,i<n→(∀ k,k<n→k≠i→H.Uw v k=false)→H.kS v n=(H.vu i).root:=by
 intro n
 induction n with
 | zero=>intro h;omega
 | succ n ih=>
  intro hin h;rw[HyD.kS,bP3];by_cases e:n=i
  ·subst e;unfold HyD.Uw at hi;rw[hi,decide_eq_true h0];rfl
  ·have:=h n bB3 e;unfold HyD.Uw at this;rw[this,bU8];exact ih bB3 fun k hk=>h k bB3
theorem PY:∀ n,H.kS 0 n=0:=by
 intro n
 induction n with
 | zero=>rfl
 | succ n ih=>rw[HyD.kS,bP3,show decide ((0:Int)<0)=false from rfl,bR7];exact ih
theorem Yu(hL:vG H)(hP:PtD.Ok H.aG)(hw:allB 88 H.vK=true)(hfr:∀ i,i<4→H.NP i=true)(hm:∀ i,i<4→H.nY i=true){v:Int}(hv:0≤v):(H.EF v=none∧H.kS v 4<0)∨∃ r,H.EF v=some r∧H.kS v 4=r∧0≤r∧zo H.ws r:=by
 by_cases h0:v=0
 ·subst h0;exact .inr ⟨0,rfl,PY 4,Int.le_refl _,Uu hL hw⟩
 have hat:∀ k,k<4→(fun o:kJ=>o.live&&decide (o.aN=v)) (H.vs.getD k default)=H.Uw v k:=fun k hk=>rfl;unfold HyD.EF;rw[decide_eq_false h0,cond_false]
 cases hx:PtD.idx (fun o:kJ=>o.live&&decide (o.aN=v)) H.vs 0 with
 | none=>
  refine .inl ⟨rfl,?_⟩
  rw[PX h0 4 fun k hk=>by
   have:=PtD.yF hx k (by rw[hL.v];exact hk)
   exact this]
  decide
 | some i=>
  obtain⟨_,h2,h3,h4⟩:=PtD.pV hx;simp only[bW1] at h2 h3 h4;rw[hL.v] at h2;have h3':H.Uw v i=true:=h3;have hl:(H.vu i).live=true:=by unfold HyD.Uw at h3';simp only[bH6] at h3';exact h3'.1
  have hvm:(H.vu i).aN=v:=by unfold HyD.Uw at h3';simp only[bH6,decide_eq_true_eq] at h3';exact h3'.2
  have huq:∀ k,k<4→k≠i→H.Uw v k=false:=fun k hk hne=>by
   by_cases hki:k<i
   ·exact h4 k hki
   ·cases hc:H.Uw v k with
    | false=>rfl
    | true=>
     exfalso;have hlk:(H.vu k).live=true∧(H.vu k).aN=v:=by unfold HyD.Uw at hc;simpa only [bH6,decide_eq_true_eq] using hc
     have h5:=hfr k hk;unfold HyD.NP at h5;rw[hlk.1] at h5;simp only[bK1,cond_false,bH6] at h5;have h6:=aJ.1 h5.2.2.2.1 i bB3;unfold HyD.oM at h6;rw[hl,hvm,hlk.2] at h6;simp at h6
  obtain⟨h5,_,hch⟩:=zk (hfr i h2) hl;refine .inr ⟨(H.vu i).root,rfl,Yt bB3 h3' 4 h2 huq,?_,PW hL hl (hm i h2)⟩;have:=iJ (hch 0 bB4).1;exact this.1
theorem Ho(hL:vG H)(hP:PtD.Ok H.aG)(hw:allB 88 H.vK=true)(hfr:∀ i,i<4→H.NP i=true)(hm:∀ i,i<4→H.nY i=true)(e:fF)(he:e.nums=true):H.qV e=H.Yo e:=by
 unfold fF.nums at he;simp only[bH6,PtD.dD,decide_eq_true_eq] at he;obtain⟨p,hp⟩:∃ p:Nat,e.page=(p:Int):=⟨e.page.toNat,by omega⟩
 obtain⟨m,hmd⟩:∃ p:Nat,e.mid=(p:Int):=⟨e.mid.toNat,by omega⟩
 unfold HyD.qV HyD.Yo;rcases Yu hL hP hw hfr hm (v:=e.aN) bB3 with⟨h1,h2⟩ | ⟨r,h1,h2,h3,h4⟩
 ·rw[h1,decide_eq_true h2];rfl
 ·rw[h1,h2,decide_eq_false (show ¬ r<0 by omega),cond_false];dsimp only;rw[oW h4 (q:=p) bB3 e.page hp,oW h4 (q:=m) bB3 e.mid hmd,aB2 h4 e,hp,hmd,bN1,bN1,aB1 h4 bB3,Yr h4 bB3]
theorem aB3:H.ah4=H.ok:=by
 unfold HyD.ah4 HyD.ok
 cases hok:H.iq with
 | false=>rfl
 | true=>
  have hL:=jq hok;rw[bI6,bI6,←PtD.av1,host_eq hL];unfold HyD.quiet;rw[bI2];simp only[bH6]
  have aq0:∀ c,dQ (H.cu c).es (H.cu c).ds=true→∀ e∈(H.cu c).es,e.nums=true:=fun c h e he=>by
   obtain⟨j,hj,rfl⟩:=bM4.1 he;unfold dQ at h;simp only[bH6] at h;have h3:=bH'.1 h.1.1.1 j (bJ1.2 hj);unfold Aw fF.may at h3;simp only[bH6] at h3;have:=h3.1.1;rw[bH8,bH9 hj] at this;exact this
  have hcp:∀ c,((∀ i,i<4→H.NP i=true)∧(∀ i,i<4→H.nY i=true)∧PtD.Ok H.aG∧allB 88 H.vK=true)→(H.cpR c=true↔(H.cpQ c=true∧H.sound c=true)):=fun c ⟨h1,h2,h3,h4⟩=>by
   unfold HyD.cpR HyD.cpQ HyD.sound
   have hall:dQ (H.cu c).es (H.cu c).ds=true→(H.cu c).es.all H.Yo=(H.cu c).es.all H.qV:=fun ht=>by
    rw[bI2,bH',bH'];constructor
    ·intro h5 e he;rw[Ho hL h3 h4 h1 h2 e (aq0 c ht e he)];exact h5 e he
    ·intro h5 e he;rw[←Ho hL h3 h4 h1 h2 e (aq0 c ht e he)];exact h5 e he
   cases ht:dQ (H.cu c).es (H.cu c).ds with
   | false=>simp
   | true=>
    rw[hall ht];cases decide ((H.cu c).vm=0)<;>cases decide (H.rs.getD c default=jA)<;>simp
  constructor
  ·rintro⟨h1,h2,h3,h4,h5⟩;have hP:=PtD.sQ.1 h2;have hb:=fun i hi=>(Rw hL hP (i:=i) hi).1 ⟨aJ.1 h1 i hi,aJ.1 h4 i hi⟩;have hc:=fun c hc=>(hcp c ⟨aJ.1 h1,fun i hi=>(hb i hi).2,hP,h3⟩).1 (aJ.1 h5 c hc);exact⟨⟨⟨⟨h2,h3⟩,aJ.2 fun c h=>(hc c h).1,aJ.2 fun i hi=>(hb i hi).1⟩,aJ.2 fun i hi=>(hb i hi).2⟩,aJ.2 fun c h=>(hc c h).2⟩
  ·rintro⟨⟨⟨⟨h2,h3⟩,h6,h7⟩,h8⟩,h9⟩;have hP:=PtD.sQ.1 h2;have hb:=fun i hi=>(Rw hL hP (i:=i) hi).2 ⟨aJ.1 h7 i hi,aJ.1 h8 i hi⟩;have hc:=fun c hc=>(hcp c ⟨fun i hi=>(hb i hi).1,aJ.1 h8,hP,h3⟩).2 ⟨aJ.1 h6 c hc,aJ.1 h9 c hc⟩;exact⟨aJ.2 fun i hi=>(hb i hi).1,h2,h3,aJ.2 fun i hi=>(hb i hi).2,aJ.2 hc⟩
section
theorem MK{es:List fF}{ds:List jy}:dQ es ds=true↔(∀ e∈es,e.may=true)∧es.Nodup∧ds.all jy.may=true∧es.length≤8∧ds.length≤8:=by
 constructor
 ·intro h;have hm:=pI h;simp only[dQ,bH6,decide_eq_true_eq] at h;refine⟨hm.1,?_,h.1.1.2,hm.2⟩;rw[List.nodup_iff_pairwise_ne,bV7];intro i j hi hj hij;have h1:=bH'.1 h.1.1.1 j (bJ1.2 hj);simp only[Aw,bH6,bJ6,bS8] at h1;have h2:=h1.2 es[i] (bQ7.2 ⟨i,by omega,rfl⟩);rw[bH8,bH9 hj] at h2;simpa using h2
 ·rintro⟨h1,h2,h3,h4,h5⟩;simp only[dQ,bH6,decide_eq_true_eq];refine⟨⟨⟨bH'.2 fun j hj=>?_,h3⟩,h4⟩,h5⟩;rw[bJ1] at hj;simp only[Aw,bH6,bJ6,bS8];refine⟨h1 _ (getD_mem hj),fun x hx=>?_⟩;obtain⟨i,hi,rfl⟩:=bQ7.1 hx;rw[List.nodup_iff_pairwise_ne,bV7] at h2;have:=h2 i j bB3 hj bB3;rw[bH8,bH9 hj];simpa using this
theorem Ux{es:List fF}{ds:List jy}(due:List jy)(h:dQ es ds=true):dQ (mJ es due) ds=true:=by
 obtain⟨h1,h2,h3,h4,h5⟩:=MK.1 h;exact MK.2 ⟨fun e he=>h1 e (bN'.1 he).1,h2.filter _,h3,bP8 (bS4 ..) h4,h5⟩
theorem Uy(ws:List Nat):dP ws.length (fun p=>ws.getD p 0)=ws:=by
 apply bQ8;intro i;simp only[dP,bJ'];by_cases hl:i<ws.length
 ·simp[bO' hl,bH8,bH9 hl]
 ·simp[bO2 (show (List.range ws.length).length≤i by simp;omega),bO2 (show ws.length≤i by omega)]
theorem Uz{ws:List Nat}{p v:Nat}:(ws.set p v).getD q 0=bif decide (p=q∧q<ws.length) then v else ws.getD q 0:=by
 rw[bH8,bH8,bS9];by_cases h:p=q
 ·subst h;by_cases hl:p<ws.length
  ·simp[hl]
  ·simp[hl,bO2 (show ws.length≤p by omega)]
 ·simp[h]
theorem AU{ws:List Nat}{p v:Nat}(h:p≠q):(ws.set p v).getD q 0=ws.getD q 0:=by
 rw[Uz,decide_eq_false (fun e=>h e.1)];rfl
structure HostT(ws:List Nat):Prop where
 n:128≤ws.length
 a:ws.getD 0 0=iK 1
 b:ws.getD 8 0=iK 2
 c:∀ j,j<8→ws.getD (16+j) 0=iK (3+j)
namespace HostT
variable {ws : List Nat} {k : Nat}
theorem way(h:HostT ws)(hk:k<64):aO ws 0 k 3=⟨[0,1,2,((3+k/8:Nat):Int)],gJ ws (24+k) 3,true⟩:=by
 have:=ay0 (g:=fun p=>ws.getD p 0) h.n hk h.a h.b (h.c _ bB3);rw[Uy] at this;exact this
theorem get(h:HostT ws)(hk:k<64):iE ws 0 k=⟨gJ ws (24+k) 3,3,0⟩:=by
 unfold iE;rw[h.way hk];rfl
theorem put(h:HostT ws)(hk:k<64)(d:DsD):fC ws 0 k 3 d=⟨lK ws (24+k) 3 d,[],0⟩:=by
 unfold fC;rw[h.way hk];simp only[bK1,cond_false,qQ.lv,bL6,bS0,qQ.place];rw[show (0+1+1+1+1-1:Nat)=3 from rfl];simp only[decide_true,bK1,cond_false];rw[show ([0,1,2,((3+k/8:Nat):Int)]:List Int).getD 3 0=((3+k/8:Nat):Int) from rfl,Au k hk]
theorem set(h:HostT ws){p:Nat}(hp:24≤p)(v:Nat):HostT (ws.set p v):=
 ⟨by rw[bM1];exact h.n,by rw[AU bB3];exact h.a,by rw[AU bB3];exact h.b,fun j hj=>by rw[AU bB3];exact h.c j hj⟩
theorem two(h:HostT ws)(hk:k<64)(d:DsD):fC (fC ws 0 k 3 dG).ws 0 k 3 d=⟨lK ws (24+k) 3 d,[],0⟩:=by
 rw[h.put hk];have h2:HostT (lK ws (24+k) 3 dG):=h.set bB3 _;dsimp only;rw[h2.put hk];unfold lK;rw[List.set_set]
theorem of(hL:vG H)(hw:Ey H.ws H.aG.pages=true):HostT H.ws:=by
 have hf:=hL.f;have rY:=bP hL.m;rw[host_eq hL] at hw
 have hW:∀ p,p<88→H.ws.getD p 0=iQ (dm H.aG.pages) 64 p:=fun k hk=>by
  have:=aJ.1 hw k hk;unfold HyD.vK at this;rw[decide_eq_true_eq] at this;rw[this,nX bB3 _ 64 (bI9 _)];exact Ld _ bB3
 have he:=Jf (dd:=dm H.aG.pages) (k:=64) bB4;refine⟨by omega,by rw[hW 0 bB4];exact he.1,by rw[hW 8 bB4];exact he.2,fun j hj=>?_⟩;rw[hW _ bB3,yS bB4 hj,decide_eq_true (show 8*j<64 by omega)];rfl
end HostT
namespace HyD
def fgt(H:HyD)(aN mid:Int):HyD:={ H with cs:=H.cs.map fun c=>{ c with es:=mJ c.es (tK aN mid) } }
def chg(H:HyD)(root aN:Int)(mid:Nat)(d:DsD):HyD:={ H.fgt aN mid with ws:=(fC (fC H.ws root mid 3 dG).ws root mid 3 d).ws }
def hst(H:HyD)(f:Nat)(d:DsD):HyD:={ H.fgt 0 f with ws:=lK H.ws (24+f) 3 d }
structure lM(H:HyD):Prop where
 m:fJ H.ws.length=true
 Df:lW H.ws
 t:HostT H.ws
 c1:1≤H.cs.length
 c3:H.cs.length≤3
 r:H.rs.length=H.cs.length
 v:H.vs.length=4
 tl:∀ c∈H.cs,dQ c.es c.ds=true
variable {H : HyD}
theorem ah8(h:HostT H.ws){f:Nat}(hf:f<64)(d:DsD):H.chg 0 0 f d=H.hst f d:=by
 unfold chg hst;rw[h.two hf]
theorem lM.cs(h:lM H){cs:List JU}(hl:cs.length=H.cs.length)(ht:∀ c∈cs,dQ c.es c.ds=true):lM { H with cs:=cs }:=
 ⟨h.m,h.Df,h.t,by rw[hl];exact h.c1,by rw[hl];exact h.c3,by rw[hl];exact h.r,h.v,ht⟩
theorem lM.fgt(h:lM H)(aN mid:Int):lM (H.fgt aN mid):=by
 refine h.cs (bH7 ..) fun c hc=>?_;obtain⟨x,hx,rfl⟩:=bI7.1 hc;exact Ux _ (h.tl x hx)
theorem lM.ws(h:lM H){ws:List Nat}(hl:ws.length=H.ws.length)(hw:lW ws)(ht:HostT ws):lM { H with ws:=ws }:=
 ⟨by rw[hl];exact h.m,hw,ht,h.c1,h.c3,h.r,h.v,h.tl⟩
theorem lM.hst(h:lM H){f:Nat}(d:DsD):lM (H.hst f d):=(h.fgt 0 f).ws (kD ..) (h.Df.lK _ _ _) (h.t.set bB3 _)
end HyD
end
section
def kJ.bare(v:kJ):kJ:={ v with vs:=v.vs.map fun c=>⟨jA,c.on⟩ }
def JU.bare(c:JU):JU:={ c with r:=jA }
namespace HyD
def bare(H:HyD):HyD:=⟨H.ws,H.cs.map JU.bare,H.vs.map kJ.bare,H.rs.map fun _=>jA⟩
variable (H : HyD)
variable {H}
end HyD
end
section
attribute [local irreducible] Hy St Ops DH dH jg iP gQ DS gX lJ
theorem aq1(xs:List Nat):∀ c∈xs.map uV,c.length=1∧c.all (·.oneCell')=true:=by
 intro c hc;obtain⟨x,_,rfl⟩:=bI7.1 hc;exact⟨rfl,rfl⟩
theorem PZ(n cap:Nat)(hn:n<4611686018427387904)(q:Option Addr)(w:World):Fn Tryz.prog 193 [.agg #[.slice q n cap]].toArray w [] (fun u _=>u=.int .i64 ((n/8:Nat):Int)):=by
 refine enter Tryz.func193 ?_;refine run ?_;intro B;refine run ?_;refine jI bB8 (uM rfl rfl n 8 bB8 bB8 bB4 bB3) ?_;refine run ?_;exact fin1 rfl
theorem ah9(n cap:Nat)(hn:n<4611686018427387904)(q:Option Addr)(f:Int)(B:Nat)(w:World)(hB:w.cell? ⟨B,0,none⟩=some (.slice q n cap)):Fn Tryz.prog 340 ([]++[Value.int .i64 f]++[Value.pointer (some ⟨B,0,none⟩)]).toArray w [] (fun u _=>u=.bool (!bK n f)):=by
 have hr:w.rangeAt B 0 [.slice q n cap]:=fun j v hj=>by
  cases j with
  | zero=>simp at hj;subst hj;exact hB
  | succ j=>simp at hj
 refine enter Tryz.func340 ?_;refine aC ?_;refine bG (fun _ wc hG=>PZ n cap hn q wc) ?_;refine aC ?_;refine fin1 ?_;unfold bK;rw[bW3]
 congr 1
 rw[←decide_not,←decide_not]
 congr 1<;>(rw[bI2,decide_eq_true_eq,decide_eq_true_eq];omega)
theorem aB4(n cap:Nat)(hn:n<4611686018427387904)(q:Option Addr)(xs:List Int)(h:aA w v 1 (xs.map bY)):Fn Tryz.prog 308 [.agg #[.slice q n cap],v].toArray w [] (fun u _=>u=.bool (xs.all (bK n))):=by
 refine enter Tryz.func308 ?_;refine run ?_;intro B;refine run ?_;refine az (fun wc hG=>qA (us:=[.pointer (some ⟨B,0,none⟩)]) (fun x=>!bK n x) xs _ (h.good hG) (fun x _ w' ha=>ah9 n cap hn q x B w' ?_)) ?_
 ·obtain⟨hp,hg⟩:=ha;exact hg.cell bG1 bB5
 refine run ?_;refine fin1 ?_;rw[←bQ1,bQ']
theorem aB5(n cap:Nat)(hn:n<4611686018427387904)(q:Option Addr)(xs:List Int)(h:aA w v 1 (xs.map bY)):Fn Tryz.prog 249 [.agg #[.slice q n cap],v].toArray w [] (fun u _=>u=.int .i64 (bif !fJ n then 1 else bif xs.all (bK n) then 0 else 2)):=by
 have h':=h;obtain⟨qv,cv,rfl,_,_⟩:=h.opened;refine enter Tryz.func249 ?_;refine run ?_;intro B;refine run ?_;refine az (fun wc hG=>Xk n cap hn q wc) ?_;refine run ?_;refine ah _ rfl (fun hc=>?_) (fun hc=>?_)
 ·refine run ?_;refine fin1 ?_;rw[hc];rfl
 ·refine run ?_;refine az (fun wc hG=>aB4 n cap hn q xs (h'.good hG)) ?_;refine run ?_;rw[hc,cond_false];refine ah _ rfl (fun hc2=>?_) (fun hc2=>?_)
  ·refine run ?_;refine fin1 ?_;rw[show xs.all (bK n)=false by simpa using hc2];rfl
  ·refine run ?_;refine fin1 ?_;rw[show xs.all (bK n)=true by simpa using hc2];rfl
theorem aO2(n cap f:Nat)(hf:f*8+8≤n)(hc:n≤cap)(hn:n<1000000)(b o:Nat)(w:World):Fn Tryz.prog 251 [.agg #[.slice (some ⟨b,o,none⟩) n cap],.int .i64 (f:Int)].toArray w [] (fun u _=>u=.slice (some ⟨b,o+f*8,none⟩) 8 (cap-f*8)):=by
 refine enter Tryz.func251 ?_;refine run ?_;intro B;refine run ?_;refine jI bB8 (wu aB rfl rfl rfl bB8 bB3 bB3 bB3 bB3 (o':=o+f*8) bB3 (m':=8) bB3 (c':=cap-f*8) bB3) ?_;refine run ?_;exact fin1 rfl
theorem UA(ws:List Nat)(hl:ws.length<1000000)(hm:aA w v 1 (ws.map uV)):Fn Tryz.prog 250 [.agg #[v]].toArray w [] (fun u hn=>∃ v' h',u=.agg #[v']∧Own 53 1 v' h' (ws.map uV)∧aI h' hn):=by
 obtain⟨q,cap,rfl,_⟩:=id hm.opened;refine enter Tryz.func250 ?_;refine run ?_;intro B;refine run ?_;intro X;refine bH (fun wc hG=>oP _ (ws.map uV) (hm.good hG) (aq1 ws) (by simpa using hl)) ?_;intro u hn hO;obtain⟨q2,c2,e2⟩:=hO.opened;subst e2;refine aS (⟨X,#[.slice none 0 0],270⟩::⟨B,#[.slice q ws.length cap],24⟩::hn) ak ?_;refine run ?_;refine dR ?_;exact⟨_,hn,rfl,hO,by (exact ak)⟩
def ou(ws:List Nat)(l:List Int):List Nat:=l.foldl kQ ws
theorem xO(l:List Int):∀ ws:List Nat,(ou ws l).length=ws.length:=by
 induction l with
 | nil=>intro ws;rfl
 | cons f l ih=>intro ws;rw[ou,bY0,←ou,ih,jo]
theorem ML(ws:List Nat)(l:List Int)(f:Int):ou ws (l++[f])=kQ (ou ws l) f:=by
 unfold ou;rw[List.foldl_append];rfl
theorem ah'(ws:List Nat){vl:Value}(h:aA w v 1 (ws.map uV))(l:List Int)(hv:aA w vl 1 (l.map bY))(hmm:fJ ws.length=true)(hl:l.all (bK ws.length)=true):
  Fn Tryz.prog 167 [.agg #[v],vl].toArray w [] (fun u hn=>aw' ⟨ou ws l,[],0⟩ u hn):=by
 have rY:=bP hmm;have h':=h;obtain⟨q,cap,rfl,_,hcap⟩:=h.opened;obtain⟨q2,cap2,rfl,hne2,_⟩:=hv.opened;refine enter Tryz.func167 ?_;refine run ?_;intro Mb Rb;refine run ?_;refine az (fun wc hG=>aB5 ws.length cap bB3 q l (hv.good hG)) ?_;rw[hmm,hl];refine aP ?_;refine bH (fun wc hG=>UA ws bB3 (h'.good hG)) ?_;rintro u hn ⟨v1,h1,rfl,hO,hle⟩;obtain⟨g,cap1,cur,rfl,rfl,hrow⟩:=hO.row (n:=ws.length) bB5 bB3;refine aS [⟨Rb,#[.slice none 0 0],24⟩,⟨g,cur,53⟩] (cnt1 hle) ?_;refine run ?_;intro Xb;refine run ?_;refine aK (σ:=Nat×Array Value) (fun s=>[(21,.int .i64 (s.1:Int))]) (fun s=>[⟨Xb,#[.slice (some ⟨g,0,none⟩) ws.length cap1],270⟩,⟨Rb,#[.slice none 0 0],24⟩,⟨g,s.2,53⟩]) (fun s=>s.1≤l.length∧Own 53 1 (.slice (some ⟨g,0,none⟩) ws.length cap1) [⟨g,s.2,53⟩] ((ou ws (l.take s.1)).map uV)) (fun s=>l.length-s.1) (0,cur) ⟨bI1 _,hO⟩ ?_;rintro⟨k,cu⟩ m hm ⟨hk,hU⟩;dsimp only at hm hk hU ⊢;have hcap1:=hrow.le;refine run ?_;refine ah _ rfl (fun hc=>?_) (fun hc=>?_)
 ·have hlt:k<l.length:=by simpa using hc
  obtain⟨b2,o2,rfl⟩:=hne2 bB7;have hr:=aj (hv.row hlt);have hf:=iJ (bH'.1 hl _ (getD_mem hlt));have htn:=dW hlt;generalize l.getD k default=f at hr hf htn;simp only[bK3] at hr;refine run ?_;refine az (fun wc hG=>by have h:=aO2 ws.length cap1 f.toNat bB3 bB3 bB3 g 0 wc;rw[hf.2.2] at h;exact h) ?_;obtain⟨ax6,_,_,_⟩:=hU.Ce (k:=ws.length-1) (by rw[xO];omega)
  have hUz:Own 53 1 (.slice (some ⟨g,0,none⟩) ws.length cap1) [⟨g,putAt cu (0+f.toNat*8) (List.replicate 8 (.int .u64 0)),53⟩] ((ou ws (l.take (k+1))).map uV):=by
   rw[htn,ML,bK2];exact hU.zeros 8 (by rw[xO];omega)
  refine Lc aB (hp':=[⟨Xb,#[.slice (some ⟨g,0,none⟩) ws.length cap1],270⟩,⟨Rb,#[.slice none 0 0],24⟩]) rfl rfl rfl rfl rfl rfl bB4 p2 bB3 ?_;generalize hcz:putAt cu (0+f.toNat*8) (List.replicate 8 (.int .u64 0))=cz at hUz ⊢;clear hcz;refine run ?_;exact aF (k+1,cz) ⟨hlt,hUz⟩ (hm:=by dsimp only;omega)
 ·have hge:k=l.length:=by simp at hc;omega
  subst hge;rw[bN4] at hU;have hop:=hU.opened;rw[bH7,xO] at hop;refine run ?_;refine fZ ?_;obtain⟨p3,c3,e3⟩:=hop;exact⟨_,[⟨g,cu,53⟩],rfl,hU,by (exact ak)⟩
end
section
attribute [local irreducible] Hy St Ops DH dH
theorem Jv(v:Value)(xs:List (List Value))(h:aA w v 1 xs)(hall:∀ c∈xs,c.length=1∧c.all (·.oneCell')=true)(hl:xs.length<1000000):Fn Tryz.prog 74 [v].toArray w [] (fun u hn=>Own 3 1 u hn xs):=by
 obtain⟨⟨q,cap,rfl,hne⟩,_⟩:=h;refine enter Tryz.func74 ?_;refine run ?_;refine jI bB8 (nH aB rfl rfl) ?_;refine run ?_;refine ah _ rfl (fun hp=>?_) (fun hp=>?_)
 ·obtain rfl:xs=[]:=by
   rcases bM6 (xs=[]) with h | h
   ·exact h
   ·obtain⟨b,o,rfl,_⟩:=hne h;cases hp
  refine run ?_;refine fin1 ?_;exact⟨by simp,.inl ⟨rfl,rfl,rfl⟩⟩
 refine run ?_;refine iD aB bB8 bB8 (fun g=>?_);refine run ?_;rcases bM6 (xs=[]) with rfl | hx
 ·cases q with
  | none=>cases hp
  | some q=>
  refine jI bB8 (iC aB (jr:=0) rfl rfl rfl (bI9 _)) ?_;refine run ?_;refine fin1 ?_;exact⟨by simp,.inr ⟨g,0,#[],rfl,rfl,⟨rfl,bI9 _,by decide,rfl,rfl⟩⟩⟩
 ·obtain⟨b,o,rfl,hr⟩:=hne hx;refine eP aB bB8 rfl ⟨rfl,bI9 _,by decide,rfl,rfl⟩ rfl rfl rfl rfl rfl rfl (.refl _) rfl hall hr bB5 hl (fun v' ha' hA=>?_);refine run ?_;refine fin1 ?_;rw[bI'];exact hA
theorem Jw(v:Value)(xs:List (List Value))(h:aA w v 2 xs)(hall:∀ c∈xs,c.length=2∧c.all (·.oneCell')=true)(hl:xs.length<1000000):Fn Tryz.prog 140 [v].toArray w [] (fun u hn=>Own 51 2 u hn xs):=by
 obtain⟨⟨q,cap,rfl,hne⟩,_⟩:=h;refine enter Tryz.func140 ?_;refine run ?_;refine jI bB8 (nH aB rfl rfl) ?_;refine run ?_;refine ah _ rfl (fun hp=>?_) (fun hp=>?_)
 ·obtain rfl:xs=[]:=by
   rcases bM6 (xs=[]) with h | h
   ·exact h
   ·obtain⟨b,o,rfl,_⟩:=hne h;cases hp
  refine run ?_;refine fin1 ?_;exact⟨by simp,.inl ⟨rfl,rfl,rfl⟩⟩
 refine run ?_;refine iD aB bB8 bB8 (fun g=>?_);refine run ?_;rcases bM6 (xs=[]) with rfl | hx
 ·cases q with
  | none=>cases hp
  | some q=>
  refine jI bB8 (iC aB (jr:=0) rfl rfl rfl (bI9 _)) ?_;refine run ?_;refine fin1 ?_;exact⟨by simp,.inr ⟨g,0,#[],rfl,rfl,⟨rfl,bI9 _,by decide,rfl,rfl⟩⟩⟩
 ·obtain⟨b,o,rfl,hr⟩:=hne hx;refine eP aB bB8 rfl ⟨rfl,bI9 _,by decide,rfl,rfl⟩ rfl rfl rfl rfl rfl rfl (.refl _) rfl hall hr bB5 hl (fun v' ha' hA=>?_);refine run ?_;refine fin1 ?_;rw[bI'];exact hA
theorem Jy(v:Value)(xs:List (List Value))(h:aA w v 2 xs)(hall:∀ c∈xs,c.length=2∧c.all (·.oneCell')=true)(hl:xs.length<1000000):Fn Tryz.prog 142 [v].toArray w [] (fun u hn=>Own 104 2 u hn xs):=by
 obtain⟨⟨q,cap,rfl,hne⟩,_⟩:=h;refine enter Tryz.func142 ?_;refine run ?_;refine jI bB8 (nH aB rfl rfl) ?_;refine run ?_;refine ah _ rfl (fun hp=>?_) (fun hp=>?_)
 ·obtain rfl:xs=[]:=by
   rcases bM6 (xs=[]) with h | h
   ·exact h
   ·obtain⟨b,o,rfl,_⟩:=hne h;cases hp
  refine run ?_;refine fin1 ?_;exact⟨by simp,.inl ⟨rfl,rfl,rfl⟩⟩
 refine run ?_;refine iD aB bB8 bB8 (fun g=>?_);refine run ?_;rcases bM6 (xs=[]) with rfl | hx
 ·cases q with
  | none=>cases hp
  | some q=>
  refine jI bB8 (iC aB (jr:=0) rfl rfl rfl (bI9 _)) ?_;refine run ?_;refine fin1 ?_;exact⟨by simp,.inr ⟨g,0,#[],rfl,rfl,⟨rfl,bI9 _,by decide,rfl,rfl⟩⟩⟩
 ·obtain⟨b,o,rfl,hr⟩:=hne hx;refine eP aB bB8 rfl ⟨rfl,bI9 _,by decide,rfl,rfl⟩ rfl rfl rfl rfl rfl rfl (.refl _) rfl hall hr bB5 hl (fun v' ha' hA=>?_);refine run ?_;refine fin1 ?_;rw[bI'];exact hA
theorem MM(v:Value)(xs:List (List Value))(h:aA w v 2 xs)(hall:∀ c∈xs,c.length=2∧c.all (·.oneCell')=true)(hl:xs.length<1000000):Fn Tryz.prog 143 [v].toArray w [] (fun u hn=>Own 173 2 u hn xs):=by
 obtain⟨⟨q,cap,rfl,hne⟩,_⟩:=h;refine enter Tryz.func143 ?_;refine run ?_;refine jI bB8 (nH aB rfl rfl) ?_;refine run ?_;refine ah _ rfl (fun hp=>?_) (fun hp=>?_)
 ·obtain rfl:xs=[]:=by
   rcases bM6 (xs=[]) with h | h
   ·exact h
   ·obtain⟨b,o,rfl,_⟩:=hne h;cases hp
  refine run ?_;refine fin1 ?_;exact⟨by simp,.inl ⟨rfl,rfl,rfl⟩⟩
 refine run ?_;refine iD aB bB8 bB8 (fun g=>?_);refine run ?_;rcases bM6 (xs=[]) with rfl | hx
 ·cases q with
  | none=>cases hp
  | some q=>
  refine jI bB8 (iC aB (jr:=0) rfl rfl rfl (bI9 _)) ?_;refine run ?_;refine fin1 ?_;exact⟨by simp,.inr ⟨g,0,#[],rfl,rfl,⟨rfl,bI9 _,by decide,rfl,rfl⟩⟩⟩
 ·obtain⟨b,o,rfl,hr⟩:=hne hx;refine eP aB bB8 rfl ⟨rfl,bI9 _,by decide,rfl,rfl⟩ rfl rfl rfl rfl rfl rfl (.refl _) rfl hall hr bB5 hl (fun v' ha' hA=>?_);refine run ?_;refine fin1 ?_;rw[bI'];exact hA
theorem F5(v:Value)(xs:List (List Value))(h:aA w v 5 xs)(hall:∀ c∈xs,c.length=5∧c.all (·.oneCell')=true)(hl:xs.length<1000000):Fn Tryz.prog 141 [v].toArray w [] (fun u hn=>Own 100 5 u hn xs):=by
 obtain⟨⟨q,cap,rfl,hne⟩,_⟩:=h;refine enter Tryz.func141 ?_;refine run ?_;refine jI bB8 (nH aB rfl rfl) ?_;refine run ?_;refine ah _ rfl (fun hp=>?_) (fun hp=>?_)
 ·obtain rfl:xs=[]:=by
   rcases bM6 (xs=[]) with h | h
   ·exact h
   ·obtain⟨b,o,rfl,_⟩:=hne h;cases hp
  refine run ?_;refine fin1 ?_;exact⟨by simp,.inl ⟨rfl,rfl,rfl⟩⟩
 refine run ?_;refine iD aB bB8 bB8 (fun g=>?_);refine run ?_;rcases bM6 (xs=[]) with rfl | hx
 ·cases q with
  | none=>cases hp
  | some q=>
  refine jI bB8 (iC aB (jr:=0) rfl rfl rfl (bI9 _)) ?_;refine run ?_;refine fin1 ?_;exact⟨by simp,.inr ⟨g,0,#[],rfl,rfl,⟨rfl,bI9 _,by decide,rfl,rfl⟩⟩⟩
 ·obtain⟨b,o,rfl,hr⟩:=hne hx;refine eP aB bB8 rfl ⟨rfl,bI9 _,by decide,rfl,rfl⟩ rfl rfl rfl rfl rfl rfl (.refl _) rfl hall hr bB5 hl (fun v' ha' hA=>?_);refine run ?_;refine fin1 ?_;rw[bI'];exact hA
structure GB where
 vv:Value
 mv:Value
 hv:Hp
 hm:Hp
def zq(G:Nat→GB):Nat→Hp
 | 0=>[]
 | n+1=>zq G n++((G n).hv++(G n).hm)
theorem AV{G G':Nat→GB}:∀ n,(∀ i,i<n→G' i=G i)→zq G' n=zq G n:=by
 intro n
 induction n with
 | zero=>intro _;rfl
 | succ n ih=>intro h;rw[zq,zq,ih (fun i hi=>h i bB3),h n bB3]
theorem Yv:∀ (n:Nat) (G:Nat→GB),i<n→∃ r,∀ G':Nat→GB,(∀ j,j≠i→G' j=G j)→(zq G' n).Perm ((G' i).hv++((G' i).hm++r)):=by
 intro n
 induction n with
 | zero=>intro G h;omega
 | succ n ih=>
  intro G hi;rcases bJ0.1 hi with h | rfl
  ·obtain⟨r,hr⟩:=ih G h;refine⟨r++((G n).hv++(G n).hm),fun G' hG=>?_⟩;rw[zq,hG n bB3];refine ((hr G' hG).append_right _).trans ?_;rw[bK7,bK7]
  ·refine⟨zq G i,fun G' hG=>?_⟩;rw[zq,AV i (fun j hj=>hG j bB3),←bK7 (G' i).hv];exact bJ5
structure Lay where
 pb:Nat
 zu:Nat
 gb:Nat
 AX:Nat
 ob:Nat
 AY:Nat
 pc:Array Value
 gc:Array Value
 oc:Array Value
 G:Nat→GB
def jb(P:PtD)(G:Nat→GB)(i:Nat):List Value:=[.bool (P.gs i).live,.bool (P.gs i).dying,.int .i64 (P.gs i).first,(G i).vv,(G i).mv]
structure dN(P:PtD)(Y:Lay):Prop where
 pg:Row Y.pb Y.zu Y.pc 2 P.pages.length (P.pages.map sS).flatten
 gs:Row Y.gb Y.AX Y.gc 5 P.ay.length ((List.range P.ay.length).map (jb P Y.G)).flatten
 on:Row Y.ob Y.AY Y.oc 2 P.on.length (P.on.map yG).flatten
 vc:∀ i,i<4→Own 3 1 (Y.G i).vv (Y.G i).hv ((P.gs i).aQ.map bY)
 mp:∀ i,i<4→Own 173 2 (Y.G i).mv (Y.G i).hm ((P.gs i).maps.map eF)
 wf:P.Wf
 n:P.Len
 sm:P.Small 1000
abbrev Lay.pv(Y:Lay)(P:PtD):Value:=.slice (some ⟨Y.pb,0,none⟩) P.pages.length Y.zu
abbrev Lay.gv(Y:Lay)(P:PtD):Value:=.slice (some ⟨Y.gb,0,none⟩) P.ay.length Y.AX
abbrev Lay.ov(Y:Lay)(P:PtD):Value:=.slice (some ⟨Y.ob,0,none⟩) P.on.length Y.AY
abbrev Lay.in(Y:Lay):Hp:=⟨Y.pb,Y.pc,51⟩::⟨Y.gb,Y.gc,100⟩::⟨Y.ob,Y.oc,104⟩::zq Y.G 4
def Lay.L(Y:Lay):JS:=⟨Y.pb,0,Y.zu,Y.gb,0,Y.AX,Y.ob,0,Y.AY,fun i=>(Y.G i).vv,fun i=>(Y.G i).mv⟩
theorem Jz{G:Nat→GB}{e:mO}:∀ n,i<n→(e∈(G i).hv∨e∈(G i).hm)→e∈zq G n:=by
 intro n
 induction n with
 | zero=>intro h;omega
 | succ n ih=>
  intro hi he;rw[zq,bK4,bK4];rcases bJ0.1 hi with h | rfl
  ·exact .inl (ih h he)
  ·exact .inr he
theorem MN(hi:i<P.pages.length):(P.pages.map sS)[i]?=some [.int .i64 (P.pg i).own,.int .i64 (P.pg i).wit]:=by
 rw[bJ',PtD.pg,bH8,bH9 hi];rfl
theorem MO(hi:i<P.on.length):(P.on.map yG)[i]?=some [.int .i64 (P.st i).vm,.int .i64 (P.st i).cpu]:=by
 rw[bJ',PtD.st,bH8,bH9 hi];rfl
theorem AZ{xs:List o8}:∀ c∈xs.map sS,c.length=2:=fun c hc=>by obtain⟨x,_,rfl⟩:=bI7.1 hc;rfl
theorem st_len{xs:List JR}:∀ c∈xs.map yG,c.length=2:=fun c hc=>by obtain⟨x,_,rfl⟩:=bI7.1 hc;rfl
theorem qG{P:PtD}{G:Nat→GB}{n:Nat}:∀ c∈(List.range n).map (jb P G),c.length=5:=fun c hc=>by obtain⟨x,_,rfl⟩:=bI7.1 hc;rfl
theorem dN.aq2{Y:Lay}(h:dN P Y)(hh:Here Y.in w):jl w Y.L P:=by
 have h4:=h.n.g4;have hsm:=h.sm;have hp:=hh _ (bI8 ..);have hg:=hh _ (bI5 _ (bI8 ..));have ho:=hh _ (bI5 _ (bI5 _ (bI8 ..)));have hr:∀ e∈zq Y.G 4,w.heap[e.b]?=some (.cells e.cs e.t (0,0)):=fun e he=>hh e (bI5 _ (bI5 _ (bI5 _ he)));refine⟨fun i hi=>h.pg.range AZ hp (MN hi),fun i hi=>h.gs.range qG hg (iH _ hi),fun i hi=>?_,fun i hi=>?_,fun i hi=>h.on.range st_len ho (MO hi),h.wf⟩
 ·have:=hsm.vc i hi;exact (h.vc i bB3).lie (fun e he=>hr e (Jz 4 bB3 (.inl he))) bB6
 ·have:=hsm.vc i hi;exact (h.mp i bB3).lie (fun e he=>hr e (Jz 4 bB3 (.inr he))) bB6
theorem dN.Yw{Y:Lay}(h:dN P Y){bx tx:Nat}(hh:Here (⟨bx,#[Y.pv P,Y.gv P,Y.ov P],tx⟩::Y.in) w):rC w bx Y.L P:=by
 have h0:=hh _ (bI8 ..);exact⟨h.aq2 fun e he=>hh e (bI5 _ he),h.n,by rw[cell_of_block h0];rfl,by rw[cell_of_block h0];rfl,by rw[cell_of_block h0];rfl⟩
theorem dN.aq3{Y:Lay}(h:dN P Y)(hh:Here Y.in w):dO w (Y.pv P) (Y.gv P) (Y.ov P) P:=by
 have hv:=h.aq2 hh;have hsm:=h.sm;refine⟨?_,⟨fun i=>(Y.G i).vv,fun i=>(Y.G i).mv,aA.zZ (α:=Nat) (by have:=hsm.gs;omega) (fun i hi=>hv.gs i hi),fun i hi=>⟨hv.vc i hi,hv.mp i hi⟩⟩,?_,h.wf⟩
 ·have:=aA.zZ (α:=Nat) (cap:=Y.zu) (by have:=hsm.pg;omega) (fun i hi=>hv.pg i hi);rw[←map_range P.pages sS];exact this
 ·have:=aA.zZ (α:=Nat) (cap:=Y.AY) (by have:=hsm.on;omega) (fun i hi=>hv.st i hi);rw[←map_range P.on yG];exact this
theorem Yx{xs:List o8}:∀ c∈xs.map sS,c.length=2∧c.all (·.oneCell')=true:=fun c hc=>by obtain⟨x,_,rfl⟩:=bI7.1 hc;exact⟨rfl,rfl⟩
theorem st_all{xs:List JR}:∀ c∈xs.map yG,c.length=2∧c.all (·.oneCell')=true:=fun c hc=>by obtain⟨x,_,rfl⟩:=bI7.1 hc;exact⟨rfl,rfl⟩
theorem A7{xs:List jQ}:∀ c∈xs.map eF,c.length=2∧c.all (·.oneCell')=true:=fun c hc=>by obtain⟨x,_,rfl⟩:=bI7.1 hc;exact⟨rfl,rfl⟩
theorem aA.one{sz:Nat}{xs:List (List Value)}(h:aA w v sz xs):v.oneCell'=true:=by
 obtain⟨⟨q,cap,rfl,_⟩,_⟩:=h;rfl
theorem Own.one{e sz:Nat}{h:Hp}{xs:List (List Value)}(hA:Own e sz v h xs):v.oneCell'=true:=by
 obtain⟨q,cap,rfl⟩:=hA.opened;rfl
def oZ(G:Nat→GB)(i:Nat)(b:GB):Nat→GB:=fun j=>if j=i then b else G j
theorem iW(G:Nat→GB)(i:Nat)(b:GB):oZ G i b i=b:=by simp[oZ]
theorem lG(G:Nat→GB)(i:Nat)(b:GB){j:Nat}(h:j≠i):oZ G i b j=G j:=by simp[oZ,h]
theorem xh{α:Type}{f g:Nat→α}{n:Nat}(hk:k<n)(h:∀ j,j≠k→g j=f j):((List.range n).map f).set k (g k)=(List.range n).map g:=by
 apply bQ8;intro i;by_cases hi:i=k
 ·subst hi;simp[hk]
 ·rw[bZ7 (bP0 hi)];by_cases hn:i<n
  ·simp[hn,h i hi]
  ·simp[hn]
theorem JA{g cap n:Nat}{gc:Array Value}{G:Nat→GB}(h:Row g cap gc 5 n ((List.range n).map (jb P G)).flatten)(hk:k<n)(b:GB):Row g cap (putAt gc (k*5+3) [b.vv,b.mv]) 5 n ((List.range n).map (jb P (oZ G k b))).flatten:=by
 have:=h.put qG (iH _ hk) (k:=3) (vs:=[b.vv,b.mv]) bB5;rw[←xh (f:=jb P G) (g:=jb P (oZ G k b)) hk (fun j hj=>by simp only[jb,lG _ _ _ hj])];have e:(jb P G k).take 3++[b.vv,b.mv]++(jb P G k).drop (3+[b.vv,b.mv].length)=jb P (oZ G k b) k:=by simp only[jb,iW];rfl
 rwa [e] at this
theorem Yy{pv gv ov:Value}(h:dO w pv gv ov P)(hn:P.Len)(hs:P.Small 1000):Fn Tryz.prog 66 [.agg #[pv,gv,ov]].toArray w [] (fun u hn=>∃ Y bx,u=.pointer (some ⟨bx,0,none⟩)∧dN P Y∧aI (⟨bx,#[Y.pv P,Y.gv P,Y.ov P],149⟩::Y.in) hn):=by
 obtain⟨L,rfl,rfl,rfl,hv⟩:=h.open hn;obtain⟨vv,mv,hg1,hg2⟩:=h.ay
 have aq4:∀ c∈(List.range P.ay.length).map (fun i=>[Value.bool (P.gs i).live,.bool (P.gs i).dying,.int .i64 (P.gs i).first,vv i,mv i]),c.length=5∧c.all (·.oneCell')=true:=fun c hc=>by
  obtain⟨i,hi,rfl⟩:=bI7.1 hc;have:=hg2 i (bJ1.1 hi);exact⟨rfl,by simp only[bW5,bX3,this.1.one,this.2.one];rfl⟩
 have g4:=hn.g4;have l1:(P.pages.map sS).length≤64:=by have:=hn.p1;simpa using this
 have l2:(P.on.map yG).length≤3:=by have:=hn.o1;simpa using this
 have l3:((List.range P.ay.length).map (fun i=>[Value.bool (P.gs i).live,.bool (P.gs i).dying,.int .i64 (P.gs i).first,vv i,mv i])).length=4:=by simp[g4]
 refine enter Tryz.func66 ?_;refine run ?_;intro B;refine run ?_;refine drawM 11 [0,1,3,4,6,7] [2,5,8] [9,10] ?_;refine gI ?_;refine jZ (fun wc hG=>Jw _ _ (h.pages.good hG) Yx bB3) (dZ Yx bB3) ?_;refine jZ (fun wc hG=>F5 _ _ (hg1.good hG) aq4 bB3) (dZ aq4 bB3) ?_;refine jZ (fun wc hG=>Jy _ _ (h.on.good hG) st_all bB3) (dZ st_all bB3) ?_;refine kL ?_;rintro _ _ hO _ _ hGu _ _ hPg;obtain⟨ob,AY,oc,rfl,rfl,ro⟩:=hO.row (n:=P.on.length) bB5 (by have:=hn.o0;omega);obtain⟨gb,AX,gc,rfl,rfl,rg⟩:=hGu.row (n:=P.ay.length) bB5 bB3;obtain⟨pb,zu,pc,rfl,rfl,rp⟩:=hPg.row (n:=P.pages.length) bB5 (by have:=hn.p0;omega);refine uH ?_;refine uH ?_;refine jJ ?_;refine ry ?_;simp only[bI0,bI3];refine run ?_;intro X;refine run ?_
 refine aK (σ:=Nat×(Nat→GB)×Array Value) (fun s=>[(24,.int .i64 (s.1:Int))]) (fun s=>⟨X,#[.slice (some ⟨pb,0,none⟩) P.pages.length zu,.slice (some ⟨gb,0,none⟩) P.ay.length AX,.slice (some ⟨ob,0,none⟩) P.on.length AY],149⟩::⟨ob,oc,104⟩::⟨gb,s.2.2,100⟩::⟨pb,pc,51⟩::zq s.2.1 s.1)
  (fun s=>s.1≤4∧Row gb AX s.2.2 5 P.ay.length ((List.range P.ay.length).map (jb P s.2.1)).flatten∧(∀ i,i<s.1→Own 3 1 (s.2.1 i).vv (s.2.1 i).hv ((P.gs i).aQ.map bY)∧Own 173 2 (s.2.1 i).mv (s.2.1 i).hm ((P.gs i).maps.map eF))∧∀ i,s.1≤i→i<4→(s.2.1 i).vv=vv i∧(s.2.1 i).mv=mv i) (fun s=>4-s.1) (0,fun i=>⟨vv i,mv i,[],[]⟩,gc) ⟨by simp,rg,fun i hi=>absurd hi bB5,fun i _ _=>⟨rfl,rfl⟩⟩ ?_
 rintro⟨k,G,gc⟩ m hm ⟨hk,hrow,hown,hold⟩;dsimp only at hm hk hrow hown hold ⊢;refine run ?_;refine ah _ rfl (fun hc=>?_) (fun hc=>?_)
 ·have hlt:k<4:=by simp at hc;omega
  obtain⟨hvk,hmk⟩:=hg2 k bB3;have hat:((List.range P.ay.length).map (jb P G))[k]?=some (jb P G k):=iH _ bB3;have n3:=hrow.nth qG hat (k:=3) rfl;have n4:=hrow.nth qG hat (k:=4) rfl;rw[(hold k (bI9 _) hlt).1] at n3;rw[(hold k (bI9 _) hlt).2] at n4;refine run ?_;refine late 14 1 ?_;refine WC 13 1 ?_;refine WC 12 1 ?_;refine xB 12 [0,1,2,3,4,5,7,8,9,10] [6,11] [] ?_;refine gI ?_;have sv:=(hs.vc k bB3).1;have sm:=(hs.vc k bB3).2;refine jZ (fun wc hG=>Jv _ _ (hvk.good hG) IM bB9) (dZ IM bB9) ?_;refine jZ (fun wc hG=>MM _ _ (hmk.good hG) A7 bB9) (dZ A7 bB9) ?_;refine kL ?_;rintro mv' hm' hM vv' hv' hV;simp only[DN];refine jJ ?_;refine ry ?_;refine cZ ([_,_,_,_]++(zq G k++(hv'++hm'))) ((bX1 _ (bX1 _ bJ5)).trans (by rw[bI'];exact WL _ _ _)) ?_;obtain⟨q1,c1,rfl⟩:=hV.opened;obtain⟨q2,c2,rfl⟩:=hM.opened;simp only[bI0,bI3];have hgz:20≤gc.size:=by have:=hrow.size;have:=hrow.le;omega
  refine run ?_;refine aF (k+1,oZ G k ⟨(.slice q1 ((P.gs k).aQ.map bY).length c1),(.slice q2 ((P.gs k).maps.map eF).length c2),hv',hm'⟩,putAt gc (k*5+3) [(.slice q1 ((P.gs k).aQ.map bY).length c1),(.slice q2 ((P.gs k).maps.map eF).length c2)]) ⟨by dsimp only;omega,JA hrow bB3 ⟨(.slice q1 ((P.gs k).aQ.map bY).length c1),(.slice q2 ((P.gs k).maps.map eF).length c2),hv',hm'⟩,fun i hi=>?_,fun i h1 h2=>?_⟩ (h2:=?_)
  ·dsimp only at hi ⊢;rcases bJ0.1 hi with hi | rfl
   ·rw[lG _ _ _ bB3];exact hown i hi
   ·rw[iW];exact⟨hV,hM⟩
  ·dsimp only at h1 ⊢;rw[lG _ _ _ bB3];exact hold i bB3 h2
  ·dsimp only;rw[zq,AV (G:=G) k (fun i hi=>lG _ _ _ bB3),iW];simp only[putAt]
   (repeat (first | exact True.intro | exact aI.refl _ | (with_reducible exact aI.left _ _) | (with_reducible exact aI.right _ _) | (refine Exists.intro _ (And.intro bC5 ?_)) | (with_reducible apply aI.app) | (with_reducible apply aI.skip)))
 have hk4:k=4:=by simp at hc;omega
 subst hk4;refine run ?_;refine fin1 ?_;refine⟨⟨pb,zu,gb,AX,ob,AY,pc,gc,oc,G⟩,X,rfl,⟨rp,hrow,ro,fun i hi=>(hown i hi).1,fun i hi=>(hown i hi).2,h.wf,hn,hs⟩,?_⟩
 (repeat (first | exact True.intro | exact aI.refl _ | (with_reducible exact aI.left _ _) | (with_reducible exact aI.right _ _) | (refine Exists.intro _ (And.intro bC5 ?_)) | (with_reducible apply aI.app) | (with_reducible apply aI.skip)))
theorem MP(xs:List o8)(v:Value)(h:aA w v 2 (xs.map sS))(hl:xs.length<1000000):Fn Tryz.prog 314 [v].toArray w [] (fun u hp=>Acc 51 2 u hp (xs.map sS)):=by
 obtain⟨q,cap,rfl,hne,hle⟩:=h.opened;refine enter Tryz.func314 ?_;refine run ?_;refine aK (σ:=Nat×Value×Hp) (fun s=>[(3,s.2.1),(4,.int .i64 (s.1:Int))]) (fun s=>s.2.2) (fun s=>s.1≤xs.length∧Acc 51 2 s.2.1 s.2.2 ((xs.take s.1).map sS)) (fun s=>xs.length-s.1) (0,_,[]) ⟨by omega,Acc.nil _ _⟩ ?_;rintro⟨k,v,ha⟩ m hm ⟨hk,hA⟩;dsimp only at hm hk hA ⊢;refine run ?_;refine ah _ rfl (fun hc=>?_) (fun hc=>?_)
 ·have hlt:k<xs.length:=by simp at hc;omega
  obtain⟨b,o,rfl⟩:=hne bB7;have h1:=(h.row hlt)
  simp only[sS] at h1;refine run ?_;intro T;refine dK (c:=sS (xs.getD k default)) hA (fun v' ha' hA'=>?_) bB9 (aY (m:=2) mh rfl);refine run ?_;refine aF (k+1,v',ha') ⟨hlt,?_⟩;dsimp only;rw[dW hlt,bJ4];exact hA'
 ·have:k=xs.length:=by simp at hc;omega
  subst this;refine run ?_;refine fin1 ?_;simpa using hA
theorem MQ(xs:List JR)(v:Value)(h:aA w v 2 (xs.map yG))(hl:xs.length<1000000):Fn Tryz.prog 316 [v].toArray w [] (fun u hp=>Acc 104 2 u hp (xs.map yG)):=by
 obtain⟨q,cap,rfl,hne,hle⟩:=h.opened;refine enter Tryz.func316 ?_;refine run ?_;refine aK (σ:=Nat×Value×Hp) (fun s=>[(3,s.2.1),(4,.int .i64 (s.1:Int))]) (fun s=>s.2.2) (fun s=>s.1≤xs.length∧Acc 104 2 s.2.1 s.2.2 ((xs.take s.1).map yG)) (fun s=>xs.length-s.1) (0,_,[]) ⟨by omega,Acc.nil _ _⟩ ?_;rintro⟨k,v,ha⟩ m hm ⟨hk,hA⟩;dsimp only at hm hk hA ⊢;refine run ?_;refine ah _ rfl (fun hc=>?_) (fun hc=>?_)
 ·have hlt:k<xs.length:=by simp at hc;omega
  obtain⟨b,o,rfl⟩:=hne bB7;have h1:=(h.row hlt)
  simp only[yG] at h1;refine run ?_;intro T;refine dK (c:=yG (xs.getD k default)) hA (fun v' ha' hA'=>?_) bB9 (aY (m:=2) mh rfl);refine run ?_;refine aF (k+1,v',ha') ⟨hlt,?_⟩;dsimp only;rw[dW hlt,bJ4];exact hA'
 ·have:k=xs.length:=by simp at hc;omega
  subst this;refine run ?_;refine fin1 ?_;simpa using hA
theorem P5(xs:List jQ)(v:Value)(h:aA w v 2 (xs.map eF))(hl:xs.length<1000000):Fn Tryz.prog 344 [v].toArray w [] (fun u hp=>Acc 173 2 u hp (xs.map eF)):=by
 obtain⟨q,cap,rfl,hne,hle⟩:=h.opened;refine enter Tryz.func344 ?_;refine run ?_;refine aK (σ:=Nat×Value×Hp) (fun s=>[(3,s.2.1),(4,.int .i64 (s.1:Int))]) (fun s=>s.2.2) (fun s=>s.1≤xs.length∧Acc 173 2 s.2.1 s.2.2 ((xs.take s.1).map eF)) (fun s=>xs.length-s.1) (0,_,[]) ⟨by omega,Acc.nil _ _⟩ ?_;rintro⟨k,v,ha⟩ m hm ⟨hk,hA⟩;dsimp only at hm hk hA ⊢;refine run ?_;refine ah _ rfl (fun hc=>?_) (fun hc=>?_)
 ·have hlt:k<xs.length:=by simp at hc;omega
  obtain⟨b,o,rfl⟩:=hne bB7;have h1:=(h.row hlt)
  simp only[eF] at h1;refine run ?_;intro T;refine dK (c:=eF (xs.getD k default)) hA (fun v' ha' hA'=>?_) bB9 (aY (m:=2) mh rfl);refine run ?_;refine aF (k+1,v',ha') ⟨hlt,?_⟩;dsimp only;rw[dW hlt,bJ4];exact hA'
 ·have:k=xs.length:=by simp at hc;omega
  subst this;refine run ?_;refine fin1 ?_;simpa using hA
theorem EO(xs:List Int)(v:Value)(h:aA w v 1 (xs.map bY))(hl:xs.length<1000000):Fn Tryz.prog 107 [v].toArray w [] (fun u hp=>Acc 3 1 u hp (xs.map bY)):=by
 obtain⟨q,cap,rfl,hne,hle⟩:=h.opened;refine enter Tryz.func107 ?_;refine run ?_;refine aK (σ:=Nat×Value×Hp) (fun s=>[(3,s.2.1),(4,.int .i64 (s.1:Int))]) (fun s=>s.2.2) (fun s=>s.1≤xs.length∧Acc 3 1 s.2.1 s.2.2 ((xs.take s.1).map bY)) (fun s=>xs.length-s.1) (0,_,[]) ⟨by omega,Acc.nil _ _⟩ ?_;rintro⟨k,v,ha⟩ m hm ⟨hk,hA⟩;dsimp only at hm hk hA ⊢;refine run ?_;refine ah _ rfl (fun hc=>?_) (fun hc=>?_)
 ·have hlt:k<xs.length:=by simp at hc;omega
  obtain⟨b,o,rfl⟩:=hne bB7;have h1:=aj (h.row hlt);simp only[bY,bK3] at h1;refine run ?_;intro T;refine dK (c:=bY (xs.getD k default)) hA (fun v' ha' hA'=>?_) bB9 (aY (m:=1) mh rfl);refine run ?_;refine aF (k+1,v',ha') ⟨hlt,?_⟩;dsimp only;rw[dW hlt,bJ4];exact hA'
 ·have:k=xs.length:=by simp at hc;omega
  subst this;refine run ?_;refine fin1 ?_;simpa using hA
theorem MR(g:Vg)(vv mv:Value)(hv:aA w vv 1 (g.aQ.map bY))(hm:aA w mv 2 (g.maps.map eF))(l1:g.aQ.length<1000000)(l2:g.maps.length<1000000):
  Fn Tryz.prog 343 [.agg #[.bool g.live,.bool g.dying,.int .i64 g.first,vv,mv]].toArray w [] (fun u hn=>∃ b:GB,u=.agg #[.bool g.live,.bool g.dying,.int .i64 g.first,b.vv,b.mv]∧Own 3 1 b.vv b.hv (g.aQ.map bY)∧Own 173 2 b.mv b.hm (g.maps.map eF)∧aI (b.hv++b.hm) hn):=by
 obtain⟨q1,c1,rfl,_⟩:=hv.opened;obtain⟨q2,c2,rfl,_⟩:=hm.opened;refine enter Tryz.func343 ?_;refine run ?_;intro B1 B2 B3;refine bH (fun wc hG=>EO g.aQ _ (hv.good hG) l1) (fun v' hv' hA=>?_);refine cZ (_++hv') bJ5 ?_;have hA':=hA.own;obtain⟨s1,d1,rfl⟩:=hA'.opened;simp only[bI0,bI3];refine run ?_;refine bH (fun wc hG=>P5 g.maps _ (hm.good hG) l2) (fun m' hm' hB=>?_);refine cZ (_++hm') bJ5 ?_;have hB':=hB.own;obtain⟨s2,d2,rfl⟩:=hB'.opened;simp only[bI0,bI3];refine run ?_;refine dR ?_;refine⟨⟨_,_,hv',hm'⟩,rfl,hA',hB',?_⟩
 (repeat (first | exact True.intro | exact aI.refl _ | (with_reducible exact aI.left _ _) | (with_reducible exact aI.right _ _) | (refine Exists.intro _ (And.intro bC5 ?_)) | (with_reducible apply aI.app) | (with_reducible apply aI.skip)))
theorem JB(g4:P.ay.length=4)(hs:P.Small 1000)(vv mv:Nat→Value)(gv:Value)(h:aA w gv 5 ((List.range P.ay.length).map fun i=>[.bool (P.gs i).live,.bool (P.gs i).dying,.int .i64 (P.gs i).first,vv i,mv i]))(h2:∀ i,i<P.ay.length→aA w (vv i) 1 ((P.gs i).aQ.map bY)∧aA w (mv i) 2 ((P.gs i).maps.map eF)):
  Fn Tryz.prog 315 [gv].toArray w [] (fun u hn=>∃ (G:Nat→GB) (hg:Hp),Own 100 5 u hg ((List.range P.ay.length).map (jb P G))∧(∀ i,i<4→Own 3 1 (G i).vv (G i).hv ((P.gs i).aQ.map bY)∧Own 173 2 (G i).mv (G i).hm ((P.gs i).maps.map eF))∧aI (hg++zq G 4) hn):=by
 obtain⟨⟨q,cap,rfl,hne⟩,_⟩:=h;simp only[bH7,bO0];obtain⟨b,o,rfl,hr⟩:=hne (by intro e;rw[bR9,List.range_eq_nil] at e;omega);refine enter Tryz.func315 ?_;refine run ?_;refine aK (σ:=Nat×Value×Hp×(Nat→GB)) (fun s=>[(3,s.2.1),(4,.int .i64 (s.1:Int))]) (fun s=>s.2.2.1++zq s.2.2.2 s.1) (fun s=>s.1≤4∧Acc 100 5 s.2.1 s.2.2.1 ((List.range s.1).map (jb P s.2.2.2))∧∀ i,i<s.1→Own 3 1 (s.2.2.2 i).vv (s.2.2.2 i).hv ((P.gs i).aQ.map bY)∧Own 173 2 (s.2.2.2 i).mv (s.2.2.2 i).hm ((P.gs i).maps.map eF)) (fun s=>4-s.1) (0,_,[],fun i=>⟨vv i,mv i,[],[]⟩) ⟨by simp,Acc.nil _ _,fun i hi=>absurd hi bB5⟩ ?_;rintro⟨k,v,ha,G⟩ m hm ⟨hk,hA,hown⟩;dsimp only at hm hk hA hown ⊢;refine run ?_;refine ah _ rfl (fun hc=>?_) (fun hc=>?_)
 ·have hlt:k<4:=by simp at hc;omega
  have h1:=hr k _ (iH _ bB3);obtain⟨a1,a2⟩:=h2 k bB3;have sv:=hs.vc k bB3;refine run ?_;refine bH (fun wc hG=>MR (P.gs k) (vv k) (mv k) (a1.good hG) (a2.good hG) bB3 bB3) ?_;rintro _ hn ⟨b2,rfl,o1,o2,hle⟩;refine aS (ha++(zq G k++(b2.hv++b2.hm))) (cnt1 hle) ?_;refine run ?_;intro T;refine dK (c:=jb P (oZ G k b2) k) hA (fun v' ha' hA'=>?_) bB9 (aY (m:=5) mh (by simp only[jb,iW];rfl)) (hp':=⟨T,#[.bool (P.gs k).live,.bool (P.gs k).dying,.int .i64 (P.gs k).first,b2.vv,b2.mv],100⟩::(zq G k++(b2.hv++b2.hm))) (hperm:=by (exact aU)) (hl:=rfl) (h1:=?_)
  ·refine run ?_;refine aF (k+1,v',ha',oZ G k b2) ⟨by dsimp only;omega,?_,fun i hi=>?_⟩ (h2:=?_)
   ·dsimp only;rw[bO5,bJ4]
    have e:(List.range k).map (jb P (oZ G k b2))=(List.range k).map (jb P G):=List.map_congr_left fun i hi=>by
     have:=bJ1.1 hi;simp only[jb,lG G k b2 (show i≠k by omega)]
    rw[e];exact hA'
   ·dsimp only at hi ⊢;rcases bJ0.1 hi with hi | rfl
    ·rw[lG _ _ _ bB3];exact hown i hi
    ·rw[iW];exact⟨o1,o2⟩
   ·dsimp only;rw[zq,AV (G:=G) k (fun i hi=>lG _ _ _ bB3),iW]
    (exact ak)
  ·simp only[jb,iW,bW5,bX3,o1.one,o2.one];rfl
 have hk4:k=4:=by simp at hc;omega
 subst hk4;refine run ?_;refine fin1 ?_;refine⟨G,ha,by rw[g4];exact hA.own,hown,aI.refl _⟩
theorem P6{pv gv ov:Value}(h:dO w pv gv ov P)(hn:P.Len)(hs:P.Small 1000):Fn Tryz.prog 261 [.agg #[pv,gv,ov]].toArray w [] (fun u hn=>∃ Y:Lay,u=.agg #[Y.pv P,Y.gv P,Y.ov P]∧dN P Y∧aI Y.in hn):=by
 obtain⟨L,rfl,rfl,rfl,hv⟩:=h.open hn;obtain⟨vv,mv,hg1,hg2⟩:=h.ay;have hg4:=hn.g4;have np:=hn.p1;have no:=hn.o1;refine enter Tryz.func261 ?_;refine run ?_;intro B1 B2 B3;refine bH (fun wc hG=>MP P.pages _ (h.pages.good hG) bB3) (fun v1 h1 hA=>?_);obtain⟨pb,zu,pc,rfl,rfl,rp⟩:=hA.own.row (n:=P.pages.length) bB5 (by have:=hn.p0;omega);refine cZ (_++[⟨pb,pc,51⟩]) bJ5 ?_;simp only[bI0,bI3];refine run ?_;refine bH (fun wc hG=>JB hg4 hs vv mv _ (hg1.good hG) (fun i hi=>⟨(hg2 i hi).1.good hG,(hg2 i hi).2.good hG⟩)) ?_;rintro v2 h2 ⟨G,hgb,hGo,hown,hle⟩;obtain⟨gb,AX,gc,rfl,rfl,rg⟩:=hGo.row (n:=P.ay.length) bB5 bB3;refine cZ (_++h2) bJ5 ?_;simp only[bI0,bI3];refine run ?_;refine bH (fun wc hG=>MQ P.on _ (h.on.good hG) bB3) (fun v3 h3 hO=>?_);obtain⟨ob,AY,oc,rfl,rfl,ro⟩:=hO.own.row (n:=P.on.length) bB5 (by have:=hn.o0;omega);refine cZ (_++[⟨ob,oc,104⟩]) bJ5 ?_;simp only[bI0,bI3];refine run ?_;refine dR ?_;refine⟨⟨pb,zu,gb,AX,ob,AY,pc,gc,oc,G⟩,rfl,⟨rp,rg,ro,fun i hi=>(hown i hi).1,fun i hi=>(hown i hi).2,h.wf,hn,hs⟩,?_⟩
 (exact cnt1 hle)
end
section
attribute [local irreducible] Hy St Ops DH dH
namespace PtD
def kH(P:PtD)(f:Nat)(x:o8):PtD:={ P with pages:=P.pages.set f x }
def iT(P:PtD)(i:Nat)(g:Vg):PtD:={ P with ay:=P.ay.set i g }
def setSt(P:PtD)(c:Nat)(s:JR):PtD:={ P with on:=P.on.set c s }
variable (P : PtD)
theorem Yz(f:Nat)(x:o8)(hf:f<P.pages.length)(k:Nat):(P.kH f x).pg k=if k=f then x else P.pg k:=by
 unfold kH pg;simp only[bH8,bS9];by_cases h:f=k
 ·subst h;simp[hf]
 ·simp[h,bP0 h]
theorem YA(i:Nat)(g:Vg)(hi:i<P.ay.length)(k:Nat):(P.iT i g).gs k=if k=i then g else P.gs k:=by
 unfold iT gs;simp only[bH8,bS9];by_cases h:i=k
 ·subst h;simp[hi]
 ·simp[h,bP0 h]
theorem YB(c:Nat)(s:JR)(hc:c<P.on.length)(k:Nat):(P.setSt c s).st k=if k=c then s else P.st k:=by
 unfold setSt st;simp only[bH8,bS9];by_cases h:c=k
 ·subst h;simp[hc]
 ·simp[h,bP0 h]
end PtD
theorem YC{h r:Hp}(hp:h.Perm r):aI h r:=dh fun a=>by rw[vZ hp];exact bI9 _
theorem dN.aO3{Y:Lay}(h:dN P Y){f:Nat}(hf:f<P.pages.length)(x:o8){pc:Array Value}(hr:Row Y.pb Y.zu pc 2 P.pages.length ((P.pages.map sS).set f (sS x)).flatten)(hx:I64 x.own∧I64 x.wit):dN (P.kH f x) { Y with pc:=pc }:=by
 have hl:(P.kH f x).pages.length=P.pages.length:=by simp[PtD.kH]
 refine⟨?_,h.gs,h.on,h.vc,h.mp,⟨fun k hk=>?_,h.wf.gs,h.wf.st⟩,⟨by rw[hl];exact h.n.p0,by rw[hl];exact h.n.p1,h.n.g4,h.n.o0,h.n.o1⟩,⟨by rw[hl];exact h.sm.pg,h.sm.gs,h.sm.on,h.sm.vc⟩⟩
 ·rw[hl];simpa [PtD.kH,bN8] using hr
 ·rw[hl] at hk;rw[PtD.Yz P f x hf];split
  ·exact hx
  ·exact h.wf.pg k hk
theorem dN.a08{Y:Lay}(h:dN P Y){c:Nat}(hc:c<P.on.length)(x:JR){oc:Array Value}(hr:Row Y.ob Y.AY oc 2 P.on.length ((P.on.map yG).set c (yG x)).flatten)(hx:I64 x.vm∧I64 x.cpu):dN (P.setSt c x) { Y with oc:=oc }:=by
 have hl:(P.setSt c x).on.length=P.on.length:=by simp[PtD.setSt]
 refine⟨h.pg,h.gs,?_,h.vc,h.mp,⟨h.wf.pg,h.wf.gs,fun k hk=>?_⟩,⟨h.n.p0,h.n.p1,h.n.g4,by rw[hl];exact h.n.o0,by rw[hl];exact h.n.o1⟩,⟨h.sm.pg,h.sm.gs,by rw[hl];exact h.sm.on,h.sm.vc⟩⟩
 ·rw[hl];simpa [PtD.setSt,bN8] using hr
 ·rw[hl] at hk;rw[PtD.YB P c x hc];split
  ·exact hx
  ·exact h.wf.st k hk
theorem dN.Ce{Y:Lay}(h:dN P Y)(hi:i<4)(g:Vg)(b:GB){gc:Array Value}(hr:Row Y.gb Y.AX gc 5 P.ay.length (((List.range P.ay.length).map (jb P Y.G)).set i [.bool g.live,.bool g.dying,.int .i64 g.first,b.vv,b.mv]).flatten)
  (hv:Own 3 1 b.vv b.hv (g.aQ.map bY)) (hm:Own 173 2 b.mv b.hm (g.maps.map eF)) (hw:I64 g.first∧(∀ x∈g.aQ,I64 x)∧∀ x∈g.maps,I64 x.mid∧I64 x.eu) (hs:g.aQ.length≤1000∧g.maps.length≤1000):dN (P.iT i g) { Y with gc:=gc,G:=oZ Y.G i b }:=by
 have g4:=h.n.g4;have hl:(P.iT i g).ay.length=P.ay.length:=by simp[PtD.iT]
 have hg:∀ k,(P.iT i g).gs k=if k=i then g else P.gs k:=PtD.YA P i g bB3
 refine⟨h.pg,?_,h.on,fun k hk=>?_,fun k hk=>?_,⟨h.wf.pg,fun k hk=>?_,h.wf.st⟩,⟨h.n.p0,h.n.p1,by rw[hl];exact g4,h.n.o0,h.n.o1⟩,⟨h.sm.pg,by rw[hl];exact h.sm.gs,h.sm.on,fun k hk=>?_⟩⟩
 ·rw[hl];have e:=xh (f:=jb P Y.G) (g:=jb (P.iT i g) (oZ Y.G i b)) (n:=P.ay.length) (k:=i) bB3 (fun j hj=>by simp only[jb,lG _ _ _ hj,hg j,if_neg hj]);have e2:jb (P.iT i g) (oZ Y.G i b) i=[.bool g.live,.bool g.dying,.int .i64 g.first,b.vv,b.mv]:=by simp only[jb,iW,hg i,if_true]
  rw[e2] at e;rw[←e];exact hr
 ·show Own _ 1 (oZ Y.G i b k).vv (oZ Y.G i b k).hv _;rw[hg k];by_cases hk':k=i
  ·subst hk';rw[iW,if_pos rfl];exact hv
  ·rw[lG _ _ _ hk',if_neg hk'];exact h.vc k hk
 ·show Own _ 2 (oZ Y.G i b k).mv (oZ Y.G i b k).hm _;rw[hg k];by_cases hk':k=i
  ·subst hk';rw[iW,if_pos rfl];exact hm
  ·rw[lG _ _ _ hk',if_neg hk'];exact h.mp k hk
 ·rw[hl] at hk;rw[hg k];split
  ·exact hw
  ·exact h.wf.gs k hk
 ·rw[hl] at hk;rw[hg k];split
  ·exact hs
  ·exact h.sm.vc k hk
abbrev Lay.hd(Y:Lay)(P:PtD)(bx tx:Nat):Hp:=⟨bx,#[Y.pv P,Y.gv P,Y.ov P],tx⟩::Y.in
theorem hdG(Y:Lay)(P:PtD)(i:Nat)(g:Vg)(gc:Array Value)(G:Nat→GB)(bx tx:Nat):Lay.hd { Y with gc:=gc,G:=G } (P.iT i g) bx tx=⟨bx,#[Y.pv P,Y.gv P,Y.ov P],tx⟩::⟨Y.pb,Y.pc,51⟩::⟨Y.gb,gc,100⟩::⟨Y.ob,Y.oc,104⟩::zq G 4:=by
 have:(P.iT i g).ay.length=P.ay.length:=by simp[PtD.iT]
 simp only[Lay.hd,Lay.in,Lay.pv,Lay.gv,Lay.ov,this];rfl
theorem hdP(Y:Lay)(P:PtD)(f:Nat)(x:o8)(pc:Array Value)(bx tx:Nat):Lay.hd { Y with pc:=pc } (P.kH f x) bx tx=⟨bx,#[Y.pv P,Y.gv P,Y.ov P],tx⟩::⟨Y.pb,pc,51⟩::⟨Y.gb,Y.gc,100⟩::⟨Y.ob,Y.oc,104⟩::zq Y.G 4:=by
 have:(P.kH f x).pages.length=P.pages.length:=by simp[PtD.kH]
 simp only[Lay.hd,Lay.in,Lay.pv,Lay.gv,Lay.ov,this];rfl
theorem Hq(Y:Lay)(P:PtD)(bx tx:Nat):Lay.hd Y P bx tx=⟨bx,#[Y.pv P,Y.gv P,Y.ov P],tx⟩::⟨Y.pb,Y.pc,51⟩::⟨Y.gb,Y.gc,100⟩::⟨Y.ob,Y.oc,104⟩::zq Y.G 4:=rfl
def kT(bx tx:Nat)(r:Except Int PtD)(u:Value)(hn:Hp):Prop:=match r with
 | .error e=>u=.int .i64 e
 | .ok P=>u=.int .i64 0∧∃ Y:Lay,dN P Y∧aI (Y.hd P bx tx) hn
section
variable {P : PtD} {Y : Lay} {bx tx : Nat} {w : World}
theorem MS(h:dN P Y)(hh:Here (Y.hd P bx tx) w){n:Int}(hn:1≤n∧n≤4):Fn Tryz.prog 199 [.pointer (some ⟨bx,0,none⟩),.int .i64 n].toArray w [] (fun u _=>u=.pointer (some ⟨Y.gb,(n-1).toNat*5,none⟩)):=by
 refine Fn.mono (tV (h.Yw hh) (n-1).toNat (by have:=h.n.g4;omega) n bB3) fun v hp e=>?_;rw[e];show Value.pointer (some ⟨Y.gb,0+(n-1).toNat*5,none⟩)=_;rw[bK2]
theorem dN.MV(h:dN P Y)(hi:i<4):((List.range P.ay.length).map (jb P Y.G))[i]?=some [.bool (P.gs i).live,.bool (P.gs i).dying,.int .i64 (P.gs i).first,(Y.G i).vv,(Y.G i).mv]:=iH _ (by have:=h.n.g4;omega)
theorem dN.g0(h:dN P Y)(hi:i<4):nth Y.gc.toList (i*5)=some (.bool (P.gs i).live):=h.gs.nth qG (h.MV hi) (k:=0) rfl
theorem dN.g3(h:dN P Y)(hi:i<4):nth Y.gc.toList (i*5+3)=some (Y.G i).vv:=h.gs.nth qG (h.MV hi) (k:=3) rfl
theorem dN.g4'(h:dN P Y)(hi:i<4):nth Y.gc.toList (i*5+4)=some (Y.G i).mv:=h.gs.nth qG (h.MV hi) (k:=4) rfl
theorem dN.p0'(h:dN P Y)(hi:i<P.pages.length):nth Y.pc.toList (i*2)=some (.int .i64 (P.pg i).own):=h.pg.nth AZ (MN hi) (k:=0) rfl
theorem dN.p1'(h:dN P Y)(hi:i<P.pages.length):nth Y.pc.toList (i*2+1)=some (.int .i64 (P.pg i).wit):=h.pg.nth AZ (MN hi) (k:=1) rfl
theorem dN.s0(h:dN P Y)(hi:i<P.on.length):nth Y.oc.toList (i*2)=some (.int .i64 (P.st i).vm):=h.on.nth st_len (MO hi) (k:=0) rfl
theorem dN.s1(h:dN P Y)(hi:i<P.on.length):nth Y.oc.toList (i*2+1)=some (.int .i64 (P.st i).cpu):=h.on.nth st_len (MO hi) (k:=1) rfl
theorem dN.aO4(h:dN P Y)(hi:i<P.on.length):(Y.oc.toList.drop (i*2)).take 2=[.int .i64 (P.st i).vm,.int .i64 (P.st i).cpu]:=h.on.cut st_len (MO hi)
theorem dN.zO(h:dN P Y):20≤Y.gc.size:=by have:=h.gs.size;have:=h.gs.le;have:=h.n.g4;omega
theorem dN.psz(h:dN P Y):P.pages.length*2≤Y.pc.size:=by rw[h.pg.size];exact bK8 _ h.pg.le
theorem dN.osz(h:dN P Y):P.on.length*2≤Y.oc.size:=by rw[h.on.size];exact bK8 _ h.on.le
end
theorem Dq(G:Nat→GB)(hi:i<4):∃ r,aI ((G i).hv++((G i).hm++r)) (zq G 4)∧∀ vv mv hv hm,aI (zq (oZ G i ⟨vv,mv,hv,hm⟩) 4) (hv++(hm++r)):=by
 obtain⟨r,hr⟩:=Yv 4 G hi;refine⟨r,YC (hr G (fun _ _=>rfl)).symm,fun vv mv hv hm=>?_⟩;have:=YC (hr (oZ G i ⟨vv,mv,hv,hm⟩) (fun j hj=>lG _ _ _ hj));rwa [iW] at this
theorem nZ(b:Bool)(e:Int)(w:World):Fn Tryz.prog 229 [.bool b,.int .i64 e].toArray w [] (fun u _=>u=.int .i64 (bif b then 0 else e)):=by
 refine enter Tryz.func229 ?_;refine run ?_;refine ah _ rfl (fun h=>?_) (fun h=>?_)
 ·refine run ?_;refine fin1 ?_;rw[h];rfl
 ·refine run ?_;refine fin1 ?_;rw[h];rfl
theorem P7(n:Int)(w:World):Fn Tryz.prog 231 [.int .i64 n].toArray w [] (fun u _=>u=.int .i64 (bif PtD.dD n 1 4 then 0 else 2)):=by
 refine enter Tryz.func231 ?_;refine run ?_;refine az (fun wc hG=>gB _ _ _ wc) ?_;refine run ?_;refine az (fun wc hG=>nZ _ _ wc) ?_;refine run ?_;exact fin1 rfl
theorem UB(n:Int)(w:World):Fn Tryz.prog 226 [.int .i64 n].toArray w [] (fun u _=>u=.int .i64 (bif PtD.dD n 0 15 then 0 else 2)):=by
 refine enter Tryz.func226 ?_;refine run ?_;refine az (fun wc hG=>gB _ _ _ wc) ?_;refine run ?_;refine az (fun wc hG=>nZ _ _ wc) ?_;refine run ?_;exact fin1 rfl
def jR:List Int→Int
 | []=>0
 | x::r=>bif decide (x=0) then jR r else x
theorem UC:∀ (l:List Int) (k:Nat),k<l.length→(∀ j,j<k→l.getD j 0=0)→l.getD k 0≠0→jR l=l.getD k 0:=by
 intro l
 induction l with
 | nil=>intro k h;simp at h
 | cons x r ih=>
  intro k hk hj hn
  cases k with
  | zero=>simp at hn ⊢;simp[jR,hn]
  | succ k=>
   have h0:=hj 0 bB3;simp at h0;subst h0;have:=ih k (by simpa using hk) (fun j hj'=>by have:=hj (j+1) bB3;simpa using this) (by simpa using hn);simpa [jR] using this
theorem MW:∀ (l:List Int),(∀ j,j<l.length→l.getD j 0=0)→jR l=0:=by
 intro l
 induction l with
 | nil=>intro _;rfl
 | cons x r ih=>
  intro h;have h0:=h 0 bB5;simp at h0;subst h0;have:=ih fun j hj=>by have:=h (j+1) (by simpa using hj);simpa using this
  simpa [jR] using this
theorem JC(xs:List Int)(v:Value)(h:aA w v 1 (xs.map bY)):Fn Tryz.prog 228 [v].toArray w [] (fun u _=>u=.int .i64 (jR xs)):=by
 obtain⟨q,cap,rfl,hne,hle⟩:=h.opened;refine enter Tryz.func228 ?_;refine run ?_;refine aK (σ:=Nat) (fun k=>[(7,.int .i64 (k:Int))]) (fun _=>[]) (fun k=>k≤xs.length∧∀ j,j<k→xs.getD j 0=0) (fun k=>xs.length-k) 0 ⟨bI1 _,fun j hj=>absurd hj bB3⟩ ?_;rintro k m hm ⟨hk,hno⟩;refine run ?_;refine ah _ rfl (fun hc=>?_) (fun hc=>?_)
 ·have hlt:k<xs.length:=by simp at hc;omega
  obtain⟨b,o,rfl⟩:=hne bB7;have hr:=aj (h.row hlt);simp only[bK3] at hr;have e0:xs.getD k default=xs.getD k 0:=rfl;rw[e0] at hr;refine run ?_;refine ah _ rfl (fun hp=>?_) (fun hp=>?_)
  ·refine run ?_;refine fin1 ?_;rw[UC xs k hlt hno bE8]
  ·refine run ?_;refine aF (k+1) ⟨hlt,fun j hj=>?_⟩;rcases bJ0.1 hj with hj | rfl
   ·exact hno j hj
   ·simpa using hp
 ·have hge:k=xs.length:=by simp at hc;omega
  subst hge;refine run ?_;refine fin1 ?_;rw[MW xs hno]
theorem lits{w0:World}{mu:List Nat}{hp:Hp}(hG:Good w0 mu hp w){b t n cap:Nat}{cs:Array Value}(hm:(⟨b,cs,t⟩:mO)∈hp)(xs:List Int)(hx:cs=((xs.map bY).flatten).toArray)(hn:n=xs.length)(hl:xs.length≤1000):aA w (.slice (some ⟨b,0,none⟩) n cap) 1 (xs.map bY):=by
 subst hx hn;have:=iI (w:=w) (cap:=cap) (sz:=1) (xs:=xs.map bY) (hG.here _ hm) (fun c hc=>by obtain⟨x,_,rfl⟩:=bI7.1 hc;rfl) bB6;rwa [bH7] at this
section
variable {P : PtD} {Y : Lay} {bx tx : Nat} {w : World}
theorem MX(h:dN P Y)(hh:Here (Y.hd P bx tx) w)(f:Int):Fn Tryz.prog 230 [.pointer (some ⟨bx,0,none⟩),.int .i64 f].toArray w [] (fun u _=>u=.int .i64 (bif PtD.dD f 16 ((P.pages.length:Int)-1) then 0 else 2)):=by
 have hc:=(h.Yw hh).cp;have:=h.n.p1;refine enter Tryz.func230 ?_;refine run ?_;refine az (fun wc hG=>gB _ _ _ wc) ?_;refine run ?_;refine az (fun wc hG=>nZ _ _ wc) ?_;refine run ?_;exact fin1 rfl
end
end
section
attribute [local irreducible] Hy St Ops DH dH
structure zx where
 kind:Int
 vm:Int
 frame:Int
 mid:Int
 kX:Int
 mM:Int
abbrev uw(c:zx):Value:=.agg #[.int .i64 c.kind,.int .i64 c.vm,.int .i64 c.frame,.int .i64 c.mid,.int .i64 c.kX,.int .i64 c.mM]
structure zx.Wf(c:zx):Prop where
 vm:I64 c.vm
 frame:I64 c.frame
 mid:I64 c.mid
 kX:I64 c.kX
def ix(n:Int):Nat:=(n-1).toNat
theorem BM{n:Int}(h:1≤n∧n≤4):ix n<4:=by unfold ix;omega
namespace PtD
def moreL(P:PtD)(vm:Int):Except Int PtD:=
 bif !dD vm 1 4 then .error 2 else bif !(P.gs (ix vm)).live then .error 3 else bif decide (2≤(P.gs (ix vm)).aQ.length) then .error 5
 else .ok (P.iT (ix vm) { P.gs (ix vm) with aQ:=(P.gs (ix vm)).aQ++[-1] })
end PtD
section
variable {P : PtD} {Y : Lay} {bx tx : Nat} {w : World}
theorem ai0(c:zx)(w:World):Fn Tryz.prog 317 [uw c].toArray w [] (fun u _=>u=.bool (decide (c.kind=3)||decide (c.kind=6)||decide (c.kind=7)||decide (c.kind=8))):=by
 refine enter Tryz.func317 ?_;refine run ?_;intro B;refine aC ?_;exact fin1 rfl
end
end
section
attribute [local irreducible] Hy St Ops DH dH
def DoR(r:Except Int PtD)(u:Value)(hn:Hp):Prop:=match r with
 | .error e=>u=.tuple #[.agg #[.slice none 0 0,.slice none 0 0,.slice none 0 0],.int .i64 e]
 | .ok P=>∃ Y:Lay,u=.tuple #[.agg #[Y.pv P,Y.gv P,Y.ov P],.int .i64 0]∧dN P Y∧aI Y.in hn
section
variable {P : PtD} {w : World} {pv gv ov : Value}
theorem ai1(h:dO w pv gv ov P):Fn Tryz.prog 60 [.agg #[pv,gv,ov]].toArray w [] (fun u _=>u=.int .i64 (bif P.may then 0 else 1)):=by
 obtain⟨p,pc,g,gc,o,oc,rfl,rfl,rfl,_⟩:=h.slices;refine enter Tryz.func60 ?_;refine run ?_;intro B X;refine az (fun wc hG=>XW h hG mh) ?_;refine run ?_;refine ah _ rfl (fun hc=>?_) (fun hc=>?_)
 ·refine run ?_;refine fin1 ?_;simp at hc;rw[hc];rfl
 ·refine run ?_;refine fin1 ?_;simp at hc;rw[hc];rfl
set_option maxHeartbeats 4000000 in
theorem EP(h:dO w pv gv ov P)(hs:P.Small 1000)(cpu:Nat)(hc:cpu<P.on.length)(c:zx)(r:Except Int PtD)(hr:∀ e,r=.error e→e≠0)
  (hH:P.may=true→(P.st cpu).vm=0→∀ Y bx w,dN P Y→dY (Y.hd P bx 149) w→Fn Tryz.prog 68 [.pointer (some ⟨bx,0,none⟩),.int .i64 (cpu:Int),uw c].toArray w ((Y.hd P bx 149).map (·.b)) (kT bx 149 r))
  (hU:P.may=true→(P.st cpu).vm≠0→∀ Y bx w,dN P Y→dY (Y.hd P bx 149) w→Fn Tryz.prog 67 [.pointer (some ⟨bx,0,none⟩),.int .i64 (cpu:Int),uw c].toArray w ((Y.hd P bx 149).map (·.b)) (kT bx 149 r)):
  Fn Tryz.prog 33 [.agg #[pv,gv,ov],.int .i64 (cpu:Int),uw c].toArray w [] (DoR (bif P.may then r else .error 1)):=by
 obtain⟨p,pc,g,gc,o,oc,rfl,rfl,rfl,_⟩:=h.slices;have hlo:=hs.on;refine enter Tryz.func33 ?_;refine run ?_;intro B C R;refine run ?_;refine az (fun wc hG=>ai1 (h.good hG)) ?_;cases hm:P.may
 ·refine aP ?_;refine fZ ?_;rfl
 have hb:PtD.dD (cpu:Int) 0 ((P.on.length:Int)-1)=true:=by simp only[PtD.dD,bH6,decide_eq_true_eq];omega
 refine aP ?_;refine bG (fun hg wc hG=>gB _ _ _ wc) ?_;rw[hb];refine aP ?_;refine bH (fun wc hG=>Yy (h.good hG) (wK hm) hs) ?_;rintro _ hn ⟨Y,bx,rfl,hO,hle⟩;refine aS (⟨R,#[.slice none 0 0,.slice none 0 0,.slice none 0 0],48⟩::⟨C,#[.int .i64 c.kind,.int .i64 c.vm,.int .i64 c.frame,.int .i64 c.mid,.int .i64 c.kX,.int .i64 c.mM],37⟩::⟨B,#[.slice p P.pages.length pc,.slice g P.ay.length gc,.slice o P.on.length oc],48⟩::Y.hd P bx 149) (by rw[Hq];(exact cnt1 hle)) ?_;obtain⟨L,e1,e2,e3,hV⟩:=h.open (wK hm);cases e1;cases e2;cases e3;have hst:=hV.st0 hc;refine aP ?_;refine ah _ rfl (fun hv=>?_) (fun hv=>?_)
 ·simp only[decide_eq_true_eq] at hv;refine aP ?_;refine WB (fs:=[.pointer (some ⟨bx,0,none⟩)]) (vs:=[.int .i64 (cpu:Int),uw c]) (us:=[]) (Y.hd P bx 149) [⟨R,#[.slice none 0 0,.slice none 0 0,.slice none 0 0],48⟩,⟨C,#[.int .i64 c.kind,.int .i64 c.vm,.int .i64 c.frame,.int .i64 c.mid,.int .i64 c.kX,.int .i64 c.mM],37⟩,⟨B,#[.slice (some ⟨L.pb,L.po,none⟩) P.pages.length L.pc,.slice (some ⟨L.gb,L.go,none⟩) P.ay.length L.gc,.slice (some ⟨L.ob,L.oo,none⟩) P.on.length L.oc],48⟩] (fun wc hG=>hH hm hv Y bx wc hO hG.iG) (fun v hn2 hR=>?_) bE4
  cases hrr:r with
  | error e=>
   rw[hrr] at hR;obtain rfl:v=.int .i64 e:=hR;have he:decide (e=0)=false:=by simp[hr e hrr]
   refine aS [⟨R,#[.slice none 0 0,.slice none 0 0,.slice none 0 0],48⟩] ak ?_;refine run ?_;refine ah _ rfl (fun hp=>?_) (fun hp=>by rw[he] at hp;cases hp);refine run ?_;refine fZ ?_
   rfl
  | ok P'=>
   rw[hrr] at hR;obtain⟨rfl,Y',hO',hle'⟩:=hR;refine aS (⟨R,#[.slice none 0 0,.slice none 0 0,.slice none 0 0],48⟩::Y'.hd P' bx 149) bE0 ?_;refine aP ?_;refine fZ ?_;refine⟨Y',rfl,hO',?_⟩;simp only[Hq]
   (exact ak)
 ·simp only[decide_eq_false_iff_not] at hv;refine aP ?_;refine WB (fs:=[.pointer (some ⟨bx,0,none⟩)]) (vs:=[.int .i64 (cpu:Int),uw c]) (us:=[]) (Y.hd P bx 149) [⟨R,#[.slice none 0 0,.slice none 0 0,.slice none 0 0],48⟩,⟨C,#[.int .i64 c.kind,.int .i64 c.vm,.int .i64 c.frame,.int .i64 c.mid,.int .i64 c.kX,.int .i64 c.mM],37⟩,⟨B,#[.slice (some ⟨L.pb,L.po,none⟩) P.pages.length L.pc,.slice (some ⟨L.gb,L.go,none⟩) P.ay.length L.gc,.slice (some ⟨L.ob,L.oo,none⟩) P.on.length L.oc],48⟩] (fun wc hG=>hU hm hv Y bx wc hO hG.iG) (fun v hn2 hR=>?_) bE4
  cases hrr:r with
  | error e=>
   rw[hrr] at hR;obtain rfl:v=.int .i64 e:=hR;have he:decide (e=0)=false:=by simp[hr e hrr]
   refine aS [⟨R,#[.slice none 0 0,.slice none 0 0,.slice none 0 0],48⟩] ak ?_;refine run ?_;refine ah _ rfl (fun hp=>?_) (fun hp=>by rw[he] at hp;cases hp);refine run ?_;refine fZ ?_
   rfl
  | ok P'=>
   rw[hrr] at hR;obtain⟨rfl,Y',hO',hle'⟩:=hR;refine aS (⟨R,#[.slice none 0 0,.slice none 0 0,.slice none 0 0],48⟩::Y'.hd P' bx 149) bE0 ?_;refine aP ?_;refine fZ ?_;refine⟨Y',rfl,hO',?_⟩;simp only[Hq]
   (exact ak)
set_option maxHeartbeats 4000000 in
theorem ai2(h:dO w pv gv ov P)(hs:P.Small 1000)(hm:P.may=true)(cpu:Nat)(hc:cpu<P.on.length)(c:zx)(r:Except Int PtD)(hr:∀ e,r=.error e→e≠0)
  (hH:(P.st cpu).vm=0→∀ Y bx w,dN P Y→dY (Y.hd P bx 48) w→Fn Tryz.prog 262 [.pointer (some ⟨bx,0,none⟩),.int .i64 (cpu:Int),uw c].toArray w ((Y.hd P bx 48).map (·.b)) (kT bx 48 r))
  (hU:(P.st cpu).vm≠0→∀ Y bx w,dN P Y→dY (Y.hd P bx 48) w→Fn Tryz.prog 263 [.pointer (some ⟨bx,0,none⟩),.int .i64 (cpu:Int),uw c].toArray w ((Y.hd P bx 48).map (·.b)) (kT bx 48 r)):
  Fn Tryz.prog 176 [.agg #[pv,gv,ov],.int .i64 (cpu:Int),uw c].toArray w [] (DoR r):=by
 have hlo:=hs.on;obtain⟨L,rfl,rfl,rfl,hV⟩:=h.open (wK hm);have hst:=hV.st0 hc;refine enter Tryz.func176 ?_;refine run ?_;intro B C R;refine run ?_;refine bH (fun wc hG=>P6 (h.good hG) (wK hm) hs) ?_;rintro _ hn ⟨Y,rfl,hO,hle⟩;refine aS (⟨R,#[.slice none 0 0,.slice none 0 0,.slice none 0 0],48⟩::⟨C,#[.int .i64 c.kind,.int .i64 c.vm,.int .i64 c.frame,.int .i64 c.mid,.int .i64 c.kX,.int .i64 c.mM],37⟩::⟨B,#[L.pv P.pages.length,L.gv P.ay.length,L.ov P.on.length],48⟩::Y.in) (cnt1 hle) ?_;refine run ?_;intro X;refine aP ?_;refine ah _ rfl (fun hv=>?_) (fun hv=>?_)
 ·simp only[decide_eq_true_eq] at hv;refine aP ?_;refine iR (Y.hd P X 48) [⟨R,#[.slice none 0 0,.slice none 0 0,.slice none 0 0],48⟩,⟨C,#[.int .i64 c.kind,.int .i64 c.vm,.int .i64 c.frame,.int .i64 c.mid,.int .i64 c.kX,.int .i64 c.mM],37⟩,⟨B,#[L.pv P.pages.length,L.gv P.ay.length,L.ov P.on.length],48⟩] (fun wc hG=>hH hv Y X wc hO hG.iG) (fun v hn2 hR=>?_) bE4
  cases hrr:r with
  | error e=>
   rw[hrr] at hR;obtain rfl:v=.int .i64 e:=hR;have he:decide (e=0)=false:=by simp[hr e hrr]
   refine aS [⟨R,#[.slice none 0 0,.slice none 0 0,.slice none 0 0],48⟩] ak ?_;refine run ?_;refine ah _ rfl (fun hp=>?_) (fun hp=>by rw[he] at hp;cases hp);refine run ?_;refine fZ ?_
   rfl
  | ok P'=>
   rw[hrr] at hR;obtain⟨rfl,Y',hO',hle'⟩:=hR;refine aS (⟨R,#[.slice none 0 0,.slice none 0 0,.slice none 0 0],48⟩::Y'.hd P' X 48) bE0 ?_;refine aP ?_;refine fZ ?_;refine⟨Y',rfl,hO',?_⟩;simp only[Hq]
   (exact ak)
 ·simp only[decide_eq_false_iff_not] at hv;refine aP ?_;refine iR (Y.hd P X 48) [⟨R,#[.slice none 0 0,.slice none 0 0,.slice none 0 0],48⟩,⟨C,#[.int .i64 c.kind,.int .i64 c.vm,.int .i64 c.frame,.int .i64 c.mid,.int .i64 c.kX,.int .i64 c.mM],37⟩,⟨B,#[L.pv P.pages.length,L.gv P.ay.length,L.ov P.on.length],48⟩] (fun wc hG=>hU hv Y X wc hO hG.iG) (fun v hn2 hR=>?_) bE4
  cases hrr:r with
  | error e=>
   rw[hrr] at hR;obtain rfl:v=.int .i64 e:=hR;have he:decide (e=0)=false:=by simp[hr e hrr]
   refine aS [⟨R,#[.slice none 0 0,.slice none 0 0,.slice none 0 0],48⟩] ak ?_;refine run ?_;refine ah _ rfl (fun hp=>?_) (fun hp=>by rw[he] at hp;cases hp);refine run ?_;refine fZ ?_
   rfl
  | ok P'=>
   rw[hrr] at hR;obtain⟨rfl,Y',hO',hle'⟩:=hR;refine aS (⟨R,#[.slice none 0 0,.slice none 0 0,.slice none 0 0],48⟩::Y'.hd P' X 48) bE0 ?_;refine aP ?_;refine fZ ?_;refine⟨Y',rfl,hO',?_⟩;simp only[Hq]
   (exact ak)
end
end
section
attribute [local irreducible] Hy St Ops DH dH
structure ER where
 cpu:Int
 kind:Int
 vm:Int
 frame:Int
 mid:Int
 kX:Int
 mM:Int
 stop:Bool
deriving Inhabited
def ai3(x:ER):List Value:=[.int .i64 x.cpu,.int .i64 x.kind,.int .i64 x.vm,.int .i64 x.frame,.int .i64 x.mid,.int .i64 x.kX,.int .i64 x.mM,.bool x.stop]
structure ER.Wf(x:ER):Prop where
 cpu:I64 x.cpu
 kind:I64 x.kind
 vm:I64 x.vm
 frame:I64 x.frame
 mid:I64 x.mid
 kX:I64 x.kX
 mM:I64 x.mM
end
section
attribute [local irreducible] Hy St Ops DH dH
theorem kT.le{bx tx:Nat}{r:Except Int PtD}{hn hn':Hp}(h:kT bx tx r v hn)(hl:aI hn hn'):kT bx tx r v hn':=by
 cases r with
 | error e=>exact h
 | ok P=>obtain⟨e,Y,hO,hle⟩:=h;exact⟨e,Y,hO,dh fun a=>bP8 (hle.cnt a) (hl.cnt a)⟩
theorem zy(hm:P.may=true){cpu:Nat}(hc:cpu<P.on.length)(hv:(P.st cpu).vm≠0):1≤(P.st cpu).vm∧(P.st cpu).vm≤4∧(P.gs (ix (P.st cpu).vm)).live=true∧0≤(P.st cpu).cpu∧(P.st cpu).cpu.toNat<(P.gs (ix (P.st cpu).vm)).aQ.length∧(P.gs (ix (P.st cpu).vm)).aQ.getD (P.st cpu).cpu.toNat 0=(cpu:Int):=by
 have h:=(PtD.sQ.1 hm).seat cpu hc;simp only[PtD.seated,hv,decide_false,cond_false,PtD.lives,PtD.dD,bH6,decide_eq_true_eq] at h;obtain⟨⟨⟨⟨h1,h2⟩,h3⟩,h4,h5⟩,h6⟩:=h;exact⟨h1,h2,h3,h4,by unfold ix;omega,h6⟩
section
variable {P : PtD} {Y : Lay} {bx : Nat} {w : World}
theorem vM(h:dN P Y)(hN:dY (Y.hd P bx 149) w)(k vm fr mid vc cc:Int)(cpu:Nat)(hc:cpu<P.on.length)(h10:decide (k=10)=false)(h11:decide (k=11)=false)(h9:decide (k=9)=false):Fn Tryz.prog 67 [.pointer (some ⟨bx,0,none⟩),.int .i64 (cpu:Int),uw ⟨k,vm,fr,mid,vc,cc⟩].toArray w ((Y.hd P bx 149).map (·.b)) (kT bx 149 (.error 9)):=by
 have hs0:=h.s0 hc;refine dS _ hN Tryz.func67 ?_;refine run ?_;intro C;refine aP ?_;refine ah _ rfl (fun hp=>by rw[h10] at hp;cases hp) (fun _=>?_);refine aP ?_;refine ah _ rfl (fun hp=>by rw[h11] at hp;cases hp) (fun _=>?_);refine aP ?_;refine ah _ rfl (fun hp=>by rw[h9] at hp;cases hp) (fun _=>?_);refine aP ?_;refine fin1 ?_;rfl
end
end
section
open Go.ChangeShapes Go.WideShapes Go.ChangeAt Go.RowKit
theorem aB7{cs:List Value}(h:jB [.i .i64,.i .i64,.i .i64,.i .i64,.i .i64,.i .i64,.i .i64,.b] cs=true):∃ x:ER,cs=ai3 x∧x.Wf:=by
 obtain⟨_,_,rfl,h1,h⟩:=aH h;obtain⟨_,_,rfl,h2,h⟩:=aH h;obtain⟨_,_,rfl,h3,h⟩:=aH h;obtain⟨_,_,rfl,h4,h⟩:=aH h;obtain⟨_,_,rfl,h5,h⟩:=aH h;obtain⟨_,_,rfl,h6,h⟩:=aH h;obtain⟨_,_,rfl,h7,h⟩:=aH h;obtain⟨_,_,rfl,h8,h⟩:=aH h;obtain rfl:=kM h;obtain⟨a1,rfl,b1⟩:=kP h1;obtain⟨a2,rfl,b2⟩:=kP h2;obtain⟨a3,rfl,b3⟩:=kP h3;obtain⟨a4,rfl,b4⟩:=kP h4;obtain⟨a5,rfl,b5⟩:=kP h5;obtain⟨a6,rfl,b6⟩:=kP h6;obtain⟨a7,rfl,b7⟩:=kP h7;obtain⟨a8,rfl⟩:=BA h8;exact⟨⟨a1,a2,a3,a4,a5,a6,a7,a8⟩,rfl,⟨b1,b2,b3,b4,b5,b6,b7⟩⟩
section
variable {H : Type} {enc : TypeId × Value → H} {w : World} {base : Nat} {spare : Nat → Bool} {held : Bool}
theorem UD{fuel:Nat}{cs:List Value}{x:DataW H×List MemPlace}(h:DataW.trod enc Tryz.prog w base spare held fuel 30 cs=some x)(hz:FI Tryz.prog 30 x.1):∃ v,∃ xs:List ER,cs=[v]∧aA w v 8 (xs.map ai3)∧∀ a∈xs,a.Wf:=
 SG (ks:=[.i .i64,.i .i64,.i .i64,.i .i64,.i .i64,.i .i64,.i .i64,.b]) Tryz.underlying30 bC3 bC3 bB4 bC3 (fun cs h=>aB7 h) h hz
end
end
section
attribute [local irreducible] Hy St Ops DH dH
section
variable {n : Nat} {w0 : World} {mu : List Nat} {l : Fm} {hp : Hp} {Q : Exit → Fm → Hp → Prop} {all : Array Oper} {rest : List Oper} {ty : TypeId} {pos : String} {af : Array Edge}
theorem ai4{f d j dj:Nat}{want b:Bool}{x:Operand}{xs:List Operand}{vs fs us:List Value}{tys:Array TypeId}(hc:jd b want=true→∀ w,Good w0 mu hp w→Fn Tryz.prog f (fs++vs++us).toArray w [] (fun u _=>u=v))(h:Ops Tryz.prog n w0 mu all rest ((d,gv (jd b want) v)::l) hp Q)
  (hj:(all[j]?).bind (·.dst)=some dj:=by rfl) (hb:look l dj=some (.bool b):=by rfl) (hdj:Nat.blt dj n=true:=by rfl) (hx:jd b want=true→ev l x=some (.func (.func f) fs.toArray us.toArray):=by (intro hg1;(try simp only[hg1,bI,bI6]);rfl)) (bM:mem iV f=true:=by rfl) (hd:Nat.blt d n=true:=by rfl) (hv:jd b want=true→evs l xs=some vs:=by (intro hg1;(try simp only[hg1,bI,bI6]);rfl)):Ops Tryz.prog n w0 mu all (⟨some d,.call { callee:=.value x,args:=xs.toArray,argTypes:=tys },ty,pos,af,some (j,want)⟩::rest) l hp Q:=
 Sj hd hj hb hdj (fun hg=>yu (fA f bM) (hx hg) (hv hg) (hc hg)) h
end
theorem MZ(x:jQ)(mid:Int)(h1:0≤x.mid∧x.mid≤15)(h2:0≤mid∧mid≤15)(w:World):Fn Tryz.prog 300 ([]++[Value.agg #[.int .i64 x.mid,.int .i64 x.eu],.int .i64 mid]++[]).toArray w [] (fun u _=>u=.int .i64 (x.mid-mid)):=by
 refine enter Tryz.func300 ?_;refine run ?_;intro b;refine run ?_;exact fin1 rfl
theorem JD{w:World}(xs:List jQ)(mid:Int)(v:Value)(h:aA w v 2 (xs.map eF))(h2:0≤mid∧mid≤15)(hx:∀ k,k<xs.length→0≤(xs.getD k default).mid∧(xs.getD k default).mid≤15)(hs:PtD.Sorted xs)(hl:xs.length≤1000000):
  Fn Tryz.prog 299 [v,.int .i64 mid,.func (.func 300) [].toArray [].toArray].toArray w [] (fun u _=>u=.tuple #[.int .i64 (PtD.og xs mid),.bool (PtD.sU xs mid)]):=by
 obtain⟨q,cap,rfl,hne,hle⟩:=h.opened;have hlb:=PtD.CU xs mid;refine enter Tryz.func299 ?_;refine run ?_;refine aK (σ:=Nat×Nat) (fun s=>[(9,.int .i64 (s.1:Int)),(10,.int .i64 (s.2:Int))]) (fun _=>[]) (fun s=>s.1≤s.2∧s.2≤xs.length∧(∀ j,j<s.1→(xs.getD j default).mid<mid)∧∀ j,s.2≤j→j<xs.length→mid≤(xs.getD j default).mid) (fun s=>s.2-s.1) (0,xs.length) ⟨bI1 _,bI9 _,fun j hj=>absurd hj bB5,fun j h1 h2=>absurd h1 bB3⟩ ?_;rintro⟨i,j⟩ m hm ⟨hij,hj,ha,hb⟩;dsimp only at hm hij hj ha hb ⊢;refine run ?_;refine ah _ rfl (fun hc=>?_) (fun hc=>?_)
 ·have hlt:i<j:=by simpa using hc
  obtain⟨b,o,rfl⟩:=hne (by intro e;subst e;simp at hj;omega);have hlt2:(i+j)/2<xs.length:=by omega
  have hr:=h.row hlt2;simp only[eF] at hr;refine run ?_;refine jI bB8 (av3 (q:=(((i+j)/2:Nat):Int)) rfl rfl bB3 bB3 bB5) ?_;refine run ?_;refine l7 (fun wc hG=>MZ (xs.getD ((i+j)/2) default) mid (hx _ hlt2) h2 wc) ?_;refine run ?_;refine ah _ rfl (fun hp=>?_) (fun hp=>?_)
  ·have hp':(xs.getD ((i+j)/2) default).mid<mid:=by simp only[decide_eq_true_eq] at hp;omega
   refine run ?_;refine aF ((i+j)/2+1,j) ⟨by dsimp only;omega,hj,fun t ht=>?_,hb⟩;dsimp only at ht;rcases bJ0.1 ht with h3 | rfl
   ·have:=hs _ _ h3 hlt2;omega
   ·exact hp'
  ·have hp':mid≤(xs.getD ((i+j)/2) default).mid:=by simp only[decide_eq_false_iff_not] at hp;omega
   refine run ?_;refine aF (i,(i+j)/2) ⟨by dsimp only;omega,by dsimp only;omega,ha,fun t h3 h4=>?_⟩;dsimp only at h3;rcases bQ3 ((i+j)/2) t with h5 | h5
   ·have:=hs _ _ h5 h4;omega
   ·rw[show t=(i+j)/2 by omega];exact hp'
 ·have hij':i=j:=by simp at hc;omega
  subst hij';have hlow:=PtD.SE hs hj ha hb;rcases bQ3 i xs.length with hi | hi
  ·obtain⟨b,o,rfl⟩:=hne (by intro e;subst e;simp at hi);have hr:=h.row hi;simp only[eF] at hr;have hxi:=hx i hi;refine aC ?_;refine ai4 (fun hg wc hG=>MZ (xs.getD i default) mid hxi h2 wc) ?_;refine aC ?_;refine fin2 ?_;have e:decide ((i:Int)<(xs.length:Int))=true:=by simp;omega
   have e2:decide (i<xs.length)=true:=by simp;omega
   have e3:decide ((xs.getD i default).mid-mid=0)=decide ((xs.getD i default).mid=mid):=by rw[decide_eq_decide];omega
   rw[←hlow,PtD.sU,←hlow,e,e2,e3]
  ·refine run ?_;have e2:decide (i<xs.length)=false:=by simp;omega
   rw[show decide ((i:Int)<(xs.length:Int))=false by simp;omega];refine aC ?_;refine fin2 ?_;rw[←hlow,PtD.sU,←hlow,e2];rfl
theorem ai5(xs:List jQ)(mid:Int)(b o:Nat)(v:Value)(hv:w.cell? ⟨b,o+4,none⟩=some v)(h:aA w v 2 (xs.map eF))(h2:0≤mid∧mid≤15)(hx:∀ k,k<xs.length→0≤(xs.getD k default).mid∧(xs.getD k default).mid≤15)(hs:PtD.Sorted xs)(hl:xs.length≤1000000):
  Fn Tryz.prog 227 [.pointer (some ⟨b,o,none⟩),.int .i64 mid].toArray w [] (fun u _=>u=.tuple #[.int .i64 (PtD.og xs mid),.bool (PtD.sU xs mid)]):=by
 refine enter Tryz.func227 ?_;refine run ?_;refine az (fun wc hG=>JD xs mid v (h.good hG) h2 hx hs hl) ?_;refine run ?_;exact fin2 rfl
end
section
attribute [local irreducible] Hy St Ops DH dH
namespace PtD
def aO5(P:PtD)(cpu:Nat)(vm vc:Int):Except Int PtD:=
 bif !dD vm 1 4 then .error 2 else bif !(P.gs (ix vm)).live||!dD vc 0 (((P.gs (ix vm)).aQ.length:Int)-1) then .error 3 else bif !decide ((P.gs (ix vm)).aQ.getD vc.toNat 0= -1) then .error 6
 else .ok ((P.iT (ix vm) { P.gs (ix vm) with aQ:=(P.gs (ix vm)).aQ.set vc.toNat (cpu:Int) }).setSt cpu ⟨vm,vc⟩)
end PtD
section
variable {P : PtD} {Y : Lay} {bx tx : Nat} {w : World}
theorem dN.aq5(h:dN P Y){cpu:Nat}(hi:i<4)(hk:k<(P.gs i).aQ.length)(hc:cpu<P.on.length)(z:Int)(hz:I64 z)(s:JR)(hs:I64 s.vm∧I64 s.cpu){g:Nat}{cur:Array Value}(hv:Own 3 1 (Y.G i).vv [⟨g,cur,3⟩] (((P.gs i).aQ.set k z).map bY)):
  dN ((P.iT i { P.gs i with aQ:=(P.gs i).aQ.set k z }).setSt cpu s) { Y with oc:=putAt Y.oc (cpu*2) (yG s),G:=oZ Y.G i ⟨(Y.G i).vv,(Y.G i).mv,[⟨g,cur,3⟩],(Y.G i).hm⟩ }:=by
 have g4:=h.n.g4;have hf:=h.wf.gs i bB3;have hsm:=h.sm.vc i bB3
 have hg:=h.Ce hi { P.gs i with aQ:=(P.gs i).aQ.set k z } ⟨(Y.G i).vv,(Y.G i).mv,[⟨g,cur,3⟩],(Y.G i).hm⟩ (gc:=Y.gc) (by
  rw[pY (h.MV hi)]
  exact h.gs) hv (h.mp i hi) ⟨hf.1,fun x hx=>?_,hf.2.2⟩ ⟨by simpa using hsm.1,hsm.2⟩
 ·have hon:(P.iT i { P.gs i with aQ:=(P.gs i).aQ.set k z }).on=P.on:=rfl
  have:=hg.a08 (c:=cpu) (by rw[hon];exact hc) s (oc:=putAt Y.oc (cpu*2) (yG s)) (by
   have:=h.on.put st_len (MO hc) (k:=0) (vs:=yG s) (by simp[yG]);have e:([Value.int .i64 (P.st cpu).vm,.int .i64 (P.st cpu).cpu]).take 0++yG s++([Value.int .i64 (P.st cpu).vm,.int .i64 (P.st cpu).cpu]).drop (0+(yG s).length)=yG s:=rfl;rw[e] at this
   exact this) hs
  exact this
 ·rcases bS3 hx with hx | rfl
  ·exact hf.2.1 x hx
  ·exact hz
theorem aO6(Y:Lay)(P:PtD)(i cpu:Nat)(g:Vg)(s:JR)(oc:Array Value)(G:Nat→GB)(bx tx:Nat):Lay.hd { Y with oc:=oc,G:=G } ((P.iT i g).setSt cpu s) bx tx=⟨bx,#[Y.pv P,Y.gv P,Y.ov P],tx⟩::⟨Y.pb,Y.pc,51⟩::⟨Y.gb,Y.gc,100⟩::⟨Y.ob,oc,104⟩::zq G 4:=by
 have h1:((P.iT i g).setSt cpu s).ay.length=P.ay.length:=by simp[PtD.iT,PtD.setSt]
 have h2:((P.iT i g).setSt cpu s).on.length=P.on.length:=by simp[PtD.iT,PtD.setSt]
 simp only[Lay.hd,Lay.in,Lay.pv,Lay.gv,Lay.ov,h1,h2];rfl
end
end
section
attribute [local irreducible] Hy St Ops DH dH
def PtD.ES(P:PtD)(cpu:Nat):PtD:=(P.iT (ix (P.st cpu).vm) { P.gs (ix (P.st cpu).vm) with aQ:=(P.gs (ix (P.st cpu).vm)).aQ.set (P.st cpu).cpu.toNat (-1) }).setSt cpu ⟨0,0⟩
theorem UE(G:Nat→GB)(i:Nat):oZ G i (G i)=G:=by
 funext j
 by_cases hj:j=i
 ·subst hj;rw[iW]
 ·rw[lG _ _ _ hj]
section
variable {P : PtD} {Y : Lay} {bx tx : Nat} {w : World}
theorem F6(h:dN P Y)(hN:dY (Y.hd P bx 149) w){K:Int}(hK:K=9∨K=10∨K=11)(vm fr mid vc cc cpu:Int):Fn Tryz.prog 68 [.pointer (some ⟨bx,0,none⟩),.int .i64 cpu,uw ⟨K,vm,fr,mid,vc,cc⟩].toArray w ((Y.hd P bx 149).map (·.b)) (kT bx 149 (.error 9)):=by
 rcases hK with rfl | rfl | rfl<;>(
 refine dS _ hN Tryz.func68 ?_;refine run ?_;intro C;refine aP ?_;refine fin1 ?_
 rfl)
theorem UF(h:dN P Y)(hN:dY (Y.hd P bx 48) w){K:Int}(hK:K=9∨K=10∨K=11)(vm fr mid vc cc cpu:Int):Fn Tryz.prog 262 [.pointer (some ⟨bx,0,none⟩),.int .i64 cpu,uw ⟨K,vm,fr,mid,vc,cc⟩].toArray w ((Y.hd P bx 48).map (·.b)) (kT bx 48 (.error 9)):=by
 rcases hK with rfl | rfl | rfl<;>(
 refine dS _ hN Tryz.func262 ?_;refine run ?_;intro B;refine run ?_;refine az (fun wc hG=>ai0 ⟨_,vm,fr,mid,vc,cc⟩ wc) ?_;refine aP ?_;refine dA ?_;refine bg ?_;refine aP ?_;refine fin1 ?_
 rfl)
theorem aB8(h:dN P Y)(hm:P.may=true)(hN:dY (Y.hd P bx 149) w)(cpu:Nat)(hc:cpu<P.on.length)(hv:(P.st cpu).vm≠0):Fn Tryz.prog 145 [.pointer (some ⟨bx,0,none⟩),.int .i64 (cpu:Int)].toArray w ((Y.hd P bx 149).map (·.b)) (fun u hn=>u=.tuple #[]∧∃ Y',dN (P.ES cpu) Y'∧aI (Y'.hd (P.ES cpu) bx 149) hn):=by
 have hs:=zy hm hc hv;obtain⟨b1,b2,hl,hk0,hk,he⟩:=hs;have hs0:=h.s0 hc;have hs1:=h.s1 hc;have hrow:=h.aO4 hc;have a09:=h.osz;have g4:=h.n.g4;refine dS _ hN Tryz.func145 ?_;refine aP ?_;intro S;obtain⟨g,cap',cur,eg,eh,hn,hsz,hset⟩:=(h.vc _ (BM ⟨b1,b2⟩)).aa6 hk;obtain⟨r,g1,g2⟩:=Dq Y.G (BM ⟨b1,b2⟩);rw[eh] at g1;have g0:=g2 (Y.G (ix (P.st cpu).vm)).vv (Y.G (ix (P.st cpu).vm)).mv (Y.G (ix (P.st cpu).vm)).hv (Y.G (ix (P.st cpu).vm)).hm;rw[show oZ Y.G (ix (P.st cpu).vm) ⟨(Y.G (ix (P.st cpu).vm)).vv,(Y.G (ix (P.st cpu).vm)).mv,(Y.G (ix (P.st cpu).vm)).hv,(Y.G (ix (P.st cpu).vm)).hm⟩=Y.G from UE Y.G _,eh] at g0;have n3:=h.g3 (BM ⟨b1,b2⟩);rw[eg] at n3;have hz:=h.zO;have hi:ix (P.st cpu).vm<4:=BM ⟨b1,b2⟩;refine oD (⟨S,#[.int .i64 (P.st cpu).vm,.int .i64 (P.st cpu).cpu],104⟩::⟨g,cur,3⟩::⟨bx,#[Y.pv P,Y.gv P,Y.ov P],149⟩::⟨Y.ob,Y.oc,104⟩::⟨Y.pb,Y.pc,51⟩::⟨Y.gb,Y.gc,100⟩::((Y.G (ix (P.st cpu).vm)).hm++r)) (cnt1 g1) ?_;refine gU 9 ?_;refine dI ?_;refine fB (fun wc hG=>MS (bx:=bx) (tx:=149) h (hG.here' (by (refine dh fun a=>?_;have:=aI.cnt g1 a;have:=aI.cnt g0 a;simp only[eH,bJ,jk] at *;omega))) ⟨b1,b2⟩) ?_;rw[show ((P.st cpu).vm-1).toNat=ix (P.st cpu).vm from rfl];refine dI ?_;refine aP ?_;refine fin0 ⟨rfl,_,h.aq5 hi hk hc (-1) ⟨by decide,by decide⟩ ⟨0,0⟩ ⟨⟨by decide,by decide⟩,⟨by decide,by decide⟩⟩ (hset _),?_⟩;have g3:=g2 (Y.G (ix (P.st cpu).vm)).vv (Y.G (ix (P.st cpu).vm)).mv [⟨g,cur.setIfInBounds (P.st cpu).cpu.toNat (.int .i64 (-1)),3⟩] (Y.G (ix (P.st cpu).vm)).hm;rw[PtD.ES,aO6];simp only[putAt,yG]
 (exact cnt1 g3)
theorem Ci(h:dN P Y)(hm:P.may=true)(hN:dY (Y.hd P bx 149) w)(vm fr mid vc cc:Int)(cpu:Nat)(hc:cpu<P.on.length)(hv:(P.st cpu).vm≠0):Fn Tryz.prog 67 [.pointer (some ⟨bx,0,none⟩),.int .i64 (cpu:Int),uw ⟨9,vm,fr,mid,vc,cc⟩].toArray w ((Y.hd P bx 149).map (·.b)) (kT bx 149 (.ok (P.ES cpu))):=by
 have hs0:=h.s0 hc;refine dS _ hN Tryz.func67 ?_;refine run ?_;intro C;refine aP ?_;refine iR (Y.hd P bx 149) [⟨C,#[.int .i64 9,.int .i64 vm,.int .i64 fr,.int .i64 mid,.int .i64 vc,.int .i64 cc],37⟩] (fun wc hG=>aB8 h hm hG.iG cpu hc hv) (fun v hn hR=>?_) bE4;obtain⟨rfl,Y',hO,hle⟩:=hR;refine aP ?_;refine fin1 ?_;exact⟨rfl,Y',hO,dh fun a=>by have:=hle.cnt a;simp only[eH,bJ,jk] at *;omega⟩
theorem UG(h:dN P Y)(hm:P.may=true)(hN:dY (Y.hd P bx 48) w)(vm fr mid vc cc:Int)(cpu:Nat)(hc:cpu<P.on.length)(hv:(P.st cpu).vm≠0):Fn Tryz.prog 263 [.pointer (some ⟨bx,0,none⟩),.int .i64 (cpu:Int),uw ⟨9,vm,fr,mid,vc,cc⟩].toArray w ((Y.hd P bx 48).map (·.b)) (kT bx 48 (.ok (P.ES cpu))):=by
 obtain⟨b1,b2,hl,hk0,hk,he⟩:=zy hm hc hv;have hs0:=h.s0 hc;have hs1:=h.s1 hc;have hrow:=h.aO4 hc;have a09:=h.osz;have g4:=h.n.g4;have hi:ix (P.st cpu).vm<4:=BM ⟨b1,b2⟩;obtain⟨g,cap',cur,eg,eh,hn,hsz,hset⟩:=(h.vc _ hi).aa6 hk;obtain⟨r,g1,g2⟩:=Dq Y.G hi;rw[eh] at g1;have n3:=h.g3 hi;rw[eg] at n3;have hz:=h.zO;refine dS _ hN Tryz.func263 ?_;refine run ?_;intro C;refine aP ?_;intro S;refine aP ?_;refine gU 8 ?_;refine dI ?_;rw[show ((P.st cpu).vm-1).toNat=ix (P.st cpu).vm from rfl];refine aP ?_;refine oD (⟨S,#[.int .i64 (P.st cpu).vm,.int .i64 (P.st cpu).cpu],104⟩::⟨C,#[.int .i64 9,.int .i64 vm,.int .i64 fr,.int .i64 mid,.int .i64 vc,.int .i64 cc],37⟩::⟨g,cur,3⟩::⟨bx,#[Y.pv P,Y.gv P,Y.ov P],48⟩::⟨Y.ob,Y.oc,104⟩::⟨Y.pb,Y.pc,51⟩::⟨Y.gb,Y.gc,100⟩::((Y.G (ix (P.st cpu).vm)).hm++r)) (cnt1 g1) ?_;refine aP ?_;refine gU 6 ?_;refine dI ?_;refine aP ?_;refine fin1 ?_;refine⟨rfl,_,h.aq5 hi hk hc (-1) ⟨by decide,by decide⟩ ⟨0,0⟩ ⟨⟨by decide,by decide⟩,⟨by decide,by decide⟩⟩ (hset _),?_⟩;have g3:=g2 (Y.G (ix (P.st cpu).vm)).vv (Y.G (ix (P.st cpu).vm)).mv [⟨g,cur.setIfInBounds (P.st cpu).cpu.toNat (.int .i64 (-1)),3⟩] (Y.G (ix (P.st cpu).vm)).hm;rw[PtD.ES,aO6];simp only[putAt,yG]
 (exact cnt1 g3)
end
end
section
attribute [local irreducible] Hy St Ops DH dH
namespace PtD
def YD(P:PtD)(n mid was is bad:Int):Except Int PtD:=
 bif !dD mid 0 15 then .error 2 else bif !sU (P.gs (ix n)).maps mid then .error 3
 else bif !decide ((P.pg ((P.gs (ix n)).maps.getD (og (P.gs (ix n)).maps mid) default).eu.toNat).own=n) then .error 7
 else bif !decide ((P.pg ((P.gs (ix n)).maps.getD (og (P.gs (ix n)).maps mid) default).eu.toNat).wit=was) then .error bad
 else .ok (P.kH ((P.gs (ix n)).maps.getD (og (P.gs (ix n)).maps mid) default).eu.toNat ⟨n,is⟩)
end PtD
section
variable {P : PtD} {Y : Lay} {bx tx : Nat} {w : World}
theorem dN.slM(h:dN P Y)(hi:i<4)(hh:Here (Y.hd P bx tx) w):aA w (Y.G i).mv 2 ((P.gs i).maps.map eF):=by
 have:=h.sm.vc i (by have:=h.n.g4;omega);exact (h.mp i hi).lie (fun e he=>hh e (bI5 _ (bI5 _ (bI5 _ (bI5 _ (Jz 4 hi (.inr he))))))) bB6
end
end
end Go.Proofs.YtellmabgmnbhcaaGreat
