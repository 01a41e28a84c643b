/- Texts of one's own, merged: the engine, what the functions do, plain laws. -/
import Derived.Test.YtndklbjnofdgeaaGreatPw3
namespace Go.Proofs.YtndklbjnofdgeaaGreat
open Go.RowKit
set_option linter.unusedVariables false
set_option linter.unusedSimpArgs false
set_option maxRecDepth 20000
section
variable {P : Program} {n : Nat} {w0 : World} {mu : List Nat} {l : Fm} {hp : Hp} {dd : Option Tmp} {ty : TypeId} {pos : String} {af : Array Edge} {gg : Option (Nat × Bool)} {t u : TypeId} {x y : Operand}
theorem x_andNotI {p q:Int} (hx:ev l x=some (.int .i64 p)) (hy:ev l y=some (.int .i64 q)):Hy P n w0 mu l hp ⟨dd,.binOp .andNot t x y u,ty,pos,af,gg⟩ (.int .i64 (bits .andNot .i64 p q)):=
 hy_run fun ac w hk _=>by
  simp only [execOp,hk.ev hx,hk.ev hy]
  simp [eqGuard_andNot,binOp_andNot,intBits_andNot]
end
theorem cut_bits:∀ l:Nat,l<3→∀ p:Nat,p<4096→bits .andNot .i64 (p:Int) ((coversN l:Nat) - 1:Int)=((cutN l p:Nat):Int):=by decide +kernel
end Go.Proofs.YtndklbjnofdgeaaGreat
namespace Go.Proofs.YtndklbjnofdgeaaGreat
open Go.RowKit
set_option linter.unusedVariables false
set_option linter.unusedSimpArgs false
set_option maxRecDepth 20000
attribute [local irreducible] Hy St Ops DH DHF
theorem within1_e (m x:Int) (B:Nat) (w:World) (hB:w.cell? ⟨B,0,none⟩=some (.int .i64 m)):Fn Tryz.prog 160 ([]++[Value.int .i64 x]++[Value.pointer (some ⟨B,0,none⟩)]).toArray w [] (fun u _=>u=.bool (!PtD.btw x 0 m)):=by
 refine enter Tryz.func160 ?_
 refine runG ?_
 refine fin1 ?_
 unfold PtD.btw
 rw [Bool.not_and]
 congr 1
 rw [← decide_not,← decide_not]
 congr 1<;>(rw [Bool.eq_iff_iff,decide_eq_true_eq,decide_eq_true_eq];omega)
theorem tWithin_e (m:Int) (xs:List Int) {w:World} {v:Value} (h:SlAt w v 1 (xs.map inV)):Fn Tryz.prog 131 [.int .i64 m,v].toArray w [] (fun u _=>u=.bool (xs.all fun x=>PtD.btw x 0 m)):=by
 refine enter Tryz.func131 ?_
 refine run ?_
 intro B
 refine run ?_
 refine callE (fun wc hG=>containsFNum_e (us:=[.pointer (some ⟨B,0,none⟩)]) (fun x=>!PtD.btw x 0 m) xs _ (h.good hG) (fun x _ w' ha=>within1_e m x B w' ?_)) ?_
 ·obtain ⟨hp,hg⟩:=ha
  exact hg.cell (by rw [cell_of_block (hG.here _ mh)];rfl) (by simp)
 refine run ?_
 refine fin1 ?_
 rw [← List.not_all_eq_any_not,Bool.not_not]
theorem tBase_e (level:Nat) (h0:1≤level) (h:level<4) (page:Nat) (hp:page≤4095) (w:World):Fn Tryz.prog 132 [.int .i64 (page:Int),.int .i64 (level:Int)].toArray w [] (fun u _=>u=.int .i64 (cutN (level - 1) page:Int)):=by
 refine enter Tryz.func132 ?_
 refine run ?_
 have h9:=dbits_lt (show level - 1<4 by omega)
 have hc:=cut_bits (level - 1) (by omega) page (by omega)
 have e3:∀ l:Nat,l<4→1≤l→(1 <<< (3 * (4 - l)):Nat)=coversN (l - 1):=by decide
 refine op1 (by rfl) (x_shlI rfl rfl 1 (3 * (4 - level)) (by rfl) (by omega) (by omega) (by rw [e3 level h h0];exact Nat.lt_of_le_of_lt h9.2.1 (by decide))) ?_
 rw [e3 level h h0]
 refine run ?_
 refine op1 (by rfl) (x_andNotI rfl rfl) ?_
 rw [hc]
 refine run ?_
 exact fin1 rfl
theorem enMay_e (e:EnD) (w:World):Fn Tryz.prog 99 [.agg (enV e).toArray].toArray w [] (fun u _=>u=.bool e.may):=by
 have e1:wnt false false=true:=rfl
 refine enter Tryz.func99 ?_
 refine run ?_
 intro B Z
 refine callE (fun wc hG=>tWithin_e 15 [e.vmid,e.asid] (lie_rows (xs:=[inV e.vmid,inV e.asid]) (hG.here ⟨Z,#[.int .i64 e.vmid,.int .i64 e.asid],3⟩ mh) (by simp [inV]) (by simp))) ?_
 refine runG ?_
 cases hq:([e.vmid,e.asid].all fun x=>PtD.btw x 0 15) with
 | false=>
  simp only [List.all_cons,List.all_nil,Bool.and_true] at hq
  refine opG (v:=.slice none 0 0) (hy:=fun hg=>by cases hg) (h:=?_)
  refine runG ?_
  refine st_cond _ rfl (fun hc=>?_) (fun hc=>by cases hc)
  refine run ?_
  refine fin1 ?_
  unfold EnD.may EnD.nums
  rw [hq];simp
 | true=>
  simp only [List.all_cons,List.all_nil,Bool.and_true] at hq
  simp only [Bool.not_true,e1,gv_true]
  refine opsGT ?_ rfl
  refine runG ?_
  intro Z2
  refine callEG (fun hg wc hG=>tWithin_e 4095 [e.page,e.frame,e.mid] (lie_rows (xs:=[inV e.page,inV e.frame,inV e.mid]) (hG.here ⟨Z2,#[.int .i64 e.page,.int .i64 e.frame,.int .i64 e.mid],3⟩ mh) (by simp [inV]) (by simp))) ?_
  refine runG ?_
  have hnn:(false || !([e.page,e.frame,e.mid].all fun x=>PtD.btw x 0 4095) || !decide (e.soft=0))=!e.nums:=by
   unfold EnD.nums
   rw [hq]
   simp [Bool.and_assoc,Bool.or_assoc]
  rw [hnn]
  refine st_cond _ rfl (fun hn=>?_) (fun hn=>?_)
  ·refine run ?_
   refine fin1 ?_
   have hn':e.nums=false:=by simpa using hn
   simp [EnD.may,hn']
  have hn':e.nums=true:=by simpa using hn
  clear hnn
  have hb:=hn'
  simp only [EnD.nums,Bool.and_eq_true,decide_eq_true_eq] at hb
  have hpz:=btw_toNat hb.1.1.1.2
  refine run ?_
  refine st_cond _ rfl (fun hk=>?_) (fun hk=>?_)
  ·refine run ?_
   refine fin1 ?_
   simp [EnD.may,hn',hk]
  refine run ?_
  refine st_cond _ rfl (fun hk2=>?_) (fun hk2=>?_)
  ·refine runG ?_
   refine fin1 ?_
   simp [EnD.may,hn',hk,hk2]
  refine run ?_
  refine st_cond _ rfl (fun hk3=>?_) (fun hk3=>?_)
  ·refine runG ?_
   refine drawN 36 ?_
   refine runDG ?_
   refine callDG (b:=decide (1≤e.level) && decide (e.level<4)) (want:=true) (v:=.int .i64 (cutN (e.level.toNat - 1) e.page.toNat:Int)) (fun hg wc hG=>by
    simp [wnt] at hg
    have h5:=tBase_e e.level.toNat (by omega) (by omega) e.page.toNat hpz.2 wc
    rw [hpz.1,show ((e.level.toNat:Nat):Int)=e.level by omega] at h5
    exact h5) ?_
   refine runDG ?_
   refine run ?_
   refine fin1 ?_
   have hz:decide (e.page=((cutN (e.level.toNat - 1) e.page.toNat:Nat):Int))=decide (cutN (e.level.toNat - 1) e.page.toNat=e.page.toNat):=by
    rw [Bool.eq_iff_iff,decide_eq_true_eq,decide_eq_true_eq]
    have:=hpz.1
    omega
   have hl4:decide (e.level<4)=decide (e.level≤3):=by rw [Bool.eq_iff_iff,decide_eq_true_eq,decide_eq_true_eq];omega
   rw [hz,hl4]
   simp only [EnD.may,hn',hk3,show decide (e.kind=1)=false by simpa using hk,show decide (e.kind=2)=false by simpa using hk2,cond_false,cond_true,Bool.true_and,PtD.btw,EnD.bare,eqLeaves,eqLeaf]
   cases e.r<;>cases e.w<;>cases e.x<;>cases e.af<;>cases e.ng<;>simp
  ·refine run ?_
   refine fin1 ?_
   simp [EnD.may,hn',hk,hk2,hk3]
theorem due_e (i:IvD) (w:World):Fn Tryz.prog 103 [.agg (ivV i).toArray].toArray w [] (fun u _=>u=.bool i.may):=by
 have e1:wnt true true=true:=rfl
 refine enter Tryz.func103 ?_
 refine run ?_
 intro B
 refine runG ?_
 cases hq:(decide (1≤i.kind) && decide (i.kind≤6)) with
 | false=>
  refine opG (v:=.slice none 0 0) (hy:=fun hg=>by cases hg) (h:=?_)
  refine runG ?_
  refine fin1 ?_
  simp only [IvD.may,PtD.btw,hq,Bool.false_and]
 | true=>
  simp only [e1,gv_true]
  refine opsGT ?_ rfl
  refine runG ?_
  intro Z
  refine callEG (fun hg wc hG=>tWithin_e 15 [i.vmid,i.asid] (lie_rows (xs:=[inV i.vmid,inV i.asid]) (hG.here ⟨Z,#[.int .i64 i.vmid,.int .i64 i.asid],3⟩ mh) (by simp [inV]) (by simp))) ?_
  refine runG ?_
  simp only [Bool.true_and]
  refine runG ?_
  cases hq2:([i.vmid,i.asid].all fun x=>PtD.btw x 0 15) with
  | false=>
   refine opG (v:=.slice none 0 0) (hy:=fun hg=>by cases hg) (h:=?_)
   refine runG ?_
   refine fin1 ?_
   simp only [List.all_cons,List.all_nil,Bool.and_true] at hq2
   unfold IvD.may
   rw [Bool.and_assoc (PtD.btw i.kind 1 6),hq2]
   simp
  | true=>
   simp only [e1,gv_true]
   refine opsGT ?_ rfl
   refine runG ?_
   intro Z2
   refine callEG (fun hg wc hG=>tWithin_e 4095 [i.page] (lie_rows (xs:=[inV i.page]) (hG.here ⟨Z2,#[.int .i64 i.page],3⟩ mh) (by simp [inV]) (by simp))) ?_
   refine runG ?_
   refine fin1 ?_
   simp only [List.all_cons,List.all_nil,Bool.and_true] at hq2
   unfold IvD.may
   rw [Bool.and_assoc (PtD.btw i.kind 1 6),show PtD.btw i.kind 1 6=true from hq,hq2]
   simp
end Go.Proofs.YtndklbjnofdgeaaGreat
namespace Go.Proofs.YtndklbjnofdgeaaGreat
open Go.RowKit
set_option linter.unusedVariables false
set_option linter.unusedSimpArgs false
set_option maxRecDepth 20000
attribute [local irreducible] Hy St Ops DH DHF
theorem check1_e (i:IvD) (w:World):Fn Tryz.prog 102 ([]++[Value.agg (ivV i).toArray]++[]).toArray w [] (fun u _=>u=.bool (!i.may)):=by
 refine enter Tryz.func102 ?_
 refine run ?_
 intro B
 refine callE (fun wc hG=>due_e i wc) ?_
 refine run ?_
 exact fin1 rfl
theorem tCheck_e {w:World} (es:List EnD) (ds:List IvD) (v u:Value) (h:SlAt w v 14 (es.map enV)) (hd:SlAt w u 4 (ds.map ivV)) (hcap:∃ q c,v=.slice q es.length c∧es.length≤c):
  Fn Tryz.prog 64 [.agg #[v,u]].toArray w [] (fun r _=>r=.int .i64 (bif tlbOk es ds then 0 else 1)):=by
 obtain ⟨q,cap,rfl,hne,hle⟩:=h.opened
 obtain ⟨q2,cap2,rfl,hne2,hle2⟩:=hd.opened
 replace hcap:es.length≤cap:=by
  obtain ⟨_,_,e,hc⟩:=hcap
  injection e with _ _ e
  rw [e];exact hc
 refine enter Tryz.func64 ?_
 refine run ?_
 intro B
 refine runG ?_
 refine st_cond _ rfl (fun hc=>?_) (fun hc=>?_)
 ·refine run ?_
  refine fin1 ?_
  have:tlbOk es ds=false:=by
   unfold tlbOk
   simp only [Bool.or_eq_true,decide_eq_true_eq] at hc
   have h2:(decide (es.length≤8) && decide (ds.length≤8))=false:=by
    rcases hc with hc | hc
    ·rw [decide_eq_false (p:=es.length≤8) (by omega),Bool.false_and]
    ·rw [decide_eq_false (p:=ds.length≤8) (by omega),Bool.and_false]
   rw [Bool.and_assoc,h2,Bool.and_false]
  rw [this];rfl
 have h8:es.length≤8∧ds.length≤8:=by
  simp at hc;omega
 refine run ?_
 refine loopS (σ:=Nat) (fun k=>[(18,.int .i64 (k:Int))]) (fun _=>[⟨B,#[.slice q es.length cap,.slice q2 ds.length cap2],77⟩]) (fun k=>k≤es.length∧∀ j,j<k→enOk es j=true) (fun k=>es.length - k) 0 ⟨Nat.zero_le _,fun j hj=>absurd hj (by omega)⟩ ?_
 rintro k m rfl ⟨hk,hno⟩
 refine run ?_
 refine st_cond _ rfl (fun hc=>?_) (fun hc=>?_)
 ·have hlt:k<es.length:=by simpa using hc
  obtain ⟨b,o,rfl⟩:=hne (by intro e;subst e;simp at hlt)
  have hr:=h.row hlt
  refine run ?_
  intro X
  refine run ?_
  refine drawAll ?_
  refine runD ?_
  refine callD (fun wc hG=>enMay_e (es.getD k default) wc) ?_
  refine runDG ?_
  refine opDG (v:=.slice (some ⟨b,o,none⟩) k cap) (hy:=fun hg=>x_sliceH tb_ok (by (simp only [hg,gv_true];rfl)) (by (simp only [hg,gv_true];rfl)) (by rfl) (by omega) (by omega) (m':=k) (by simp) (.inr ⟨_,_,rfl⟩)) (h:=?_)
  refine runDG ?_
  refine callDG (fun hg wc hG=>containsEn_e (es.getD k default) (es.take k) _ ((h.good hG).takeN (by omega))) ?_
  refine runDG ?_
  refine run ?_
  have he:(!(es.getD k default).may || (es.take k).any fun t=>decide (t=es.getD k default))=!enOk es k:=by
   unfold enOk
   rw [Bool.not_and,Bool.not_not]
  rw [he]
  refine st_cond _ rfl (fun hp=>?_) (fun hp=>?_)
  ·refine run ?_
   refine fin1 ?_
   rw [tlbOk_e hlt (by simpa using hp)];rfl
  ·refine run ?_
   refine nextS (k + 1) ⟨hlt,fun j hj=>?_⟩
   rcases Nat.lt_succ_iff_lt_or_eq.1 hj with hj | rfl
   ·exact hno j hj
   ·simpa using hp
 ·have hge:k=es.length:=by simp at hc;omega
  subst hge
  refine run ?_
  refine callE (fun wc hG=>containsFIv_e (us:=[]) (fun x=>!x.may) ds _ (hd.good hG) (fun x _ w' ha=>check1_e x w')) ?_
  refine run ?_
  have he:(ds.any fun x=>!x.may)=!ds.all IvD.may:=by rw [List.not_all_eq_any_not]
  rw [he]
  refine st_cond _ rfl (fun hp=>?_) (fun hp=>?_)
  ·refine run ?_
   refine fin1 ?_
   have:tlbOk es ds=false:=by
    unfold tlbOk
    rw [show ds.all IvD.may=false by simpa using hp];simp
   rw [this];rfl
  ·refine run ?_
   refine fin1 ?_
   have:tlbOk es ds=true:=by
    unfold tlbOk
    rw [all_upto hno,show ds.all IvD.may=true by simpa using hp,decide_eq_true h8.1,decide_eq_true h8.2];rfl
   rw [this];rfl
end Go.Proofs.YtndklbjnofdgeaaGreat
namespace Go.Proofs.YtndklbjnofdgeaaGreat
open Go.RowKit
set_option linter.unusedVariables false
set_option linter.unusedSimpArgs false
set_option maxRecDepth 20000
def EnD.stage (e:EnD):Bool:=decide (e.kind=1) || decide (e.kind=3)
def IvD.at_ (i:IvD) (e:EnD):Bool:=decide (e.page=bif decide (e.kind=3) then ((cutN (e.level.toNat - 1) i.page.toNat:Nat):Int) else i.page)
def IvD.takes (i:IvD) (e:EnD):Bool:=
 bif decide (i.kind=1) then true else bif !decide (i.vmid=e.vmid) then false
 else bif decide (i.kind=2) then true
 else bif decide (i.kind=3) then e.stage
 else bif decide (i.kind=4) then e.stage && !e.all && decide (e.asid=i.asid)
 else bif decide (i.kind=5) then e.stage && i.at_ e && (e.all || decide (e.asid=i.asid))
 else decide (e.kind=2) && i.at_ e
theorem tlbOk_one (i:IvD):tlbOk [] [i]=i.may:=by simp [tlbOk]
theorem en_all {xs:List EnD}:∀ c∈xs.map enV,c.length=14∧c.all (·.oneCell')=true:=by
 intro c hc
 obtain ⟨x,_,rfl⟩:=List.mem_map.1 hc
 exact ⟨rfl,rfl⟩
theorem iv_all {xs:List IvD}:∀ c∈xs.map ivV,c.length=4∧c.all (·.oneCell')=true:=by
 intro c hc
 obtain ⟨x,_,rfl⟩:=List.mem_map.1 hc
 exact ⟨rfl,rfl⟩
attribute [local irreducible] Hy St Ops DH DHF DE1 DE2 DE3 DS DCh
theorem may1_e (i:IvD) (w:World):Fn Tryz.prog 171 ([]++[Value.agg (ivV i).toArray]++[]).toArray w [] (fun u _=>u=.bool (!i.may)):=by
 refine enter Tryz.func171 ?_
 refine run ?_
 intro B Z
 refine run ?_
 refine callE (fun wc hG=>tCheck_e [] [i] (.slice none 0 0) (.slice (some ⟨Z,0,none⟩) 1 1) ((Own.nil 114 14).lie (fun b hb=>by cases hb) (by decide)) (lie_rows (xs:=[ivV i]) (hG.here ⟨Z,(ivV i).toArray,121⟩ mh) (by simp) (by simp)) ⟨_,_,rfl,Nat.le_refl _⟩) ?_
 refine run ?_
 refine fin1 ?_
 rw [tlbOk_one]
 cases i.may<;>rfl
theorem iMay_e (ds:List IvD) {w:World} {v:Value} (h:SlAt w v 4 (ds.map ivV)):Fn Tryz.prog 145 [v].toArray w [] (fun u _=>u=.bool (ds.all IvD.may)):=by
 refine enter Tryz.func145 ?_
 refine run ?_
 refine callE (fun wc hG=>containsFIv_e (us:=[]) (fun x=>!x.may) ds _ (h.good hG) (fun x _ w' ha=>may1_e x w')) ?_
 refine run ?_
 refine fin1 ?_
 rw [← List.not_all_eq_any_not,Bool.not_not]
theorem stage_e (e:EnD) (w:World):Fn Tryz.prog 203 [.agg (enV e).toArray].toArray w [] (fun u _=>u=.bool e.stage):=by
 refine enter Tryz.func203 ?_
 refine run ?_
 intro B
 refine runG ?_
 refine fin1 ?_
 rfl
theorem iPage_e (i:IvD) (e:EnD) (hi:i.may=true) (he:e.may=true) (w:World):Fn Tryz.prog 204 [.agg (ivV i).toArray,.agg (enV e).toArray].toArray w [] (fun u _=>u=.bool (i.at_ e)):=by
 refine enter Tryz.func204 ?_
 refine run ?_
 intro B C
 refine run ?_
 refine st_cond _ rfl (fun hk=>?_) (fun hk=>?_)
 ·have hk3:e.kind=3:=by simpa using hk
  have hl:1≤e.level∧e.level≤3:=by
   simp [EnD.may,hk3,PtD.btw] at he
   exact he.2.1.1.1
  have hp:0≤i.page∧i.page≤4095:=by
   simp only [IvD.may,PtD.btw,Bool.and_eq_true,decide_eq_true_eq] at hi
   exact hi.2
  obtain ⟨lv,hlv⟩:∃ lv:Nat,e.level=(lv:Int):=⟨e.level.toNat,by omega⟩
  obtain ⟨pg,hpg⟩:∃ pg:Nat,i.page=(pg:Int):=⟨i.page.toNat,by omega⟩
  have h9:=dbits_lt (show lv - 1<4 by omega)
  have hc:=cut_bits (lv - 1) (by omega) pg (by omega)
  have e3:∀ l:Nat,l<4→1≤l→(1 <<< (3 * (4 - l)):Nat)=coversN (l - 1):=by decide
  refine run ?_
  rw [hlv,hpg]
  refine op1 (by rfl) (x_shlI rfl rfl 1 (3 * (4 - lv)) (by rfl) (by omega) (by omega) (by rw [e3 lv (by omega) (by omega)];exact Nat.lt_of_le_of_lt h9.2.1 (by decide))) ?_
  rw [e3 lv (by omega) (by omega)]
  refine run ?_
  refine op1 (by rfl) (x_andNotI rfl rfl) ?_
  rw [hc]
  refine run ?_
  refine fin1 ?_
  simp [IvD.at_,hk3,hlv,hpg]
 ·refine run ?_
  refine fin1 ?_
  have hk3:decide (e.kind=3)=false:=by simpa using hk
  simp [IvD.at_,hk3]
theorem takes_e (i:IvD) (e:EnD) (hi:i.may=true) (he:e.may=true) (w:World):Fn Tryz.prog 175 [.agg (ivV i).toArray,.agg (enV e).toArray].toArray w [] (fun u _=>u=.bool (i.takes e)):=by
 refine enter Tryz.func175 ?_
 refine run ?_
 intro B C
 refine run ?_
 refine st_cond _ rfl (fun h1=>?_) (fun h1=>?_)
 ·refine run ?_
  refine fin1 ?_
  simp [IvD.takes,h1]
 refine run ?_
 refine st_cond _ rfl (fun hv=>?_) (fun hv=>?_)
 ·refine run ?_
  refine fin1 ?_
  simp [IvD.takes,h1,hv]
 have hv':decide (i.vmid=e.vmid)=true:=by simpa using hv
 have h1':decide (i.kind=1)=false:=by simpa using h1
 refine run ?_
 refine st_cond _ rfl (fun h2=>?_) (fun h2=>?_)
 ·refine run ?_
  refine fin1 ?_
  simp [IvD.takes,h1',hv',h2]
 have h2':decide (i.kind=2)=false:=by simpa using h2
 refine run ?_
 refine st_cond _ rfl (fun h3=>?_) (fun h3=>?_)
 ·refine run ?_
  refine callE (fun wc hG=>stage_e e wc) ?_
  refine run ?_
  refine fin1 ?_
  simp [IvD.takes,h1',hv',h2',h3]
 have h3':decide (i.kind=3)=false:=by simpa using h3
 refine run ?_
 refine st_cond _ rfl (fun h4=>?_) (fun h4=>?_)
 ·refine run ?_
  refine callE (fun wc hG=>stage_e e wc) ?_
  refine runG ?_
  refine fin1 ?_
  simp [IvD.takes,h1',hv',h2',h3',h4]
 have h4':decide (i.kind=4)=false:=by simpa using h4
 refine run ?_
 refine st_cond _ rfl (fun h5=>?_) (fun h5=>?_)
 ·refine run ?_
  refine callE (fun wc hG=>stage_e e wc) ?_
  refine runG ?_
  refine callEG (fun _ wc hG=>iPage_e i e hi he wc) ?_
  refine runG ?_
  refine fin1 ?_
  simp [IvD.takes,h1',hv',h2',h3',h4',h5]
 have h5':decide (i.kind=5)=false:=by simpa using h5
 refine runG ?_
 refine callEG (fun _ wc hG=>iPage_e i e hi he wc) ?_
 refine runG ?_
 refine fin1 ?_
 simp [IvD.takes,h1',hv',h2',h3',h4',h5']
theorem tlbCopy_e {w:World} (es:List EnD) (ds:List IvD) (v u:Value) (h:SlAt w v 14 (es.map enV)) (hd:SlAt w u 4 (ds.map ivV)) (hl:es.length<1000000) (hl2:ds.length<1000000):
  Fn Tryz.prog 39 [.agg #[v,u]].toArray w [] (fun r hn=>∃ v1 h1 v2 h2,r=.agg #[v1,v2]∧Own 114 14 v1 h1 (es.map enV)∧Own 121 4 v2 h2 (ds.map ivV)∧HpLe (h1++h2) hn):=by
 refine enter Tryz.func39 ?_
 refine run ?_
 intro B
 refine run ?_
 intro C
 refine run ?_
 refine drawEC 8 7 [0,1,3,4] [2,5] [6,7] [⟨B,#[v,u],77⟩] ?_
 refine runZ ?_
 refine eCall (fun wc hG=>cloneEntries_e v (es.map enV) (h.good hG) en_all (by simpa using hl)) (cloneEntries_e v (es.map enV) h en_all (by simpa using hl)).some ?_
 refine eCall (fun wc hG=>cloneInvals_e u (ds.map ivV) (hd.good hG) iv_all (by simpa using hl2)) (cloneInvals_e u (ds.map ivV) hd iv_all (by simpa using hl2)).some ?_
 refine eNil ?_
 intro v2 hn2 hO2 v1 hn1 hO1
 simp only [DN,List.cons_append,List.nil_append,List.append_nil]
 obtain ⟨p1,c1,rfl⟩:=hO1.opened
 obtain ⟨p2,c2,rfl⟩:=hO2.opened
 rw [List.length_map] at hO1 hO2 ⊢
 rw [List.length_map]
 refine cBuild ?_
 refine cPut (b:=C) (cs:=#[.slice none 0 0,.slice none 0 0]) (tb:=77) (hp':=hn2++hn1++[⟨B,#[v,u],77⟩]) (hperm:=(List.perm_middle (l₁:=hn2++hn1)).symm) ?_
 refine dc_nil ?_
 refine opsC ?_
 refine run ?_
 refine finA (cs:=#[.slice p1 es.length c1,.slice p2 ds.length c2]) ?_
 exact ⟨_,hn1,_,hn2,rfl,hO1,hO2,by (refine hpLe_cnt fun a=>?_;simp only [cntB_app,cntB_cons,cntB_nil]<;>omega)⟩
end Go.Proofs.YtndklbjnofdgeaaGreat
namespace Go.Proofs.YtndklbjnofdgeaaGreat
open Go.RowKit
set_option linter.unusedVariables false
set_option linter.unusedSimpArgs false
set_option maxRecDepth 20000
structure Sees (w:World) (mu:List Nat) (v:Value) (sz:Nat) (xs:List (List Value)):Prop where
 at_:SlAt w v sz xs
 off:∀ (i:Nat) (c:List Value),xs[i]?=some c→c ≠ []→∀ b o n k,v=.slice (some ⟨b,o,none⟩) n k→b ∉ mu
theorem Sees.old {w:World} {v:Value} {sz:Nat} {xs:List (List Value)} (h:SlAt w v sz xs):Sees w [] v sz xs:=⟨h,fun _ _ _ _ _ _ _ _ _=>by simp⟩
theorem Sees.good {w w':World} {mu:List Nat} {hp:Hp} {v:Value} {sz:Nat} {xs:List (List Value)} (h:Sees w mu v sz xs) (hG:Good w mu hp w'):SlAt w' v sz xs:=by
 obtain ⟨⟨⟨p,c,rfl,hp⟩,hl⟩,ho⟩:=h
 refine ⟨⟨p,c,rfl,fun hne=>?_⟩,hl⟩
 obtain ⟨b,off,rfl,hr⟩:=hp hne
 refine ⟨b,off,rfl,fun i c hc j u hj=>?_⟩
 exact hG.cell (hr i c hc j u hj) (ho i c hc (by intro e;subst e;simp at hj) _ _ _ _ rfl)
theorem Sees.next {w w':World} {mu mu':List Nat} {hp:Hp} {v:Value} {sz:Nat} {xs:List (List Value)} (h:Sees w mu v sz xs) (hG:Good w mu hp w') (hs:∀ b∈mu',∃ e∈hp,e.b=b):Sees w' mu' v sz xs:=by
 refine ⟨h.good hG,fun i c hc hcn b o n k e hm=>?_⟩
 subst e
 have hnm:=h.off i c hc hcn b o n k rfl
 obtain ⟨⟨p,c',e,hp'⟩,hl⟩:=h.at_
 injection e with e1 _ e3
 subst e1
 obtain ⟨b',off',e,hr⟩:=hp' (by intro e;subst e;simp at hc)
 injection e with e
 injection e with e1 e2 _
 subst e1 e2
 obtain ⟨x,hx,rfl⟩:=hs b hm
 rcases hG.own x hx with h5 | h5
 ·exact hnm h5
 ·match c,hcn with
  | u::r,_=>
   have h3:=hr i (u::r) hc 0 u rfl
   have h9:x.b<w.heap.size:=block_lt_of_cell h3
   omega
attribute [local irreducible] Hy St Ops DH DHF DE1 DE2 DE3 DS DCh
theorem condP {α:Type} {P:α→Prop} {c:Bool} {a b:α} (ha:P a) (hb:P b):P (bif c then a else b):=by cases c<;>assumption
theorem wlk_rd {ws:List Nat} {stage:Int} {page:Nat}:∀ (k level:Nat) (f:Int) (rd:List Int),(wlk ws stage page k level f rd).rd.length≤rd.length + k:=by
 intro k
 induction k with
 | zero=>intro level f rd;exact Nat.le_refl _
 | succ k ih=>
  intro level f rd
  rw [wlk]
  refine condP (P:=fun x:WlD=>x.rd.length≤rd.length + (k + 1)) (condP (P:=fun x:WlD=>x.rd.length≤rd.length + (k + 1)) ?_ ?_) (by simp only;omega)
  ·have:=ih (level + 1) (dSt ws stage (atN f level page) level).frame (rd++[f])
   simp only [List.length_append,List.length_singleton] at this
   omega
  ·unfold endL
   refine condP (P:=fun x:WlD=>x.rd.length≤rd.length + (k + 1)) (by simp only [List.length_append,List.length_singleton];omega) (condP (P:=fun x:WlD=>x.rd.length≤rd.length + (k + 1)) (by simp only [List.length_append,List.length_singleton];omega) (by simp only [List.length_append,List.length_singleton];omega))
theorem midL_rd (ws:List Nat) (frame:Int) (mid:Nat) (acc:Int):(midL ws true frame mid acc).rd.length≤4:=by
 have h:=wlk_rd (ws:=ws) (stage:=2) (page:=mid) 4 0 frame []
 simp only [midL,Bool.not_true,cond_false,midE]
 cases (!decide ((midG (walk5 ws 2 frame mid) mid acc).kind=0))<;>exact h
theorem cut_nth {l c:List Value} {o n j:Nat} {v:Value} (h:(l.drop o).take n=c) (hv:nth c j=some v):nth l (o + j)=some v:=by
 rw [nth_eq] at hv ⊢
 subst h
 simp only [List.getElem?_toArray] at hv ⊢
 rw [List.getElem?_take] at hv
 split at hv
 ·rwa [List.getElem?_drop] at hv
 ·cases hv
theorem idxI_lt {α:Type} [Inhabited α] (p:α→Bool) (l:List α):-1≤idxI p l∧idxI p l<(l.length:Int):=by
 have h:=idxI_neg p l
 cases ha:l.any p with
 | false=>
  have:idxI p l=-1:=idxI_none fun j hj=>by
   rw [List.any_eq_false] at ha
   have:=ha _ (getD_mem hj)
   simpa using this
  rw [this];omega
 | true=>
  obtain ⟨x,hx,hp⟩:=List.any_eq_true.1 ha
  obtain ⟨j,hj,rfl⟩:=List.getElem_of_mem hx
  have hjp:p (l.getD j default)=true:=by rw [List.getD_eq_getElem?_getD,List.getElem?_eq_getElem hj];exact hp
  obtain ⟨j0,h0,h1,h2⟩:=idx_least p l j hjp
  rw [idxI_at (k:=j0) (by omega) h1 h2]
  omega
end Go.Proofs.YtndklbjnofdgeaaGreat
namespace Go.Proofs.YtndklbjnofdgeaaGreat
open Go.RowKit
set_option linter.unusedVariables false
set_option linter.unusedSimpArgs false
set_option maxRecDepth 20000
structure AcOk (c:AcC):Prop where
 w64:W64 c.ws
 mem:memOk c.ws.length=true
 one:c.one.may=true
 two:c.two.may=true
 on:c.two.on=true
 page:c.page≤4095
theorem RtD.may_iff {r:RtD} (h:r.may=true):(0≤r.frame∧r.frame≤4095)∧0≤r.tag∧r.tag≤15:=by
 simpa only [RtD.may,PtD.btw,Bool.and_eq_true,decide_eq_true_eq] using h
theorem hasF_hi {n:Nat} {f:Int} (hn:memOk n=true) (h:hasF n f=true):0≤f∧f≤63:=by
 have h1:=memOk_iff hn
 have h2:=hasF_iff h
 omega
theorem cut_twice {l p:Nat}:cutN l (cutN l p)=cutN l p:=by
 unfold cutN
 have:(p - p % coversN l) % coversN l=0:=by
  have h:=Nat.div_add_mod p (coversN l)
  rw [show p - p % coversN l=coversN l * (p / coversN l) by omega]
  exact Nat.mul_mod_right ..
 omega
theorem cut_le (l p:Nat):cutN l p≤p:=by unfold cutN;omega
theorem btwT {z:Int} {a b:Int} (h:a≤z) (h2:z≤b):PtD.btw z a b=true:=by simp [PtD.btw,h,h2]
theorem entM_may {c:AcC} (hk:AcOk c) {mid:Nat} (hm:mid≤4095) {h:HtD} (hf:hasF c.ws.length h.frame=true) (hg:h.ng=false):(entM c.two.tag mid h).may=true:=by
 have h1:=RtD.may_iff hk.two
 have h2:=hasF_hi hk.mem hf
 have e1:(entM c.two.tag mid h).nums=true:=by
  simp only [EnD.nums,entM,decide_true,Bool.and_true,Bool.and_eq_true]
  exact ⟨⟨⟨⟨btwT (by omega) (by omega),btwT (by omega) (by omega)⟩,btwT (by omega) (by omega)⟩,btwT (by omega) (by omega)⟩,btwT (by omega) (by omega)⟩
 rw [EnD.may,e1]
 simp [entM,hg]
theorem entW_may {c:AcC} (hk:AcOk c) {level:Nat} (h0:0<level) (h3:level≤3) {n:Int} (hf:hasF c.ws.length n=true):(entW c level n).may=true:=by
 have h1:=RtD.may_iff hk.two
 have h4:=RtD.may_iff hk.one
 have h2:=hasF_hi hk.mem hf
 have h5:=hk.page
 have h6:=cut_le (level - 1) c.page
 have e1:(entW c level n).nums=true:=by
  simp only [EnD.nums,entW,decide_true,Bool.and_true,Bool.and_eq_true]
  exact ⟨⟨⟨⟨btwT (by omega) (by omega),btwT (by omega) (by omega)⟩,btwT (by omega) (by omega)⟩,btwT (by omega) (by omega)⟩,btwT (by omega) (by omega)⟩
 have e2:PtD.btw (entW c level n).level 1 3=true:=btwT (by simp only [entW];omega) (by simp only [entW];omega)
 rw [EnD.may,e1,e2]
 simp [entW,EnD.bare,cut_twice]
theorem entH_may {c:AcC} (hk:AcOk c) {n:Int} {mid:Nat} (hm:mid≤4095) {d:DsD} {a:AtD} (hf:hasF c.ws.length n=true):(entH c n mid d a).may=true:=by
 have h1:=RtD.may_iff hk.two
 have h4:=RtD.may_iff hk.one
 have h2:=hasF_hi hk.mem hf
 have h5:=hk.page
 have e1:(entH c n mid d a).nums=true:=by
  simp only [EnD.nums,entH,decide_true,Bool.and_true,Bool.and_eq_true]
  exact ⟨⟨⟨⟨btwT (by omega) (by omega),btwT (by omega) (by omega)⟩,btwT (by omega) (by omega)⟩,btwT (by omega) (by omega)⟩,btwT (by omega) (by omega)⟩
 rw [EnD.may,e1]
 simp [entH]
structure StOk (n:Nat) (ds:List IvD) (k:Nat) (s:AcS) (x:AcS):Prop where
 es:EsOk n x.es ds
 rd:x.rd.length≤s.rd.length + k
theorem EsOk.may_of {n:Nat} {es:List EnD} {ds:List IvD} (h:EsOk n es ds) {i:Nat} (hi:i<es.length):(es.getD i default).may=true∧hasF n (es.getD i default).frame=true:=⟨h.may.1 _ (getD_mem hi),h.held _ (getD_mem hi)⟩
theorem may_mid {e:EnD} (h:e.may=true) (hk:e.kind=2):e.ng=false:=by
 simp only [EnD.may,hk,decide_true,show decide ((2:Int)=1)=false from rfl,cond_true,cond_false,Bool.and_eq_true,Bool.not_eq_true'] at h
 exact h.2.2
theorem idxI_at2 {α:Type} [Inhabited α] {p:α→Bool} {l:List α} (h:0≤idxI p l):(idxI p l).toNat<l.length∧p (l.getD (idxI p l).toNat default)=true:=by
 have h1:=(idxI_lt p l).2
 refine ⟨by omega,?_⟩
 cases ha:l.any p with
 | false=>
  have:idxI p l=-1:=idxI_none fun j hj=>by
   rw [List.any_eq_false] at ha
   have:=ha _ (getD_mem hj)
   simpa using this
  omega
 | true=>
  obtain ⟨x,hx,hp⟩:=List.any_eq_true.1 ha
  obtain ⟨j,hj,rfl⟩:=List.getElem_of_mem hx
  have hjp:p (l.getD j default)=true:=by rw [List.getD_eq_getElem?_getD,List.getElem?_eq_getElem hj];exact hp
  obtain ⟨j0,h0,h2,h3⟩:=idx_least p l j hjp
  rw [idxI_at (k:=j0) (by omega) h2 h3]
  simpa using h2
theorem midF_ok {c:AcC} (hk:AcOk c) {ds:List IvD} {s:AcS} (hE:EsOk c.ws.length s.es ds) {mid:Nat} (hm:mid≤4095) (acc:Int):StOk c.ws.length ds 4 s (midF c s mid (midL c.ws true c.two.frame mid acc)).s∧((midF c s mid (midL c.ws true c.two.frame mid acc)).f.kind=0→hasF c.ws.length (midF c s mid (midL c.ws true c.two.frame mid acc)).n=true∧(midF c s mid (midL c.ws true c.two.frame mid acc)).f=noFt∧(midF c s mid (midL c.ws true c.two.frame mid acc)).a.ng=false):=by
 have h4:=midL_rd c.ws c.two.frame mid acc
 have h5:=midL_ok (ws:=c.ws) (frame:=c.two.frame) (mid:=mid) (acc:=acc)
 generalize midL c.ws true c.two.frame mid acc=L at h4 h5 ⊢
 unfold midF
 cases hc:decide (L.f.kind=0) with
 | false=>
  simp only [Bool.not_false,cond_true]
  refine ⟨⟨hE,by simp only [List.length_append];omega⟩,fun h=>?_⟩
  simp [h] at hc
 | true=>
  obtain ⟨h6,h7,h8⟩:=h5 (of_decide_eq_true hc)
  simp only [Bool.not_true,cond_false]
  refine ⟨⟨?_,by simp only [List.length_append];omega⟩,fun h=>⟨h6,h7,h8⟩⟩
  cases c.pk.mids with
  | false=>exact hE
  | true=>exact fill_ok hE (entM_may hk hm h6 h8) h6
theorem midA_ok {c:AcC} (hk:AcOk c) {ds:List IvD} {s:AcS} (hE:EsOk c.ws.length s.es ds) {mid:Nat} (hm:mid≤4095) (acc:Int):StOk c.ws.length ds 4 s (midA c s mid acc).s∧((midA c s mid acc).f.kind=0→hasF c.ws.length (midA c s mid acc).n=true∧(midA c s mid acc).f=noFt∧(midA c s mid acc).a.ng=false):=by
 unfold midA
 cases hc:(c.pk.use && decide (0≤midI c s mid acc)) with
 | false=>exact midF_ok hk hE hm acc
 | true=>
  rw [Bool.and_eq_true,decide_eq_true_eq] at hc
  simp only [cond_true]
  obtain ⟨h1,h2⟩:=idxI_at2 (p:=pMid c.two.tag mid acc) (l:=s.es) hc.2
  have h3:=hE.may_of h1
  refine ⟨⟨hE,by omega⟩,fun _=>⟨h3.2,by first | rfl | trivial,?_⟩⟩
  simp only [pMid,Bool.and_eq_true,decide_eq_true_eq] at h2
  exact may_mid h3.1 h2.1.1.1
theorem tblA_ok {c:AcC} (hk:AcOk c) {ds:List IvD} {s:AcS} (hE:EsOk c.ws.length s.es ds) {mid level:Nat} (hm:mid≤4095) (hl:level≤3):StOk c.ws.length ds 4 s (tblA c s mid level).s∧((tblA c s mid level).f.kind=0→hasF c.ws.length (tblA c s mid level).n=true):=by
 obtain ⟨h1,h2⟩:=midA_ok hk hE hm 0
 unfold tblA
 generalize midA c s mid 0=M at h1 h2 ⊢
 cases hc:decide (M.f.kind=0) with
 | false=>
  simp only [Bool.not_false,cond_true]
  refine ⟨h1,fun h=>?_⟩
  simp [h] at hc
 | true=>
  obtain ⟨h3,h4,_⟩:=h2 (of_decide_eq_true hc)
  simp only [Bool.not_true,cond_false]
  refine ⟨⟨?_,h1.rd⟩,fun _=>h3⟩
  cases hw:(decide (0<level) && c.pk.walk) with
  | false=>exact h1.es
  | true=>
   rw [Bool.and_eq_true,decide_eq_true_eq] at hw
   exact fill_ok h1.es (entW_may hk hw.1 hl h3) h3
theorem leaf_mid {stage:Int} {level:Nat} {d:DsD} (hd:d.may stage level=true) (hk:d.kind=2) (hl:level<4) (page:Nat):d.frame.toNat + page % coversN level≤4095∧((d.frame.toNat:Nat):Int)=d.frame:=by
 obtain ⟨_,_,_,h2⟩:=may_kinds hd
 obtain ⟨h3,h4,h5,_,h6⟩:=h2 hk
 have hp:level=1∨level=2∨level=3:=by omega
 have hc:=coversN_eq hl
 rcases hp with rfl | rfl | rfl<;>simp at hc<;>rw [hc] at h6 ⊢<;>omega
theorem leafA_ok {c:AcC} (hk:AcOk c) {ds:List IvD} {s:AcS} (hE:EsOk c.ws.length s.es ds) {level:Nat} {d:DsD} (hm:leafM c level d≤4095):StOk c.ws.length ds 4 s (leafA c s level d).s∧((leafA c s level d).f.kind=0→hasF c.ws.length (leafA c s level d).n=true):=by
 obtain ⟨h1,h2⟩:=midA_ok hk hE hm c.acc
 unfold leafA
 generalize midA c s (leafM c level d) c.acc=M at h1 h2 ⊢
 generalize flagL d.r d.w d.x d.af c.acc 1 level c.page=F
 cases hc:decide (F.kind=0) with
 | false=>
  simp only [Bool.not_false,cond_true]
  refine ⟨⟨hE,by omega⟩,fun h=>?_⟩
  simp [h] at hc
 | true=>
  simp only [Bool.not_true,cond_false]
  cases hc2:decide (M.f.kind=0) with
  | false=>
   simp only [Bool.not_false,cond_true]
   refine ⟨h1,fun h=>?_⟩
   simp [h] at hc2
  | true=>
   obtain ⟨h3,h4,_⟩:=h2 (of_decide_eq_true hc2)
   simp only [Bool.not_true,cond_false]
   refine ⟨⟨?_,h1.rd⟩,fun _=>h3⟩
   cases c.pk.fill with
   | false=>exact h1.es
   | true=>exact fill_ok h1.es (entH_may hk hm h3) h3
theorem stgA_ok {c:AcC} (hk:AcOk c) {ds:List IvD}:∀ (k level:Nat) (f:Int) (s:AcS),level + k=4→EsOk c.ws.length s.es ds→StOk c.ws.length ds (5 * k) s (stgA c k level f s).s:=by
 intro k
 induction k with
 | zero=>intro level f s hl hE;exact ⟨hE,Nat.le_refl _⟩
 | succ k ih=>
  intro level f s hl hE
  rw [stgA]
  have hmay:=dSt_may c.ws 1 (atN f level c.page) level
  generalize dSt c.ws 1 (atN f level c.page) level=d at hmay ⊢
  obtain ⟨hkk,hk0,hk1,hk2⟩:=may_kinds hmay
  cases h1:decide (d.kind=1) with
  | true=>
   obtain ⟨g1,g2,g3,g4⟩:=hk1 (of_decide_eq_true h1)
   obtain ⟨h2,h3⟩:=tblA_ok hk (s:=⟨s.es,s.rd++[f]⟩) hE (mid:=d.frame.toNat) (level:=level + 1) (by omega) (by omega)
   have h4:=h2.rd
   simp only [List.length_append,List.length_singleton] at h4
   simp only [cond_true]
   generalize tblA c ⟨s.es,s.rd++[f]⟩ d.frame.toNat (level + 1)=T at h2 h3 h4 ⊢
   cases hc:decide (T.f.kind=0) with
   | false=>simp only [Bool.not_false,cond_true];exact ⟨h2.es,by omega⟩
   | true=>
    simp only [Bool.not_true,cond_false]
    have:=ih (level + 1) T.n T.s (by omega) h2.es
    exact ⟨this.es,by have:=this.rd;omega⟩
  | false=>
   simp only [cond_false]
   cases h0:decide (d.kind=0) with
   | true=>simp only [cond_true];exact ⟨hE,by simp only [List.length_append,List.length_singleton];omega⟩
   | false=>
    simp only [cond_false]
    have hd2:d.kind=2:=by simp at h1 h0;omega
    have:=(leafA_ok hk (s:=⟨s.es,s.rd++[f]⟩) hE (d:=d) (level:=level) (leaf_mid hmay hd2 (by omega) c.page).1).1
    exact ⟨this.es,by have:=this.rd;simp only [List.length_append,List.length_singleton] at this;omega⟩
theorem rootA_ok {c:AcC} (hk:AcOk c) {ds:List IvD} {s:AcS} (hE:EsOk c.ws.length s.es ds):StOk c.ws.length ds 24 s (rootA c s).s:=by
 have h1:=RtD.may_iff hk.one
 obtain ⟨h2,h3⟩:=tblA_ok hk hE (mid:=c.one.frame.toNat) (level:=0) (by omega) (by omega)
 unfold rootA
 generalize tblA c s c.one.frame.toNat 0=T at h2 h3 ⊢
 cases hc:decide (T.f.kind=0) with
 | false=>simp only [Bool.not_false,cond_true];exact ⟨h2.es,by have:=h2.rd;omega⟩
 | true=>
  simp only [Bool.not_true,cond_false]
  have:=stgA_ok hk 4 0 T.n T.s rfl h2.es
  exact ⟨this.es,by have:=this.rd;have:=h2.rd;omega⟩
theorem bestI_at {es:List EnD} {q:EnD→Bool}:∀ k,0≤bestI es q k→q (es.getD (bestI es q k).toNat default)=true:=by
 intro k
 induction k with
 | zero=>intro h;rw [bestI] at h;omega
 | succ k ih=>
  intro h
  rw [bestI] at h ⊢
  cases hc:(q (es.getD k default) && (decide (bestI es q k<0) || decide ((es.getD (bestI es q k).toNat default).level<(es.getD k default).level))) with
  | true=>rw [Bool.and_eq_true] at hc;simpa using hc.1
  | false=>rw [hc] at h;exact ih h
theorem may_lv {e:EnD} (h:e.may=true) (hk:e.kind=3):1≤e.level∧e.level≤3:=by
 simp only [EnD.may,hk,decide_true,show decide ((3:Int)=1)=false from rfl,show decide ((3:Int)=2)=false from rfl,cond_true,cond_false,Bool.and_eq_true,PtD.btw,decide_eq_true_eq] at h
 exact h.2.1.1.1
theorem walk_at {c:AcC} {ds:List IvD} {es:List EnD} (hE:EsOk c.ws.length es ds) (h:0≤walkI c es):(walkI c es).toNat<es.length∧1≤(es.getD (walkI c es).toNat default).level∧(es.getD (walkI c es).toNat default).level≤3∧hasF c.ws.length (es.getD (walkI c es).toNat default).frame=true:=by
 have h1:=(bestI_lt (es:=es) (q:=pWlk c.two.tag c.one.tag c.page) es.length).2
 have h2:=bestI_at (es:=es) (q:=pWlk c.two.tag c.one.tag c.page) es.length h
 have h3:(walkI c es).toNat<es.length:=by simp only [walkI] at h ⊢;omega
 have h4:=hE.may_of h3
 simp only [pWlk,Bool.and_eq_true,decide_eq_true_eq] at h2
 have h5:=may_lv h4.1 h2.1.1
 exact ⟨h3,h5.1,h5.2,h4.2⟩
theorem pageB_ok {c:AcC} (hk:AcOk c) {ds:List IvD} {es:List EnD} (hE:EsOk c.ws.length es ds):StOk c.ws.length ds 24 ⟨es,[]⟩ (pageB c es).s:=by
 unfold pageB
 cases c.one.on with
 | false=>
  simp only [Bool.not_false,cond_true]
  obtain ⟨h1,_⟩:=midA_ok hk (s:=⟨es,[]⟩) hE hk.page c.acc
  exact ⟨h1.es,by have:=h1.rd;omega⟩
 | true=>
  simp only [Bool.not_true,cond_false]
  cases hc:(c.pk.use && decide (0≤wholeI c es)) with
  | true=>simp only [cond_true];exact ⟨hE,by simp⟩
  | false=>
   simp only [cond_false]
   unfold pageW
   cases hc2:(c.pk.use && decide (0≤walkI c es)) with
   | true=>
    rw [Bool.and_eq_true,decide_eq_true_eq] at hc2
    obtain ⟨h1,h2,h3,h4⟩:=walk_at hE hc2.2
    simp only [cond_true]
    have:=stgA_ok hk (ds:=ds) (4 - (es.getD (walkI c es).toNat default).level.toNat) (es.getD (walkI c es).toNat default).level.toNat (es.getD (walkI c es).toNat default).frame ⟨es,[]⟩ (by omega) hE
    exact ⟨this.es,by have:=this.rd;omega⟩
   | false=>
    simp only [cond_false]
    have:=rootA_ok hk (s:=⟨es,[]⟩) hE
    exact ⟨this.es,by have:=this.rd;omega⟩
theorem pageA_ok {c:AcC} (hk:AcOk c) {ds:List IvD} {es:List EnD} (hE:EsOk c.ws.length es ds):StOk c.ws.length ds 24 ⟨es,[]⟩ (pageA c es).s:=by
 have:=pageB_ok hk (drop_ok hE c.pk.drop)
 exact ⟨this.es,this.rd⟩
end Go.Proofs.YtndklbjnofdgeaaGreat
namespace Go.Proofs.YtndklbjnofdgeaaGreat
open Go.RowKit
set_option linter.unusedVariables false
set_option linter.unusedSimpArgs false
set_option maxRecDepth 20000
section
variable {P : Program} {n : Nat} {w0 : World} {mu : List Nat} {l : Fm} {h0 hp hc : Hp} {Q : Exit → Fm → Hp → Prop} {all : Array Oper} {ds : List (Nat × Nat)} {t0 : Nat} {i d : Nat} {iv fr : Fm} {rest : List Oper} {op : Op} {ty : TypeId} {pos : String} {af : Array Edge} {j : Nat} {want : Bool} {dj : Nat} {b : Bool}
theorem dwf_ag {v:Value} (hlk:lk ds i=some d) (hwt:Region.waitsFor .any all t0 i=true) (hj:(all[j]?).bind (·.dst)=some dj) (hb:look (depFm ds iv af.toList++l) dj=some (.bool b)) (hdj:Nat.blt dj n=true)
  (hy:wnt b want=true→Hy P n w0 mu (depFm ds iv af.toList++l) hp ⟨some d,op,ty,pos,af,some (j,want)⟩ v)
  (h:DWF P n w0 mu all ds l h0 hp t0 Q (i + 1) rest ((i,gv (wnt b want) v)::iv) ((d,gv (wnt b want) v)::fr) hc):DWF P n w0 mu all ds l h0 hp t0 Q i (⟨some d,op,ty,pos,af,some (j,want)⟩::rest) iv fr hc:=
 fun e=>⟨_,fun hx=>by rw [hwt];exact ⟨dj,true,b,v,hj,hb,hdj,fun _=>hy,rfl⟩,h (headFm_cons hlk e)⟩
theorem dwf_bg {v:Value} (hlk:lk ds i=some d) (hwt:Region.waitsFor .any all t0 i=false) (hj:(all[j]?).bind (·.dst)=some dj) (hb:look (depFm ds iv af.toList++l) dj=some (.bool b)) (hdj:Nat.blt dj n=true)
  (hy:∀ hx,wnt b want=true→Hy P n w0 mu (depFm ds iv af.toList++l) (hx++h0) ⟨some d,op,ty,pos,af,some (j,want)⟩ v)
  (h:DWF P n w0 mu all ds l h0 hp t0 Q (i + 1) rest ((i,gv (wnt b want) v)::iv) ((d,gv (wnt b want) v)::fr) hc):DWF P n w0 mu all ds l h0 hp t0 Q i (⟨some d,op,ty,pos,af,some (j,want)⟩::rest) iv fr hc:=
 fun e=>⟨_,fun hx=>by rw [hwt];exact ⟨dj,true,b,v,hj,hb,hdj,fun _=>hy hx,rfl⟩,h (headFm_cons hlk e)⟩
end
section
variable {n : Nat} {w0 : World} {mu : List Nat} {l : Fm} {hp : Hp} {dd : Option Tmp} {ty : TypeId} {pos : String} {af : Array Edge} {gg : Option (Nat × Bool)}
end
section
variable {n : Nat} {w0 : World} {mu : List Nat} {l : Fm} {h0 hp hc : Hp} {all : Array Oper} {iv ivS ivE : Fm} {i d : Nat} {ds : List (Nat × Nat)} {r : List Nat} {Y : Fm → Hp → Prop} {ty : TypeId} {pos : String} {af : Array Edge}
end
attribute [local irreducible] Hy St Ops DH DHF DE1 DE2 DE3 DS DCh DWF
theorem runWG {G R:Prop} (k:R) (h:RestP R→G:=by (intro kLeft;(repeat (first | (with_reducible apply dwf_nil) | ((with_reducible apply dwf_a);rfl;decide +kernel;(first | ((with_reducible apply x_move);rfl) | ((with_reducible apply x_assign);rfl) | ((with_reducible apply x_field tb_ok);rfl;rfl;rfl;(first | ((simp only [Nat.reduceAdd,Nat.reduceMul,Nat.zero_add,Nat.add_zero,Nat.mul_one,Nat.zero_mul,Int.toNat_zero,Int.toNat_one,Int.reduceToNat])<;>rfl) | rfl)) | ((with_reducible apply x_load tb_ok);rfl;rfl;(first | (with_reducible apply mh) | (focus ((repeat (first | (with_reducible apply mh) | (with_reducible apply mt) | (with_reducible apply List.mem_append_right)));done)));(first | rfl | assumption)) | ((with_reducible apply x_load0 tb_ok);rfl;rfl;assumption;(first | exact List.not_mem_nil | assumption)) | ((with_reducible apply x_loadA tb_ok);rfl;rfl;rfl;(first | (with_reducible apply mh) | (focus ((repeat (first | (with_reducible apply mh) | (with_reducible apply mt) | (with_reducible apply List.mem_append_right)));done)));(first | assumption | (first | ((simp only [putAt,List.toList_toArray,List.setIfInBounds_toArray,List.set_cons_zero,List.set_cons_succ,List.drop_succ_cons,List.drop_zero,List.take_succ_cons,List.take_zero,List.cons_append,List.nil_append,List.append_nil])<;>rfl) | rfl));rfl) | ((with_reducible apply x_loadA0 tb_ok);rfl;rfl;rfl;assumption;rfl;(first | exact List.not_mem_nil | assumption)) | ((with_reducible apply x_indexN tb_ok);rfl;rfl;rfl;omega;(first | ((simp only [Nat.reduceAdd,Nat.reduceMul,Nat.zero_add,Nat.add_zero,Nat.mul_one,Nat.zero_mul,Int.toNat_zero,Int.toNat_one,Int.reduceToNat])<;>rfl) | rfl)) | ((with_reducible apply x_indexRN tb_ok);rfl;rfl;rfl;omega;(first | ((simp only [Nat.reduceAdd,Nat.reduceMul,Nat.zero_add,Nat.add_zero,Nat.mul_one,Nat.zero_mul,Int.toNat_zero,Int.toNat_one,Int.reduceToNat])<;>rfl) | rfl)) | ((with_reducible apply x_index tb_ok);rfl;rfl;rfl;omega;omega;(first | ((simp only [Nat.reduceAdd,Nat.reduceMul,Nat.zero_add,Nat.add_zero,Nat.mul_one,Nat.zero_mul,Int.toNat_zero,Int.toNat_one,Int.reduceToNat])<;>rfl) | rfl)) | ((with_reducible apply x_indexR tb_ok);rfl;rfl;rfl;omega;omega;(first | ((simp only [Nat.reduceAdd,Nat.reduceMul,Nat.zero_add,Nat.add_zero,Nat.mul_one,Nat.zero_mul,Int.toNat_zero,Int.toNat_one,Int.reduceToNat])<;>rfl) | rfl)) | ((with_reducible apply x_len tb_ok);rfl;rfl) | ((with_reducible apply x_orT);rfl;rfl) | ((with_reducible apply x_andF);rfl;rfl) | ((with_reducible apply x_or);rfl;rfl) | ((with_reducible apply x_and);rfl;rfl) | ((with_reducible apply x_pick);rfl;rfl;rfl) | ((with_reducible apply x_not);rfl) | ((with_reducible apply x_extract);rfl;rfl) | ((with_reducible apply x_nilCheck);rfl) | ((with_reducible apply x_lss);rfl;rfl) | ((with_reducible apply x_leq);rfl;rfl) | ((with_reducible apply x_gtr);rfl;rfl) | ((with_reducible apply x_geq);rfl;rfl) | ((with_reducible apply x_eql);rfl;rfl) | ((with_reducible apply x_neq);rfl;rfl) | ((with_reducible apply x_eqlb tb_ok);rfl;rfl;rfl) | ((with_reducible apply x_neqb tb_ok);rfl;rfl;rfl) | ((with_reducible apply x_eqlA lt_ok);rfl;rfl;rfl;rfl;rfl) | ((with_reducible apply x_neqA lt_ok);rfl;rfl;rfl;rfl;rfl) | ((with_reducible apply x_inc);rfl;rfl;omega) | ((with_reducible apply x_add);rfl;rfl;omega;omega) | ((with_reducible apply x_sub);rfl;rfl;omega;omega) | ((with_reducible apply x_mul);rfl;rfl;omega;omega) | ((with_reducible apply x_convI tb_ok);rfl;rfl;rfl;omega;omega) | ((with_reducible apply x_convU tb_ok);rfl;rfl;rfl;omega;omega) | ((with_reducible apply x_build tb_ok);rfl;(first | ((simp only [Value.cells])<;>rfl) | rfl);rfl;rfl;rfl;(first | ((simp only [putAt,Value.cells,List.toList_toArray,List.setIfInBounds_toArray,List.set_cons_zero,List.set_cons_succ,List.drop_succ_cons,List.drop_zero,List.take_succ_cons,List.take_zero,List.cons_append,List.nil_append,List.append_nil])<;>rfl) | rfl)) | ((with_reducible apply x_makeFunc);rfl;rfl) | ((with_reducible apply x_addW);rfl;rfl) | ((with_reducible apply x_subW);rfl;rfl))) | ((with_reducible apply dwf_b);rfl;decide +kernel;(intro hxS;(first | ((with_reducible apply x_move);rfl) | ((with_reducible apply x_assign);rfl) | ((with_reducible apply x_field tb_ok);rfl;rfl;rfl;(first | ((simp only [Nat.reduceAdd,Nat.reduceMul,Nat.zero_add,Nat.add_zero,Nat.mul_one,Nat.zero_mul,Int.toNat_zero,Int.toNat_one,Int.reduceToNat])<;>rfl) | rfl)) | ((with_reducible apply x_load tb_ok);rfl;rfl;(first | (with_reducible apply mh) | (focus ((repeat (first | (with_reducible apply mh) | (with_reducible apply mt) | (with_reducible apply List.mem_append_right)));done)));(first | rfl | assumption)) | ((with_reducible apply x_load0 tb_ok);rfl;rfl;assumption;(first | exact List.not_mem_nil | assumption)) | ((with_reducible apply x_loadA tb_ok);rfl;rfl;rfl;(first | (with_reducible apply mh) | (focus ((repeat (first | (with_reducible apply mh) | (with_reducible apply mt) | (with_reducible apply List.mem_append_right)));done)));(first | assumption | (first | ((simp only [putAt,List.toList_toArray,List.setIfInBounds_toArray,List.set_cons_zero,List.set_cons_succ,List.drop_succ_cons,List.drop_zero,List.take_succ_cons,List.take_zero,List.cons_append,List.nil_append,List.append_nil])<;>rfl) | rfl));rfl) | ((with_reducible apply x_loadA0 tb_ok);rfl;rfl;rfl;assumption;rfl;(first | exact List.not_mem_nil | assumption)) | ((with_reducible apply x_indexN tb_ok);rfl;rfl;rfl;omega;(first | ((simp only [Nat.reduceAdd,Nat.reduceMul,Nat.zero_add,Nat.add_zero,Nat.mul_one,Nat.zero_mul,Int.toNat_zero,Int.toNat_one,Int.reduceToNat])<;>rfl) | rfl)) | ((with_reducible apply x_indexRN tb_ok);rfl;rfl;rfl;omega;(first | ((simp only [Nat.reduceAdd,Nat.reduceMul,Nat.zero_add,Nat.add_zero,Nat.mul_one,Nat.zero_mul,Int.toNat_zero,Int.toNat_one,Int.reduceToNat])<;>rfl) | rfl)) | ((with_reducible apply x_index tb_ok);rfl;rfl;rfl;omega;omega;(first | ((simp only [Nat.reduceAdd,Nat.reduceMul,Nat.zero_add,Nat.add_zero,Nat.mul_one,Nat.zero_mul,Int.toNat_zero,Int.toNat_one,Int.reduceToNat])<;>rfl) | rfl)) | ((with_reducible apply x_indexR tb_ok);rfl;rfl;rfl;omega;omega;(first | ((simp only [Nat.reduceAdd,Nat.reduceMul,Nat.zero_add,Nat.add_zero,Nat.mul_one,Nat.zero_mul,Int.toNat_zero,Int.toNat_one,Int.reduceToNat])<;>rfl) | rfl)) | ((with_reducible apply x_len tb_ok);rfl;rfl) | ((with_reducible apply x_orT);rfl;rfl) | ((with_reducible apply x_andF);rfl;rfl) | ((with_reducible apply x_or);rfl;rfl) | ((with_reducible apply x_and);rfl;rfl) | ((with_reducible apply x_pick);rfl;rfl;rfl) | ((with_reducible apply x_not);rfl) | ((with_reducible apply x_extract);rfl;rfl) | ((with_reducible apply x_nilCheck);rfl) | ((with_reducible apply x_lss);rfl;rfl) | ((with_reducible apply x_leq);rfl;rfl) | ((with_reducible apply x_gtr);rfl;rfl) | ((with_reducible apply x_geq);rfl;rfl) | ((with_reducible apply x_eql);rfl;rfl) | ((with_reducible apply x_neq);rfl;rfl) | ((with_reducible apply x_eqlb tb_ok);rfl;rfl;rfl) | ((with_reducible apply x_neqb tb_ok);rfl;rfl;rfl) | ((with_reducible apply x_eqlA lt_ok);rfl;rfl;rfl;rfl;rfl) | ((with_reducible apply x_neqA lt_ok);rfl;rfl;rfl;rfl;rfl) | ((with_reducible apply x_inc);rfl;rfl;omega) | ((with_reducible apply x_add);rfl;rfl;omega;omega) | ((with_reducible apply x_sub);rfl;rfl;omega;omega) | ((with_reducible apply x_mul);rfl;rfl;omega;omega) | ((with_reducible apply x_convI tb_ok);rfl;rfl;rfl;omega;omega) | ((with_reducible apply x_convU tb_ok);rfl;rfl;rfl;omega;omega) | ((with_reducible apply x_build tb_ok);rfl;(first | ((simp only [Value.cells])<;>rfl) | rfl);rfl;rfl;rfl;(first | ((simp only [putAt,Value.cells,List.toList_toArray,List.setIfInBounds_toArray,List.set_cons_zero,List.set_cons_succ,List.drop_succ_cons,List.drop_zero,List.take_succ_cons,List.take_zero,List.cons_append,List.nil_append,List.append_nil])<;>rfl) | rfl)) | ((with_reducible apply x_makeFunc);rfl;rfl) | ((with_reducible apply x_addW);rfl;rfl) | ((with_reducible apply x_subW);rfl;rfl)))) | ((with_reducible apply dwf_s tb_ok);rfl;rfl;(first | ((simp only [Value.cells])<;>rfl) | rfl);rfl;rfl;(first | (with_reducible apply p0) | (with_reducible apply p1) | (with_reducible apply p2) | (with_reducible apply p3) | (with_reducible apply p4) | (with_reducible apply p5));(first | rfl | (focus (simp;done)));(first | omega | (focus (simp;done)) | (focus (simp;omega)));(first | ((simp only [putAt,List.toList_toArray,List.setIfInBounds_toArray,List.set_cons_zero,List.set_cons_succ,List.drop_succ_cons,List.drop_zero,List.take_succ_cons,List.take_zero,List.cons_append,List.nil_append,List.append_nil])<;>rfl) | rfl);(refine hpLe_cnt fun a=>?_;simp only [cntB_app,cntB_cons,cntB_nil];omega)) | ((with_reducible apply dwf_ag);rfl;decide +kernel;rfl;rfl;rfl;(intro hg1;(try simp only [hg1,gv_true,Bool.true_and]);(first | ((with_reducible apply x_move);rfl) | ((with_reducible apply x_assign);rfl) | ((with_reducible apply x_field tb_ok);rfl;rfl;rfl;(first | ((simp only [Nat.reduceAdd,Nat.reduceMul,Nat.zero_add,Nat.add_zero,Nat.mul_one,Nat.zero_mul,Int.toNat_zero,Int.toNat_one,Int.reduceToNat])<;>rfl) | rfl)) | ((with_reducible apply x_load tb_ok);rfl;rfl;(first | (with_reducible apply mh) | (focus ((repeat (first | (with_reducible apply mh) | (with_reducible apply mt) | (with_reducible apply List.mem_append_right)));done)));(first | rfl | assumption)) | ((with_reducible apply x_load0 tb_ok);rfl;rfl;assumption;(first | exact List.not_mem_nil | assumption)) | ((with_reducible apply x_loadA tb_ok);rfl;rfl;rfl;(first | (with_reducible apply mh) | (focus ((repeat (first | (with_reducible apply mh) | (with_reducible apply mt) | (with_reducible apply List.mem_append_right)));done)));(first | assumption | (first | ((simp only [putAt,List.toList_toArray,List.setIfInBounds_toArray,List.set_cons_zero,List.set_cons_succ,List.drop_succ_cons,List.drop_zero,List.take_succ_cons,List.take_zero,List.cons_append,List.nil_append,List.append_nil])<;>rfl) | rfl));rfl) | ((with_reducible apply x_loadA0 tb_ok);rfl;rfl;rfl;assumption;rfl;(first | exact List.not_mem_nil | assumption)) | ((with_reducible apply x_indexN tb_ok);rfl;rfl;rfl;(first | omega | ((try simp only [wnt,cond_true,cond_false,decide_eq_true_eq,Bool.not_eq_true',decide_eq_false_iff_not,Bool.and_eq_true,Bool.or_eq_true] at *);omega));(first | ((simp only [Nat.reduceAdd,Nat.reduceMul,Nat.zero_add,Nat.add_zero,Nat.mul_one,Nat.zero_mul,Int.toNat_zero,Int.toNat_one,Int.reduceToNat])<;>rfl) | rfl)) | ((with_reducible apply x_indexRN tb_ok);rfl;rfl;rfl;(first | omega | ((try simp only [wnt,cond_true,cond_false,decide_eq_true_eq,Bool.not_eq_true',decide_eq_false_iff_not,Bool.and_eq_true,Bool.or_eq_true] at *);omega));(first | ((simp only [Nat.reduceAdd,Nat.reduceMul,Nat.zero_add,Nat.add_zero,Nat.mul_one,Nat.zero_mul,Int.toNat_zero,Int.toNat_one,Int.reduceToNat])<;>rfl) | rfl)) | ((with_reducible apply x_index tb_ok);rfl;rfl;rfl;(first | omega | ((try simp only [wnt,cond_true,cond_false,decide_eq_true_eq,Bool.not_eq_true',decide_eq_false_iff_not,Bool.and_eq_true,Bool.or_eq_true] at *);omega));(first | omega | ((try simp only [wnt,cond_true,cond_false,decide_eq_true_eq,Bool.not_eq_true',decide_eq_false_iff_not,Bool.and_eq_true,Bool.or_eq_true] at *);omega));(first | ((simp only [Nat.reduceAdd,Nat.reduceMul,Nat.zero_add,Nat.add_zero,Nat.mul_one,Nat.zero_mul,Int.toNat_zero,Int.toNat_one,Int.reduceToNat])<;>rfl) | rfl)) | ((with_reducible apply x_indexR tb_ok);rfl;rfl;rfl;(first | omega | ((try simp only [wnt,cond_true,cond_false,decide_eq_true_eq,Bool.not_eq_true',decide_eq_false_iff_not,Bool.and_eq_true,Bool.or_eq_true] at *);omega));(first | omega | ((try simp only [wnt,cond_true,cond_false,decide_eq_true_eq,Bool.not_eq_true',decide_eq_false_iff_not,Bool.and_eq_true,Bool.or_eq_true] at *);omega));(first | ((simp only [Nat.reduceAdd,Nat.reduceMul,Nat.zero_add,Nat.add_zero,Nat.mul_one,Nat.zero_mul,Int.toNat_zero,Int.toNat_one,Int.reduceToNat])<;>rfl) | rfl)) | ((with_reducible apply x_len tb_ok);rfl;rfl) | ((with_reducible apply x_orT);rfl;rfl) | ((with_reducible apply x_andF);rfl;rfl) | ((with_reducible apply x_or);rfl;rfl) | ((with_reducible apply x_and);rfl;rfl) | ((with_reducible apply x_pick);rfl;rfl;rfl) | ((with_reducible apply x_not);rfl) | ((with_reducible apply x_extract);rfl;rfl) | ((with_reducible apply x_nilCheck);rfl) | ((with_reducible apply x_lss);rfl;rfl) | ((with_reducible apply x_leq);rfl;rfl) | ((with_reducible apply x_gtr);rfl;rfl) | ((with_reducible apply x_geq);rfl;rfl) | ((with_reducible apply x_eql);rfl;rfl) | ((with_reducible apply x_neq);rfl;rfl) | ((with_reducible apply x_eqlb tb_ok);rfl;rfl;rfl) | ((with_reducible apply x_neqb tb_ok);rfl;rfl;rfl) | ((with_reducible apply x_eqlA lt_ok);rfl;rfl;rfl;rfl;rfl) | ((with_reducible apply x_neqA lt_ok);rfl;rfl;rfl;rfl;rfl) | ((with_reducible apply x_inc);rfl;rfl;(first | omega | ((try simp only [wnt,cond_true,cond_false,decide_eq_true_eq,Bool.not_eq_true',decide_eq_false_iff_not,Bool.and_eq_true,Bool.or_eq_true] at *);omega))) | ((with_reducible apply x_add);rfl;rfl;(first | omega | ((try simp only [wnt,cond_true,cond_false,decide_eq_true_eq,Bool.not_eq_true',decide_eq_false_iff_not,Bool.and_eq_true,Bool.or_eq_true] at *);omega));(first | omega | ((try simp only [wnt,cond_true,cond_false,decide_eq_true_eq,Bool.not_eq_true',decide_eq_false_iff_not,Bool.and_eq_true,Bool.or_eq_true] at *);omega))) | ((with_reducible apply x_sub);rfl;rfl;(first | omega | ((try simp only [wnt,cond_true,cond_false,decide_eq_true_eq,Bool.not_eq_true',decide_eq_false_iff_not,Bool.and_eq_true,Bool.or_eq_true] at *);omega));(first | omega | ((try simp only [wnt,cond_true,cond_false,decide_eq_true_eq,Bool.not_eq_true',decide_eq_false_iff_not,Bool.and_eq_true,Bool.or_eq_true] at *);omega))) | ((with_reducible apply x_mul);rfl;rfl;(first | omega | ((try simp only [wnt,cond_true,cond_false,decide_eq_true_eq,Bool.not_eq_true',decide_eq_false_iff_not,Bool.and_eq_true,Bool.or_eq_true] at *);omega));(first | omega | ((try simp only [wnt,cond_true,cond_false,decide_eq_true_eq,Bool.not_eq_true',decide_eq_false_iff_not,Bool.and_eq_true,Bool.or_eq_true] at *);omega))) | ((with_reducible apply x_convI tb_ok);rfl;rfl;rfl;(first | omega | ((try simp only [wnt,cond_true,cond_false,decide_eq_true_eq,Bool.not_eq_true',decide_eq_false_iff_not,Bool.and_eq_true,Bool.or_eq_true] at *);omega));(first | omega | ((try simp only [wnt,cond_true,cond_false,decide_eq_true_eq,Bool.not_eq_true',decide_eq_false_iff_not,Bool.and_eq_true,Bool.or_eq_true] at *);omega))) | ((with_reducible apply x_convU tb_ok);rfl;rfl;rfl;(first | omega | ((try simp only [wnt,cond_true,cond_false,decide_eq_true_eq,Bool.not_eq_true',decide_eq_false_iff_not,Bool.and_eq_true,Bool.or_eq_true] at *);omega));(first | omega | ((try simp only [wnt,cond_true,cond_false,decide_eq_true_eq,Bool.not_eq_true',decide_eq_false_iff_not,Bool.and_eq_true,Bool.or_eq_true] at *);omega))) | ((with_reducible apply x_build tb_ok);rfl;(first | ((simp only [Value.cells])<;>rfl) | rfl);rfl;rfl;rfl;(first | ((simp only [putAt,Value.cells,List.toList_toArray,List.setIfInBounds_toArray,List.set_cons_zero,List.set_cons_succ,List.drop_succ_cons,List.drop_zero,List.take_succ_cons,List.take_zero,List.cons_append,List.nil_append,List.append_nil])<;>rfl) | rfl)) | ((with_reducible apply x_makeFunc);rfl;rfl) | ((with_reducible apply x_addW);rfl;rfl) | ((with_reducible apply x_subW);rfl;rfl)))) | ((with_reducible apply dwf_bg);rfl;decide +kernel;rfl;rfl;rfl;(intro hxS;intro hg1;(try simp only [hg1,gv_true,Bool.true_and]);(first | ((with_reducible apply x_move);rfl) | ((with_reducible apply x_assign);rfl) | ((with_reducible apply x_field tb_ok);rfl;rfl;rfl;(first | ((simp only [Nat.reduceAdd,Nat.reduceMul,Nat.zero_add,Nat.add_zero,Nat.mul_one,Nat.zero_mul,Int.toNat_zero,Int.toNat_one,Int.reduceToNat])<;>rfl) | rfl)) | ((with_reducible apply x_load tb_ok);rfl;rfl;(first | (with_reducible apply mh) | (focus ((repeat (first | (with_reducible apply mh) | (with_reducible apply mt) | (with_reducible apply List.mem_append_right)));done)));(first | rfl | assumption)) | ((with_reducible apply x_load0 tb_ok);rfl;rfl;assumption;(first | exact List.not_mem_nil | assumption)) | ((with_reducible apply x_loadA tb_ok);rfl;rfl;rfl;(first | (with_reducible apply mh) | (focus ((repeat (first | (with_reducible apply mh) | (with_reducible apply mt) | (with_reducible apply List.mem_append_right)));done)));(first | assumption | (first | ((simp only [putAt,List.toList_toArray,List.setIfInBounds_toArray,List.set_cons_zero,List.set_cons_succ,List.drop_succ_cons,List.drop_zero,List.take_succ_cons,List.take_zero,List.cons_append,List.nil_append,List.append_nil])<;>rfl) | rfl));rfl) | ((with_reducible apply x_loadA0 tb_ok);rfl;rfl;rfl;assumption;rfl;(first | exact List.not_mem_nil | assumption)) | ((with_reducible apply x_indexN tb_ok);rfl;rfl;rfl;(first | omega | ((try simp only [wnt,cond_true,cond_false,decide_eq_true_eq,Bool.not_eq_true',decide_eq_false_iff_not,Bool.and_eq_true,Bool.or_eq_true] at *);omega));(first | ((simp only [Nat.reduceAdd,Nat.reduceMul,Nat.zero_add,Nat.add_zero,Nat.mul_one,Nat.zero_mul,Int.toNat_zero,Int.toNat_one,Int.reduceToNat])<;>rfl) | rfl)) | ((with_reducible apply x_indexRN tb_ok);rfl;rfl;rfl;(first | omega | ((try simp only [wnt,cond_true,cond_false,decide_eq_true_eq,Bool.not_eq_true',decide_eq_false_iff_not,Bool.and_eq_true,Bool.or_eq_true] at *);omega));(first | ((simp only [Nat.reduceAdd,Nat.reduceMul,Nat.zero_add,Nat.add_zero,Nat.mul_one,Nat.zero_mul,Int.toNat_zero,Int.toNat_one,Int.reduceToNat])<;>rfl) | rfl)) | ((with_reducible apply x_index tb_ok);rfl;rfl;rfl;(first | omega | ((try simp only [wnt,cond_true,cond_false,decide_eq_true_eq,Bool.not_eq_true',decide_eq_false_iff_not,Bool.and_eq_true,Bool.or_eq_true] at *);omega));(first | omega | ((try simp only [wnt,cond_true,cond_false,decide_eq_true_eq,Bool.not_eq_true',decide_eq_false_iff_not,Bool.and_eq_true,Bool.or_eq_true] at *);omega));(first | ((simp only [Nat.reduceAdd,Nat.reduceMul,Nat.zero_add,Nat.add_zero,Nat.mul_one,Nat.zero_mul,Int.toNat_zero,Int.toNat_one,Int.reduceToNat])<;>rfl) | rfl)) | ((with_reducible apply x_indexR tb_ok);rfl;rfl;rfl;(first | omega | ((try simp only [wnt,cond_true,cond_false,decide_eq_true_eq,Bool.not_eq_true',decide_eq_false_iff_not,Bool.and_eq_true,Bool.or_eq_true] at *);omega));(first | omega | ((try simp only [wnt,cond_true,cond_false,decide_eq_true_eq,Bool.not_eq_true',decide_eq_false_iff_not,Bool.and_eq_true,Bool.or_eq_true] at *);omega));(first | ((simp only [Nat.reduceAdd,Nat.reduceMul,Nat.zero_add,Nat.add_zero,Nat.mul_one,Nat.zero_mul,Int.toNat_zero,Int.toNat_one,Int.reduceToNat])<;>rfl) | rfl)) | ((with_reducible apply x_len tb_ok);rfl;rfl) | ((with_reducible apply x_orT);rfl;rfl) | ((with_reducible apply x_andF);rfl;rfl) | ((with_reducible apply x_or);rfl;rfl) | ((with_reducible apply x_and);rfl;rfl) | ((with_reducible apply x_pick);rfl;rfl;rfl) | ((with_reducible apply x_not);rfl) | ((with_reducible apply x_extract);rfl;rfl) | ((with_reducible apply x_nilCheck);rfl) | ((with_reducible apply x_lss);rfl;rfl) | ((with_reducible apply x_leq);rfl;rfl) | ((with_reducible apply x_gtr);rfl;rfl) | ((with_reducible apply x_geq);rfl;rfl) | ((with_reducible apply x_eql);rfl;rfl) | ((with_reducible apply x_neq);rfl;rfl) | ((with_reducible apply x_eqlb tb_ok);rfl;rfl;rfl) | ((with_reducible apply x_neqb tb_ok);rfl;rfl;rfl) | ((with_reducible apply x_eqlA lt_ok);rfl;rfl;rfl;rfl;rfl) | ((with_reducible apply x_neqA lt_ok);rfl;rfl;rfl;rfl;rfl) | ((with_reducible apply x_inc);rfl;rfl;(first | omega | ((try simp only [wnt,cond_true,cond_false,decide_eq_true_eq,Bool.not_eq_true',decide_eq_false_iff_not,Bool.and_eq_true,Bool.or_eq_true] at *);omega))) | ((with_reducible apply x_add);rfl;rfl;(first | omega | ((try simp only [wnt,cond_true,cond_false,decide_eq_true_eq,Bool.not_eq_true',decide_eq_false_iff_not,Bool.and_eq_true,Bool.or_eq_true] at *);omega));(first | omega | ((try simp only [wnt,cond_true,cond_false,decide_eq_true_eq,Bool.not_eq_true',decide_eq_false_iff_not,Bool.and_eq_true,Bool.or_eq_true] at *);omega))) | ((with_reducible apply x_sub);rfl;rfl;(first | omega | ((try simp only [wnt,cond_true,cond_false,decide_eq_true_eq,Bool.not_eq_true',decide_eq_false_iff_not,Bool.and_eq_true,Bool.or_eq_true] at *);omega));(first | omega | ((try simp only [wnt,cond_true,cond_false,decide_eq_true_eq,Bool.not_eq_true',decide_eq_false_iff_not,Bool.and_eq_true,Bool.or_eq_true] at *);omega))) | ((with_reducible apply x_mul);rfl;rfl;(first | omega | ((try simp only [wnt,cond_true,cond_false,decide_eq_true_eq,Bool.not_eq_true',decide_eq_false_iff_not,Bool.and_eq_true,Bool.or_eq_true] at *);omega));(first | omega | ((try simp only [wnt,cond_true,cond_false,decide_eq_true_eq,Bool.not_eq_true',decide_eq_false_iff_not,Bool.and_eq_true,Bool.or_eq_true] at *);omega))) | ((with_reducible apply x_convI tb_ok);rfl;rfl;rfl;(first | omega | ((try simp only [wnt,cond_true,cond_false,decide_eq_true_eq,Bool.not_eq_true',decide_eq_false_iff_not,Bool.and_eq_true,Bool.or_eq_true] at *);omega));(first | omega | ((try simp only [wnt,cond_true,cond_false,decide_eq_true_eq,Bool.not_eq_true',decide_eq_false_iff_not,Bool.and_eq_true,Bool.or_eq_true] at *);omega))) | ((with_reducible apply x_convU tb_ok);rfl;rfl;rfl;(first | omega | ((try simp only [wnt,cond_true,cond_false,decide_eq_true_eq,Bool.not_eq_true',decide_eq_false_iff_not,Bool.and_eq_true,Bool.or_eq_true] at *);omega));(first | omega | ((try simp only [wnt,cond_true,cond_false,decide_eq_true_eq,Bool.not_eq_true',decide_eq_false_iff_not,Bool.and_eq_true,Bool.or_eq_true] at *);omega))) | ((with_reducible apply x_build tb_ok);rfl;(first | ((simp only [Value.cells])<;>rfl) | rfl);rfl;rfl;rfl;(first | ((simp only [putAt,Value.cells,List.toList_toArray,List.setIfInBounds_toArray,List.set_cons_zero,List.set_cons_succ,List.drop_succ_cons,List.drop_zero,List.take_succ_cons,List.take_zero,List.cons_append,List.nil_append,List.append_nil])<;>rfl) | rfl)) | ((with_reducible apply x_makeFunc);rfl;rfl) | ((with_reducible apply x_addW);rfl;rfl) | ((with_reducible apply x_subW);rfl;rfl))))));exact kLeft.get)):G:=h ⟨k⟩
end Go.Proofs.YtndklbjnofdgeaaGreat
namespace Go.Proofs.YtndklbjnofdgeaaGreat
open Go.RowKit
set_option linter.unusedVariables false
set_option linter.unusedSimpArgs false
set_option maxRecDepth 20000
attribute [local irreducible] Hy St Ops DH DHF DE1 DE2 DE3 DS DCh
abbrev atS (a:AtD × Int):List Value:=[.bool a.1.r,.bool a.1.w,.bool a.1.x,.bool a.1.af,.bool a.1.ng,.int .i64 a.2]
def bothA (a b:AtD):AtD:=⟨a.r && b.r,a.w && b.w,a.x && b.x,a.af && b.af,a.ng || b.ng⟩
theorem finTA {fn:Func} {R:Value→Hp→Prop} {l:Fm} {hp:Hp} {s0 a t b:Nat} {cs:Array Value} {tb:TypeId} {v:Value} (h:R (.tuple #[v,.agg cs]) hp) (hr:fn.results=#[.tmp s0,.cell a t]:=by rfl) (h0:look l s0=some v:=by rfl) (hv:look l a=some (.pointer (some ⟨b,0,none⟩)):=by rfl) (hag:mem Tb.ag t=true:=by rfl) (hm:(⟨b,cs,tb⟩:Blk)∈hp:=by (first | (with_reducible apply mh) | (focus ((repeat (first | (with_reducible apply mh) | (with_reducible apply mt) | (with_reducible apply List.mem_append_right)));done)))) (hz:lk Tb.sz t=some cs.size:=by rfl):Fin Tryz.prog fn R .ret l hp:=
 ⟨.inl rfl,[v,.agg cs],by rw [hr];exact ⟨h0,⟨⟨b,cs,tb⟩,hm,hv,.inr ⟨tb_ok.gag hag,tb_ok.gsz hz,rfl⟩⟩,trivial⟩,h⟩
theorem Sees.into {w wc:World} {mu:List Nat} {hi rest:Hp} {v:Value} {sz:Nat} {xs:List (List Value)} (h:Sees w mu v sz xs) (hG:Good w mu (hi++rest) wc):Sees wc (hi.map (·.b)) v sz xs:=
 h.next hG fun b hb=>by obtain ⟨x,hx,rfl⟩:=List.mem_map.1 hb;exact ⟨x,List.mem_append_left _ hx,rfl⟩
instance : Inhabited AtD := ⟨noAt⟩
end Go.Proofs.YtndklbjnofdgeaaGreat
namespace Go.Proofs.YtndklbjnofdgeaaGreat
open Go.RowKit
set_option linter.unusedVariables false
set_option linter.unusedSimpArgs false
set_option maxRecDepth 20000
attribute [local irreducible] Hy St Ops DH DHF DE1 DE2 DE3 DS DCh DWF
def SlIn (w0:World) (mu:List Nat) (hb:Hp) (v:Value) (sz:Nat) (xs:List (List Value)):Prop:=∀ hp w,(∀ b∈hb,b∈hp)→Good w0 mu hp w→SlAt w v sz xs
theorem SlIn.old {w0:World} {v:Value} {sz:Nat} {xs:List (List Value)} (h:SlAt w0 v sz xs):SlIn w0 [] [] v sz xs:=fun hp w _ hG=>(Sees.old h).good hG
theorem SlIn.own {w0:World} {mu:List Nat} {e sz:Nat} {v:Value} {hb:Hp} {xs:List (List Value)} (hA:Own e sz v hb xs) (hl:xs.length≤1000000):SlIn w0 mu hb v sz xs:=fun hp w hb' hG=>hA.lie (fun b hb=>hG.here b (hb' b hb)) (by omega)
end Go.Proofs.YtndklbjnofdgeaaGreat
namespace Go.Proofs.YtndklbjnofdgeaaGreat
open Go.RowKit
set_option linter.unusedVariables false
set_option linter.unusedSimpArgs false
set_option maxRecDepth 20000
attribute [local irreducible] Hy St Ops DH DHF DE1 DE2 DE3 DS DCh DWF
def heldL (n:Nat) (es:List EnD):Bool:=es.all fun e=>decide (e.frame<((n / 8:Nat):Int))
def whoL (one two:RtD):Bool:=one.may && two.may && two.on
def mayL (n:Nat) (es:List EnD) (ds:List IvD) (one two:RtD) (page acc:Int):Bool:=memOk n && tlbOk es ds && whoL one two && PtD.btw page 0 4095 && PtD.btw acc 0 2 && heldL n es
theorem mayL_ok {c:AcC} {es:List EnD} {ds:List IvD} (hw:W64 c.ws) (h:mayL c.ws.length es ds c.one c.two (c.page:Int) c.acc=true):AcOk c∧EsOk c.ws.length es ds∧0≤c.acc∧c.acc≤2:=by
 simp only [mayL,whoL,Bool.and_eq_true] at h
 obtain ⟨⟨⟨⟨⟨h1,h2⟩,⟨h3,h4⟩,h5⟩,h6⟩,h7⟩,h8⟩:=h
 have h6':(0:Int)≤c.page∧(c.page:Int)≤4095:=by simpa [PtD.btw] using h6
 refine ⟨⟨hw,h1,h3,h4,h5,by omega⟩,⟨h2,fun e he=>?_⟩,by simpa [PtD.btw] using h7⟩
 have h9:=List.all_eq_true.1 h8 e he
 have h10:=(tlb_may h2).1 e he
 simp only [EnD.may,EnD.nums,PtD.btw,Bool.and_eq_true,decide_eq_true_eq] at h10
 simp only [hasF,Bool.and_eq_true,decide_eq_true_eq]
 exact ⟨h10.1.1.1.2.1,of_decide_eq_true h9⟩
end Go.Proofs.YtndklbjnofdgeaaGreat
namespace Go.Proofs.YtndklbjnofdgeaaGreat
open Go.RowKit
set_option linter.unusedVariables false
set_option linter.unusedSimpArgs false
set_option maxRecDepth 20000
attribute [local irreducible] Hy St Ops DH DHF DE1 DE2 DE3 DS DCh DWF
theorem mFrames0_e (n cap:Nat) (hn:n<4611686018427387904) (q:Option Addr) (w:World):Fn Tryz.prog 97 [.agg #[.slice q n cap]].toArray w [] (fun u _=>u=.int .i64 ((n / 8:Nat):Int)):=by
 refine enter Tryz.func97 ?_
 refine run ?_
 intro B
 refine run ?_
 refine op1 (by rfl) (x_quoN rfl rfl n 8 (by rfl) (by rfl) (by decide) (by omega)) ?_
 refine run ?_
 exact fin1 rfl
theorem mFrames_e (n cap:Nat) (hn:n<4611686018427387904) (q:Option Addr) (w:World):Fn Tryz.prog 60 [.agg #[.slice q n cap]].toArray w [] (fun u _=>u=.tuple #[.int .i64 (bif memOk n then ((n / 8:Nat):Int) else 0),.int .i64 (bif memOk n then 0 else 1)]):=by
 refine enter Tryz.func60 ?_
 refine run ?_
 intro B
 refine run ?_
 refine callE (fun wc hG=>mCheck_e n cap hn q wc) ?_
 refine run ?_
 refine st_cond _ rfl (fun hc=>?_) (fun hc=>?_)
 ·have hm:memOk n=false:=by cases h:memOk n<;>simp [h] at hc ⊢
  refine run ?_
  refine fin2 ?_
  rw [hm];rfl
 ·have hm:memOk n=true:=by cases h:memOk n<;>simp [h] at hc ⊢
  refine run ?_
  refine callE (fun wc hG=>mFrames0_e n cap hn q wc) ?_
  refine run ?_
  refine fin2 ?_
  rw [hm];rfl
theorem mHas1_e (n cap:Nat) (hn:n<4611686018427387904) (q:Option Addr) (f:Int) (B:Nat) (w:World) (hB:w.cell? ⟨B,0,none⟩=some (.slice q n cap)):Fn Tryz.prog 239 ([]++[Value.int .i64 f]++[Value.pointer (some ⟨B,0,none⟩)]).toArray w [] (fun u _=>u=.bool (!hasF n f)):=by
 have hr:w.rangeAt B 0 [.slice q n cap]:=fun j v hj=>by
  cases j with
  | zero=>simp at hj;subst hj;exact hB
  | succ j=>simp at hj
 refine enter Tryz.func239 ?_
 refine runG ?_
 refine callEG (fun _ wc hG=>mFrames0_e n cap hn q wc) ?_
 refine runG ?_
 refine fin1 ?_
 unfold hasF
 rw [Bool.not_and]
 congr 1
 rw [← decide_not,← decide_not]
 congr 1<;>(rw [Bool.eq_iff_iff,decide_eq_true_eq,decide_eq_true_eq];omega)
theorem mHas_e (n cap:Nat) (hn:n<4611686018427387904) (q:Option Addr) (xs:List Int) {w:World} {v:Value} (h:SlAt w v 1 (xs.map inV)):Fn Tryz.prog 234 [.agg #[.slice q n cap],v].toArray w [] (fun u _=>u=.bool (xs.all (hasF n))):=by
 refine enter Tryz.func234 ?_
 refine run ?_
 intro B
 refine run ?_
 refine callE (fun wc hG=>containsFNum_e (us:=[.pointer (some ⟨B,0,none⟩)]) (fun x=>!hasF n x) xs _ (h.good hG) (fun x _ w' ha=>mHas1_e n cap hn q x B w' ?_)) ?_
 ·obtain ⟨hp,hg⟩:=ha
  exact hg.cell (by rw [cell_of_block (hG.here _ mh)];rfl) (by simp)
 refine run ?_
 refine fin1 ?_
 rw [← List.not_all_eq_any_not,Bool.not_not]
theorem mAsk_e (n cap:Nat) (hn:n<4611686018427387904) (q:Option Addr) (xs:List Int) {w:World} {v:Value} (h:SlAt w v 1 (xs.map inV)):Fn Tryz.prog 227 [.agg #[.slice q n cap],v].toArray w [] (fun u _=>u=.int .i64 (bif !memOk n then 1 else bif xs.all (hasF n) then 0 else 2)):=by
 have h':=h
 obtain ⟨qv,cv,rfl,_,_⟩:=h.opened
 refine enter Tryz.func227 ?_
 refine run ?_
 intro B
 refine run ?_
 refine callE (fun wc hG=>mMay_e n cap hn q wc) ?_
 refine run ?_
 refine st_cond _ rfl (fun hc=>?_) (fun hc=>?_)
 ·refine run ?_
  refine fin1 ?_
  rw [hc];rfl
 ·refine run ?_
  refine callE (fun wc hG=>mHas_e n cap hn q xs ((Sees.old h').good hG)) ?_
  refine run ?_
  rw [hc,cond_false]
  refine st_cond _ rfl (fun hc2=>?_) (fun hc2=>?_)
  ·refine run ?_
   refine fin1 ?_
   rw [show xs.all (hasF n)=false by simpa using hc2];rfl
  ·refine run ?_
   refine fin1 ?_
   rw [show xs.all (hasF n)=true by simpa using hc2];rfl
theorem SlAt.cutS {w:World} {α:Type} {f:α→List Value} {xs:List α} {b o n cap sz i k c':Nat} (h:SlAt w (.slice (some ⟨b,o,none⟩) n cap) sz (xs.map f)) (hk:i + k≤xs.length):SlAt w (.slice (some ⟨b,o + i * sz,none⟩) k c') sz (((xs.drop i).take k).map f):=by
 obtain ⟨⟨q,c,e,hne⟩,hle⟩:=h
 injection e with e1 e2 e3
 subst e1 e3
 rw [List.length_map] at hle
 have hl:(((xs.drop i).take k).map f).length=k:=by rw [List.length_map,List.length_take,List.length_drop];omega
 refine ⟨⟨_,_,by rw [hl],fun hx=>?_⟩,by rw [hl];omega⟩
 obtain ⟨b',off,e,hr⟩:=hne (by intro e;rw [List.map_eq_nil_iff] at e;rw [e] at hx;simp at hx)
 injection e with e
 injection e with e1 e2 _
 subst e1 e2
 refine ⟨b,o + i * sz,rfl,fun j cc hj=>?_⟩
 rw [List.map_take,List.map_drop,List.getElem?_take] at hj
 split at hj
 ·rw [List.getElem?_drop] at hj
  have:=hr (i + j) cc hj
  rwa [Nat.add_mul,← Nat.add_assoc] at this
 ·cases hj
theorem mOf_e (n cap f:Nat) (hf:f * 8 + 8≤n) (hc:n≤cap) (hn:n<1000000) (b o:Nat) (w:World):Fn Tryz.prog 228 [.agg #[.slice (some ⟨b,o,none⟩) n cap],.int .i64 (f:Int)].toArray w [] (fun u _=>u=.slice (some ⟨b,o + f * 8,none⟩) 8 (cap - f * 8)):=by
 refine enter Tryz.func228 ?_
 refine run ?_
 intro B
 refine run ?_
 refine op1 (by rfl) (x_sliceLH tb_ok rfl rfl rfl (by rfl) (by omega) (by omega) (by omega) (by omega) (o':=o + f * 8) (by omega) (m':=8) (by omega) (c':=cap - f * 8) (by omega)) ?_
 refine run ?_
 exact fin1 rfl
theorem mFrame_e (ws:List Nat) (cap:Nat) (hm:memOk ws.length=true) (f:Int) (hf:hasF ws.length f=true) (hc:ws.length≤cap) {w:World} {p:Option Addr} (h:SlAt w (.slice p ws.length cap) 1 (ws.map uV)):Fn Tryz.prog 217 [.agg #[.slice p ws.length cap],.int .i64 f].toArray w [] (fun u hn=>∃ v hv,u=.tuple #[v,.int .i64 0]∧Own 25 1 v hv (((ws.drop (f.toNat * 8)).take 8).map uV)∧HpLe hv hn):=by
 have hmi:=memOk_iff hm
 have hfi:=hasF_iff hf
 have h':=h
 obtain ⟨q,c0,e,hne,_⟩:=h.opened
 injection e with e1 _ e3
 subst e1
 obtain ⟨b,o,rfl⟩:=hne (by intro e;rw [e] at hmi;simp at hmi)
 refine enter Tryz.func217 ?_
 refine run ?_
 intro B X
 refine callE (fun wc hG=>mAsk_e ws.length cap (by omega) _ [f] (lie_rows (xs:=[inV f]) (hG.here ⟨X,#[.int .i64 f],3⟩ mh) (by simp [inV]) (by simp))) ?_
 rw [hm,show ([f]:List Int).all (hasF ws.length)=true by simp [hf]]
 refine runC ?_
 obtain ⟨k,rfl⟩:∃ k:Nat,f=(k:Int):=⟨f.toNat,by omega⟩
 rw [Int.toNat_natCast] at hfi ⊢
 refine callE (fun wc hG=>mOf_e ws.length cap k (by omega) hc (by omega) b o wc) ?_
 refine run ?_
 have hcs:=fun {wc:World} (hG:SlAt wc (.slice (some ⟨b,o,none⟩) ws.length cap) 1 (ws.map uV))=>SlAt.cutS hG (i:=k * 8) (k:=8) (c':=cap - k * 8) (by omega)
 rw [Nat.mul_one] at hcs
 refine callB (fun wc hG=>cloneWords_e _ (((ws.drop (k * 8)).take 8).map uV) (hcs ((Sees.old h').good hG)) (fun c hc=>by obtain ⟨x,_,rfl⟩:=List.mem_map.1 hc;exact ⟨rfl,rfl⟩) (by simp;omega)) ?_
 rintro v hv hO
 refine run ?_
 exact fin2 ⟨v,hv,rfl,hO,by (refine hpLe_cnt fun a=>?_;simp only [cntB_app,cntB_cons,cntB_nil]<;>omega)⟩
theorem pMay_e (r w x af ng:Bool) (soft acc:Int) (W:World):Fn Tryz.prog 162 [.agg #[.bool r,.bool w,.bool x,.bool af,.bool ng,.int .i64 soft],.int .i64 acc].toArray W [] (fun u _=>u=.tuple #[.bool (mayA r w x acc),.int .i64 (bif PtD.btw acc 0 2 then 0 else 1)]):=by
 have hb:∀ b0 b1 b2:Bool,decide (acc=0)=b0→decide (acc=1)=b1→decide (acc=2)=b2→PtD.btw acc 0 2=(b0 || b1 || b2):=by
  intro b0 b1 b2 h0 h1 h2
  subst h0 h1 h2
  unfold PtD.btw
  rw [Bool.eq_iff_iff]
  simp only [Bool.and_eq_true,Bool.or_eq_true,decide_eq_true_eq]
  omega
 refine enter Tryz.func162 ?_
 refine run ?_
 intro B
 refine st_cond _ rfl (fun hc=>?_) (fun hc=>?_)
 ·refine run ?_
  refine fin2 ?_
  have:acc=0:=of_decide_eq_true hc
  subst this
  simp [mayA,PtD.btw]
 refine run ?_
 refine st_cond _ rfl (fun hc2=>?_) (fun hc2=>?_)
 ·refine run ?_
  refine fin2 ?_
  have:acc=1:=of_decide_eq_true hc2
  subst this
  simp [mayA,PtD.btw]
 refine run ?_
 refine st_cond _ rfl (fun hc3=>?_) (fun hc3=>?_)
 ·refine run ?_
  refine fin2 ?_
  have:acc=2:=of_decide_eq_true hc3
  subst this
  simp [mayA,PtD.btw]
 refine run ?_
 refine fin2 ?_
 rw [hb _ _ _ hc hc2 hc3]
 simp only [mayA,hc,hc2,hc3]
 rfl
theorem pFlag_e (r w x af ng:Bool) (soft acc stage level page:Int) (ha:PtD.btw acc 0 2=true) (W:World):Fn Tryz.prog 212 [.agg #[.bool r,.bool w,.bool x,.bool af,.bool ng,.int .i64 soft],.int .i64 acc,.int .i64 stage,.int .i64 level,.int .i64 page].toArray W [] (fun u _=>u=.tuple #[ftV (flagL r w x af acc stage level page),.int .i64 0]):=by
 refine enter Tryz.func212 ?_
 refine run ?_
 intro B R
 refine run ?_
 refine callE (fun wc hG=>pMay_e r w x af ng soft acc wc) ?_
 rw [ha]
 refine runC ?_
 intro F
 refine runC ?_
 refine st_cond _ rfl (fun hc=>?_) (fun hc=>?_)
 ·refine run ?_
  refine finA1 (cs:=#[.int .i64 3,.int .i64 stage,.int .i64 level,.bool false,.int .i64 page]) ?_
  simp only [flagL,hc,cond_true]
 refine run ?_
 refine st_cond _ rfl (fun hc2=>?_) (fun hc2=>?_)
 ·refine run ?_
  refine finA1 (cs:=#[.int .i64 0,.int .i64 0,.int .i64 0,.bool false,.int .i64 0]) ?_
  simp only [flagL,hc,hc2,cond_true,cond_false,Bool.not_true]
  rfl
 refine run ?_
 refine finA1 (cs:=#[.int .i64 4,.int .i64 stage,.int .i64 level,.bool false,.int .i64 page]) ?_
 simp only [flagL,hc,hc2,cond_true,cond_false,Bool.not_false]
theorem pBoth_e (a b:AtD) (sa sb:Int) {w:World} {v:Value} (h:SlAt w v 6 ([(a,sa),(b,sb)].map atS)):Fn Tryz.prog 210 [v].toArray w [] (fun u _=>u=.agg (atV (bothA a b)).toArray):=by
 obtain ⟨q,cap,rfl,hne,hle⟩:=h.opened
 obtain ⟨b0,o0,rfl⟩:=hne (by simp)
 rw [show ([(a,sa),(b,sb)]:List (AtD × Int)).length=2 from rfl] at h ⊢
 have r0:=h.row (k:=0) (by decide:0<2)
 have r1:=h.row (k:=1) (by decide:1<2)
 refine enter Tryz.func210 ?_
 refine run ?_
 intro R X
 refine run ?_
 refine loopS (σ:=Nat × AtD) (fun z=>[(9,.int .i64 (z.1:Int))]) (fun z=>[⟨R,#[.bool false,.bool false,.bool false,.bool false,.bool false,.int .i64 0],112⟩,⟨X,#[.bool z.2.r,.bool z.2.w,.bool z.2.x,.bool z.2.af,.bool z.2.ng,.int .i64 0],112⟩]) (fun z=>z.1=0∧z.2=⟨true,true,true,true,false⟩∨z.1=1∧z.2=a∨z.1=2∧z.2=bothA a b) (fun z=>2 - z.1) (0,⟨true,true,true,true,false⟩) (.inl ⟨rfl,rfl⟩) ?_
 rintro ⟨k,x⟩ m hm hk
 dsimp only at hm hk ⊢
 rcases hk with ⟨e0,rfl⟩ | ⟨e0,rfl⟩ | ⟨e0,rfl⟩
 ·have hlt:k<2:=by omega
  have hr:w.rangeAt b0 (o0 + k * 6) (atS (a,sa)):=by rw [e0];exact r0
  refine run ?_
  refine st_cond _ rfl (fun hc=>?_) (fun hc=>absurd hc (by simp;omega))
  refine runC ?_
  intro A
  refine runC ?_
  refine drawW 31 [⟨R,#[.bool false,.bool false,.bool false,.bool false,.bool false,.int .i64 0],112⟩,⟨A,#[.bool a.r,.bool a.w,.bool a.x,.bool a.af,.bool a.ng,.int .i64 sa],112⟩] ?_
  refine runWG ?_
  refine run ?_
  exact nextS (k + 1,⟨true && a.r,true && a.w,true && a.x,true && a.af,false || a.ng⟩) (.inr (.inl ⟨by dsimp only;omega,by simp⟩)) (hm:=by dsimp only;omega) (h2:=by (refine hpLe_cnt fun a=>?_;simp only [cntB_app,cntB_cons,cntB_nil]<;>omega))
 ·have hlt:k<2:=by omega
  have hr:w.rangeAt b0 (o0 + k * 6) (atS (b,sb)):=by rw [e0];exact r1
  refine run ?_
  refine st_cond _ rfl (fun hc=>?_) (fun hc=>absurd hc (by simp;omega))
  refine runC ?_
  intro A
  refine runC ?_
  refine drawW 31 [⟨R,#[.bool false,.bool false,.bool false,.bool false,.bool false,.int .i64 0],112⟩,⟨A,#[.bool b.r,.bool b.w,.bool b.x,.bool b.af,.bool b.ng,.int .i64 sb],112⟩] ?_
  refine runWG ?_
  refine run ?_
  exact nextS (k + 1,⟨x.r && b.r,x.w && b.w,x.x && b.x,x.af && b.af,x.ng || b.ng⟩) (.inr (.inr ⟨by dsimp only;omega,rfl⟩)) (hm:=by dsimp only;omega) (h2:=by (refine hpLe_cnt fun a=>?_;simp only [cntB_app,cntB_cons,cntB_nil]<;>omega))
 ·refine run ?_
  refine st_cond _ rfl (fun hc=>absurd hc (by simp;omega)) (fun hc=>?_)
  refine run ?_
  exact finA (cs:=#[.bool (bothA a b).r,.bool (bothA a b).w,.bool (bothA a b).x,.bool (bothA a b).af,.bool (bothA a b).ng,.int .i64 0]) rfl
end Go.Proofs.YtndklbjnofdgeaaGreat
namespace Go.Proofs.YtndklbjnofdgeaaGreat
open Go.RowKit
set_option linter.unusedVariables false
set_option linter.unusedSimpArgs false
set_option maxRecDepth 20000
attribute [local irreducible] Hy St Ops DH DHF DE1 DE2 DE3 DS DCh DWF
theorem finAA2 {fn:Func} {R:Value→Hp→Prop} {l:Fm} {hp:Hp} {a t b a2 t2 b2:Nat} {cs cs2:Array Value} {tb tb2:TypeId} (h:R (.tuple #[.agg cs,.agg cs2]) hp) (hr:fn.results=#[.cell a t,.cell a2 t2]:=by rfl) (hv:look l a=some (.pointer (some ⟨b,0,none⟩)):=by rfl) (hw:look l a2=some (.pointer (some ⟨b2,0,none⟩)):=by rfl) (hag:mem Tb.ag t=true:=by rfl) (hm:(⟨b,cs,tb⟩:Blk)∈hp:=by (first | (with_reducible apply mh) | (focus ((repeat (first | (with_reducible apply mh) | (with_reducible apply mt) | (with_reducible apply List.mem_append_right)));done)))) (hz:lk Tb.sz t=some cs.size:=by rfl) (hag2:mem Tb.ag t2=true:=by rfl) (hm2:(⟨b2,cs2,tb2⟩:Blk)∈hp:=by (first | (with_reducible apply mh) | (focus ((repeat (first | (with_reducible apply mh) | (with_reducible apply mt) | (with_reducible apply List.mem_append_right)));done)))) (hz2:lk Tb.sz t2=some cs2.size:=by rfl):Fin Tryz.prog fn R .ret l hp:=
 ⟨.inl rfl,[.agg cs,.agg cs2],by rw [hr];exact ⟨⟨⟨b,cs,tb⟩,hm,hv,.inr ⟨tb_ok.gag hag,tb_ok.gsz hz,rfl⟩⟩,⟨⟨b2,cs2,tb2⟩,hm2,hw,.inr ⟨tb_ok.gag hag2,tb_ok.gsz hz2,rfl⟩⟩,trivial⟩,h⟩
theorem wTable_e (ws:List Nat) (hw:W64 ws) (cap:Nat) (hm:memOk ws.length=true) (hc':ws.length≤cap) {w:World} {p:Option Addr} (h:SlAt w (.slice p ws.length cap) 1 (ws.map uV)) (stage:Int) (hs:stage=1∨stage=2) (level:Nat) (hl:level<4) (f:Int) (hf:hasF ws.length f=true) (page:Nat) (hp:page≤4095):Fn Tryz.prog 197 [.agg #[.slice p ws.length cap],.int .i64 stage,.int .i64 (level:Int),.int .i64 f,.int .i64 (page:Int)].toArray w [] (fun u _=>u=.tuple #[dsV (dSt ws stage (atN f level page) level),.int .i64 0]):=by
 have hmi:=memOk_iff hm
 have hfi:=hasF_iff hf
 have h':=h
 obtain ⟨ez,hez⟩:∃ z:Int,z=0:=⟨0,rfl⟩
 have hdi:∀ wc,Fn Tryz.prog 216 [.int .i64 (level:Int),.int .i64 (page:Int)].toArray wc [] (fun u _=>u=.tuple #[.int .i64 (indexN level page:Int),.int .i64 ez]):=fun wc=>by rw [hez];exact dIndex_e level hl page hp wc
 refine enter Tryz.func197 ?_
 refine run ?_
 intro B D
 refine run ?_
 refine callE (fun wc hG=>hdi wc) ?_
 refine runG ?_
 refine callEG (fun _ wc hG=>mCheck_e ws.length cap (by omega) p wc) ?_
 refine runG ?_
 refine st_cond _ rfl (fun hc=>absurd hc (by rw [hm,hez];rcases hs with rfl | rfl<;>simp [gv,wnt])) (fun hc=>?_)
 refine run ?_
 refine callB (fun wc hG=>mFrame_e ws cap hm f hf hc' ((Sees.old h').good hG)) ?_
 rintro u1 hn1 ⟨v,hv,rfl,hO,hle⟩
 refine ops_le (hv++[⟨D,#[.int .i64 0,.int .i64 0,.bool false,.bool false,.bool false,.bool false,.bool false,.int .i64 0,.int .i64 0],258⟩,⟨B,#[.slice p ws.length cap],24⟩]) (by (refine hpLe_cnt fun a=>?_;have:=HpLe.cnt hle a;simp only [cntB_app,cntB_cons,cntB_nil] at *;omega)) ?_
 obtain ⟨g,cg,cur,rfl,rfl,hrow⟩:=hO.row (n:=8) (by simp;omega) (by decide)
 have hix:=indexN_lt level page
 have hnth:nth cur.toList (indexN level page)=some (.int .u64 ((ws.getD (atN f level page) 0:Nat):Int)):=by
  have h1:=hrow.cut (i:=indexN level page) (c:=uV (ws.getD (atN f level page) 0)) (fun c hc=>by obtain ⟨x,_,rfl⟩:=List.mem_map.1 hc;rfl) (by
   rw [List.getElem?_map,List.getElem?_take,if_pos (by omega),List.getElem?_drop,List.getElem?_eq_getElem (by omega)]
   simp only [Option.map_some,atN]
   rw [List.getD_eq_getElem?_getD,List.getElem?_eq_getElem (by omega)]
   rfl)
  have h2:=cut_nth h1 (j:=0) rfl
  simpa using h2
 simp only [List.cons_append,List.nil_append]
 refine runC ?_
 have hw64:ws.getD (atN f level page) 0<18446744073709551616:=by
  rw [List.getD_eq_getElem?_getD]
  cases hq:ws[atN f level page]? with
  | none=>simp
  | some x=>exact hw x (List.mem_of_getElem? hq)
 refine callE (fun wc hG=>dOf_e stage hs level hl _ hw64 wc) ?_
 rw [show ofL stage level (ws.getD (atN f level page) 0)=dSt ws stage (atN f level page) level from rfl]
 refine run ?_
 exact finA1 (cs:=dsC (dSt ws stage (atN f level page) level)) rfl
theorem wFault_e (stage:Int) (page:Int) (kind level:Int) {w:World} {Wb:Nat} (hc1:w.cell? ⟨Wb,1,none⟩=some (.int .i64 stage)) (hc2:w.cell? ⟨Wb,2,none⟩=some (.int .i64 page)):Fn Tryz.prog 232 [.pointer (some ⟨Wb,0,none⟩),.int .i64 kind,.int .i64 level].toArray w [] (fun u _=>u=ftV ⟨kind,stage,level,false,page⟩):=by
 refine enter Tryz.func232 ?_
 refine run ?_
 intro R
 refine run ?_
 refine drawN 11 ?_
 refine runD ?_
 refine run ?_
 exact finA (cs:=#[.int .i64 kind,.int .i64 stage,.int .i64 level,.bool false,.int .i64 page]) rfl
theorem wHas_e (n cap:Nat) (hn:n<4611686018427387904) (q:Option Addr) (f:Int) {w:World} {Wb:Nat} (hc0:w.cell? ⟨Wb,0,none⟩=some (.slice q n cap)):Fn Tryz.prog 231 [.pointer (some ⟨Wb,0,none⟩),.int .i64 f].toArray w [] (fun u _=>u=.bool (decide (f<((n / 8:Nat):Int)))):=by
 refine enter Tryz.func231 ?_
 refine run ?_
 refine op1 (by rfl) (x_quoN rfl rfl n 8 (by rfl) (by rfl) (by decide) (by omega)) ?_
 refine run ?_
 exact fin1 rfl
theorem wLeaf_e (n cap:Nat) (hn:n<1000000) (q:Option Addr) (stage:Int) (page level:Nat) (hl:level<4) (hp:page≤4095) (d:DsD) (hmay:d.may stage level=true) (hk2:d.kind=2) {w:World} {Wb:Nat} (hc0:w.cell? ⟨Wb,0,none⟩=some (.slice q n cap)) (hc1:w.cell? ⟨Wb,1,none⟩=some (.int .i64 stage)) (hc2:w.cell? ⟨Wb,2,none⟩=some (.int .i64 (page:Int))):Fn Tryz.prog 233 [.pointer (some ⟨Wb,0,none⟩),dsV d,.int .i64 (level:Int)].toArray w [] (fun u _=>u=.tuple #[htV (endL n stage page level d []).h,ftV (endL n stage page level d []).f]):=by
 obtain ⟨hlf,hlf2⟩:=leaf_mid hmay hk2 hl page
 have hcv:=dbits_lt hl
 have hmod:=Nat.mod_lt page (show 0<coversN level by omega)
 refine enter Tryz.func233 ?_
 refine run ?_
 intro D H F
 refine run ?_
 refine callE (fun wc hG=>dCovers_e level hl wc) ?_
 refine run ?_
 refine drawAll ?_
 refine runD ?_
 refine opD (x_remN rfl rfl page (coversN level) rfl rfl (by omega)) ?_
 refine runD ?_
 refine run ?_
 have hmu:Wb ∉ ([]:List Nat):=List.not_mem_nil
 refine callE (fun wc hG=>wHas_e n cap (by omega) q _ (hG.cell hc0 hmu)) ?_
 refine run ?_
 have hdh:decide (d.frame + ((page % coversN level:Nat):Int)<((n / 8:Nat):Int))=hasF n (d.frame + ((page % coversN level:Nat):Int)):=by
  rw [hasF,show decide (0≤d.frame + ((page % coversN level:Nat):Int))=true from decide_eq_true (by omega),Bool.true_and]
 rw [endL,show decide (d.kind=0)=false from decide_eq_false (by omega),cond_false,← hdh]
 refine st_cond _ rfl (fun hc=>?_) (fun hc=>?_)
 ·rw [show decide (d.frame + ((page % coversN level:Nat):Int)<((n / 8:Nat):Int))=false by simpa using hc]
  refine run ?_
  refine callE (fun wc hG=>wFault_e stage page 1 level (hG.cell hc1 hmu) (hG.cell hc2 hmu)) ?_
  refine run ?_
  exact finAA2 (cs:=#[.int .i64 0,.int .i64 0,.bool false,.bool false,.bool false,.bool false,.bool false,.int .i64 0,.int .i64 0]) (cs2:=#[.int .i64 1,.int .i64 stage,.int .i64 level,.bool false,.int .i64 page]) rfl
 ·rw [show decide (d.frame + ((page % coversN level:Nat):Int)<((n / 8:Nat):Int))=true by simpa using hc]
  refine run ?_
  exact finAA2 (cs:=#[.int .i64 (d.frame + ((page % coversN level:Nat):Int)),.int .i64 0,.bool d.r,.bool d.w,.bool d.x,.bool d.af,.bool d.ng,.int .i64 d.soft,.int .i64 (level:Int)]) (cs2:=#[.int .i64 0,.int .i64 0,.int .i64 0,.bool false,.int .i64 0]) rfl
theorem endL_rd (n:Nat) (stage:Int) (page level:Nat) (d:DsD) (rd:List Int):endL n stage page level d rd=⟨(endL n stage page level d []).h,(endL n stage page level d []).f,rd⟩:=by
 unfold endL
 cases decide (d.kind=0)<;>cases hasF n (d.frame + ((page % coversN level:Nat):Int))<;>rfl
theorem wFrom_e (ws:List Nat) (hw:W64 ws) (cap:Nat) (hmm:memOk ws.length=true) (hcc:ws.length≤cap) {p:Option Addr} (stage:Int) (hs:stage=1∨stage=2) (frame:Int) (h0:0≤frame) (page:Nat) (hp:page≤4095) {w:World} {Wb:Nat}
  (hm:Sees w [Wb] (.slice p ws.length cap) 1 (ws.map uV)) (hN:HereN [⟨Wb,#[.slice p ws.length cap,.int .i64 stage,.int .i64 (page:Int),.slice none 0 0],297⟩] w):
  Fn Tryz.prog 224 [.pointer (some ⟨Wb,0,none⟩),.int .i64 frame].toArray w [Wb] (fun u hn=>∃ rv' hr',u=.tuple #[htV (walk5 ws stage frame page).h,ftV (walk5 ws stage frame page).f]∧Own 3 1 rv' hr' ((walk5 ws stage frame page).rd.map inV)∧HpLe (⟨Wb,#[.slice p ws.length cap,.int .i64 stage,.int .i64 (page:Int),rv'],297⟩::hr') hn):=by
 have hm':=hm
 refine enterM _ hN Tryz.func224 ?_
 refine run ?_
 intro H F
 refine run ?_
 refine loopS (σ:=Nat × Int × Value × Hp × List Int) (fun z=>[(9,.int .i64 (z.1:Int)),(1,.int .i64 z.2.1)]) (fun z=>⟨F,#[.int .i64 0,.int .i64 0,.int .i64 0,.bool false,.int .i64 0],43⟩::⟨H,#[.int .i64 0,.int .i64 0,.bool false,.bool false,.bool false,.bool false,.bool false,.int .i64 0,.int .i64 0],234⟩::⟨Wb,#[.slice p ws.length cap,.int .i64 stage,.int .i64 (page:Int),z.2.2.1],297⟩::z.2.2.2.1) (fun z=>z.1<4∧0≤z.2.1∧z.2.2.2.2.length=z.1∧wlk ws stage page (4 - z.1) z.1 z.2.1 z.2.2.2.2=walk5 ws stage frame page∧Own 3 1 z.2.2.1 z.2.2.2.1 (z.2.2.2.2.map inV)) (fun z=>4 - z.1) (0,frame,_,[],[]) ⟨Nat.zero_lt_succ _,h0,rfl,rfl,Own.nil _ _⟩ ?_
 rintro ⟨level,f,rv,hr,rd⟩ m hm ⟨hl,hf0,hrd,hwk,hO⟩
 dsimp only at hm hl hf0 hrd hwk hO ⊢
 generalize walk5 ws stage frame page=X at hwk ⊢
 have hmi:=memOk_iff hmm
 refine run ?_
 refine st_cond _ rfl (fun hc=>?_) (fun hc=>absurd hc (by simp;omega))
 refine run ?_
 refine callE (fun wc hG=>wHas_e ws.length cap (by omega) p _ (by rw [cell_of_block (hG.here ⟨Wb,#[.slice p ws.length cap,.int .i64 stage,.int .i64 (page:Int),rv],297⟩ (by simp))];rfl)) ?_
 refine run ?_
 rw [show 4 - level=(3 - level) + 1 by omega,wlk] at hwk
 have e5:decide (f<((ws.length / 8:Nat):Int))=hasF ws.length f:=by
  rw [hasF,show decide (0≤f)=true from decide_eq_true hf0,Bool.true_and]
 rw [e5]
 refine st_cond _ rfl (fun hc=>?_) (fun hc=>?_)
 ·have hh:hasF ws.length f=false:=by simpa using hc
  rw [hh,cond_false] at hwk
  rw [← hwk]
  refine run ?_
  refine callE (fun wc hG=>wFault_e stage page 1 level (by rw [cell_of_block (hG.here ⟨Wb,#[.slice p ws.length cap,.int .i64 stage,.int .i64 (page:Int),rv],297⟩ (by simp))];rfl) (by rw [cell_of_block (hG.here ⟨Wb,#[.slice p ws.length cap,.int .i64 stage,.int .i64 (page:Int),rv],297⟩ (by simp))];rfl)) ?_
  refine run ?_
  exact finAA2 (cs:=#[.int .i64 0,.int .i64 0,.bool false,.bool false,.bool false,.bool false,.bool false,.int .i64 0,.int .i64 0]) (cs2:=#[.int .i64 1,.int .i64 stage,.int .i64 level,.bool false,.int .i64 page]) ⟨rv,hr,rfl,hO,by (refine hpLe_cnt fun a=>?_;simp only [cntB_app,cntB_cons,cntB_nil]<;>omega)⟩
 have hh:hasF ws.length f=true:=by simpa using hc
 rw [hh,cond_true] at hwk
 refine run ?_
 intro T
 refine appendW (c:=inV f) (⟨T,#[.int .i64 f],3⟩::⟨F,#[.int .i64 0,.int .i64 0,.int .i64 0,.bool false,.int .i64 0],43⟩::⟨H,#[.int .i64 0,.int .i64 0,.bool false,.bool false,.bool false,.bool false,.bool false,.int .i64 0,.int .i64 0],234⟩::[⟨Wb,#[.slice p ws.length cap,.int .i64 stage,.int .i64 (page:Int),rv],297⟩]) hO (fun v' ha' hA'=>?_) (by simp;omega) (news_own (m:=1) mh rfl) (hperm:=by (refine perm_cnt fun a=>?_;simp only [cntB_app,cntB_cons,cntB_nil]<;>omega))
 rw [show rd.map inV++[inV f]=(rd++[f]).map inV by simp] at hA'
 obtain ⟨q4,c4,e4⟩:=hA'.opened
 rw [List.length_map] at e4
 subst e4
 refine ops_le (⟨F,#[.int .i64 0,.int .i64 0,.int .i64 0,.bool false,.int .i64 0],43⟩::⟨H,#[.int .i64 0,.int .i64 0,.bool false,.bool false,.bool false,.bool false,.bool false,.int .i64 0,.int .i64 0],234⟩::⟨Wb,#[.slice p ws.length cap,.int .i64 stage,.int .i64 (page:Int),rv],297⟩::ha') (by (refine hpLe_cnt fun a=>?_;simp only [cntB_app,cntB_cons,cntB_nil]<;>omega)) ?_
 refine run ?_
 refine drawEC 20 19 [0,1,2,3,4,5,6,7,8,9,10,11,12,13,14,15,16,17] [18] [19] (⟨Wb,#[.slice p ws.length cap,.int .i64 stage,.int .i64 (page:Int),.slice q4 (rd++[f]).length c4],297⟩::⟨F,#[.int .i64 0,.int .i64 0,.int .i64 0,.bool false,.int .i64 0],43⟩::⟨H,#[.int .i64 0,.int .i64 0,.bool false,.bool false,.bool false,.bool false,.bool false,.int .i64 0,.int .i64 0],234⟩::ha') ?_
 refine runZ ?_
 refine sCallA (fun wc hx hG=>wTable_e ws hw cap hmm hcc (hm'.good hG) stage hs level hl f hh page hp) ?_
 refine runZ ?_
 have hmay:=dSt_may ws stage (atN f level page) level
 generalize dSt ws stage (atN f level page) level=d at hwk hmay ⊢
 obtain ⟨hkk,hk0,hk1,hk2⟩:=may_kinds hmay
 refine eAlloc ?_
 refine eNil ?_
 rintro _ _ ⟨D,rfl,rfl⟩
 simp only [DN,List.cons_append,List.nil_append,List.append_nil]
 refine cStore (b:=D) (tb:=258) (cs:=#[.int .i64 0,.int .i64 0,.bool false,.bool false,.bool false,.bool false,.bool false,.int .i64 0,.int .i64 0]) (cs':=dsC d) (hp':=⟨Wb,#[.slice p ws.length cap,.int .i64 stage,.int .i64 (page:Int),.slice q4 (rd++[f]).length c4],297⟩::⟨F,#[.int .i64 0,.int .i64 0,.int .i64 0,.bool false,.int .i64 0],43⟩::⟨H,#[.int .i64 0,.int .i64 0,.bool false,.bool false,.bool false,.bool false,.bool false,.int .i64 0,.int .i64 0],234⟩::ha') ?_ (List.Perm.refl _)
 refine dc_nil ?_
 refine opsC ?_
 simp only [dsC]
 refine run ?_
 refine st_cond _ rfl (fun hc2=>?_) (fun hc2=>?_)
 ·have e0:d.kind=0:=of_decide_eq_true hc2
  rw [show decide (d.kind=1)=false from decide_eq_false (by omega),cond_false,endL,hc2,cond_true] at hwk
  rw [← hwk]
  refine run ?_
  refine callE (fun wc hG=>wFault_e stage page 2 level (by rw [cell_of_block (hG.here ⟨Wb,#[.slice p ws.length cap,.int .i64 stage,.int .i64 (page:Int),.slice q4 (rd++[f]).length c4],297⟩ (by simp))];rfl) (by rw [cell_of_block (hG.here ⟨Wb,#[.slice p ws.length cap,.int .i64 stage,.int .i64 (page:Int),.slice q4 (rd++[f]).length c4],297⟩ (by simp))];rfl)) ?_
  refine run ?_
  exact finAA2 (cs:=#[.int .i64 0,.int .i64 0,.bool false,.bool false,.bool false,.bool false,.bool false,.int .i64 0,.int .i64 0]) (cs2:=#[.int .i64 2,.int .i64 stage,.int .i64 level,.bool false,.int .i64 page]) ⟨_,ha',rfl,hA',by (refine hpLe_cnt fun a=>?_;simp only [cntB_app,cntB_cons,cntB_nil]<;>omega)⟩
 refine run ?_
 refine st_cond _ rfl (fun hc3=>?_) (fun hc3=>?_)
 ·have e2:d.kind=2:=of_decide_eq_true hc3
  rw [show decide (d.kind=1)=false from decide_eq_false (by omega),cond_false,endL_rd] at hwk
  rw [← hwk]
  refine run ?_
  refine callE (fun wc hG=>wLeaf_e ws.length cap (by omega) p stage page level hl hp d hmay e2 (by rw [cell_of_block (hG.here ⟨Wb,#[.slice p ws.length cap,.int .i64 stage,.int .i64 (page:Int),.slice q4 (rd++[f]).length c4],297⟩ (by simp))];rfl) (by rw [cell_of_block (hG.here ⟨Wb,#[.slice p ws.length cap,.int .i64 stage,.int .i64 (page:Int),.slice q4 (rd++[f]).length c4],297⟩ (by simp))];rfl) (by rw [cell_of_block (hG.here ⟨Wb,#[.slice p ws.length cap,.int .i64 stage,.int .i64 (page:Int),.slice q4 (rd++[f]).length c4],297⟩ (by simp))];rfl)) ?_
  generalize endL ws.length stage page level d []=Z
  refine run ?_
  exact finAA2 (cs:=#[.int .i64 Z.h.frame,.int .i64 Z.h.mid,.bool Z.h.r,.bool Z.h.w,.bool Z.h.x,.bool Z.h.af,.bool Z.h.ng,.int .i64 Z.h.soft,.int .i64 Z.h.level]) (cs2:=#[.int .i64 Z.f.kind,.int .i64 Z.f.stage,.int .i64 Z.f.level,.bool Z.f.walk,.int .i64 Z.f.page]) ⟨_,ha',rfl,hA',by (refine hpLe_cnt fun a=>?_;simp only [cntB_app,cntB_cons,cntB_nil]<;>omega)⟩
 refine run ?_
 have e1:d.kind=1:=by
  have h2:=of_decide_eq_false hc2
  have h3:=of_decide_eq_false hc3
  omega
 obtain ⟨k1,k2,k3,k4⟩:=hk1 e1
 rw [show decide (d.kind=1)=true from decide_eq_true e1,cond_true] at hwk
 refine nextS (level + 1,d.frame,.slice q4 (rd++[f]).length c4,ha',rd++[f]) ⟨by dsimp only;omega,k2,by simp [hrd],by rw [← hwk,show 4 - (level + 1)=3 - level by omega],hA'⟩ (hm:=by dsimp only;omega) (h2:=by (refine hpLe_cnt fun a=>?_;simp only [cntB_app,cntB_cons,cntB_nil]<;>omega))
end Go.Proofs.YtndklbjnofdgeaaGreat
namespace Go.Proofs.YtndklbjnofdgeaaGreat
open Go.RowKit
set_option linter.unusedVariables false
set_option linter.unusedSimpArgs false
set_option maxRecDepth 20000
attribute [local irreducible] Hy St Ops DH DHF DE1 DE2 DE3 DS DCh DWF
theorem finAATT {fn:Func} {R:Value→Hp→Prop} {l:Fm} {hp:Hp} {a t b a2 t2 b2 s1 s2:Nat} {cs cs2:Array Value} {tb tb2:TypeId} {v1 v2:Value} (h:R (.tuple #[.agg cs,.agg cs2,v1,v2]) hp) (hr:fn.results=#[.cell a t,.cell a2 t2,.tmp s1,.tmp s2]:=by rfl) (hv:look l a=some (.pointer (some ⟨b,0,none⟩)):=by rfl) (hw:look l a2=some (.pointer (some ⟨b2,0,none⟩)):=by rfl) (h1:look l s1=some v1:=by rfl) (h2:look l s2=some v2:=by rfl) (hag:mem Tb.ag t=true:=by rfl) (hm:(⟨b,cs,tb⟩:Blk)∈hp:=by (first | (with_reducible apply mh) | (focus ((repeat (first | (with_reducible apply mh) | (with_reducible apply mt) | (with_reducible apply List.mem_append_right)));done)))) (hz:lk Tb.sz t=some cs.size:=by rfl) (hag2:mem Tb.ag t2=true:=by rfl) (hm2:(⟨b2,cs2,tb2⟩:Blk)∈hp:=by (first | (with_reducible apply mh) | (focus ((repeat (first | (with_reducible apply mh) | (with_reducible apply mt) | (with_reducible apply List.mem_append_right)));done)))) (hz2:lk Tb.sz t2=some cs2.size:=by rfl):Fin Tryz.prog fn R .ret l hp:=
 ⟨.inl rfl,[.agg cs,.agg cs2,v1,v2],by rw [hr];exact ⟨⟨⟨b,cs,tb⟩,hm,hv,.inr ⟨tb_ok.gag hag,tb_ok.gsz hz,rfl⟩⟩,⟨⟨b2,cs2,tb2⟩,hm2,hw,.inr ⟨tb_ok.gag hag2,tb_ok.gsz hz2,rfl⟩⟩,h1,h2,trivial⟩,h⟩
theorem wWalk_e (ws:List Nat) (hw:W64 ws) (cap:Nat) (hmm:memOk ws.length=true) (hcc:ws.length≤cap) {p:Option Addr} {w:World} (h:SlAt w (.slice p ws.length cap) 1 (ws.map uV)) (stage:Int) (hs:stage=1∨stage=2) (frame:Int) (h0:0≤frame) (h1:frame≤4095) (page:Nat) (hp:page≤4095):
  Fn Tryz.prog 211 [.agg #[.slice p ws.length cap],.int .i64 stage,.int .i64 frame,.int .i64 (page:Int)].toArray w [] (fun u hn=>∃ rv' hr',u=.tuple #[htV (walk5 ws stage frame page).h,ftV (walk5 ws stage frame page).f,rv',.int .i64 0]∧Own 3 1 rv' hr' ((walk5 ws stage frame page).rd.map inV)∧HpLe hr' hn):=by
 have h':=h
 have hmi:=memOk_iff hmm
 refine enter Tryz.func211 ?_
 refine run ?_
 intro B H F
 refine runG ?_
 refine callE (fun wc hG=>mCheck_e ws.length cap (by omega) p wc) ?_
 rw [hmm]
 refine runG ?_
 refine st_cond _ rfl (fun hc=>absurd hc (by rcases hs with rfl | rfl<;>simp<;>omega)) (fun hc=>?_)
 refine run ?_
 intro Wb
 refine run ?_
 refine callM [⟨Wb,#[.slice p ws.length cap,.int .i64 stage,.int .i64 (page:Int),.slice none 0 0],297⟩] [⟨F,#[.int .i64 0,.int .i64 0,.int .i64 0,.bool false,.int .i64 0],43⟩,⟨H,#[.int .i64 0,.int .i64 0,.bool false,.bool false,.bool false,.bool false,.bool false,.int .i64 0,.int .i64 0],234⟩,⟨B,#[.slice p ws.length cap],24⟩] (fun wc hG=>wFrom_e ws hw cap hmm hcc stage hs frame h0 page hp ((Sees.old h').into hG) hG.hereN) ?_ (by (refine perm_cnt fun a=>?_;simp only [cntB_app,cntB_cons,cntB_nil]<;>omega))
 rintro u1 hn1 ⟨rv,hr,rfl,hO,hle⟩
 generalize walk5 ws stage frame page=X at hO ⊢
 obtain ⟨q4,c4,e4⟩:=hO.opened
 rw [List.length_map] at e4
 subst e4
 refine ops_le (⟨Wb,#[.slice p ws.length cap,.int .i64 stage,.int .i64 (page:Int),.slice q4 X.rd.length c4],297⟩::⟨F,#[.int .i64 0,.int .i64 0,.int .i64 0,.bool false,.int .i64 0],43⟩::⟨H,#[.int .i64 0,.int .i64 0,.bool false,.bool false,.bool false,.bool false,.bool false,.int .i64 0,.int .i64 0],234⟩::hr) (by (refine hpLe_cnt fun a=>?_;have:=HpLe.cnt hle a;simp only [cntB_app,cntB_cons,cntB_nil] at *;omega)) ?_
 refine run ?_
 refine drawC 8 6 [0,1,2,3,4,5] [6,7] (⟨F,#[.int .i64 X.f.kind,.int .i64 X.f.stage,.int .i64 X.f.level,.bool X.f.walk,.int .i64 X.f.page],43⟩::⟨H,#[.int .i64 X.h.frame,.int .i64 X.h.mid,.bool X.h.r,.bool X.h.w,.bool X.h.x,.bool X.h.af,.bool X.h.ng,.int .i64 X.h.soft,.int .i64 X.h.level],234⟩::⟨Wb,#[.slice p ws.length cap,.int .i64 stage,.int .i64 (page:Int),.slice q4 X.rd.length c4],297⟩::hr) ?_
 refine runZ ?_
 refine cSame (b:=H) (tb:=234) (cs:=#[.int .i64 X.h.frame,.int .i64 X.h.mid,.bool X.h.r,.bool X.h.w,.bool X.h.x,.bool X.h.af,.bool X.h.ng,.int .i64 X.h.soft,.int .i64 X.h.level]) ?_
 refine cSame (b:=F) (tb:=43) (cs:=#[.int .i64 X.f.kind,.int .i64 X.f.stage,.int .i64 X.f.level,.bool X.f.walk,.int .i64 X.f.page]) ?_
 refine dc_nil ?_
 refine opsC ?_
 refine run ?_
 exact finAATT (cs:=#[.int .i64 X.h.frame,.int .i64 X.h.mid,.bool X.h.r,.bool X.h.w,.bool X.h.x,.bool X.h.af,.bool X.h.ng,.int .i64 X.h.soft,.int .i64 X.h.level]) (cs2:=#[.int .i64 X.f.kind,.int .i64 X.f.stage,.int .i64 X.f.level,.bool X.f.walk,.int .i64 X.f.page]) ⟨_,hr,rfl,hO,by (refine hpLe_cnt fun a=>?_;simp only [cntB_app,cntB_cons,cntB_nil]<;>omega)⟩
theorem nPaged_e (xs:List Int) {w:World} {v:Value} (h:SlAt w v 1 (xs.map inV)):Fn Tryz.prog 223 [v].toArray w [] (fun u _=>u=.bool (xs.all fun x=>PtD.btw x 0 4095)):=by
 obtain ⟨q,cap,rfl,hne,hle⟩:=h.opened
 refine enter Tryz.func223 ?_
 refine run ?_
 refine loopS (σ:=Nat) (fun k=>[(7,.int .i64 (k:Int))]) (fun _=>[]) (fun k=>k≤xs.length∧((xs.take k).all fun x=>PtD.btw x 0 4095)=true) (fun k=>xs.length - k) 0 ⟨by omega,rfl⟩ ?_
 rintro k m hm ⟨hk,hT⟩
 refine run ?_
 refine st_cond _ rfl (fun hc=>?_) (fun hc=>?_)
 ·have hlt:k<xs.length:=by simp at hc;omega
  obtain ⟨b,o,rfl⟩:=hne (by intro e;subst e;simp at hlt)
  have hr:=rangeAt_cell0 (h.row hlt)
  rw [Nat.mul_one] at hr
  refine runG ?_
  refine st_cond _ rfl (fun hc2=>?_) (fun hc2=>?_)
  ·refine run ?_
   refine fin1 ?_
   rw [show (xs.all fun x=>PtD.btw x 0 4095)=false by
    rw [List.all_eq_false]
    exact ⟨_,getD_mem hlt,by simp [PtD.btw] at hc2 ⊢;omega⟩]
  ·refine run ?_
   refine nextS (k + 1) ⟨hlt,?_⟩
   rw [take_next hlt,List.all_append,Bool.and_eq_true]
   exact ⟨hT,by simp [PtD.btw] at hc2 ⊢;omega⟩
 ·have:k=xs.length:=by simp at hc;omega
  subst this
  rw [List.take_length] at hT
  refine run ?_
  refine fin1 ?_
  rw [hT]
theorem nAsked_e (n cap:Nat) (hn:memOk n=true) (p:Option Addr) (acc:Int) (ha:PtD.btw acc 0 2=true) (xs:List Int) (hx:(xs.all fun x=>PtD.btw x 0 4095)=true) {w:World} {v:Value} (h:SlAt w v 1 (xs.map inV)):Fn Tryz.prog 209 [.agg #[.slice p n cap],.int .i64 acc,v].toArray w [] (fun u _=>u=.bool true):=by
 have h':=h
 obtain ⟨qv,cv,rfl,_,_⟩:=h.opened
 have hmi:=memOk_iff hn
 obtain ⟨ez,hez⟩:∃ z:Int,z=0:=⟨0,rfl⟩
 have hpm:∀ wc,Fn Tryz.prog 162 [.agg #[.bool false,.bool false,.bool false,.bool false,.bool false,.int .i64 0],.int .i64 acc].toArray wc [] (fun u _=>u=.tuple #[.bool (mayA false false false acc),.int .i64 ez]):=fun wc=>by
  have:=pMay_e false false false false false 0 acc wc
  rw [ha] at this
  rw [hez];exact this
 refine enter Tryz.func209 ?_
 refine run ?_
 intro B
 refine run ?_
 refine callE (fun wc hG=>hpm wc) ?_
 refine runG ?_
 refine callEG (fun _ wc hG=>mCheck_e n cap (by omega) p wc) ?_
 refine runG ?_
 refine callEG (fun _ wc hG=>nPaged_e xs ((Sees.old h').good hG)) ?_
 refine runG ?_
 refine fin1 ?_
 rw [hn,hx,hez]
 rfl
theorem nMid_e (ws:List Nat) (hw:W64 ws) (cap:Nat) (hmm:memOk ws.length=true) (hcc:ws.length≤cap) {p:Option Addr} {w:World} (h:SlAt w (.slice p ws.length cap) 1 (ws.map uV)) (frame tag:Int) (h0:0≤frame) (h1:frame≤4095) (mid:Nat) (hp:mid≤4095) (acc:Int) (ha:PtD.btw acc 0 2=true):
  Fn Tryz.prog 194 [.agg #[.slice p ws.length cap],.agg #[.bool true,.int .i64 frame,.int .i64 tag],.int .i64 (mid:Int),.int .i64 acc].toArray w [] (fun u hn=>∃ rv' hr',u=.tuple #[htV (midL ws true frame mid acc).h,ftV (midL ws true frame mid acc).f,rv',.int .i64 0]∧Own 3 1 rv' hr' ((midL ws true frame mid acc).rd.map inV)∧HpLe hr' hn):=by
 have h':=h
 have hmi:=memOk_iff hmm
 refine enter Tryz.func194 ?_
 refine run ?_
 intro B C H F X
 refine callE (fun wc hG=>nAsked_e ws.length cap hmm p acc ha [frame,mid] (by simp only [List.all_cons,List.all_nil,Bool.and_true,Bool.and_eq_true];exact ⟨btwT h0 h1,btwT (by omega) (by omega)⟩) (lie_rows (xs:=[inV frame,inV mid]) (hG.here ⟨X,#[.int .i64 frame,.int .i64 (mid:Int)],3⟩ mh) (by simp [inV]) (by simp))) ?_
 refine runC ?_
 refine callB (fun wc hG=>wWalk_e ws hw cap hmm hcc ((Sees.old h').good hG) 2 (.inr rfl) frame h0 h1 mid hp) ?_
 rintro u1 hn1 ⟨rv,hr,rfl,hO,hle⟩
 rw [midL,Bool.not_true,cond_false]
 unfold midE midG
 generalize walk5 ws 2 frame mid=L at hO ⊢
 obtain ⟨q4,c4,e4⟩:=hO.opened
 rw [List.length_map] at e4
 subst e4
 refine ops_le (⟨F,#[.int .i64 0,.int .i64 0,.int .i64 0,.bool false,.int .i64 0],43⟩::⟨H,#[.int .i64 0,.int .i64 0,.bool false,.bool false,.bool false,.bool false,.bool false,.int .i64 0,.int .i64 0],234⟩::⟨C,#[.bool true,.int .i64 frame,.int .i64 tag],33⟩::⟨B,#[.slice p ws.length cap],24⟩::hr) (by (refine hpLe_cnt fun a=>?_;have:=HpLe.cnt hle a;simp only [cntB_app,cntB_cons,cntB_nil] at *;omega)) ?_
 refine run ?_
 refine st_cutD (σ:=FtD) (fun _=>[]) (fun z=>⟨F,#[.int .i64 z.kind,.int .i64 z.stage,.int .i64 z.level,.bool z.walk,.int .i64 z.page],43⟩::⟨H,#[.int .i64 L.h.frame,.int .i64 L.h.mid,.bool L.h.r,.bool L.h.w,.bool L.h.x,.bool L.h.af,.bool L.h.ng,.int .i64 L.h.soft,.int .i64 L.h.level],234⟩::⟨C,#[.bool true,.int .i64 frame,.int .i64 tag],33⟩::⟨B,#[.slice p ws.length cap],24⟩::hr) (fun z=>z=bif decide (L.f.kind=0) then flagL L.h.r L.h.w L.h.x L.h.af acc 2 L.h.level mid else L.f) ?_ ?_
 ·refine st_cond _ rfl (fun hc=>?_) (fun hc=>?_)
  ·refine run ?_
   refine callE (fun wc hG=>pFlag_e L.h.r L.h.w L.h.x L.h.af L.h.ng L.h.soft acc 2 L.h.level mid ha wc) ?_
   refine run ?_
   exact meetS _ (by rw [hc,cond_true])
  ·refine run ?_
   exact meetS _ (by rw [hc,cond_false])
 rintro G hG
 rw [← hG]
 clear hG
 refine run ?_
 refine st_cond _ rfl (fun hc=>?_) (fun hc=>?_)
 ·rw [hc,cond_true]
  refine run ?_
  refine drawC 5 3 [0,1,2] [3,4] (⟨F,#[.int .i64 G.kind,.int .i64 G.stage,.int .i64 G.level,.bool G.walk,.int .i64 G.page],43⟩::⟨C,#[.bool true,.int .i64 frame,.int .i64 tag],33⟩::⟨B,#[.slice p ws.length cap],24⟩::hr) ?_
  refine runZ ?_
  refine cStore (b:=H) (tb:=234) (cs:=#[.int .i64 L.h.frame,.int .i64 L.h.mid,.bool L.h.r,.bool L.h.w,.bool L.h.x,.bool L.h.af,.bool L.h.ng,.int .i64 L.h.soft,.int .i64 L.h.level]) (cs':=#[.int .i64 0,.int .i64 0,.bool false,.bool false,.bool false,.bool false,.bool false,.int .i64 0,.int .i64 0]) (hp':=⟨F,#[.int .i64 G.kind,.int .i64 G.stage,.int .i64 G.level,.bool G.walk,.int .i64 G.page],43⟩::⟨C,#[.bool true,.int .i64 frame,.int .i64 tag],33⟩::⟨B,#[.slice p ws.length cap],24⟩::hr) ?_ (by (refine perm_cnt fun a=>?_;simp only [cntB_app,cntB_cons,cntB_nil]<;>omega))
  refine cSame (b:=F) (tb:=43) (cs:=#[.int .i64 G.kind,.int .i64 G.stage,.int .i64 G.level,.bool G.walk,.int .i64 G.page]) ?_
  refine dc_nil ?_
  refine opsC ?_
  refine run ?_
  exact finAATT (cs:=#[.int .i64 0,.int .i64 0,.bool false,.bool false,.bool false,.bool false,.bool false,.int .i64 0,.int .i64 0]) (cs2:=#[.int .i64 G.kind,.int .i64 G.stage,.int .i64 G.level,.bool G.walk,.int .i64 G.page]) ⟨_,hr,rfl,hO,by (refine hpLe_cnt fun a=>?_;simp only [cntB_app,cntB_cons,cntB_nil]<;>omega)⟩
 ·rw [hc,cond_false]
  refine run ?_
  refine drawC 5 3 [0,1,2] [3,4] (⟨H,#[.int .i64 L.h.frame,.int .i64 (mid:Int),.bool L.h.r,.bool L.h.w,.bool L.h.x,.bool L.h.af,.bool L.h.ng,.int .i64 L.h.soft,.int .i64 L.h.level],234⟩::⟨F,#[.int .i64 G.kind,.int .i64 G.stage,.int .i64 G.level,.bool G.walk,.int .i64 G.page],43⟩::⟨C,#[.bool true,.int .i64 frame,.int .i64 tag],33⟩::⟨B,#[.slice p ws.length cap],24⟩::hr) ?_
  refine runZ ?_
  refine cSame (b:=H) (tb:=234) (cs:=#[.int .i64 L.h.frame,.int .i64 (mid:Int),.bool L.h.r,.bool L.h.w,.bool L.h.x,.bool L.h.af,.bool L.h.ng,.int .i64 L.h.soft,.int .i64 L.h.level]) ?_
  refine cSame (b:=F) (tb:=43) (cs:=#[.int .i64 G.kind,.int .i64 G.stage,.int .i64 G.level,.bool G.walk,.int .i64 G.page]) ?_
  refine dc_nil ?_
  refine opsC ?_
  refine run ?_
  exact finAATT (cs:=#[.int .i64 L.h.frame,.int .i64 (mid:Int),.bool L.h.r,.bool L.h.w,.bool L.h.x,.bool L.h.af,.bool L.h.ng,.int .i64 L.h.soft,.int .i64 L.h.level]) (cs2:=#[.int .i64 G.kind,.int .i64 G.stage,.int .i64 G.level,.bool G.walk,.int .i64 G.page]) ⟨_,hr,rfl,hO,by (refine hpLe_cnt fun a=>?_;simp only [cntB_app,cntB_cons,cntB_nil]<;>omega)⟩
end Go.Proofs.YtndklbjnofdgeaaGreat
namespace Go.Proofs.YtndklbjnofdgeaaGreat
open Go.RowKit
set_option linter.unusedVariables false
set_option linter.unusedSimpArgs false
set_option maxRecDepth 20000
attribute [local irreducible] Hy St Ops DH DHF DE1 DE2 DE3 DS DCh DWF
def EnD.pg (e:EnD) (P:Nat):Nat:=bif decide (e.kind=3) then cutN (e.level.toNat - 1) P else P
def pOf (K V A:Int) (P:Nat) (e:EnD):Bool:=decide (e.kind=K) && decide (e.vmid=V) && (e.all || decide (e.asid=A)) && decide (e.page=((e.pg P:Nat):Int))
def pFnd (K V A:Int) (P:Nat) (acc:Int) (e:EnD):Bool:=pOf K V A P e && mayA e.r e.w e.x acc
theorem tOf_e (e:EnD) (he:e.may=true) (K V A:Int) (P:Nat) (hP:P≤4095) (w:World):Fn Tryz.prog 213 [.agg (enV e).toArray,.int .i64 K,.int .i64 V,.int .i64 A,.int .i64 (P:Int)].toArray w [] (fun u _=>u=.bool (pOf K V A P e)):=by
 refine enter Tryz.func213 ?_
 refine run ?_
 intro B
 refine run ?_
 refine st_cutD (σ:=Nat) (fun z=>[(4,.int .i64 (z:Int))]) (fun _=>[⟨B,(enV e).toArray,156⟩]) (fun z=>z=e.pg P) ?_ ?_
 ·refine st_cond _ rfl (fun hc=>?_) (fun hc=>?_)
  ·have hk3:e.kind=3:=of_decide_eq_true hc
   obtain ⟨hl1,hl3⟩:=may_lv he hk3
   refine run ?_
   have hb:=fun wc=>tBase_e e.level.toNat (by omega) (by omega) P hP wc
   rw [show ((e.level.toNat:Nat):Int)=e.level by omega] at hb
   refine callE (fun wc hG=>hb wc) ?_
   refine run ?_
   exact meetS (cutN (e.level.toNat - 1) P) (by unfold EnD.pg;rw [hc,cond_true])
  ·refine run ?_
   exact meetS P (by unfold EnD.pg;rw [hc,cond_false])
 rintro z hz
 subst hz
 refine runG ?_
 refine fin1 ?_
 unfold pOf
 rfl
theorem tLets_e (e:EnD) (acc:Int) (w:World):Fn Tryz.prog 214 [.agg (enV e).toArray,.int .i64 acc].toArray w [] (fun u _=>u=.bool (mayA e.r e.w e.x acc)):=by
 refine enter Tryz.func214 ?_
 refine run ?_
 intro B
 refine callE (fun wc hG=>pMay_e e.r e.w e.x e.af e.ng e.soft acc wc) ?_
 refine run ?_
 exact fin1 rfl
theorem tFound_e {w:World} (es:List EnD) (ds:List IvD) (v u:Value) (h:SlAt w v 14 (es.map enV)) (hd:SlAt w u 4 (ds.map ivV)) (hcap:∃ q c,v=.slice q es.length c∧es.length≤c) (hok:tlbOk es ds=true) (K V A:Int) (P:Nat) (acc:Int) (hV:PtD.btw V 0 15=true) (hA:PtD.btw A 0 15=true) (hP:P≤4095) (ha:PtD.btw acc 0 2=true):
  Fn Tryz.prog 195 [.agg #[v,u],.int .i64 K,.int .i64 V,.int .i64 A,.int .i64 (P:Int),.int .i64 acc].toArray w [] (fun r _=>r=bif decide (0≤idxI (pFnd K V A P acc) es) then .tuple #[.agg (enV (es.getD (idxI (pFnd K V A P acc) es).toNat default)).toArray,.int .i64 0] else .tuple #[.agg (enV default).toArray,.int .i64 3]):=by
 have h':=h
 have hd':=hd
 have hcap':=hcap
 obtain ⟨q,cap,rfl,hne,hle⟩:=h.opened
 obtain ⟨q2,cap2,rfl,hne2,hle2⟩:=hd.opened
 have hem:=tlb_may hok
 obtain ⟨ez,hez⟩:∃ z:Int,z=0:=⟨0,rfl⟩
 have hpm:∀ wc,Fn Tryz.prog 162 [.agg #[.bool false,.bool false,.bool false,.bool false,.bool false,.int .i64 0],.int .i64 acc].toArray wc [] (fun u _=>u=.tuple #[.bool (mayA false false false acc),.int .i64 ez]):=fun wc=>by
  have:=pMay_e false false false false false 0 acc wc
  rw [ha] at this
  rw [hez];exact this
 refine enter Tryz.func195 ?_
 refine run ?_
 intro B R
 refine run ?_
 refine callE (fun wc hG=>hpm wc) ?_
 refine run ?_
 refine callE (fun wc hG=>tCheck_e es ds _ _ ((Sees.old h').good hG) ((Sees.old hd').good hG) hcap') ?_
 refine runG ?_
 have hg0:wnt (!decide ((bif tlbOk es ds then (0:Int) else 1)=0) || !decide (ez=0)) false=true:=by rw [hok,hez];rfl
 simp only [hg0,gv_true]
 refine opsGT ?_ hg0
 refine runG ?_
 intro Z
 refine callEG (fun hg wc hG=>tWithin_e 15 [V,A] (lie_rows (xs:=[inV V,inV A]) (hG.here ⟨Z,#[.int .i64 V,.int .i64 A],3⟩ mh) (by simp [inV]) (by simp))) ?_
 refine runG ?_
 have hVA:([V,A].all fun x=>PtD.btw x 0 15)=true:=by simp only [List.all_cons,List.all_nil,Bool.and_true,hV,hA]
 have hg1:wnt (!decide ((bif tlbOk es ds then (0:Int) else 1)=0) || !decide (ez=0) || ![V,A].all fun x=>PtD.btw x 0 15) false=true:=by rw [hok,hez,hVA];rfl
 simp only [hg1,gv_true]
 refine opsGT ?_ hg1
 refine runG ?_
 intro Z2
 refine callEG (fun hg wc hG=>tWithin_e 4095 [(P:Int)] (lie_rows (xs:=[inV (P:Int)]) (hG.here ⟨Z2,#[.int .i64 (P:Int)],3⟩ mh) (by simp [inV]) (by simp))) ?_
 refine runG ?_
 have hPP:([(P:Int)].all fun x=>PtD.btw x 0 4095)=true:=by simp only [List.all_cons,List.all_nil,Bool.and_true];exact btwT (by omega) (by omega)
 refine st_cond _ rfl (fun hc=>absurd hc (by rw [hok,hez,hVA,hPP];simp)) (fun hc=>?_)
 refine run ?_
 refine loopS (σ:=Nat) (fun k=>[(49,.int .i64 (k:Int))]) (fun _=>[⟨R,(enV default).toArray,114⟩]) (fun k=>k≤es.length∧∀ j,j<k→pFnd K V A P acc (es.getD j default)=false) (fun k=>es.length - k) 0 ⟨by omega,fun j h=>absurd h (by omega)⟩ ?_
 rintro k m hm ⟨hk,hno⟩
 refine run ?_
 refine st_cond _ rfl (fun hc=>?_) (fun hc=>?_)
 ·have hlt:k<es.length:=by simp at hc;omega
  obtain ⟨b,o,rfl⟩:=hne (by intro e;subst e;simp at hlt)
  have hr:=h.row hlt
  have hemk:=hem.1 _ (getD_mem hlt)
  refine run ?_
  intro E
  refine run ?_
  intro X
  refine run ?_
  refine callE (fun wc hG=>tOf_e (es.getD k default) hemk K V A P hP wc) ?_
  refine runG ?_
  refine callEG (fun _ wc hG=>tLets_e (es.getD k default) acc wc) ?_
  refine runG ?_
  refine st_cond _ rfl (fun hc2=>?_) (fun hc2=>?_)
  ·rw [idxI_at (k:=k) hlt hc2 hno]
   rw [show decide (0≤(k:Int))=true from decide_eq_true (by omega),cond_true,Int.toNat_natCast]
   refine run ?_
   exact finA1 (cs:=(enV (es.getD k default)).toArray) rfl
  ·refine run ?_
   refine nextS (k + 1) ⟨hlt,fun j hj=>?_⟩
   rcases Nat.lt_or_ge j k with h1 | h1
   ·exact hno j h1
   ·obtain rfl:j=k:=by omega
    exact hc2
 ·have:k=es.length:=by simp at hc;omega
  subst this
  rw [show idxI (pFnd K V A P acc) es=-1 from idxI_none hno]
  refine run ?_
  exact finA1 (cs:=#[.int .i64 0,.int .i64 0,.int .i64 0,.bool false,.int .i64 0,.int .i64 0,.int .i64 0,.int .i64 0,.bool false,.bool false,.bool false,.bool false,.bool false,.int .i64 0]) rfl
end Go.Proofs.YtndklbjnofdgeaaGreat
namespace Go.Proofs.YtndklbjnofdgeaaGreat
open Go.RowKit
set_option linter.unusedVariables false
set_option linter.unusedSimpArgs false
set_option maxRecDepth 20000
attribute [local irreducible] Hy St Ops DH DHF DE1 DE2 DE3 DS DCh DWF
theorem idxI_same {α:Type} [Inhabited α] {p q:α→Bool} {l:List α} (h:∀ x∈l,p x=q x):idxI p l=idxI q l:=by
 cases ha:l.any p with
 | false=>
  rw [List.any_eq_false] at ha
  rw [idxI_none fun j hj=>by simpa using ha _ (getD_mem hj),idxI_none fun j hj=>by rw [← h _ (getD_mem hj)];simpa using ha _ (getD_mem hj)]
 | true=>
  obtain ⟨x,hx,hp⟩:=List.any_eq_true.1 ha
  obtain ⟨j,hj,rfl⟩:=List.getElem_of_mem hx
  have hjp:p (l.getD j default)=true:=by rw [List.getD_eq_getElem?_getD,List.getElem?_eq_getElem hj];exact hp
  obtain ⟨j0,h0,h2,h3⟩:=idx_least p l j hjp
  have hj0:j0<l.length:=by omega
  rw [idxI_at (k:=j0) hj0 h2 h3,idxI_at (k:=j0) hj0 (by rw [← h _ (getD_mem hj0)];exact h2) (fun i hi=>by rw [← h _ (getD_mem (by omega))];exact h3 i hi)]
theorem fnd_whole (V A:Int) (P:Nat) (acc:Int) (e:EnD):pFnd 1 V A P acc e=pWhole V A P acc e:=by
 unfold pFnd pOf pWhole EnD.of_ EnD.lets EnD.pg
 by_cases h:e.kind=1
 ·simp [h,Bool.and_assoc]
 ·simp [h]
theorem fnd_mid (V:Int) (P:Nat) (acc:Int) (e:EnD) (he:e.may=true):pFnd 2 V 0 P acc e=pMid V P acc e:=by
 unfold pFnd pOf pMid EnD.lets EnD.pg
 by_cases h:e.kind=2
 ·have hall:e.all=true:=by
   simp only [EnD.may,h,decide_true,show decide ((2:Int)=1)=false from rfl,cond_true,cond_false,Bool.and_eq_true,Bool.not_eq_true'] at he
   exact he.2.1.1.1.2
  simp [h,hall,Bool.and_assoc]
 ·simp [h]
theorem pOf_walk (V A:Int) (P:Nat) (e:EnD):pOf 3 V A P e=pWlk V A P e:=by
 unfold pOf pWlk EnD.of_ EnD.pg
 by_cases h:e.kind=3
 ·simp [h,Bool.and_assoc]
 ·simp [h]
def bstE (es:List EnD) (q:EnD→Bool) (k:Nat):EnD:=bif decide (0≤bestI es q k) then es.getD (bestI es q k).toNat default else default
theorem pwlk_kind {V A:Int} {P:Nat} {e:EnD} (h:pWlk V A P e=true):e.kind=3:=by
 simp only [pWlk,Bool.and_eq_true,decide_eq_true_eq] at h
 exact h.1.1
theorem bst_lv {es:List EnD} {q:EnD→Bool} {k:Nat} (hm:∀ x∈es,x.may=true) (hq:∀ x,q x=true→x.kind=3) (hk:k≤es.length):(!decide ((bstE es q k).level=0))=decide (0≤bestI es q k):=by
 unfold bstE
 cases hc:decide (0≤bestI es q k) with
 | false=>rfl
 | true=>
  rw [cond_true]
  have h0:=of_decide_eq_true hc
  have h1:=bestI_at (es:=es) (q:=q) k h0
  have h2:=(bestI_lt (es:=es) (q:=q) k).2
  have h3:=may_lv (hm _ (getD_mem (l:=es) (k:=(bestI es q k).toNat) (by omega))) (hq _ h1)
  rw [decide_eq_false (by omega)];rfl
theorem bst_step {es:List EnD} {q:EnD→Bool} {k:Nat} (hm:∀ x∈es,x.may=true) (hq:∀ x,q x=true→x.kind=3) (hk:k<es.length):bstE es q (k + 1)=bif q (es.getD k default) && decide ((bstE es q k).level<(es.getD k default).level) then es.getD k default else bstE es q k:=by
 have hlt:=(bestI_lt (es:=es) (q:=q) k).2
 have key:(q (es.getD k default) && (decide (bestI es q k<0) || decide ((es.getD (bestI es q k).toNat default).level<(es.getD k default).level)))=(q (es.getD k default) && decide ((bstE es q k).level<(es.getD k default).level)):=by
  cases hqk:q (es.getD k default) with
  | false=>rfl
  | true=>
   rw [Bool.true_and,Bool.true_and]
   unfold bstE
   cases hc:decide (0≤bestI es q k) with
   | false=>
    have h0:=of_decide_eq_false hc
    have h3:=may_lv (hm _ (getD_mem hk)) (hq _ hqk)
    rw [cond_false,decide_eq_true (by omega:bestI es q k<0),Bool.true_or]
    exact (decide_eq_true (show (default:EnD).level<_ from by show (0:Int)<_;omega)).symm
   | true=>
    have h0:=of_decide_eq_true hc
    rw [cond_true,decide_eq_false (by omega:¬ bestI es q k<0),Bool.false_or]
 show (bif decide (0≤bestI es q (k + 1)) then es.getD (bestI es q (k + 1)).toNat default else default)=_
 rw [bestI,key]
 cases hc:(q (es.getD k default) && decide ((bstE es q k).level<(es.getD k default).level)) with
 | true=>rw [cond_true,cond_true,decide_eq_true (by omega:(0:Int)≤(k:Int)),cond_true,Int.toNat_natCast]
 | false=>rw [cond_false,cond_false];rfl
def fndV (es:List EnD) (i:Int):Value:=bif decide (0≤i) then .tuple #[.agg (enV (es.getD i.toNat default)).toArray,.int .i64 0] else .tuple #[.agg (enV default).toArray,.int .i64 3]
theorem fndV_eq (es:List EnD) (i:Int):fndV es i=.tuple #[.agg (enV (bif decide (0≤i) then es.getD i.toNat default else default)).toArray,.int .i64 (bif decide (0≤i) then 0 else 3)]:=by
 unfold fndV
 cases decide (0≤i)<;>rfl
section
variable {w : World} {es : List EnD} {ds : List IvD} {v u : Value}
theorem tWhole_e (h:SlAt w v 14 (es.map enV)) (hd:SlAt w u 4 (ds.map ivV)) (hcap:∃ q c,v=.slice q es.length c∧es.length≤c) (hok:tlbOk es ds=true) (V A:Int) (P:Nat) (acc:Int) (hV:PtD.btw V 0 15=true) (hA:PtD.btw A 0 15=true) (hP:P≤4095) (ha:PtD.btw acc 0 2=true):
  Fn Tryz.prog 166 [.agg #[v,u],.int .i64 V,.int .i64 A,.int .i64 (P:Int),.int .i64 acc].toArray w [] (fun r _=>r=fndV es (idxI (pWhole V A P acc) es)):=by
 have h':=h
 have hd':=hd
 have hcap':=hcap
 obtain ⟨q,cap,rfl,_,_⟩:=h.opened
 obtain ⟨q2,cap2,rfl,_,_⟩:=hd.opened
 have hi:idxI (pFnd 1 V A P acc) es=idxI (pWhole V A P acc) es:=idxI_same fun x hx=>fnd_whole V A P acc x
 have hf:∀ {wc:World},SlAt wc (.slice q es.length cap) 14 (es.map enV)→SlAt wc (.slice q2 ds.length cap2) 4 (ds.map ivV)→Fn Tryz.prog 195 [.agg #[.slice q es.length cap,.slice q2 ds.length cap2],.int .i64 1,.int .i64 V,.int .i64 A,.int .i64 (P:Int),.int .i64 acc].toArray wc [] (fun r _=>r=.tuple #[.agg (enV (bif decide (0≤idxI (pWhole V A P acc) es) then es.getD (idxI (pWhole V A P acc) es).toNat default else default)).toArray,.int .i64 (bif decide (0≤idxI (pWhole V A P acc) es) then 0 else 3)]):=fun ha1 hb1=>by
  have:=tFound_e es ds _ _ ha1 hb1 hcap' hok 1 V A P acc hV hA hP ha
  rw [hi] at this
  rw [← fndV_eq]
  exact this
 rw [fndV_eq]
 generalize (bif decide (0≤idxI (pWhole V A P acc) es) then es.getD (idxI (pWhole V A P acc) es).toNat default else default)=E at hf ⊢
 generalize (bif decide (0≤idxI (pWhole V A P acc) es) then (0:Int) else 3)=z at hf ⊢
 refine enter Tryz.func166 ?_
 refine run ?_
 intro B R
 refine run ?_
 refine callE (fun wc hG=>hf ((Sees.old h').good hG) ((Sees.old hd').good hG)) ?_
 refine run ?_
 exact finA1 (cs:=(enV E).toArray) rfl
theorem tMid_e (h:SlAt w v 14 (es.map enV)) (hd:SlAt w u 4 (ds.map ivV)) (hcap:∃ q c,v=.slice q es.length c∧es.length≤c) (hok:tlbOk es ds=true) (V:Int) (P:Nat) (acc:Int) (hV:PtD.btw V 0 15=true) (hP:P≤4095) (ha:PtD.btw acc 0 2=true):
  Fn Tryz.prog 193 [.agg #[v,u],.int .i64 V,.int .i64 (P:Int),.int .i64 acc].toArray w [] (fun r _=>r=fndV es (idxI (pMid V P acc) es)):=by
 have h':=h
 have hd':=hd
 have hcap':=hcap
 obtain ⟨q,cap,rfl,_,_⟩:=h.opened
 obtain ⟨q2,cap2,rfl,_,_⟩:=hd.opened
 have hi:idxI (pFnd 2 V 0 P acc) es=idxI (pMid V P acc) es:=idxI_same fun x hx=>fnd_mid V P acc x ((tlb_may hok).1 x hx)
 have hf:∀ {wc:World},SlAt wc (.slice q es.length cap) 14 (es.map enV)→SlAt wc (.slice q2 ds.length cap2) 4 (ds.map ivV)→Fn Tryz.prog 195 [.agg #[.slice q es.length cap,.slice q2 ds.length cap2],.int .i64 2,.int .i64 V,.int .i64 0,.int .i64 (P:Int),.int .i64 acc].toArray wc [] (fun r _=>r=.tuple #[.agg (enV (bif decide (0≤idxI (pMid V P acc) es) then es.getD (idxI (pMid V P acc) es).toNat default else default)).toArray,.int .i64 (bif decide (0≤idxI (pMid V P acc) es) then 0 else 3)]):=fun ha1 hb1=>by
  have:=tFound_e es ds _ _ ha1 hb1 hcap' hok 2 V 0 P acc hV rfl hP ha
  rw [hi] at this
  rw [← fndV_eq]
  exact this
 rw [fndV_eq]
 generalize (bif decide (0≤idxI (pMid V P acc) es) then es.getD (idxI (pMid V P acc) es).toNat default else default)=E at hf ⊢
 generalize (bif decide (0≤idxI (pMid V P acc) es) then (0:Int) else 3)=z at hf ⊢
 refine enter Tryz.func193 ?_
 refine run ?_
 intro B R
 refine run ?_
 refine callE (fun wc hG=>hf ((Sees.old h').good hG) ((Sees.old hd').good hG)) ?_
 refine run ?_
 exact finA1 (cs:=(enV E).toArray) rfl
theorem tWalk_e (h:SlAt w v 14 (es.map enV)) (hd:SlAt w u 4 (ds.map ivV)) (hcap:∃ q c,v=.slice q es.length c∧es.length≤c) (hok:tlbOk es ds=true) (V A:Int) (P:Nat) (hV:PtD.btw V 0 15=true) (hA:PtD.btw A 0 15=true) (hP:P≤4095):
  Fn Tryz.prog 215 [.agg #[v,u],.int .i64 V,.int .i64 A,.int .i64 (P:Int)].toArray w [] (fun r _=>r=fndV es (bestI es (pWlk V A P) es.length)):=by
 have h':=h
 have hd':=hd
 have hcap':=hcap
 obtain ⟨q,cap,rfl,hne,hle⟩:=h.opened
 obtain ⟨q2,cap2,rfl,_,_⟩:=hd.opened
 have hem:=tlb_may hok
 obtain ⟨ez,hez⟩:∃ z:Int,z=0:=⟨0,rfl⟩
 have hck:∀ {wc:World},SlAt wc (.slice q es.length cap) 14 (es.map enV)→SlAt wc (.slice q2 ds.length cap2) 4 (ds.map ivV)→Fn Tryz.prog 64 [.agg #[.slice q es.length cap,.slice q2 ds.length cap2]].toArray wc [] (fun r _=>r=.int .i64 ez):=fun ha1 hb1=>by
  have:=tCheck_e es ds _ _ ha1 hb1 hcap'
  rw [hok] at this
  rw [hez];exact this
 refine enter Tryz.func215 ?_
 refine run ?_
 intro B R
 refine run ?_
 refine callE (fun wc hG=>hck ((Sees.old h').good hG) ((Sees.old hd').good hG)) ?_
 refine runG ?_
 have hg0:wnt (!decide (ez=0)) false=true:=by rw [hez];rfl
 simp only [hg0,gv_true]
 refine opsGT ?_ hg0
 refine runG ?_
 intro Z
 refine callEG (fun hg wc hG=>tWithin_e 15 [V,A] (lie_rows (xs:=[inV V,inV A]) (hG.here ⟨Z,#[.int .i64 V,.int .i64 A],3⟩ mh) (by simp [inV]) (by simp))) ?_
 refine runG ?_
 have hVA:([V,A].all fun x=>PtD.btw x 0 15)=true:=by simp only [List.all_cons,List.all_nil,Bool.and_true,hV,hA]
 have hg1:wnt (!decide (ez=0) || ![V,A].all fun x=>PtD.btw x 0 15) false=true:=by rw [hez,hVA];rfl
 simp only [hg1,gv_true]
 refine opsGT ?_ hg1
 refine runG ?_
 intro Z2
 refine callEG (fun hg wc hG=>tWithin_e 4095 [(P:Int)] (lie_rows (xs:=[inV (P:Int)]) (hG.here ⟨Z2,#[.int .i64 (P:Int)],3⟩ mh) (by simp [inV]) (by simp))) ?_
 refine runG ?_
 have hPP:([(P:Int)].all fun x=>PtD.btw x 0 4095)=true:=by simp only [List.all_cons,List.all_nil,Bool.and_true];exact btwT (by omega) (by omega)
 refine st_cond _ rfl (fun hc=>absurd hc (by rw [hez,hVA,hPP];simp)) (fun hc=>?_)
 refine run ?_
 intro T
 refine run ?_
 refine loopS (σ:=Nat × EnD) (fun z=>[(33,.int .i64 (z.1:Int))]) (fun z=>[⟨T,#[.int .i64 z.2.kind,.int .i64 z.2.vmid,.int .i64 z.2.asid,.bool z.2.all,.int .i64 z.2.page,.int .i64 z.2.level,.int .i64 z.2.frame,.int .i64 z.2.mid,.bool z.2.r,.bool z.2.w,.bool z.2.x,.bool z.2.af,.bool z.2.ng,.int .i64 z.2.soft],114⟩,⟨R,#[.int .i64 0,.int .i64 0,.int .i64 0,.bool false,.int .i64 0,.int .i64 0,.int .i64 0,.int .i64 0,.bool false,.bool false,.bool false,.bool false,.bool false,.int .i64 0],114⟩]) (fun z=>z.1≤es.length∧z.2=bstE es (pWlk V A P) z.1) (fun z=>es.length - z.1) (0,default) ⟨Nat.zero_le _,rfl⟩ ?_
 rintro ⟨k,bst⟩ m hm ⟨hk,hB⟩
 dsimp only at hm hk hB ⊢
 refine run ?_
 refine st_cond _ rfl (fun hc=>?_) (fun hc=>?_)
 ·have hlt:k<es.length:=by simp at hc;omega
  obtain ⟨b,o,rfl⟩:=hne (by intro e;subst e;simp at hlt)
  have hr:=h.row hlt
  have hemk:=hem.1 _ (getD_mem hlt)
  have hstep:=bst_step (q:=pWlk V A P) (es:=es) (k:=k) (fun x hx=>hem.1 x hx) (fun x hx=>pwlk_kind hx) hlt
  rw [← hB] at hstep
  refine run ?_
  intro E
  refine runG ?_
  refine callE (fun wc hG=>tOf_e (es.getD k default) hemk 3 V A P hP wc) ?_
  rw [pOf_walk]
  refine runG ?_
  refine st_cond _ rfl (fun hc2=>?_) (fun hc2=>?_)
  ·rw [hc2,cond_true] at hstep
   refine run ?_
   exact nextS (k + 1,es.getD k default) ⟨hlt,hstep.symm⟩ (hm:=by dsimp only;omega) (h2:=by (refine hpLe_cnt fun a=>?_;simp only [cntB_app,cntB_cons,cntB_nil]<;>omega))
  ·rw [hc2,cond_false] at hstep
   refine run ?_
   exact nextS (k + 1,bst) ⟨hlt,hstep.symm⟩ (hm:=by dsimp only;omega) (h2:=by (refine hpLe_cnt fun a=>?_;simp only [cntB_app,cntB_cons,cntB_nil]<;>omega))
 ·have:k=es.length:=by simp at hc;omega
  subst this
  rw [fndV_eq]
  have hbl:=bestI_lt (es:=es) (q:=pWlk V A P) es.length
  have hlv:=bst_lv (q:=pWlk V A P) (es:=es) (k:=es.length) (fun x hx=>hem.1 x hx) (fun x hx=>pwlk_kind hx) (Nat.le_refl _)
  rw [← hB] at hlv
  rw [show (bif decide (0≤bestI es (pWlk V A P) es.length) then es.getD (bestI es (pWlk V A P) es.length).toNat default else default)=bst from hB.symm]
  refine run ?_
  refine st_cond _ rfl (fun hc2=>?_) (fun hc2=>?_)
  ·rw [show decide (0≤bestI es (pWlk V A P) es.length)=false by rw [← hlv];simpa using hc2]
   refine run ?_
   exact finA1 (cs:=(enV bst).toArray) rfl
  ·rw [show decide (0≤bestI es (pWlk V A P) es.length)=true by rw [← hlv];simpa using hc2]
   refine run ?_
   exact finA1 (cs:=(enV bst).toArray) rfl
end
end Go.Proofs.YtndklbjnofdgeaaGreat
namespace Go.Proofs.YtndklbjnofdgeaaGreat
open Go.RowKit
set_option linter.unusedVariables false
set_option linter.unusedSimpArgs false
set_option maxRecDepth 20000
attribute [local irreducible] Hy St Ops DH DHF DE1 DE2 DE3 DS DCh DWF
section
variable {w : World} {es : List EnD} {ds : List IvD} {v u : Value}
theorem tFill_e (h:SlAt w v 14 (es.map enV)) (hd:SlAt w u 4 (ds.map ivV)) (hcap:∃ q c,v=.slice q es.length c∧es.length≤c) (hok:tlbOk es ds=true) (e:EnD) (he:e.may=true):
  Fn Tryz.prog 200 [.agg #[v,u],.agg (enV e).toArray].toArray w [] (fun r hn=>∃ v1 h1 v2 h2,r=.tuple #[.agg #[v1,v2],.int .i64 0]∧Own 114 14 v1 h1 ((fillL es e).map enV)∧Own 121 4 v2 h2 (ds.map ivV)∧HpLe (h1++h2) hn):=by
 have h':=h
 have hd':=hd
 have hcap':=hcap
 obtain ⟨q,cap,rfl,hne,hle⟩:=h.opened
 obtain ⟨q2,cap2,rfl,_,_⟩:=hd.opened
 have hem:=tlb_may hok
 obtain ⟨ez,hez⟩:∃ z:Int,z=0:=⟨0,rfl⟩
 have hck:∀ {wc:World},SlAt wc (.slice q es.length cap) 14 (es.map enV)→SlAt wc (.slice q2 ds.length cap2) 4 (ds.map ivV)→Fn Tryz.prog 64 [.agg #[.slice q es.length cap,.slice q2 ds.length cap2]].toArray wc [] (fun r _=>r=.int .i64 ez):=fun ha1 hb1=>by
  have:=tCheck_e es ds _ _ ha1 hb1 hcap'
  rw [hok] at this
  rw [hez];exact this
 refine enter Tryz.func200 ?_
 refine run ?_
 intro B C R
 refine run ?_
 refine callE (fun wc hG=>hck ((Sees.old h').good hG) ((Sees.old hd').good hG)) ?_
 refine runG ?_
 refine callEG (fun hg wc hG=>enMay_e e wc) ?_
 refine runG ?_
 refine st_cond _ rfl (fun hc=>absurd hc (by rw [hez,he];simp)) (fun hc=>?_)
 refine run ?_
 refine callB (fun wc hG=>tlbCopy_e es ds _ _ ((Sees.old h').good hG) ((Sees.old hd').good hG) (by omega) (by omega)) ?_
 rintro u1 hn1 ⟨v1,h1,v2,h2,rfl,hO1,hO2,hle1⟩
 obtain ⟨q3,c3,e3⟩:=hO1.opened
 obtain ⟨q4,c4,e4⟩:=hO2.opened
 rw [List.length_map] at e3 e4
 subst e3 e4
 refine ops_le (⟨R,#[.slice none 0 0,.slice none 0 0],77⟩::⟨C,(enV e).toArray,114⟩::(h1++h2)) (by (refine hpLe_cnt fun a=>?_;have:=HpLe.cnt hle1 a;simp only [cntB_app,cntB_cons,cntB_nil] at *;omega)) ?_
 refine run ?_
 intro X
 refine runG ?_
 refine callEG (fun _ wc hG=>containsEn_e e es _ (hO1.lie (fun b hb=>hG.here b (by simp [hb])) (by rw [List.length_map];omega))) ?_
 refine runG ?_
 have hcc:decide ((es.length:Int)<8)=decide (es.length<8):=by
  rw [Bool.eq_iff_iff,decide_eq_true_eq,decide_eq_true_eq];omega
 refine st_cond _ rfl (fun hc2=>?_) (fun hc2=>?_)
 ·have hfl:fillL es e=es++[e]:=by
   unfold fillL
   rw [show (!(es.any fun t=>decide (t=e)) && decide (es.length<8))=true by
    rw [Bool.and_comm,← hcc];exact hc2]
   rfl
  rw [hfl]
  refine run ?_
  intro T
  refine run ?_
  refine appendW (c:=enV e) (⟨T,#[.int .i64 e.kind,.int .i64 e.vmid,.int .i64 e.asid,.bool e.all,.int .i64 e.page,.int .i64 e.level,.int .i64 e.frame,.int .i64 e.mid,.bool e.r,.bool e.w,.bool e.x,.bool e.af,.bool e.ng,.int .i64 e.soft],114⟩::⟨X,#[.slice q3 es.length c3,.slice q4 ds.length c4],77⟩::⟨R,#[.slice none 0 0,.slice none 0 0],77⟩::⟨C,(enV e).toArray,114⟩::h2) hO1 (fun v' ha' hA'=>?_) (by simp;omega) (news_own (m:=14) mh rfl) (hperm:=by (refine perm_cnt fun a=>?_;simp only [cntB_app,cntB_cons,cntB_nil]<;>omega))
  rw [show es.map enV++[enV e]=(es++[e]).map enV by simp] at hA'
  obtain ⟨q5,c5,e5⟩:=hA'.opened
  rw [List.length_map] at e5
  subst e5
  refine ops_le (⟨X,#[.slice q3 es.length c3,.slice q4 ds.length c4],77⟩::⟨R,#[.slice none 0 0,.slice none 0 0],77⟩::(ha'++h2)) (by (refine hpLe_cnt fun a=>?_;simp only [cntB_app,cntB_cons,cntB_nil]<;>omega)) ?_
  refine run ?_
  exact finA1 (cs:=#[.slice q5 (es++[e]).length c5,.slice q4 ds.length c4]) ⟨_,ha',_,h2,rfl,hA',hO2,by (refine hpLe_cnt fun a=>?_;simp only [cntB_app,cntB_cons,cntB_nil]<;>omega)⟩
 ·have hfl:fillL es e=es:=by
   unfold fillL
   rw [show (!(es.any fun t=>decide (t=e)) && decide (es.length<8))=false by
    rw [Bool.and_comm,← hcc];exact hc2]
   rfl
  rw [hfl]
  refine run ?_
  exact finA1 (cs:=#[.slice q3 es.length c3,.slice q4 ds.length c4]) ⟨_,h1,_,h2,rfl,hO1,hO2,by (refine hpLe_cnt fun a=>?_;simp only [cntB_app,cntB_cons,cntB_nil]<;>omega)⟩
end
end Go.Proofs.YtndklbjnofdgeaaGreat
namespace Go.Proofs.YtndklbjnofdgeaaGreat
open Go.RowKit
set_option linter.unusedVariables false
set_option linter.unusedSimpArgs false
set_option maxRecDepth 20000
section
variable {P : Program} {T : Tab} {n : Nat} {w0 : World} {mu : List Nat} {l : Fm} {hp : Hp} {dd : Option Tmp} {ty : TypeId} {pos : String} {af : Array Edge} {gg : Option (Nat × Bool)} {Q : Exit → Fm → Hp → Prop} {all : Array Oper} {rest : List Oper}
theorem z_clearC (ok:TabOk P T) {t e sz b o m c:Nat} {cs:Array Value} {tb:TypeId} {x:Operand} {z:Value} {hp':Hp} (hx:ev l x=some (.slice (some ⟨b,o,none⟩) m c)) (ht:lk T.sl t=some (e,sz)) (hz:lk T.zs e=some z) (hzs:z.cells.size=sz) (hz1:z.cells.toList.all (·.oneCell')=true) (h0:0<sz) (hm:0<m)
  (hperm:(⟨b,cs,tb⟩::hp').Perm hp) (hfit:o + m * sz≤cs.size)
  (h:∀ zs:List Value,zs.length=m * sz→Ops P n w0 mu all rest l (⟨b,putAt cs o zs,tb⟩::hp') Q):Ops P n w0 mu all (⟨none,.call { callee:=.builtin .clear,args:=#[x],argTypes:=#[t] },ty,pos,af,none⟩::rest) l hp Q:=by
 intro ac w hk hG
 obtain ⟨hu,hsz⟩:=ok.gsl ht
 have hG':=hG.perm hperm
 have hb:=hG'.here _ (List.mem_cons_self ..)
 obtain ⟨zs,hrep⟩:∃ zs,zs=(Builtin.zeroCells z.cells m).toList:=⟨_,rfl⟩
 have hlen:zs.length=m * sz:=by rw [hrep,Array.length_toList,size_zeroCells,hzs,Nat.mul_comm]
 have hall:∀ u∈zs,u.oneCell'=true:=fun u hu=>by
  rw [hrep] at hu
  simp only [Builtin.zeroCells,Array.mem_toList_iff,Array.mem_map,Array.mem_range] at hu
  obtain ⟨i,hi,rfl⟩:=hu
  have hlt:i % z.cells.size<z.cells.size:=Nat.mod_lt _ (by omega)
  have h2:=(List.all_eq_true.1 hz1) (z.cells[i % z.cells.size]) (by simp)
  simpa [hlt] using h2
 have hst:=run_storeCells_cells (P:=P) b o zs 0 w
  (fun j hj=>by rw [hlen] at hj;rw [cell_of_block hb];simp [show o + j<cs.size by omega])
  (fun j _=>free_of_block hb) hall
 simp only [Nat.add_zero] at hst
 refine wpList_plain rfl fun K hK=>?_
 unfold Oper.wp execOp
 have hr:(Builtin.clear_ #[t] ty #[.slice (some ⟨b,o,none⟩) m c]).run P w=.ok (.tuple #[]) (w.setCells b o zs):=by
  obtain ⟨m',rfl⟩:∃ m',m=m' + 1:=⟨m - 1,by omega⟩
  simp [Builtin.clear_,run_underlying hu,run_zero (ok.gzs hz) w,← hrep,hst]
 simp only [resolve,invoke,builtin,Sem.run_bind,Sem.run_pure,Result.andThen_ok,List.map_toArray,List.map_cons,List.map_nil,hk.ev hx,hr]
 exact hK _ _ (h zs hlen _ _ hk (Good.sets (w:=w) _ cs o w hG'))
end
theorem Row.cut_end {g cap n i sz:Nat} {cur:Array Value} {xs:List (List Value)} (h:Row g cap cur sz n xs.flatten) (hall:∀ c∈xs,c.length=sz) (hi:i≤n) (hn:xs.length=n) {zs:List Value} (hz:i * sz + zs.length≤cur.size):Row g cap (putAt cur (i * sz) zs) sz i (xs.take i).flatten:=by
 have hle:i * sz≤n * sz:=Nat.mul_le_mul_right _ hi
 refine ⟨by rw [flatten_len (xs.take i) (fun c hc=>hall c (List.mem_of_mem_take hc)),List.length_take,Nat.min_eq_left (by omega)],Nat.le_trans hi h.le,h.max,by rw [putAt_size];exact h.size,?_⟩
 have hl:(cur.toList.take (i * sz)).length=i * sz:=by
  rw [List.length_take,Nat.min_eq_left];simp;omega
 rw [putAt_list _ _ _ hz,List.append_assoc,List.take_left' hl]
 have h1:=congrArg (List.take (i * sz)) h.take
 rw [List.take_take,Nat.min_eq_left hle] at h1
 rw [h1]
 conv=>lhs;rw [← List.take_append_drop i xs]
 rw [List.flatten_append,List.take_left']
 rw [flatten_len (xs.take i) (fun c hc=>hall c (List.mem_of_mem_take hc)),List.length_take,Nat.min_eq_left (by omega)]
attribute [local irreducible] Hy St Ops DH DHF DE1 DE2 DE3 DS DCh
theorem range_of_here {w:World} {b:Nat} {cs:List Value} {t:TypeId} (h:w.heap[b]?=some (.cells cs.toArray t (0,0))):w.rangeAt b 0 cs:=by
 intro j u hu
 rw [cell_of_block h]
 simpa using hu
theorem apply11_e (i:IvD) (e:EnD) (hi:i.may=true) (he:e.may=true) (E:Nat) (w:World) (hE:w.rangeAt E 0 (enV e)):Fn Tryz.prog 174 ([]++[Value.agg (ivV i).toArray]++[Value.pointer (some ⟨E,0,none⟩)]).toArray w [] (fun u _=>u=.bool (i.takes e)):=by
 refine enter Tryz.func174 ?_
 refine run ?_
 intro B
 refine callE (fun wc hG=>takes_e i e hi he wc) ?_
 refine run ?_
 exact fin1 rfl
theorem apply1_e (ds:List IvD) (hds:∀ i∈ds,i.may=true) (e:EnD) (he:e.may=true) (L:Nat) {w:World} {lv:Value} (hL:w.cell? ⟨L,0,none⟩=some lv) (hl:SlAt w lv 4 (ds.map ivV)):Fn Tryz.prog 173 ([]++[Value.agg (enV e).toArray]++[Value.pointer (some ⟨L,0,none⟩)]).toArray w [] (fun u _=>u=.bool (ds.any fun i=>i.takes e)):=by
 obtain ⟨q,cap,rfl,_,_⟩:=hl.opened
 refine enter Tryz.func173 ?_
 refine run ?_
 intro E
 refine callE (fun wc hG=>containsFIv_e (us:=[.pointer (some ⟨E,0,none⟩)]) (fun i=>i.takes e) ds _ (hl.good hG) (fun x hx w' ha=>apply11_e x e (hds x hx) he E w' ?_)) ?_
 ·obtain ⟨hp,hg⟩:=ha
  intro j u hu
  refine hg.cell (range_of_here (cs:=enV e) (hG.here _ mh) j u hu) (by simp)
 refine run ?_
 exact fin1 rfl
def keepL (p:EnD→Bool) (es:List EnD):List EnD:=es.filter fun x=>!p x
theorem keep_next (p:EnD→Bool) (es:List EnD) {j:Nat} (hj:j<es.length):keepL p (es.take (j + 1))=keepL p (es.take j)++bif p (es.getD j default) then [] else [es.getD j default]:=by
 rw [take_next hj]
 unfold keepL
 rw [List.filter_append]
 cases h:p (es.getD j default)<;>simp only [List.filter_cons,List.filter_nil,h,Bool.not_false,Bool.not_true,if_true,cond_true,cond_false,Bool.false_eq_true,if_false]
theorem row_set {g cap n i:Nat} {cur:Array Value} {ys:List EnD} (h:Row g cap cur 14 n (ys.map enV).flatten) (hi:i<ys.length) (e:EnD):Row g cap (putAt cur (i * 14) (enV e)) 14 n ((ys.set i e).map enV).flatten:=by
 have hput:=h.put (fun c hc=>(en_all c hc).1) (i:=i) (k:=0) (c:=enV (ys.getD i default)) (vs:=enV e) (by rw [List.getElem?_map,List.getElem?_eq_getElem hi,List.getD_eq_getElem?_getD,List.getElem?_eq_getElem hi];rfl) (Nat.le_refl 14)
 rw [show (enV (ys.getD i default)).take 0++enV e++(enV (ys.getD i default)).drop (0 + (enV e).length)=enV e from rfl,← List.map_set,Nat.add_zero] at hput
 exact hput
theorem keep_none (p:EnD→Bool) (es:List EnD) {k:Nat} (hk:k≤es.length) (h:∀ j,j<k→p (es.getD j default)=false):keepL p (es.take k)=es.take k:=by
 refine List.filter_eq_self.2 fun x hx=>?_
 obtain ⟨j,hj,rfl⟩:=List.mem_take_iff_getElem.1 hx
 have:=h j (by omega)
 rw [List.getD_eq_getElem?_getD,List.getElem?_eq_getElem (by omega),Option.getD_some] at this
 simp [this]
structure DlS where
 i:Nat
 j:Nat
 cur:Array Value
 ys:List EnD
theorem deleteEn_e {w:World} {F:Nat} {us:List Value} (p:EnD→Bool) (es:List EnD) {v:Value} {ha:Hp} (hA:Own 114 14 v ha (es.map enV)) (hN:HereN ha w) (hl:es.length<100000) (hF:∀ x,x∈es→∀ w',(∃ hp,Good w (ha.map (·.b)) hp w')→Fn Tryz.prog F ([]++[Value.agg (enV x).toArray]++us).toArray w' [] (fun u _=>u=.bool (p x))) (hcal:mem calN F=true:=by rfl):
  Fn Tryz.prog 172 [v,.func (.func F) [].toArray us.toArray].toArray w (ha.map (·.b)) (fun u hn=>Own 114 14 u hn ((keepL p es).map enV)):=by
 have hA0:=hA
 obtain ⟨q,cap,ev⟩:=hA.opened
 rw [List.length_map] at ev
 subst ev
 refine enterM _ hN Tryz.func172 ?_
 refine run ?_
 refine callE (fun wc hG=>indexFEn_e p es _ (hA.lie (fun b hb=>hG.here b (by simpa using hb)) (by rw [List.length_map];omega)) (fun x hx w' ha=>hF x hx w' ?_) hcal) ?_
 ·obtain ⟨hp,hg⟩:=ha
  exact ⟨_,hG.trans hg⟩
 refine run ?_
 by_cases hex:∃ j,j<es.length∧p (es.getD j default)=true
 ·obtain ⟨j1,hj1,hp1⟩:=hex
  obtain ⟨k0,hk0,hp0,hno0⟩:=idx_least p es j1 hp1
  have hlt0:k0<es.length:=by omega
  rw [idxI_at hlt0 hp0 hno0]
  refine st_cond _ rfl (fun hc=>absurd hc (by simp)) (fun hc=>?_)
  obtain ⟨g,cap',cur,ev,rfl,hrow⟩:=hA0.row (n:=es.length) (by simp) (by omega)
  cases ev
  refine run ?_
  refine loopS (σ:=DlS) (fun s=>[(5,.int .i64 (s.i:Int)),(6,.int .i64 (s.j:Int))]) (fun s=>[⟨g,s.cur,114⟩]) (fun s=>s.i<s.j∧s.j≤es.length∧s.ys.length=es.length∧s.ys.take s.i=keepL p (es.take s.j)∧(∀ t,s.j≤t→t<es.length→s.ys.getD t default=es.getD t default)∧Row g cap s.cur 14 es.length (s.ys.map enV).flatten) (fun s=>es.length - s.j) ⟨k0,k0 + 1,cur,es⟩ ⟨by dsimp only;omega,hlt0,rfl,?_,fun _ _ _=>rfl,hrow⟩ ?_
  ·dsimp only
   rw [keep_next p es hlt0,hp0,keep_none p es (by omega) hno0];simp
  rintro ⟨i,j,cur,ys⟩ m hm ⟨hij,hj,hyl,hyt,hyd,hrow⟩
  dsimp only at hm hij hj hyl hyt hyd hrow ⊢
  have hO:Own 114 14 (.slice (some ⟨g,0,none⟩) es.length cap) [⟨g,cur,114⟩] (ys.map enV):=⟨en_all,.inr ⟨g,cap,cur,by rw [List.length_map,hyl],rfl,by rw [List.length_map,hyl];exact hrow⟩⟩
  refine run ?_
  refine st_cond _ rfl (fun hc=>?_) (fun hc=>?_)
  ·have hlt:j<es.length:=by simp at hc;omega
   have hyj:=hyd j (Nat.le_refl _) hlt
   have hcut:(cur.toList.drop (j * 14)).take 14=enV (es.getD j default):=by
    rw [← hyj]
    exact hrow.cut (fun c hc=>(en_all c hc).1) (by rw [List.getElem?_map,List.getElem?_eq_getElem (by omega),List.getD_eq_getElem?_getD,List.getElem?_eq_getElem (by omega)];rfl)
   refine run ?_
   intro V
   refine callF (fun wc hG=>hF (es.getD j default) (getD_mem hlt) wc ⟨_,hG⟩) (hcal:=hcal) ?_
   refine run ?_
   refine st_cond _ rfl (fun hp=>?_) (fun hp=>?_)
   ·have hsz:=hrow.size
    have hle:=hrow.le
    refine run ?_
    have hpf:p (es.getD j default)=false:=by simpa using hp
    have hput:=row_set hrow (i:=i) (by omega) (es.getD j default)
    generalize hcur:putAt cur (i * 14) (enV (es.getD j default))=cur' at hput
    simp only [putAt] at hcur
    refine nextS ⟨i + 1,j + 1,cur',ys.set i (es.getD j default)⟩ ⟨by dsimp only;omega,hlt,by dsimp only;rw [List.length_set];exact hyl,?_,fun t h1 h2=>?_,hput⟩ (hm:=by dsimp only;omega) (h2:=by dsimp only;rw [hcur];(refine hpLe_cnt fun a=>?_;simp only [cntB_app,cntB_cons,cntB_nil]<;>omega))
    ·dsimp only
     rw [keep_next p es hlt,hpf,← hyt]
     have hset:(ys.set i (es.getD j default)).take (i + 1)=ys.take i++[es.getD j default]:=by
      rw [List.set_eq_take_append_cons_drop,if_pos (by omega),List.take_append,List.length_take,Nat.min_eq_left (by omega),List.take_of_length_le (by rw [List.length_take];omega),show i + 1 - i=1 by omega]
      rfl
     rw [hset];rfl
    ·dsimp only at h1 h2 ⊢
     rw [List.getD_eq_getElem?_getD,List.getElem?_set_ne (by omega),← List.getD_eq_getElem?_getD]
     exact hyd t (by omega) h2
   ·refine run ?_
    have hpf:p (es.getD j default)=true:=by simpa using hp
    refine nextS ⟨i,j + 1,cur,ys⟩ ⟨by dsimp only;omega,hlt,hyl,?_,fun t h1 h2=>hyd t (by dsimp only at h1;omega) h2,hrow⟩ (hm:=by dsimp only;omega) (h2:=by (refine hpLe_cnt fun a=>?_;simp only [cntB_app,cntB_cons,cntB_nil]<;>omega))
    dsimp only
    rw [keep_next p es hlt,hpf,← hyt];simp
  ·have hge:j=es.length:=by simp at hc;omega
   subst hge
   refine run ?_
   have hle:=hrow.le
   have hsz:=hrow.size
   refine op1 (by rfl) (x_sliceL tb_ok rfl rfl (by rfl) (by omega) (by omega) (by omega) (o':=i * 14) (m':=es.length - i) (c':=cap - i) (by omega) (by omega) (by omega)) ?_
   refine z_clearC tb_ok (hp':=[]) rfl (by rfl) (by rfl) (by rfl) (by rfl) (by decide) (by omega) (.refl _) (by rw [hsz,Nat.sub_mul];omega) (fun zs hzs=>?_)
   refine run ?_
   refine op1 (by rfl) (x_sliceH tb_ok rfl rfl (by rfl) (by omega) (by omega) (m':=i) (by simp) (.inr ⟨_,_,rfl⟩)) ?_
   refine run ?_
   refine fin1 ?_
   rw [List.take_length] at hyt
   rw [← hyt]
   refine ⟨en_all,.inr ⟨g,cap,putAt cur (i * 14) zs,by rw [List.length_map,List.length_take,Nat.min_eq_left (by omega)],rfl,?_⟩⟩
   rw [List.length_map,List.length_take,Nat.min_eq_left (by omega),List.map_take]
   exact hrow.cut_end (fun c hc=>(en_all c hc).1) (by omega) (by rw [List.length_map];exact hyl) (by rw [hzs,hsz,Nat.sub_mul];omega)
 ·have hno:∀ j,j<es.length→p (es.getD j default)=false:=fun j hj=>by
   cases hp:p (es.getD j default) with
   | false=>rfl
   | true=>exact absurd ⟨j,hj,hp⟩ hex
  rw [idxI_none hno]
  refine st_cond _ rfl (fun hc=>?_) (fun hc=>absurd hc (by simp))
  refine run ?_
  refine fin1 ?_
  have:keepL p es=es:=List.filter_eq_self.2 fun x hx=>by
   obtain ⟨j,hj,rfl⟩:=List.getElem_of_mem hx
   have:=hno j hj
   rw [List.getD_eq_getElem?_getD,List.getElem?_eq_getElem hj,Option.getD_some] at this
   simp [this]
  rw [this]
  exact hA0
end Go.Proofs.YtndklbjnofdgeaaGreat
namespace Go.Proofs.YtndklbjnofdgeaaGreat
open Go.RowKit
set_option linter.unusedVariables false
set_option linter.unusedSimpArgs false
set_option maxRecDepth 20000
section
variable {P : Program} {T : Tab} {n : Nat} {w0 : World} {mu : List Nat} {l : Fm} {hp : Hp} {ty : TypeId} {pos : String} {af : Array Edge} {Q : Exit → Fm → Hp → Prop} {all : Array Oper} {rest : List Oper}
theorem x_sliceLHM (ok:TabOk P T) {dd:Option Tmp} {gg:Option (Nat × Bool)} {t e sz m cap:Nat} {p:Option Addr} {kl kh km:IntKind} {x lo hi mx:Operand} {i j k:Int} (hx:ev l x=some (.slice p m cap)) (hlo:ev l lo=some (.int kl i)) (hhi:ev l hi=some (.int kh j)) (hmx:ev l mx=some (.int km k)) (ht:lk T.sl t=some (e,sz))
  (h0:0≤i) (h1:i≤j) (h2:j≤k) (h3:k≤cap):
  Hy P n w0 mu l hp ⟨dd,.slice t x (some lo) (some hi) (some mx),ty,pos,af,gg⟩ (sliced p i.toNat j.toNat k.toNat sz):=by
 obtain ⟨hu,hsz⟩:=ok.gsl ht
 refine hy_run fun a w hk _=>?_
 have he:P.elem t=e:=by simp [Program.elem,hu]
 have hs:=run_sizeOf hsz w
 simp only [execOp,Option.map_some,Option.map_none,hk.ev hx,hk.ev hlo,hk.ev hhi,hk.ev hmx]
 simp only [Sem.run_bind]
 rw [run_sliceAt_slice (w:=w) t _ _ _ _ (elem_of hu),run_slice_lhm (w:=w) t _ m cap (elem_of hu) kl kh km i j k h0 h1 h2 h3,he,hs]
 simp
theorem z_appendIn (ok:TabOk P T) {t d e sz by_ k m c a o g cap:Nat} {cur:Array Value} {x y:Operand} {z:Value} {xs news:List Value} {hp':Hp} (hd:Nat.blt d n=true) (hx:ev l x=some (.slice (some ⟨g,0,none⟩) k cap)) (hy:ev l y=some (.slice (some ⟨a,o,none⟩) m c)) (ht:lk T.sl t=some (e,sz))
  (hz:lk T.zs e=some z) (hzs:z.cells.size=sz) (hb:lk T.eb e=some by_) (hperm:(⟨g,cur,e⟩::hp').Perm hp) (hown:Row g cap cur sz k xs) (hl:news.length=m * sz) (hnews:NewsAt w0 mu hp a o news) (h1:news.all (·.oneCell')=true) (hroom:k + m≤cap)
  (h:∀ cur',Row g cap cur' sz (k + m) (xs++news)→Ops P n w0 mu all rest ((d,.slice (some ⟨g,0,none⟩) (k + m) cap)::l) (⟨g,cur',e⟩::hp') Q):Ops P n w0 mu all (⟨some d,.call { callee:=.builtin .append,args:=#[x,y],argTypes:=#[t,t] },ty,pos,af,none⟩::rest) l hp Q:=by
 intro ac w hk hG
 have hput:∀ v,Knows n ((d,v)::l) (ac.put (some d) v):=fun v=>Knows.put (d:=some d) hk (fun t ht=>by cases ht;simpa using hd) v
 obtain ⟨hu,hsz⟩:=ok.gsl ht
 have hbb:=List.all_eq_true.1 ok.eb _ (lk_mem hb)
 simp only [beq_iff_eq] at hbb
 obtain ⟨i,hi,hiz,his,hib⟩:=info_of hsz hbb (ok.gzs hz)
 subst his hib
 have hG':=hG.perm hperm
 have hg:=hG'.here _ (List.mem_cons_self ..)
 have hn:∀ j u,news[j]?=some u→w.cell? ((⟨a,o,none⟩:Addr).add j)=some u:=fun j u hj=>by rw [Addr.add_mid];exact hnews w hG j u hj
 refine wpList_plain rfl fun K hK=>?_
 have hfit:k * i.size + news.length≤cur.size:=by rw [hl,hown.size,← Nat.add_mul];exact Nat.mul_le_mul_right _ hroom
 have hr:=run_append_room (P:=P) w t ty e i hu hi g k cap cur hg ⟨a,o,none⟩ m c news hl hn (fun u hu=>List.all_eq_true.1 h1 u hu) hroom hfit
 unfold Oper.wp execOp
 simp only [resolve,invoke,builtin,Sem.run_bind,Sem.run_pure,Result.andThen_ok,List.map_toArray,List.map_cons,List.map_nil,hk.ev hx,hk.ev hy,hr]
 refine hK _ _ (h _ ⟨?_,hroom,hown.max,?_,?_⟩ _ _ (hput _) (hG'.row _))
 ·rw [List.length_append,hown.len,hl,Nat.add_mul]
 ·have:=hown.size
  simp only [List.size_toArray,List.length_append,List.length_take,List.length_drop,Array.length_toList]
  omega
 ·rw [hown.take,show (k + m) * i.size=(xs++news).length by rw [List.length_append,hown.len,hl,Nat.add_mul]]
  exact List.take_left
end
attribute [local irreducible] Hy St Ops DH DHF DE1 DE2 DE3 DS DCh DWF
theorem Row.pre {g cap n i sz:Nat} {cur:Array Value} {xs:List (List Value)} (h:Row g cap cur sz n xs.flatten) (hall:∀ c∈xs,c.length=sz) (hi:i≤n) (hn:xs.length=n):Row g cap cur sz i (xs.take i).flatten:=by
 have hle:i * sz≤n * sz:=Nat.mul_le_mul_right _ hi
 have hf:(xs.take i).flatten.length=i * sz:=by rw [flatten_len (xs.take i) (fun c hc=>hall c (List.mem_of_mem_take hc)),List.length_take,Nat.min_eq_left (by omega)]
 refine ⟨hf,Nat.le_trans hi h.le,h.max,h.size,?_⟩
 have h1:=congrArg (List.take (i * sz)) h.take
 rw [List.take_take,Nat.min_eq_left hle] at h1
 rw [h1]
 conv=>lhs;rw [← List.take_append_drop i xs]
 rw [List.flatten_append,List.take_left' hf]
theorem Row.post {g cap n i sz:Nat} {cur:Array Value} {xs:List (List Value)} (h:Row g cap cur sz n xs.flatten) (hall:∀ c∈xs,c.length=sz) (hi:i≤n) (hn:xs.length=n):(cur.toList.drop (i * sz)).take ((n - i) * sz)=(xs.drop i).flatten:=by
 have hf:(xs.take i).flatten.length=i * sz:=by rw [flatten_len (xs.take i) (fun c hc=>hall c (List.mem_of_mem_take hc)),List.length_take,Nat.min_eq_left (by omega)]
 have h1:=congrArg (List.drop (i * sz)) h.take
 rw [List.drop_take] at h1
 rw [Nat.sub_mul,h1]
 conv=>lhs;rw [← List.take_append_drop i xs]
 rw [List.flatten_append,List.drop_left' hf]
theorem delete1_e {w:World} (es:List EnD) (i:Nat) (hi:i<es.length) (hl:es.length<100000) {v:Value} {ha:Hp} (hA:Own 114 14 v ha (es.map enV)) (hN:HereN ha w):
  Fn Tryz.prog 164 [v,.int .i64 (i:Int),.int .i64 ((i + 1:Nat):Int)].toArray w (ha.map (·.b)) (fun u hn=>Own 114 14 u hn ((es.eraseIdx i).map enV)):=by
 obtain ⟨g,cap,cur,rfl,rfl,hrow⟩:=hA.row (n:=es.length) (by simp) (by omega)
 have hle:=hrow.le
 have hsz:=hrow.size
 refine enterM _ hN Tryz.func164 ?_
 refine run ?_
 refine op1 (by rfl) (x_sliceLHM tb_ok rfl rfl rfl rfl (by rfl) (by omega) (by omega) (by omega) (by omega)) ?_
 refine run ?_
 refine st_cond _ rfl (fun hc=>absurd hc (by simp;omega)) (fun hc=>?_)
 refine run ?_
 have hall:∀ c∈(es.drop (i + 1)).map enV,c.length=14∧c.all (·.oneCell')=true:=fun c hc=>by
  obtain ⟨x,_,rfl⟩:=List.mem_map.1 hc
  exact ⟨rfl,rfl⟩
 have hdl:(es.drop (i + 1)).length=es.length - (i + 1):=List.length_drop
 refine st_cutD (σ:=Array Value) (fun _=>[(0,.slice (some ⟨g,0,none⟩) (es.length - 1) cap)]) (fun cur'=>[⟨g,cur',114⟩]) (fun cur'=>Row g cap cur' 14 (es.length - 1) ((es.eraseIdx i).map enV).flatten) ?_ ?_
 ·refine drawN 6 ?_
  refine runD ?_
  refine opD (x_sliceH tb_ok rfl rfl (by rfl) (by omega) (by omega) (m':=i) (by simp) (.inr ⟨_,_,rfl⟩)) ?_
  refine runD ?_
  refine opD (x_sliceLV tb_ok rfl rfl (by rfl) (by omega) (by omega)) ?_
  refine runD ?_
  have hpre:=hrow.pre (fun c hc=>(en_all c hc).1) (i:=i) (by omega) (by simp)
  by_cases hlast:i + 1=es.length
  ·rw [show sliced (some ⟨g,0,none⟩) (((i + 1:Nat):Int)).toNat es.length cap 14=.slice (if cap=i + 1 then some ⟨g,0,none⟩ else some ⟨g,0 + (i + 1) * 14,none⟩) 0 (cap - (i + 1)) by
    simp [sliced,hlast,slice_add]]
   refine z_append0 tb_ok (by rfl) rfl (by omega) rfl (by rfl) (by rfl) ?_
   refine run ?_
   rw [show i=es.length - 1 by omega]
   refine meetS cur ?_
   rw [List.eraseIdx_eq_take_drop_succ,show es.length - 1 + 1=es.length by omega,List.drop_length,List.append_nil,List.map_take]
   rw [show es.length - 1=i by omega]
   exact hpre
  ·rw [show sliced (some ⟨g,0,none⟩) (((i + 1:Nat):Int)).toNat es.length cap 14=.slice (some ⟨g,(i + 1) * 14,none⟩) (es.length - (i + 1)) (cap - (i + 1)) by
    have:¬ cap=i + 1:=by omega
    simp [sliced,this,slice_add]]
   have hpost:=hrow.post (fun c hc=>(en_all c hc).1) (i:=i + 1) (by omega) (by simp)
   rw [← List.map_drop] at hpost
   refine z_appendIn tb_ok (hp':=[]) (by rfl) rfl rfl (by rfl) (by rfl) (by rfl) (by rfl) (.refl _) hpre (news:=((es.drop (i + 1)).map enV).flatten) (by rw [flatten_len _ (fun c hc=>(hall c hc).1),List.length_map,hdl]) (news_own (m:=(es.length - (i + 1)) * 14) mh hpost) (by
    rw [List.all_eq_true]
    intro u hu
    obtain ⟨c,hc,hu⟩:=List.mem_flatten.1 hu
    exact List.all_eq_true.1 (hall c hc).2 u hu) (by omega) (fun cur' hrow'=>?_)
   refine run ?_
   rw [show i + (es.length - (i + 1))=es.length - 1 by omega] at hrow' ⊢
   refine meetS cur' ?_
   rw [List.eraseIdx_eq_take_drop_succ,List.map_append,List.flatten_append,List.map_take]
   exact hrow'
 rintro cur' hrow'
 have hsz':=hrow'.size
 have hel:(es.eraseIdx i).length=es.length - 1:=by rw [List.length_eraseIdx];simp [hi]
 refine run ?_
 refine op1 (by rfl) (x_sliceLH tb_ok rfl rfl rfl (by rfl) (by omega) (by omega) (by omega) (by omega) (o':=(es.length - 1) * 14) (by omega) (m':=1) (by omega) (c':=cap - (es.length - 1)) (by omega)) ?_
 refine z_clearC tb_ok (hp':=[]) rfl (by rfl) (by rfl) (by rfl) (by rfl) (by decide) (by omega) (.refl _) (by rw [hsz'];omega) (fun zs hzs=>?_)
 refine run ?_
 refine fin1 ?_
 refine ⟨en_all,.inr ⟨g,cap,putAt cur' ((es.length - 1) * 14) zs,by rw [List.length_map,hel],rfl,?_⟩⟩
 have:=hrow'.cut_end (i:=es.length - 1) (fun c hc=>(en_all c hc).1) (Nat.le_refl _) (by rw [List.length_map];exact hel) (zs:=zs) (by rw [hzs,hsz'];omega)
 rw [List.take_of_length_le (by rw [List.length_map,hel];exact Nat.le_refl _)] at this
 rw [List.length_map,hel]
 exact this
section
variable {w : World} {es : List EnD} {ds : List IvD} {v u : Value}
theorem tDrop_e (h:SlAt w v 14 (es.map enV)) (hd:SlAt w u 4 (ds.map ivV)) (hcap:∃ q c,v=.slice q es.length c∧es.length≤c) (hok:tlbOk es ds=true) (i:Int):
  Fn Tryz.prog 137 [.agg #[v,u],.int .i64 i].toArray w [] (fun r hn=>∃ v1 h1 v2 h2,r=.tuple #[.agg #[v1,v2],.int .i64 (bif decide (0≤i) && decide (i<(es.length:Int)) then 0 else 3)]∧((decide (0≤i) && decide (i<(es.length:Int)))=true→Own 114 14 v1 h1 ((dropL es i).map enV)∧Own 121 4 v2 h2 (ds.map ivV))∧((decide (0≤i) && decide (i<(es.length:Int)))=false→v1=.slice none 0 0∧v2=.slice none 0 0)∧HpLe (h1++h2) hn):=by
 have h':=h
 have hd':=hd
 have hcap':=hcap
 obtain ⟨q,cap,rfl,hne,hle⟩:=h.opened
 obtain ⟨q2,cap2,rfl,_,_⟩:=hd.opened
 have hem:=tlb_may hok
 refine enter Tryz.func137 ?_
 refine run ?_
 intro B R
 refine run ?_
 refine callE (fun wc hG=>tCheck_e es ds _ _ ((Sees.old h').good hG) ((Sees.old hd').good hG) hcap') ?_
 rw [hok]
 refine runC ?_
 have hin:(decide (0≤i) && decide (i<(es.length:Int)))=!(decide (i<0) || decide ((es.length:Int)≤i)):=by
  rw [Bool.not_or,← decide_not,← decide_not]
  congr 1<;>(rw [Bool.eq_iff_iff,decide_eq_true_eq,decide_eq_true_eq];omega)
 refine st_cond _ rfl (fun hc=>?_) (fun hc=>?_)
 ·rw [hin,hc]
  refine run ?_
  exact finA1 (cs:=#[.slice none 0 0,.slice none 0 0]) ⟨_,[],_,[],rfl,fun h=>absurd h (by simp),fun _=>⟨rfl,rfl⟩,by (refine hpLe_cnt fun a=>?_;simp only [cntB_app,cntB_cons,cntB_nil]<;>omega)⟩
 ·rw [hin,hc]
  have hii:0≤i∧i<es.length:=by simp at hc;omega
  obtain ⟨k,rfl⟩:∃ k:Nat,i=(k:Int):=⟨i.toNat,by omega⟩
  have hdl:dropL es (k:Int)=es.eraseIdx k:=by
   unfold dropL
   rw [hin,hc];rfl
  rw [hdl]
  refine run ?_
  refine callB (fun wc hG=>tlbCopy_e es ds _ _ ((Sees.old h').good hG) ((Sees.old hd').good hG) (by omega) (by omega)) ?_
  rintro u1 hn1 ⟨v1,h1,v2,h2,rfl,hO1,hO2,hle1⟩
  obtain ⟨q3,c3,e3⟩:=hO1.opened
  obtain ⟨q4,c4,e4⟩:=hO2.opened
  rw [List.length_map] at e3 e4
  subst e3 e4
  refine ops_le (⟨R,#[.slice none 0 0,.slice none 0 0],77⟩::(h1++h2)) (by (refine hpLe_cnt fun a=>?_;have:=HpLe.cnt hle1 a;simp only [cntB_app,cntB_cons,cntB_nil] at *;omega)) ?_
  refine run ?_
  intro X
  refine run ?_
  refine callM h1 (⟨X,#[.slice q3 es.length c3,.slice q4 ds.length c4],77⟩::⟨R,#[.slice none 0 0,.slice none 0 0],77⟩::h2) (fun wc hG=>delete1_e es k (by omega) (by omega) hO1 hG.hereN) ?_ (by (refine perm_cnt fun a=>?_;simp only [cntB_app,cntB_cons,cntB_nil]<;>omega))
  rintro v5 h5 hO5
  obtain ⟨q5,c5,e5⟩:=hO5.opened
  subst e5
  refine ops_le (⟨X,#[.slice q3 es.length c3,.slice q4 ds.length c4],77⟩::⟨R,#[.slice none 0 0,.slice none 0 0],77⟩::(h5++h2)) (by (refine hpLe_cnt fun a=>?_;simp only [cntB_app,cntB_cons,cntB_nil]<;>omega)) ?_
  refine run ?_
  exact finA1 (cs:=#[.slice q5 ((es.eraseIdx k).map enV).length c5,.slice q4 ds.length c4]) ⟨_,h5,_,h2,rfl,fun _=>⟨hO5,hO2⟩,fun h=>absurd h (by simp),by (refine hpLe_cnt fun a=>?_;simp only [cntB_app,cntB_cons,cntB_nil]<;>omega)⟩
end
end Go.Proofs.YtndklbjnofdgeaaGreat
namespace Go.Proofs.YtndklbjnofdgeaaGreat
open Go.RowKit
set_option linter.unusedVariables false
set_option linter.unusedSimpArgs false
set_option maxRecDepth 20000
attribute [local irreducible] Hy St Ops DH DHF DE1 DE2 DE3 DS DCh DWF
abbrev wyC (c:AcC) (mv ev dv rv:Value):Array Value:=#[mv,ev,dv,.int .i64 c.pk.cpu,.bool c.pk.fill,.bool c.pk.mids,.bool c.pk.walk,.int .i64 c.pk.drop,.bool c.pk.use,.bool c.one.on,.int .i64 c.one.frame,.int .i64 c.one.tag,.bool c.two.on,.int .i64 c.two.frame,.int .i64 c.two.tag,.int .i64 (c.page:Int),.int .i64 c.acc,rv]
theorem Own.cap {e sz:Nat} {v:Value} {hb:Hp} {α:Type} {f:α→List Value} {xs:List α} (hA:Own e sz v hb (xs.map f)):∃ q c,v=.slice q xs.length c∧xs.length≤c:=by
 rcases hA.2 with ⟨e1,e2,_⟩ | ⟨g,cap,cur,e1,_,hrow⟩
 ·rw [List.map_eq_nil_iff] at e1
  subst e1
  exact ⟨none,0,e2,Nat.le_refl _⟩
 ·rw [List.length_map] at e1 hrow
  exact ⟨_,cap,e1,hrow.le⟩
theorem wyFill_e (c:AcC) {w:World} {Wb:Nat} {mv ev dv rv:Value} {he hd hr:Hp} (es:List EnD) (ds:List IvD) (hok:tlbOk es ds=true) (e:EnD) (hem:e.may=true) (hm:∃ q n cp,mv=.slice q n cp) (hr':∃ q n cp,rv=.slice q n cp)
  (h1:Own 114 14 ev he (es.map enV)) (h2:Own 121 4 dv hd (ds.map ivV)) (hN:HereN (⟨Wb,wyC c mv ev dv rv,194⟩::(he++hd++hr)) w):
  Fn Tryz.prog 168 [.pointer (some ⟨Wb,0,none⟩),.agg (enV e).toArray].toArray w (Wb::(he++hd++hr).map (·.b)) (fun u hn=>∃ ev' dv' he' hd',u=.tuple #[]∧Own 114 14 ev' he' ((fillL es e).map enV)∧Own 121 4 dv' hd' (ds.map ivV)∧HpLe (⟨Wb,wyC c mv ev' dv' rv,194⟩::(he'++hd'++hr)) hn):=by
 have hcap:=h1.cap
 have hle8:=(tlb_may hok).2
 obtain ⟨qm,nm,cm,rfl⟩:=hm
 obtain ⟨qr,nr,cr,rfl⟩:=hr'
 obtain ⟨qe,ce,ee⟩:=h1.opened
 obtain ⟨qd,cd,ed⟩:=h2.opened
 rw [List.length_map] at ee ed
 subst ee ed
 simp only [wyC] at hN ⊢
 refine enterM _ hN Tryz.func168 ?_
 refine run ?_
 intro B
 refine run ?_
 have hfl:=fun {wc:World} (ha:SlAt wc (.slice qe es.length ce) 14 (es.map enV)) (hb:SlAt wc (.slice qd ds.length cd) 4 (ds.map ivV))=>tFill_e ha hb hcap hok e hem
 refine drawED 10 [0,1,2,3,4,5] [6] [7,8,9] [10,11] [12] ?_
 refine runS ?_
 refine eCall (fun wc hG=>hfl (h1.lie (fun b hb=>hG.here b (by simp [hb])) (by rw [List.length_map];omega)) (h2.lie (fun b hb=>hG.here b (by simp [hb])) (by rw [List.length_map];omega))) (hfl (h1.lie (fun b hb=>hN.here b (by simp [hb])) (by rw [List.length_map];omega)) (h2.lie (fun b hb=>hN.here b (by simp [hb])) (by rw [List.length_map];omega))).some ?_
 refine eNil ?_
 rintro u5 hn5 ⟨v5,h5,v6,h6,rfl,hA5,hA6,hle5⟩
 obtain ⟨q5,c5,e5⟩:=hA5.opened
 obtain ⟨q6,c6,e6⟩:=hA6.opened
 rw [List.length_map] at e5 e6
 subst e5 e6
 refine dMove ?_
 refine dExtract ?_
 refine dExtract ?_
 refine dNil ?_
 refine dNilCheck ?_
 refine dField ?_
 refine dNil ?_
 simp only [DN,List.cons_append,List.nil_append,List.append_nil]
 refine cStore (b:=Wb) (tb:=194) (cs:=#[.slice qm nm cm,.slice qe es.length ce,.slice qd ds.length cd,.int .i64 c.pk.cpu,.bool c.pk.fill,.bool c.pk.mids,.bool c.pk.walk,.int .i64 c.pk.drop,.bool c.pk.use,.bool c.one.on,.int .i64 c.one.frame,.int .i64 c.one.tag,.bool c.two.on,.int .i64 c.two.frame,.int .i64 c.two.tag,.int .i64 (c.page:Int),.int .i64 c.acc,.slice qr nr cr]) (cs':=#[.slice qm nm cm,.slice q5 (fillL es e).length c5,.slice q6 ds.length c6,.int .i64 c.pk.cpu,.bool c.pk.fill,.bool c.pk.mids,.bool c.pk.walk,.int .i64 c.pk.drop,.bool c.pk.use,.bool c.one.on,.int .i64 c.one.frame,.int .i64 c.one.tag,.bool c.two.on,.int .i64 c.two.frame,.int .i64 c.two.tag,.int .i64 (c.page:Int),.int .i64 c.acc,.slice qr nr cr]) (hp':=hn5++(⟨B,(enV e).toArray,114⟩::(he++hd++hr))) ?_ (by (refine perm_cnt fun a=>?_;simp only [cntB_app,cntB_cons,cntB_nil]<;>omega))
 refine dc_nil ?_
 refine opsC ?_
 refine run ?_
 exact fin0 ⟨_,_,h5,h6,rfl,hA5,hA6,by (refine hpLe_cnt fun a=>?_;have:=HpLe.cnt hle5 a;simp only [cntB_app,cntB_cons,cntB_nil] at *;omega)⟩
theorem midL_hit (ws:List Nat) (frame:Int) (mid:Nat) (acc:Int):((midL ws true frame mid acc).f.kind=0→(midL ws true frame mid acc).h.mid=(mid:Int))∧((midL ws true frame mid acc).f.kind ≠ 0→(midL ws true frame mid acc).h.frame=0):=by
 simp only [midL,Bool.not_true,cond_false,midE]
 cases hc:decide ((midG (walk5 ws 2 frame mid) mid acc).kind=0) with
 | true=>exact ⟨fun _=>rfl,fun h=>absurd (of_decide_eq_true hc) h⟩
 | false=>exact ⟨fun h=>absurd h (of_decide_eq_false hc),fun _=>rfl⟩
theorem wyMid_e (c:AcC) (hk:AcOk c) (cap:Nat) (hcc:c.ws.length≤cap) {p:Option Addr} {w:World} {Wb:Nat} {ev dv rv:Value} {he hd hr:Hp} (s:AcS) (ds:List IvD) (mid:Nat) (hmid:mid≤4095) (acc:Int) (ha:PtD.btw acc 0 2=true) (hE:EsOk c.ws.length s.es ds) (hrl:s.rd.length<100000)
  (hm:Sees w (Wb::(he++hd++hr).map (·.b)) (.slice p c.ws.length cap) 1 (c.ws.map uV)) (h1:Own 114 14 ev he (s.es.map enV)) (h2:Own 121 4 dv hd (ds.map ivV)) (h3:Own 3 1 rv hr (s.rd.map inV)) (hN:HereN (⟨Wb,wyC c (.slice p c.ws.length cap) ev dv rv,194⟩::(he++hd++hr)) w):
  Fn Tryz.prog 165 [.pointer (some ⟨Wb,0,none⟩),.int .i64 (mid:Int),.int .i64 acc].toArray w (Wb::(he++hd++hr).map (·.b)) (fun u hn=>∃ (H:HtD) (ev' dv' rv':Value) (he' hd' hr':Hp),u=.tuple #[htV H,ftV (midA c s mid acc).f]∧(H.frame=(midA c s mid acc).n∧((midA c s mid acc).f.kind=0→H.mid=(mid:Int)∧(⟨H.r,H.w,H.x,H.af,H.ng⟩:AtD)=(midA c s mid acc).a))∧Own 114 14 ev' he' ((midA c s mid acc).s.es.map enV)∧Own 121 4 dv' hd' (ds.map ivV)∧Own 3 1 rv' hr' ((midA c s mid acc).s.rd.map inV)∧HpLe (⟨Wb,wyC c (.slice p c.ws.length cap) ev' dv' rv',194⟩::(he'++hd'++hr')) hn):=by
 have hcap:=h1.cap
 obtain ⟨qe,ce,ee⟩:=h1.opened
 obtain ⟨qd,cd,ed⟩:=h2.opened
 obtain ⟨qr,cr,er⟩:=h3.opened
 rw [List.length_map] at ee ed er
 subst ee ed er
 simp only [wyC] at hN ⊢
 have hmi:=memOk_iff hk.mem
 have hem:=hE.may
 have htw:=RtD.may_iff hk.two
 refine enterM _ hN Tryz.func165 ?_
 refine run ?_
 intro R1 R2
 refine run ?_
 refine st_cutD (σ:=Unit) (fun _=>[]) (fun _=>⟨R2,#[.int .i64 0,.int .i64 0,.int .i64 0,.bool false,.int .i64 0],43⟩::⟨R1,#[.int .i64 0,.int .i64 0,.bool false,.bool false,.bool false,.bool false,.bool false,.int .i64 0,.int .i64 0],234⟩::⟨Wb,#[.slice p c.ws.length cap,.slice qe s.es.length ce,.slice qd ds.length cd,.int .i64 c.pk.cpu,.bool c.pk.fill,.bool c.pk.mids,.bool c.pk.walk,.int .i64 c.pk.drop,.bool c.pk.use,.bool c.one.on,.int .i64 c.one.frame,.int .i64 c.one.tag,.bool c.two.on,.int .i64 c.two.frame,.int .i64 c.two.tag,.int .i64 (c.page:Int),.int .i64 c.acc,.slice qr s.rd.length cr],194⟩::(he++hd++hr)) (fun _=>(c.pk.use && decide (0≤midI c s mid acc))=false) ?_ ?_
 ·refine st_cond _ rfl (fun hc=>?_) (fun hc=>?_)
  ·refine run ?_
   have hmm:=fun {wc:World} (ha1:SlAt wc (.slice qe s.es.length ce) 14 (s.es.map enV)) (hb1:SlAt wc (.slice qd ds.length cd) 4 (ds.map ivV))=>tMid_e ha1 hb1 hcap hE.tlb c.two.tag mid acc (btwT htw.2.1 htw.2.2) hmid ha
   rw [fndV_eq,show idxI (pMid c.two.tag mid acc) s.es=midI c s mid acc from rfl] at hmm
   obtain ⟨E,hEE⟩:∃ E,E=(bif decide (0≤midI c s mid acc) then s.es.getD (midI c s mid acc).toNat default else default):=⟨_,rfl⟩
   rw [← hEE] at hmm
   refine drawEC 17 16 [0,1,2,3,4,5,6,7,8,9,10,11,12,13,14] [15] [16] (⟨R2,#[.int .i64 0,.int .i64 0,.int .i64 0,.bool false,.int .i64 0],43⟩::⟨R1,#[.int .i64 0,.int .i64 0,.bool false,.bool false,.bool false,.bool false,.bool false,.int .i64 0,.int .i64 0],234⟩::⟨Wb,#[.slice p c.ws.length cap,.slice qe s.es.length ce,.slice qd ds.length cd,.int .i64 c.pk.cpu,.bool c.pk.fill,.bool c.pk.mids,.bool c.pk.walk,.int .i64 c.pk.drop,.bool c.pk.use,.bool c.one.on,.int .i64 c.one.frame,.int .i64 c.one.tag,.bool c.two.on,.int .i64 c.two.frame,.int .i64 c.two.tag,.int .i64 (c.page:Int),.int .i64 c.acc,.slice qr s.rd.length cr],194⟩::(he++hd++hr)) ?_
   refine runZ ?_
   refine sCallA (fun wc hx hG=>hmm (h1.lie (fun b hb=>hG.here b (by simp [hb])) (by rw [List.length_map];omega)) (h2.lie (fun b hb=>hG.here b (by simp [hb])) (by rw [List.length_map];omega))) ?_
   refine runZ ?_
   refine eAlloc ?_
   refine eNil ?_
   rintro _ _ ⟨X,rfl,rfl⟩
   simp only [DN,List.cons_append,List.nil_append,List.append_nil]
   refine cStore (b:=X) (tb:=114) (cs:=#[.int .i64 0,.int .i64 0,.int .i64 0,.bool false,.int .i64 0,.int .i64 0,.int .i64 0,.int .i64 0,.bool false,.bool false,.bool false,.bool false,.bool false,.int .i64 0]) (cs':=#[.int .i64 E.kind,.int .i64 E.vmid,.int .i64 E.asid,.bool E.all,.int .i64 E.page,.int .i64 E.level,.int .i64 E.frame,.int .i64 E.mid,.bool E.r,.bool E.w,.bool E.x,.bool E.af,.bool E.ng,.int .i64 E.soft]) (hp':=⟨R2,#[.int .i64 0,.int .i64 0,.int .i64 0,.bool false,.int .i64 0],43⟩::⟨R1,#[.int .i64 0,.int .i64 0,.bool false,.bool false,.bool false,.bool false,.bool false,.int .i64 0,.int .i64 0],234⟩::⟨Wb,#[.slice p c.ws.length cap,.slice qe s.es.length ce,.slice qd ds.length cd,.int .i64 c.pk.cpu,.bool c.pk.fill,.bool c.pk.mids,.bool c.pk.walk,.int .i64 c.pk.drop,.bool c.pk.use,.bool c.one.on,.int .i64 c.one.frame,.int .i64 c.one.tag,.bool c.two.on,.int .i64 c.two.frame,.int .i64 c.two.tag,.int .i64 (c.page:Int),.int .i64 c.acc,.slice qr s.rd.length cr],194⟩::(he++hd++hr)) ?_ (List.Perm.refl _)
   refine dc_nil ?_
   refine opsC ?_
   refine run ?_
   refine st_cond _ rfl (fun hc2=>?_) (fun hc2=>?_)
   ·have h0:0≤midI c s mid acc:=by
     cases hq:decide (0≤midI c s mid acc) with
     | true=>exact of_decide_eq_true hq
     | false=>rw [hq] at hc2;simp at hc2
    have hmA:midA c s mid acc=⟨s,E.frame,atE E,noFt⟩:=by rw [hEE];simp only [midA,hc,h0,decide_true,Bool.and_self,cond_true]
    rw [hmA]
    refine run ?_
    exact finAA2 (cs:=#[.int .i64 E.frame,.int .i64 (mid:Int),.bool E.r,.bool E.w,.bool E.x,.bool E.af,.bool E.ng,.int .i64 E.soft,.int .i64 0]) (cs2:=#[.int .i64 0,.int .i64 0,.int .i64 0,.bool false,.int .i64 0]) ⟨⟨E.frame,mid,E.r,E.w,E.x,E.af,E.ng,E.soft,0⟩,_,_,_,he,hd,hr,rfl,⟨rfl,fun _=>⟨rfl,rfl⟩⟩,h1,h2,h3,by (refine hpLe_cnt fun a=>?_;simp only [cntB_app,cntB_cons,cntB_nil]<;>omega)⟩
   ·refine run ?_
    exact meetS () (by
     rw [hc,Bool.true_and]
     cases hq:decide (0≤midI c s mid acc) with
     | false=>rfl
     | true=>rw [hq] at hc2;simp at hc2)
  ·refine run ?_
   exact meetS () (by rw [hc];rfl)
 rintro ⟨⟩ hcut
 have hmA:midA c s mid acc=midF c s mid (midL c.ws true c.two.frame mid acc):=by simp only [midA,hcut,cond_false]
 rw [hmA]
 have hcl:∀ {wc:World},SlAt wc (.slice p c.ws.length cap) 1 (c.ws.map uV)→Fn Tryz.prog 194 [.agg #[.slice p c.ws.length cap],.agg #[.bool c.two.on,.int .i64 c.two.frame,.int .i64 c.two.tag],.int .i64 (mid:Int),.int .i64 acc].toArray wc [] (fun u hn=>∃ rv' hr',u=.tuple #[htV (midL c.ws true c.two.frame mid acc).h,ftV (midL c.ws true c.two.frame mid acc).f,rv',.int .i64 0]∧Own 3 1 rv' hr' ((midL c.ws true c.two.frame mid acc).rd.map inV)∧HpLe hr' hn):=fun h=>by
  rw [hk.on]
  exact nMid_e c.ws hk.w64 cap hk.mem hcc h c.two.frame c.two.tag htw.1.1 htw.1.2 mid hmid acc ha
 refine run ?_
 refine drawED 18 [0,1,2,3,4,5,6,7,8,9] [10,16,17] [11,12,13,14,15] [20,21] [18,19] ?_
 refine runS ?_
 refine eCall (fun wc hG=>hcl (hm.good hG)) (hcl hm.at_).some ?_
 refine eAlloc ?_
 refine eAlloc ?_
 refine eNil ?_
 rintro _ _ ⟨F,rfl,rfl⟩ _ _ ⟨H,rfl,rfl⟩ u hn2 ⟨v2,h2',rfl,hO,hle2⟩
 have hL4:=midL_rd c.ws c.two.frame mid acc
 have hLok:=midL_ok (ws:=c.ws) (frame:=c.two.frame) (mid:=mid) (acc:=acc)
 have hLh:=midL_hit c.ws c.two.frame mid acc
 generalize midL c.ws true c.two.frame mid acc=L at hO hL4 hLok hLh ⊢
 obtain ⟨q2,c2,e2⟩:=hO.opened
 rw [List.length_map] at e2
 subst e2
 refine dMove ?_
 refine dExtract ?_
 refine dExtract ?_
 refine dExtract ?_
 refine dExtract ?_
 refine dNil ?_
 refine dAssign ?_
 refine dAssign ?_
 refine dNil ?_
 simp only [DN,List.cons_append,List.nil_append,List.append_nil]
 refine cStore (b:=H) (tb:=234) (cs:=#[.int .i64 0,.int .i64 0,.bool false,.bool false,.bool false,.bool false,.bool false,.int .i64 0,.int .i64 0]) (cs':=#[.int .i64 L.h.frame,.int .i64 L.h.mid,.bool L.h.r,.bool L.h.w,.bool L.h.x,.bool L.h.af,.bool L.h.ng,.int .i64 L.h.soft,.int .i64 L.h.level]) (hp':=⟨F,#[.int .i64 0,.int .i64 0,.int .i64 0,.bool false,.int .i64 0],43⟩::(hn2++(⟨R2,#[.int .i64 0,.int .i64 0,.int .i64 0,.bool false,.int .i64 0],43⟩::⟨R1,#[.int .i64 0,.int .i64 0,.bool false,.bool false,.bool false,.bool false,.bool false,.int .i64 0,.int .i64 0],234⟩::⟨Wb,#[.slice p c.ws.length cap,.slice qe s.es.length ce,.slice qd ds.length cd,.int .i64 c.pk.cpu,.bool c.pk.fill,.bool c.pk.mids,.bool c.pk.walk,.int .i64 c.pk.drop,.bool c.pk.use,.bool c.one.on,.int .i64 c.one.frame,.int .i64 c.one.tag,.bool c.two.on,.int .i64 c.two.frame,.int .i64 c.two.tag,.int .i64 (c.page:Int),.int .i64 c.acc,.slice qr s.rd.length cr],194⟩::(he++hd++hr)))) ?_ (by (refine perm_cnt fun a=>?_;simp only [cntB_app,cntB_cons,cntB_nil]<;>omega))
 refine cStore (b:=F) (tb:=43) (cs:=#[.int .i64 0,.int .i64 0,.int .i64 0,.bool false,.int .i64 0]) (cs':=#[.int .i64 L.f.kind,.int .i64 L.f.stage,.int .i64 L.f.level,.bool L.f.walk,.int .i64 L.f.page]) (hp':=⟨H,#[.int .i64 L.h.frame,.int .i64 L.h.mid,.bool L.h.r,.bool L.h.w,.bool L.h.x,.bool L.h.af,.bool L.h.ng,.int .i64 L.h.soft,.int .i64 L.h.level],234⟩::(hn2++(⟨R2,#[.int .i64 0,.int .i64 0,.int .i64 0,.bool false,.int .i64 0],43⟩::⟨R1,#[.int .i64 0,.int .i64 0,.bool false,.bool false,.bool false,.bool false,.bool false,.int .i64 0,.int .i64 0],234⟩::⟨Wb,#[.slice p c.ws.length cap,.slice qe s.es.length ce,.slice qd ds.length cd,.int .i64 c.pk.cpu,.bool c.pk.fill,.bool c.pk.mids,.bool c.pk.walk,.int .i64 c.pk.drop,.bool c.pk.use,.bool c.one.on,.int .i64 c.one.frame,.int .i64 c.one.tag,.bool c.two.on,.int .i64 c.two.frame,.int .i64 c.two.tag,.int .i64 (c.page:Int),.int .i64 c.acc,.slice qr s.rd.length cr],194⟩::(he++hd++hr)))) ?_ (by (refine perm_cnt fun a=>?_;simp only [cntB_app,cntB_cons,cntB_nil]<;>omega))
 refine dc_nil ?_
 refine opsC ?_
 refine ops_le (⟨F,#[.int .i64 L.f.kind,.int .i64 L.f.stage,.int .i64 L.f.level,.bool L.f.walk,.int .i64 L.f.page],43⟩::⟨H,#[.int .i64 L.h.frame,.int .i64 L.h.mid,.bool L.h.r,.bool L.h.w,.bool L.h.x,.bool L.h.af,.bool L.h.ng,.int .i64 L.h.soft,.int .i64 L.h.level],234⟩::⟨R2,#[.int .i64 0,.int .i64 0,.int .i64 0,.bool false,.int .i64 0],43⟩::⟨R1,#[.int .i64 0,.int .i64 0,.bool false,.bool false,.bool false,.bool false,.bool false,.int .i64 0,.int .i64 0],234⟩::⟨Wb,#[.slice p c.ws.length cap,.slice qe s.es.length ce,.slice qd ds.length cd,.int .i64 c.pk.cpu,.bool c.pk.fill,.bool c.pk.mids,.bool c.pk.walk,.int .i64 c.pk.drop,.bool c.pk.use,.bool c.one.on,.int .i64 c.one.frame,.int .i64 c.one.tag,.bool c.two.on,.int .i64 c.two.frame,.int .i64 c.two.tag,.int .i64 (c.page:Int),.int .i64 c.acc,.slice qr s.rd.length cr],194⟩::(he++hd++hr++h2')) (by (refine hpLe_cnt fun a=>?_;have:=HpLe.cnt hle2 a;simp only [cntB_app,cntB_cons,cntB_nil] at *;omega)) ?_
 refine run ?_
 refine appendG (L.rd.map inV) (⟨F,#[.int .i64 L.f.kind,.int .i64 L.f.stage,.int .i64 L.f.level,.bool L.f.walk,.int .i64 L.f.page],43⟩::⟨H,#[.int .i64 L.h.frame,.int .i64 L.h.mid,.bool L.h.r,.bool L.h.w,.bool L.h.x,.bool L.h.af,.bool L.h.ng,.int .i64 L.h.soft,.int .i64 L.h.level],234⟩::⟨R2,#[.int .i64 0,.int .i64 0,.int .i64 0,.bool false,.int .i64 0],43⟩::⟨R1,#[.int .i64 0,.int .i64 0,.bool false,.bool false,.bool false,.bool false,.bool false,.int .i64 0,.int .i64 0],234⟩::⟨Wb,#[.slice p c.ws.length cap,.slice qe s.es.length ce,.slice qd ds.length cd,.int .i64 c.pk.cpu,.bool c.pk.fill,.bool c.pk.mids,.bool c.pk.walk,.int .i64 c.pk.drop,.bool c.pk.use,.bool c.one.on,.int .i64 c.one.frame,.int .i64 c.one.tag,.bool c.two.on,.int .i64 c.two.frame,.int .i64 c.two.tag,.int .i64 (c.page:Int),.int .i64 c.acc,.slice qr s.rd.length cr],194⟩::(he++hd++h2')) h3 (SrcAt.own hO (by (refine hpLe_cnt fun a=>?_;simp only [cntB_app,cntB_cons,cntB_nil]<;>omega))) (fun v4 h4 hO4=>?_) (by simp only [List.length_map];omega) (fun c hc=>by obtain ⟨x,_,rfl⟩:=List.mem_map.1 hc;exact ⟨rfl,rfl⟩) (hperm:=by (refine perm_cnt fun a=>?_;simp only [cntB_app,cntB_cons,cntB_nil]<;>omega))
 rw [← List.map_append] at hO4
 obtain ⟨q4,c4,e4⟩:=hO4.opened
 rw [List.length_map] at e4
 subst e4
 refine ops_le (⟨F,#[.int .i64 L.f.kind,.int .i64 L.f.stage,.int .i64 L.f.level,.bool L.f.walk,.int .i64 L.f.page],43⟩::⟨H,#[.int .i64 L.h.frame,.int .i64 L.h.mid,.bool L.h.r,.bool L.h.w,.bool L.h.x,.bool L.h.af,.bool L.h.ng,.int .i64 L.h.soft,.int .i64 L.h.level],234⟩::⟨R2,#[.int .i64 0,.int .i64 0,.int .i64 0,.bool false,.int .i64 0],43⟩::⟨R1,#[.int .i64 0,.int .i64 0,.bool false,.bool false,.bool false,.bool false,.bool false,.int .i64 0,.int .i64 0],234⟩::⟨Wb,#[.slice p c.ws.length cap,.slice qe s.es.length ce,.slice qd ds.length cd,.int .i64 c.pk.cpu,.bool c.pk.fill,.bool c.pk.mids,.bool c.pk.walk,.int .i64 c.pk.drop,.bool c.pk.use,.bool c.one.on,.int .i64 c.one.frame,.int .i64 c.one.tag,.bool c.two.on,.int .i64 c.two.frame,.int .i64 c.two.tag,.int .i64 (c.page:Int),.int .i64 c.acc,.slice qr s.rd.length cr],194⟩::(he++hd++h4)) (by (refine hpLe_cnt fun a=>?_;simp only [cntB_app,cntB_cons,cntB_nil]<;>omega)) ?_
 refine runG ?_
 obtain ⟨es',hes⟩:∃ es',es'=(bif decide (L.f.kind=0) && c.pk.mids then fillL s.es (entM c.two.tag mid L.h) else s.es):=⟨_,rfl⟩
 have hYs:midF c s mid L=⟨⟨es',s.rd++L.rd⟩,L.h.frame,bif decide (L.f.kind=0) then ⟨L.h.r,L.h.w,L.h.x,L.h.af,L.h.ng⟩ else noAt,L.f⟩:=by
  rw [hes]
  unfold midF
  cases hc:decide (L.f.kind=0) with
  | true=>rfl
  | false=>
   simp only [Bool.not_false,cond_true,cond_false,Bool.false_and]
   rw [hLh.2 (of_decide_eq_false hc)]
 rw [hYs]
 dsimp only
 refine st_cutD (σ:=Value × Value × Hp × Hp) (fun _=>[]) (fun z=>⟨F,#[.int .i64 L.f.kind,.int .i64 L.f.stage,.int .i64 L.f.level,.bool L.f.walk,.int .i64 L.f.page],43⟩::⟨H,#[.int .i64 L.h.frame,.int .i64 L.h.mid,.bool L.h.r,.bool L.h.w,.bool L.h.x,.bool L.h.af,.bool L.h.ng,.int .i64 L.h.soft,.int .i64 L.h.level],234⟩::⟨R2,#[.int .i64 0,.int .i64 0,.int .i64 0,.bool false,.int .i64 0],43⟩::⟨R1,#[.int .i64 0,.int .i64 0,.bool false,.bool false,.bool false,.bool false,.bool false,.int .i64 0,.int .i64 0],234⟩::⟨Wb,#[.slice p c.ws.length cap,z.1,z.2.1,.int .i64 c.pk.cpu,.bool c.pk.fill,.bool c.pk.mids,.bool c.pk.walk,.int .i64 c.pk.drop,.bool c.pk.use,.bool c.one.on,.int .i64 c.one.frame,.int .i64 c.one.tag,.bool c.two.on,.int .i64 c.two.frame,.int .i64 c.two.tag,.int .i64 (c.page:Int),.int .i64 c.acc,.slice q4 (s.rd++L.rd).length c4],194⟩::(z.2.2.1++z.2.2.2++h4)) (fun z=>Own 114 14 z.1 z.2.2.1 (es'.map enV)∧Own 121 4 z.2.1 z.2.2.2 (ds.map ivV)) ?_ ?_
 ·refine st_cond _ rfl (fun hc=>?_) (fun hc=>?_)
  ·rw [hc,cond_true] at hes
   subst hes
   rw [Bool.and_eq_true] at hc
   obtain ⟨hLf,hLn,hLg⟩:=hLok (of_decide_eq_true hc.1)
   refine run ?_
   refine drawEC 13 12 [0,1,2,3,4,5,6,7,8,9,10] [11] [12] (⟨Wb,#[.slice p c.ws.length cap,.slice qe s.es.length ce,.slice qd ds.length cd,.int .i64 c.pk.cpu,.bool c.pk.fill,.bool c.pk.mids,.bool c.pk.walk,.int .i64 c.pk.drop,.bool c.pk.use,.bool c.one.on,.int .i64 c.one.frame,.int .i64 c.one.tag,.bool c.two.on,.int .i64 c.two.frame,.int .i64 c.two.tag,.int .i64 (c.page:Int),.int .i64 c.acc,.slice q4 (s.rd++L.rd).length c4],194⟩::⟨F,#[.int .i64 L.f.kind,.int .i64 L.f.stage,.int .i64 L.f.level,.bool L.f.walk,.int .i64 L.f.page],43⟩::⟨H,#[.int .i64 L.h.frame,.int .i64 L.h.mid,.bool L.h.r,.bool L.h.w,.bool L.h.x,.bool L.h.af,.bool L.h.ng,.int .i64 L.h.soft,.int .i64 L.h.level],234⟩::⟨R2,#[.int .i64 0,.int .i64 0,.int .i64 0,.bool false,.int .i64 0],43⟩::⟨R1,#[.int .i64 0,.int .i64 0,.bool false,.bool false,.bool false,.bool false,.bool false,.int .i64 0,.int .i64 0],234⟩::(he++hd++h4)) ?_
   refine runZ ?_
   refine eAlloc ?_
   refine eNil ?_
   rintro _ _ ⟨X,rfl,rfl⟩
   simp only [DN,List.cons_append,List.nil_append,List.append_nil]
   refine cStore (b:=X) (tb:=114) (cs:=#[.int .i64 0,.int .i64 0,.int .i64 0,.bool false,.int .i64 0,.int .i64 0,.int .i64 0,.int .i64 0,.bool false,.bool false,.bool false,.bool false,.bool false,.int .i64 0]) (cs':=#[.int .i64 2,.int .i64 c.two.tag,.int .i64 0,.bool true,.int .i64 (mid:Int),.int .i64 0,.int .i64 L.h.frame,.int .i64 0,.bool L.h.r,.bool L.h.w,.bool L.h.x,.bool L.h.af,.bool L.h.ng,.int .i64 L.h.soft]) (hp':=⟨Wb,#[.slice p c.ws.length cap,.slice qe s.es.length ce,.slice qd ds.length cd,.int .i64 c.pk.cpu,.bool c.pk.fill,.bool c.pk.mids,.bool c.pk.walk,.int .i64 c.pk.drop,.bool c.pk.use,.bool c.one.on,.int .i64 c.one.frame,.int .i64 c.one.tag,.bool c.two.on,.int .i64 c.two.frame,.int .i64 c.two.tag,.int .i64 (c.page:Int),.int .i64 c.acc,.slice q4 (s.rd++L.rd).length c4],194⟩::⟨F,#[.int .i64 L.f.kind,.int .i64 L.f.stage,.int .i64 L.f.level,.bool L.f.walk,.int .i64 L.f.page],43⟩::⟨H,#[.int .i64 L.h.frame,.int .i64 L.h.mid,.bool L.h.r,.bool L.h.w,.bool L.h.x,.bool L.h.af,.bool L.h.ng,.int .i64 L.h.soft,.int .i64 L.h.level],234⟩::⟨R2,#[.int .i64 0,.int .i64 0,.int .i64 0,.bool false,.int .i64 0],43⟩::⟨R1,#[.int .i64 0,.int .i64 0,.bool false,.bool false,.bool false,.bool false,.bool false,.int .i64 0,.int .i64 0],234⟩::(he++hd++h4)) ?_ (List.Perm.refl _)
   refine dc_nil ?_
   refine opsC ?_
   refine run ?_
   have hen:entM c.two.tag mid L.h=⟨2,c.two.tag,0,true,mid,0,L.h.frame,0,L.h.r,L.h.w,L.h.x,L.h.af,false,0⟩:=by unfold entM;rw [hLg]
   have hmay:=entM_may hk hmid hLf hLg
   rw [hen] at hmay ⊢
   refine callM (⟨Wb,#[.slice p c.ws.length cap,.slice qe s.es.length ce,.slice qd ds.length cd,.int .i64 c.pk.cpu,.bool c.pk.fill,.bool c.pk.mids,.bool c.pk.walk,.int .i64 c.pk.drop,.bool c.pk.use,.bool c.one.on,.int .i64 c.one.frame,.int .i64 c.one.tag,.bool c.two.on,.int .i64 c.two.frame,.int .i64 c.two.tag,.int .i64 (c.page:Int),.int .i64 c.acc,.slice q4 (s.rd++L.rd).length c4],194⟩::(he++hd++h4)) (⟨X,#[.int .i64 2,.int .i64 c.two.tag,.int .i64 0,.bool true,.int .i64 (mid:Int),.int .i64 0,.int .i64 L.h.frame,.int .i64 0,.bool L.h.r,.bool L.h.w,.bool L.h.x,.bool L.h.af,.bool false,.int .i64 0],114⟩::⟨F,#[.int .i64 L.f.kind,.int .i64 L.f.stage,.int .i64 L.f.level,.bool L.f.walk,.int .i64 L.f.page],43⟩::⟨H,#[.int .i64 L.h.frame,.int .i64 L.h.mid,.bool L.h.r,.bool L.h.w,.bool L.h.x,.bool L.h.af,.bool L.h.ng,.int .i64 L.h.soft,.int .i64 L.h.level],234⟩::[⟨R2,#[.int .i64 0,.int .i64 0,.int .i64 0,.bool false,.int .i64 0],43⟩,⟨R1,#[.int .i64 0,.int .i64 0,.bool false,.bool false,.bool false,.bool false,.bool false,.int .i64 0,.int .i64 0],234⟩]) (fun wc hG=>wyFill_e c s.es ds hE.tlb ⟨2,c.two.tag,0,true,mid,0,L.h.frame,0,L.h.r,L.h.w,L.h.x,L.h.af,false,0⟩ hmay ⟨_,_,_,rfl⟩ ⟨_,_,_,rfl⟩ h1 h2 hG.hereN) ?_ (by (refine perm_cnt fun a=>?_;simp only [cntB_app,cntB_cons,cntB_nil]<;>omega))
   rintro u7 hn7 ⟨ev7,dv7,he7,hd7,rfl,h17,h27,hle7⟩
   simp only [wyC] at hle7
   refine run ?_
   exact meetS (ev7,dv7,he7,hd7) ⟨h17,h27⟩ (h2:=by (refine hpLe_cnt fun a=>?_;have:=HpLe.cnt hle7 a;simp only [cntB_app,cntB_cons,cntB_nil] at *;omega))
  ·rw [hc,cond_false] at hes
   subst hes
   refine run ?_
   exact meetS (.slice qe s.es.length ce,.slice qd ds.length cd,he,hd) ⟨h1,h2⟩ (h2:=by (refine hpLe_cnt fun a=>?_;simp only [cntB_app,cntB_cons,cntB_nil]<;>omega))
 rintro ⟨ev2,dv2,he2,hd2⟩ ⟨h1',h2''⟩
 dsimp only at h1' h2'' ⊢
 refine run ?_
 refine drawC 4 2 [0,1] [2,3] (⟨F,#[.int .i64 L.f.kind,.int .i64 L.f.stage,.int .i64 L.f.level,.bool L.f.walk,.int .i64 L.f.page],43⟩::⟨H,#[.int .i64 L.h.frame,.int .i64 L.h.mid,.bool L.h.r,.bool L.h.w,.bool L.h.x,.bool L.h.af,.bool L.h.ng,.int .i64 L.h.soft,.int .i64 L.h.level],234⟩::⟨Wb,#[.slice p c.ws.length cap,ev2,dv2,.int .i64 c.pk.cpu,.bool c.pk.fill,.bool c.pk.mids,.bool c.pk.walk,.int .i64 c.pk.drop,.bool c.pk.use,.bool c.one.on,.int .i64 c.one.frame,.int .i64 c.one.tag,.bool c.two.on,.int .i64 c.two.frame,.int .i64 c.two.tag,.int .i64 (c.page:Int),.int .i64 c.acc,.slice q4 (s.rd++L.rd).length c4],194⟩::(he2++hd2++h4)) ?_
 refine runZ ?_
 refine cStore (b:=R1) (tb:=234) (cs:=#[.int .i64 0,.int .i64 0,.bool false,.bool false,.bool false,.bool false,.bool false,.int .i64 0,.int .i64 0]) (cs':=#[.int .i64 L.h.frame,.int .i64 L.h.mid,.bool L.h.r,.bool L.h.w,.bool L.h.x,.bool L.h.af,.bool L.h.ng,.int .i64 L.h.soft,.int .i64 L.h.level]) (hp':=⟨R2,#[.int .i64 0,.int .i64 0,.int .i64 0,.bool false,.int .i64 0],43⟩::⟨F,#[.int .i64 L.f.kind,.int .i64 L.f.stage,.int .i64 L.f.level,.bool L.f.walk,.int .i64 L.f.page],43⟩::⟨H,#[.int .i64 L.h.frame,.int .i64 L.h.mid,.bool L.h.r,.bool L.h.w,.bool L.h.x,.bool L.h.af,.bool L.h.ng,.int .i64 L.h.soft,.int .i64 L.h.level],234⟩::⟨Wb,#[.slice p c.ws.length cap,ev2,dv2,.int .i64 c.pk.cpu,.bool c.pk.fill,.bool c.pk.mids,.bool c.pk.walk,.int .i64 c.pk.drop,.bool c.pk.use,.bool c.one.on,.int .i64 c.one.frame,.int .i64 c.one.tag,.bool c.two.on,.int .i64 c.two.frame,.int .i64 c.two.tag,.int .i64 (c.page:Int),.int .i64 c.acc,.slice q4 (s.rd++L.rd).length c4],194⟩::(he2++hd2++h4)) ?_ (by (refine perm_cnt fun a=>?_;simp only [cntB_app,cntB_cons,cntB_nil]<;>omega))
 refine cStore (b:=R2) (tb:=43) (cs:=#[.int .i64 0,.int .i64 0,.int .i64 0,.bool false,.int .i64 0]) (cs':=#[.int .i64 L.f.kind,.int .i64 L.f.stage,.int .i64 L.f.level,.bool L.f.walk,.int .i64 L.f.page]) (hp':=⟨R1,#[.int .i64 L.h.frame,.int .i64 L.h.mid,.bool L.h.r,.bool L.h.w,.bool L.h.x,.bool L.h.af,.bool L.h.ng,.int .i64 L.h.soft,.int .i64 L.h.level],234⟩::⟨F,#[.int .i64 L.f.kind,.int .i64 L.f.stage,.int .i64 L.f.level,.bool L.f.walk,.int .i64 L.f.page],43⟩::⟨H,#[.int .i64 L.h.frame,.int .i64 L.h.mid,.bool L.h.r,.bool L.h.w,.bool L.h.x,.bool L.h.af,.bool L.h.ng,.int .i64 L.h.soft,.int .i64 L.h.level],234⟩::⟨Wb,#[.slice p c.ws.length cap,ev2,dv2,.int .i64 c.pk.cpu,.bool c.pk.fill,.bool c.pk.mids,.bool c.pk.walk,.int .i64 c.pk.drop,.bool c.pk.use,.bool c.one.on,.int .i64 c.one.frame,.int .i64 c.one.tag,.bool c.two.on,.int .i64 c.two.frame,.int .i64 c.two.tag,.int .i64 (c.page:Int),.int .i64 c.acc,.slice q4 (s.rd++L.rd).length c4],194⟩::(he2++hd2++h4)) ?_ (by (refine perm_cnt fun a=>?_;simp only [cntB_app,cntB_cons,cntB_nil]<;>omega))
 refine dc_nil ?_
 refine opsC ?_
 refine run ?_
 exact finAA2 (cs:=#[.int .i64 L.h.frame,.int .i64 L.h.mid,.bool L.h.r,.bool L.h.w,.bool L.h.x,.bool L.h.af,.bool L.h.ng,.int .i64 L.h.soft,.int .i64 L.h.level]) (cs2:=#[.int .i64 L.f.kind,.int .i64 L.f.stage,.int .i64 L.f.level,.bool L.f.walk,.int .i64 L.f.page]) ⟨L.h,_,_,_,he2,hd2,h4,rfl,⟨rfl,fun hk0=>⟨hLh.1 hk0,by rw [show decide (L.f.kind=0)=true from decide_eq_true hk0];rfl⟩⟩,h1',h2'',hO4,by (refine hpLe_cnt fun a=>?_;simp only [cntB_app,cntB_cons,cntB_nil]<;>omega)⟩
end Go.Proofs.YtndklbjnofdgeaaGreat
namespace Go.Proofs.YtndklbjnofdgeaaGreat
open Go.RowKit
set_option linter.unusedVariables false
set_option linter.unusedSimpArgs false
set_option maxRecDepth 20000
attribute [local irreducible] Hy St Ops DH DHF DE1 DE2 DE3 DS DCh DWF
theorem finTTA {fn:Func} {R:Value→Hp→Prop} {l:Fm} {hp:Hp} {s0 s1 a t b:Nat} {cs:Array Value} {tb:TypeId} {v v1:Value} (h:R (.tuple #[v,v1,.agg cs]) hp) (hr:fn.results=#[.tmp s0,.tmp s1,.cell a t]:=by rfl) (h0:look l s0=some v:=by rfl) (h1:look l s1=some v1:=by rfl) (hv:look l a=some (.pointer (some ⟨b,0,none⟩)):=by rfl) (hag:mem Tb.ag t=true:=by rfl) (hm:(⟨b,cs,tb⟩:Blk)∈hp:=by (first | (with_reducible apply mh) | (focus ((repeat (first | (with_reducible apply mh) | (with_reducible apply mt) | (with_reducible apply List.mem_append_right)));done)))) (hz:lk Tb.sz t=some cs.size:=by rfl):Fin Tryz.prog fn R .ret l hp:=
 ⟨.inl rfl,[v,v1,.agg cs],by rw [hr];exact ⟨h0,h1,⟨⟨b,cs,tb⟩,hm,hv,.inr ⟨tb_ok.gag hag,tb_ok.gsz hz,rfl⟩⟩,trivial⟩,h⟩
theorem wyTable_e (c:AcC) (hk:AcOk c) (cap:Nat) (hcc:c.ws.length≤cap) {p:Option Addr} {w:World} {Wb:Nat} {ev dv rv:Value} {he hd hr:Hp} (s:AcS) (ds:List IvD) (mid level:Nat) (hmid:mid≤4095) (hlv:level≤3) (hE:EsOk c.ws.length s.es ds) (hrl:s.rd.length<90000)
  (hm:Sees w (Wb::(he++hd++hr).map (·.b)) (.slice p c.ws.length cap) 1 (c.ws.map uV)) (h1:Own 114 14 ev he (s.es.map enV)) (h2:Own 121 4 dv hd (ds.map ivV)) (h3:Own 3 1 rv hr (s.rd.map inV)) (hN:HereN (⟨Wb,wyC c (.slice p c.ws.length cap) ev dv rv,194⟩::(he++hd++hr)) w):
  Fn Tryz.prog 199 [.pointer (some ⟨Wb,0,none⟩),.int .i64 (mid:Int),.int .i64 (level:Int)].toArray w (Wb::(he++hd++hr).map (·.b)) (fun u hn=>∃ (lv:Int) (ev' dv' rv':Value) (he' hd' hr':Hp),u=.tuple #[.int .i64 (tblA c s mid level).n,.int .i64 lv,ftV (tblA c s mid level).f]∧((tblA c s mid level).f.kind=0→lv=(level:Int))∧Own 114 14 ev' he' ((tblA c s mid level).s.es.map enV)∧Own 121 4 dv' hd' (ds.map ivV)∧Own 3 1 rv' hr' ((tblA c s mid level).s.rd.map inV)∧HpLe (⟨Wb,wyC c (.slice p c.ws.length cap) ev' dv' rv',194⟩::(he'++hd'++hr')) hn):=by
 simp only [wyC] at hN ⊢
 have hmi:=memOk_iff hk.mem
 have hem:=hE.may
 refine enterM _ hN Tryz.func199 ?_
 refine run ?_
 intro R
 refine callM (⟨Wb,#[.slice p c.ws.length cap,ev,dv,.int .i64 c.pk.cpu,.bool c.pk.fill,.bool c.pk.mids,.bool c.pk.walk,.int .i64 c.pk.drop,.bool c.pk.use,.bool c.one.on,.int .i64 c.one.frame,.int .i64 c.one.tag,.bool c.two.on,.int .i64 c.two.frame,.int .i64 c.two.tag,.int .i64 (c.page:Int),.int .i64 c.acc,rv],194⟩::(he++hd++hr)) [⟨R,#[.int .i64 0,.int .i64 0,.int .i64 0,.bool false,.int .i64 0],43⟩] (fun wc hG=>wyMid_e c hk cap hcc s ds mid hmid 0 rfl hE (by omega) (hm.into hG) h1 h2 h3 hG.hereN) ?_ (by (refine perm_cnt fun a=>?_;simp only [cntB_app,cntB_cons,cntB_nil]<;>omega))
 rintro u1 hn1 ⟨H,ev1,dv1,rv1,he1,hd1,hr1,rfl,⟨hH1,hH2⟩,h11,h21,h31,hle1⟩
 simp only [wyC] at hle1
 obtain ⟨hMs,hMf⟩:=midA_ok hk hE (mid:=mid) hmid 0
 rw [tblA]
 generalize midA c s mid 0=Y at hH1 hH2 h11 h31 hMs hMf ⊢
 refine ops_le (⟨R,#[.int .i64 0,.int .i64 0,.int .i64 0,.bool false,.int .i64 0],43⟩::⟨Wb,#[.slice p c.ws.length cap,ev1,dv1,.int .i64 c.pk.cpu,.bool c.pk.fill,.bool c.pk.mids,.bool c.pk.walk,.int .i64 c.pk.drop,.bool c.pk.use,.bool c.one.on,.int .i64 c.one.frame,.int .i64 c.one.tag,.bool c.two.on,.int .i64 c.two.frame,.int .i64 c.two.tag,.int .i64 (c.page:Int),.int .i64 c.acc,rv1],194⟩::(he1++hd1++hr1)) (by (refine hpLe_cnt fun a=>?_;have:=HpLe.cnt hle1 a;simp only [cntB_app,cntB_cons,cntB_nil] at *;omega)) ?_
 refine run ?_
 intro HB F
 refine st_cond _ rfl (fun hc=>?_) (fun hc=>?_)
 ·rw [hc,cond_true]
  refine run ?_
  refine dropS 6 ?_
  refine dropS 7 ?_
  refine drawC 4 3 [0,1,2] [3] (⟨F,#[.int .i64 Y.f.kind,.int .i64 Y.f.stage,.int .i64 Y.f.level,.bool true,.int .i64 Y.f.page],43⟩::⟨HB,#[.int .i64 H.frame,.int .i64 H.mid,.bool H.r,.bool H.w,.bool H.x,.bool H.af,.bool H.ng,.int .i64 H.soft,.int .i64 H.level],234⟩::⟨Wb,#[.slice p c.ws.length cap,ev1,dv1,.int .i64 c.pk.cpu,.bool c.pk.fill,.bool c.pk.mids,.bool c.pk.walk,.int .i64 c.pk.drop,.bool c.pk.use,.bool c.one.on,.int .i64 c.one.frame,.int .i64 c.one.tag,.bool c.two.on,.int .i64 c.two.frame,.int .i64 c.two.tag,.int .i64 (c.page:Int),.int .i64 c.acc,rv1],194⟩::(he1++hd1++hr1)) ?_
  refine runZ ?_
  refine cStore (b:=R) (tb:=43) (cs:=#[.int .i64 0,.int .i64 0,.int .i64 0,.bool false,.int .i64 0]) (cs':=#[.int .i64 Y.f.kind,.int .i64 Y.f.stage,.int .i64 Y.f.level,.bool true,.int .i64 Y.f.page]) (hp':=⟨F,#[.int .i64 Y.f.kind,.int .i64 Y.f.stage,.int .i64 Y.f.level,.bool true,.int .i64 Y.f.page],43⟩::⟨HB,#[.int .i64 H.frame,.int .i64 H.mid,.bool H.r,.bool H.w,.bool H.x,.bool H.af,.bool H.ng,.int .i64 H.soft,.int .i64 H.level],234⟩::⟨Wb,#[.slice p c.ws.length cap,ev1,dv1,.int .i64 c.pk.cpu,.bool c.pk.fill,.bool c.pk.mids,.bool c.pk.walk,.int .i64 c.pk.drop,.bool c.pk.use,.bool c.one.on,.int .i64 c.one.frame,.int .i64 c.one.tag,.bool c.two.on,.int .i64 c.two.frame,.int .i64 c.two.tag,.int .i64 (c.page:Int),.int .i64 c.acc,rv1],194⟩::(he1++hd1++hr1)) ?_ (by (refine perm_cnt fun a=>?_;simp only [cntB_app,cntB_cons,cntB_nil]<;>omega))
  refine dc_nil ?_
  refine opsC ?_
  refine run ?_
  exact finTTA (cs:=#[.int .i64 Y.f.kind,.int .i64 Y.f.stage,.int .i64 Y.f.level,.bool true,.int .i64 Y.f.page]) ⟨0,_,_,_,he1,hd1,hr1,rfl,fun h0=>absurd h0 (by simpa using hc),h11,h21,h31,by (refine hpLe_cnt fun a=>?_;simp only [cntB_app,cntB_cons,cntB_nil]<;>omega)⟩
 ·rw [hc,cond_false]
  obtain ⟨hMf1,hMf2,hMf3⟩:=hMf (by simpa using hc)
  rw [show decide (0<level)=decide ((0:Int)<(level:Int)) by rw [Bool.eq_iff_iff];simp]
  refine runG ?_
  obtain ⟨es',hes⟩:∃ es',es'=(bif decide ((0:Int)<(level:Int)) && c.pk.walk then fillL Y.s.es (entW c level Y.n) else Y.s.es):=⟨_,rfl⟩
  rw [← hes]
  dsimp only
  have hle3:dbits (level - 1)=3 * (4 - level)∨level=0:=by unfold dbits;omega
  refine st_cutD (σ:=Value × Value × Hp × Hp) (fun _=>[]) (fun z=>⟨F,#[.int .i64 Y.f.kind,.int .i64 Y.f.stage,.int .i64 Y.f.level,.bool Y.f.walk,.int .i64 Y.f.page],43⟩::⟨HB,#[.int .i64 H.frame,.int .i64 H.mid,.bool H.r,.bool H.w,.bool H.x,.bool H.af,.bool H.ng,.int .i64 H.soft,.int .i64 H.level],234⟩::⟨R,#[.int .i64 0,.int .i64 0,.int .i64 0,.bool false,.int .i64 0],43⟩::⟨Wb,#[.slice p c.ws.length cap,z.1,z.2.1,.int .i64 c.pk.cpu,.bool c.pk.fill,.bool c.pk.mids,.bool c.pk.walk,.int .i64 c.pk.drop,.bool c.pk.use,.bool c.one.on,.int .i64 c.one.frame,.int .i64 c.one.tag,.bool c.two.on,.int .i64 c.two.frame,.int .i64 c.two.tag,.int .i64 (c.page:Int),.int .i64 c.acc,rv1],194⟩::(z.2.2.1++z.2.2.2++hr1)) (fun z=>Own 114 14 z.1 z.2.2.1 (es'.map enV)∧Own 121 4 z.2.1 z.2.2.2 (ds.map ivV)) ?_ ?_
  ·refine st_cond _ rfl (fun hc3=>?_) (fun hc3=>?_)
   ·rw [hc3,cond_true] at hes
    subst hes
    rw [Bool.and_eq_true] at hc3
    have hl0:0<level:=by have:=of_decide_eq_true hc3.1;omega
    have hb:(3 * (4 - (level:Int)):Int)=((3 * (4 - level):Nat):Int):=by omega
    have hp5:=hk.page
    have hcut:((c.page >>> (3 * (4 - level))) <<< (3 * (4 - level)):Nat)=cutN (level - 1) c.page:=by
     have h2:coversN (level - 1)=2 ^ (3 * (4 - level)):=by
      unfold coversN dbits
      rw [Nat.one_shiftLeft,show 3 * (3 - (level - 1))=3 * (4 - level) by omega]
     unfold cutN
     rw [h2,Nat.shiftRight_eq_div_pow,Nat.shiftLeft_eq]
     have:=Nat.div_add_mod c.page (2 ^ (3 * (4 - level)))
     rw [Nat.mul_comm] at this
     omega
    have hcl:=cut_le (level - 1) c.page
    refine run ?_
    refine drawN 23 ?_
    refine runD ?_
    refine opD (x_shrI rfl rfl c.page (3 * (4 - level)) rfl hb (by omega)) ?_
    refine runD ?_
    refine opD (x_shlI rfl rfl (c.page >>> (3 * (4 - level))) (3 * (4 - level)) rfl hb (by omega) (by rw [hcut];omega)) ?_
    rw [hcut]
    refine runD ?_
    have hmay:=entW_may hk hl0 hlv (n:=H.frame) (by rw [hH1];exact hMf1)
    refine callM (⟨Wb,#[.slice p c.ws.length cap,ev1,dv1,.int .i64 c.pk.cpu,.bool c.pk.fill,.bool c.pk.mids,.bool c.pk.walk,.int .i64 c.pk.drop,.bool c.pk.use,.bool c.one.on,.int .i64 c.one.frame,.int .i64 c.one.tag,.bool c.two.on,.int .i64 c.two.frame,.int .i64 c.two.tag,.int .i64 (c.page:Int),.int .i64 c.acc,rv1],194⟩::(he1++hd1++hr1)) (⟨F,#[.int .i64 Y.f.kind,.int .i64 Y.f.stage,.int .i64 Y.f.level,.bool Y.f.walk,.int .i64 Y.f.page],43⟩::⟨HB,#[.int .i64 H.frame,.int .i64 H.mid,.bool H.r,.bool H.w,.bool H.x,.bool H.af,.bool H.ng,.int .i64 H.soft,.int .i64 H.level],234⟩::⟨R,#[.int .i64 0,.int .i64 0,.int .i64 0,.bool false,.int .i64 0],43⟩::[]) (fun wc hG=>wyFill_e c Y.s.es ds hMs.es.tlb (entW c level H.frame) hmay ⟨_,_,_,rfl⟩ ⟨_,_,_,h31.opened.choose_spec.choose_spec⟩ h11 h21 hG.hereN) ?_ (by (refine perm_cnt fun a=>?_;simp only [cntB_app,cntB_cons,cntB_nil]<;>omega))
    rintro u7 hn7 ⟨ev7,dv7,he7,hd7,rfl,h17,h27,hle7⟩
    simp only [wyC] at hle7
    rw [hH1] at h17
    refine run ?_
    exact meetS (ev7,dv7,he7,hd7) ⟨h17,h27⟩ (h2:=by (refine hpLe_cnt fun a=>?_;have:=HpLe.cnt hle7 a;simp only [cntB_app,cntB_cons,cntB_nil] at *;omega))
   ·rw [hc3,cond_false] at hes
    subst hes
    refine run ?_
    exact meetS (ev1,dv1,he1,hd1) ⟨h11,h21⟩ (h2:=by (refine hpLe_cnt fun a=>?_;simp only [cntB_app,cntB_cons,cntB_nil]<;>omega))
  rintro ⟨ev2,dv2,he2,hd2⟩ ⟨h1',h2''⟩
  dsimp only at h1' h2'' ⊢
  refine run ?_
  refine dropS 6 ?_
  refine dropS 7 ?_
  refine drawC 7 6 [0,1,2,3,4,5] [6] (⟨F,#[.int .i64 Y.f.kind,.int .i64 Y.f.stage,.int .i64 Y.f.level,.bool Y.f.walk,.int .i64 Y.f.page],43⟩::⟨HB,#[.int .i64 H.frame,.int .i64 H.mid,.bool H.r,.bool H.w,.bool H.x,.bool H.af,.bool H.ng,.int .i64 H.soft,.int .i64 H.level],234⟩::⟨Wb,#[.slice p c.ws.length cap,ev2,dv2,.int .i64 c.pk.cpu,.bool c.pk.fill,.bool c.pk.mids,.bool c.pk.walk,.int .i64 c.pk.drop,.bool c.pk.use,.bool c.one.on,.int .i64 c.one.frame,.int .i64 c.one.tag,.bool c.two.on,.int .i64 c.two.frame,.int .i64 c.two.tag,.int .i64 (c.page:Int),.int .i64 c.acc,rv1],194⟩::(he2++hd2++hr1)) ?_
  refine runZ ?_
  refine cStore (b:=R) (tb:=43) (cs:=#[.int .i64 0,.int .i64 0,.int .i64 0,.bool false,.int .i64 0]) (cs':=#[.int .i64 Y.f.kind,.int .i64 Y.f.stage,.int .i64 Y.f.level,.bool Y.f.walk,.int .i64 Y.f.page]) (hp':=⟨F,#[.int .i64 Y.f.kind,.int .i64 Y.f.stage,.int .i64 Y.f.level,.bool Y.f.walk,.int .i64 Y.f.page],43⟩::⟨HB,#[.int .i64 H.frame,.int .i64 H.mid,.bool H.r,.bool H.w,.bool H.x,.bool H.af,.bool H.ng,.int .i64 H.soft,.int .i64 H.level],234⟩::⟨Wb,#[.slice p c.ws.length cap,ev2,dv2,.int .i64 c.pk.cpu,.bool c.pk.fill,.bool c.pk.mids,.bool c.pk.walk,.int .i64 c.pk.drop,.bool c.pk.use,.bool c.one.on,.int .i64 c.one.frame,.int .i64 c.one.tag,.bool c.two.on,.int .i64 c.two.frame,.int .i64 c.two.tag,.int .i64 (c.page:Int),.int .i64 c.acc,rv1],194⟩::(he2++hd2++hr1)) ?_ (by (refine perm_cnt fun a=>?_;simp only [cntB_app,cntB_cons,cntB_nil]<;>omega))
  refine dc_nil ?_
  refine opsC ?_
  refine run ?_
  refine finTTA (v:=.int .i64 H.frame) (v1:=.int .i64 (level:Int)) (cs:=#[.int .i64 Y.f.kind,.int .i64 Y.f.stage,.int .i64 Y.f.level,.bool Y.f.walk,.int .i64 Y.f.page]) ?_
  exact ⟨level,_,_,_,he2,hd2,hr1,by rw [hH1,← hMf2],fun _=>rfl,h1',h2'',h31,by (refine hpLe_cnt fun a=>?_;simp only [cntB_app,cntB_cons,cntB_nil]<;>omega)⟩
end Go.Proofs.YtndklbjnofdgeaaGreat
namespace Go.Proofs.YtndklbjnofdgeaaGreat
open Go.RowKit
set_option linter.unusedVariables false
set_option linter.unusedSimpArgs false
set_option maxRecDepth 20000
attribute [local irreducible] Hy St Ops DH DHF DE1 DE2 DE3 DS DCh DWF
theorem wyLeaf_e (c:AcC) (hk:AcOk c) (cap:Nat) (hcc:c.ws.length≤cap) {p:Option Addr} {w:World} {Wb:Nat} {ev dv rv:Value} {he hd hr:Hp} (s:AcS) (ds:List IvD) (hE:EsOk c.ws.length s.es ds)  (ha:PtD.btw c.acc 0 2=true) (level:Nat) (hl:level<4) (d:DsD) (hmay:d.may 1 level=true) (hk2:d.kind=2) (hrl:s.rd.length<90000)
  (hm:Sees w (Wb::(he++hd++hr).map (·.b)) (.slice p c.ws.length cap) 1 (c.ws.map uV)) (h1:Own 114 14 ev he (s.es.map enV)) (h2:Own 121 4 dv hd (ds.map ivV)) (h3:Own 3 1 rv hr (s.rd.map inV)) (hN:HereN (⟨Wb,wyC c (.slice p c.ws.length cap) ev dv rv,194⟩::(he++hd++hr)) w):
  Fn Tryz.prog 198 [.pointer (some ⟨Wb,0,none⟩),dsV d,.int .i64 (level:Int)].toArray w (Wb::(he++hd++hr).map (·.b)) (fun u hn=>∃ (H:HtD) (X:MdR) (ev' dv' rv':Value) (he' hd' hr':Hp),X=(bif !decide ((flagL d.r d.w d.x d.af c.acc 1 level c.page).kind=0) then ⟨s,0,noAt,flagL d.r d.w d.x d.af c.acc 1 level c.page⟩ else midA c s (leafM c level d) c.acc)∧u=.tuple #[htV H,ftV X.f]∧H.frame=X.n∧(X.f.kind=0→H.mid=(leafM c level d:Int)∧H.soft=0∧(⟨H.r,H.w,H.x,H.af,H.ng⟩:AtD)=bothA ⟨d.r,d.w,d.x,d.af,d.ng⟩ X.a)∧Own 114 14 ev' he' (X.s.es.map enV)∧Own 121 4 dv' hd' (ds.map ivV)∧Own 3 1 rv' hr' (X.s.rd.map inV)∧HpLe (⟨Wb,wyC c (.slice p c.ws.length cap) ev' dv' rv',194⟩::(he'++hd'++hr')) hn):=by
 simp only [wyC] at hN ⊢
 have hmi:=memOk_iff hk.mem
 have hem:=hE.may
 obtain ⟨hlf,hlf2⟩:=leaf_mid hmay hk2 hl c.page
 have hcv:=dbits_lt hl
 have hmod:=Nat.mod_lt c.page (show 0<coversN level by omega)
 refine enterM _ hN Tryz.func198 ?_
 refine run ?_
 intro D R1 R2
 refine run ?_
 refine drawEC 17 16 [0,1,2,3,4,5,6,7,8,9,10,11,12,13,14] [15] [16] (⟨R2,#[.int .i64 0,.int .i64 0,.int .i64 0,.bool false,.int .i64 0],43⟩::⟨R1,#[.int .i64 0,.int .i64 0,.bool false,.bool false,.bool false,.bool false,.bool false,.int .i64 0,.int .i64 0],234⟩::⟨D,#[.int .i64 d.kind,.int .i64 d.frame,.bool d.r,.bool d.w,.bool d.x,.bool d.af,.bool d.ng,.int .i64 d.soft,.int .i64 d.note],258⟩::⟨Wb,#[.slice p c.ws.length cap,ev,dv,.int .i64 c.pk.cpu,.bool c.pk.fill,.bool c.pk.mids,.bool c.pk.walk,.int .i64 c.pk.drop,.bool c.pk.use,.bool c.one.on,.int .i64 c.one.frame,.int .i64 c.one.tag,.bool c.two.on,.int .i64 c.two.frame,.int .i64 c.two.tag,.int .i64 (c.page:Int),.int .i64 c.acc,rv],194⟩::(he++hd++hr)) ?_
 refine runZ ?_
 refine sCallA (fun wc hx hG=>pFlag_e d.r d.w d.x d.af d.ng d.soft c.acc 1 level c.page ha wc) ?_
 refine runZ ?_
 generalize flagL d.r d.w d.x d.af c.acc 1 level c.page=G
 refine eAlloc ?_
 refine eNil ?_
 rintro _ _ ⟨F,rfl,rfl⟩
 simp only [DN,List.cons_append,List.nil_append,List.append_nil]
 refine cStore (b:=F) (tb:=43) (cs:=#[.int .i64 0,.int .i64 0,.int .i64 0,.bool false,.int .i64 0]) (cs':=#[.int .i64 G.kind,.int .i64 G.stage,.int .i64 G.level,.bool G.walk,.int .i64 G.page]) (hp':=⟨R2,#[.int .i64 0,.int .i64 0,.int .i64 0,.bool false,.int .i64 0],43⟩::⟨R1,#[.int .i64 0,.int .i64 0,.bool false,.bool false,.bool false,.bool false,.bool false,.int .i64 0,.int .i64 0],234⟩::⟨D,#[.int .i64 d.kind,.int .i64 d.frame,.bool d.r,.bool d.w,.bool d.x,.bool d.af,.bool d.ng,.int .i64 d.soft,.int .i64 d.note],258⟩::⟨Wb,#[.slice p c.ws.length cap,ev,dv,.int .i64 c.pk.cpu,.bool c.pk.fill,.bool c.pk.mids,.bool c.pk.walk,.int .i64 c.pk.drop,.bool c.pk.use,.bool c.one.on,.int .i64 c.one.frame,.int .i64 c.one.tag,.bool c.two.on,.int .i64 c.two.frame,.int .i64 c.two.tag,.int .i64 (c.page:Int),.int .i64 c.acc,rv],194⟩::(he++hd++hr)) ?_ (by (refine perm_cnt fun a=>?_;simp only [cntB_app,cntB_cons,cntB_nil]<;>omega))
 refine dc_nil ?_
 refine opsC ?_
 refine run ?_
 refine st_cond _ rfl (fun hc=>?_) (fun hc=>?_)
 ·rw [hc,cond_true]
  refine run ?_
  refine drawC 4 2 [0,1] [2,3] (⟨F,#[.int .i64 G.kind,.int .i64 G.stage,.int .i64 G.level,.bool G.walk,.int .i64 G.page],43⟩::⟨D,#[.int .i64 d.kind,.int .i64 d.frame,.bool d.r,.bool d.w,.bool d.x,.bool d.af,.bool d.ng,.int .i64 d.soft,.int .i64 d.note],258⟩::⟨Wb,#[.slice p c.ws.length cap,ev,dv,.int .i64 c.pk.cpu,.bool c.pk.fill,.bool c.pk.mids,.bool c.pk.walk,.int .i64 c.pk.drop,.bool c.pk.use,.bool c.one.on,.int .i64 c.one.frame,.int .i64 c.one.tag,.bool c.two.on,.int .i64 c.two.frame,.int .i64 c.two.tag,.int .i64 (c.page:Int),.int .i64 c.acc,rv],194⟩::(he++hd++hr)) ?_
  refine runZ ?_
  refine cStore (b:=R1) (tb:=234) (cs:=#[.int .i64 0,.int .i64 0,.bool false,.bool false,.bool false,.bool false,.bool false,.int .i64 0,.int .i64 0]) (cs':=#[.int .i64 0,.int .i64 0,.bool false,.bool false,.bool false,.bool false,.bool false,.int .i64 0,.int .i64 0]) (hp':=⟨F,#[.int .i64 G.kind,.int .i64 G.stage,.int .i64 G.level,.bool G.walk,.int .i64 G.page],43⟩::⟨R2,#[.int .i64 0,.int .i64 0,.int .i64 0,.bool false,.int .i64 0],43⟩::⟨D,#[.int .i64 d.kind,.int .i64 d.frame,.bool d.r,.bool d.w,.bool d.x,.bool d.af,.bool d.ng,.int .i64 d.soft,.int .i64 d.note],258⟩::⟨Wb,#[.slice p c.ws.length cap,ev,dv,.int .i64 c.pk.cpu,.bool c.pk.fill,.bool c.pk.mids,.bool c.pk.walk,.int .i64 c.pk.drop,.bool c.pk.use,.bool c.one.on,.int .i64 c.one.frame,.int .i64 c.one.tag,.bool c.two.on,.int .i64 c.two.frame,.int .i64 c.two.tag,.int .i64 (c.page:Int),.int .i64 c.acc,rv],194⟩::(he++hd++hr)) ?_ (by (refine perm_cnt fun a=>?_;simp only [cntB_app,cntB_cons,cntB_nil]<;>omega))
  refine cStore (b:=R2) (tb:=43) (cs:=#[.int .i64 0,.int .i64 0,.int .i64 0,.bool false,.int .i64 0]) (cs':=#[.int .i64 G.kind,.int .i64 G.stage,.int .i64 G.level,.bool G.walk,.int .i64 G.page]) (hp':=⟨R1,#[.int .i64 0,.int .i64 0,.bool false,.bool false,.bool false,.bool false,.bool false,.int .i64 0,.int .i64 0],234⟩::⟨F,#[.int .i64 G.kind,.int .i64 G.stage,.int .i64 G.level,.bool G.walk,.int .i64 G.page],43⟩::⟨D,#[.int .i64 d.kind,.int .i64 d.frame,.bool d.r,.bool d.w,.bool d.x,.bool d.af,.bool d.ng,.int .i64 d.soft,.int .i64 d.note],258⟩::⟨Wb,#[.slice p c.ws.length cap,ev,dv,.int .i64 c.pk.cpu,.bool c.pk.fill,.bool c.pk.mids,.bool c.pk.walk,.int .i64 c.pk.drop,.bool c.pk.use,.bool c.one.on,.int .i64 c.one.frame,.int .i64 c.one.tag,.bool c.two.on,.int .i64 c.two.frame,.int .i64 c.two.tag,.int .i64 (c.page:Int),.int .i64 c.acc,rv],194⟩::(he++hd++hr)) ?_ (by (refine perm_cnt fun a=>?_;simp only [cntB_app,cntB_cons,cntB_nil]<;>omega))
  refine dc_nil ?_
  refine opsC ?_
  refine run ?_
  exact finAA2 (cs:=#[.int .i64 0,.int .i64 0,.bool false,.bool false,.bool false,.bool false,.bool false,.int .i64 0,.int .i64 0]) (cs2:=#[.int .i64 G.kind,.int .i64 G.stage,.int .i64 G.level,.bool G.walk,.int .i64 G.page]) ⟨⟨0,0,false,false,false,false,false,0,0⟩,_,ev,dv,rv,he,hd,hr,rfl,rfl,rfl,fun h0=>absurd h0 (by simpa using hc),h1,h2,h3,by (refine hpLe_cnt fun a=>?_;simp only [cntB_app,cntB_cons,cntB_nil]<;>omega)⟩
 ·rw [hc,cond_false]
  refine run ?_
  refine callE (fun wc hG=>dCovers_e level hl wc) ?_
  refine run ?_
  have hcall:=fun (wc:World) (hG:HereN (⟨Wb,#[.slice p c.ws.length cap,ev,dv,.int .i64 c.pk.cpu,.bool c.pk.fill,.bool c.pk.mids,.bool c.pk.walk,.int .i64 c.pk.drop,.bool c.pk.use,.bool c.one.on,.int .i64 c.one.frame,.int .i64 c.one.tag,.bool c.two.on,.int .i64 c.two.frame,.int .i64 c.two.tag,.int .i64 (c.page:Int),.int .i64 c.acc,rv],194⟩::(he++hd++hr)) wc) (hm:Sees wc (Wb::(he++hd++hr).map (·.b)) (.slice p c.ws.length cap) 1 (c.ws.map uV))=>wyMid_e c hk cap hcc s ds (leafM c level d) hlf c.acc ha hE (by omega) hm h1 h2 h3 hG
  refine drawEW 20 14 (⟨Wb,#[.slice p c.ws.length cap,ev,dv,.int .i64 c.pk.cpu,.bool c.pk.fill,.bool c.pk.mids,.bool c.pk.walk,.int .i64 c.pk.drop,.bool c.pk.use,.bool c.one.on,.int .i64 c.one.frame,.int .i64 c.one.tag,.bool c.two.on,.int .i64 c.two.frame,.int .i64 c.two.tag,.int .i64 (c.page:Int),.int .i64 c.acc,rv],194⟩::(he++hd++hr)) (⟨F,#[.int .i64 G.kind,.int .i64 G.stage,.int .i64 G.level,.bool G.walk,.int .i64 G.page],43⟩::⟨R2,#[.int .i64 0,.int .i64 0,.int .i64 0,.bool false,.int .i64 0],43⟩::⟨R1,#[.int .i64 0,.int .i64 0,.bool false,.bool false,.bool false,.bool false,.bool false,.int .i64 0,.int .i64 0],234⟩::⟨D,#[.int .i64 d.kind,.int .i64 d.frame,.bool d.r,.bool d.w,.bool d.x,.bool d.af,.bool d.ng,.int .i64 d.soft,.int .i64 d.note],258⟩::[]) [0,1,2,3,4,5,6,7,8,9,10,11,12,13] [14,18,19] [15,16,17] [] [20,21] ?_
  refine runS ?_
  refine de1_s rfl (fun hxS=>x_remN rfl rfl c.page (coversN level) rfl rfl (by omega)) ?_
  refine runS ?_
  rw [show d.frame + ((c.page % coversN level:Nat):Int)=((leafM c level d:Nat):Int) by unfold leafM;omega]
  refine wCall (fun wc hG=>hcall wc hG.hereN (hm.into hG)) (hcall w hN hm).some ?_
  refine wAlloc ?_
  refine wAlloc ?_
  refine wNil ?_
  rintro _ _ ⟨A2,rfl,rfl⟩ _ _ ⟨A1,rfl,rfl⟩ u1 hn1 ⟨H,ev1,dv1,rv1,he1,hd1,hr1,rfl,⟨hH1,hH2⟩,h11,h21,h31,hle1⟩
  simp only [wyC] at hle1
  generalize midA c s (leafM c level d) c.acc=Y at hH1 hH2 h11 h31 ⊢
  refine dMove ?_
  refine dExtract ?_
  refine dExtract ?_
  refine dNil ?_
  refine dNil ?_
  simp only [DN,List.cons_append,List.nil_append,List.append_nil]
  refine cStore (b:=A1) (tb:=234) (cs:=#[.int .i64 0,.int .i64 0,.bool false,.bool false,.bool false,.bool false,.bool false,.int .i64 0,.int .i64 0]) (cs':=#[.int .i64 H.frame,.int .i64 H.mid,.bool H.r,.bool H.w,.bool H.x,.bool H.af,.bool H.ng,.int .i64 H.soft,.int .i64 H.level]) (hp':=⟨A2,#[.int .i64 0,.int .i64 0,.int .i64 0,.bool false,.int .i64 0],43⟩::(hn1++[⟨F,#[.int .i64 G.kind,.int .i64 G.stage,.int .i64 G.level,.bool G.walk,.int .i64 G.page],43⟩,⟨R2,#[.int .i64 0,.int .i64 0,.int .i64 0,.bool false,.int .i64 0],43⟩,⟨R1,#[.int .i64 0,.int .i64 0,.bool false,.bool false,.bool false,.bool false,.bool false,.int .i64 0,.int .i64 0],234⟩,⟨D,#[.int .i64 d.kind,.int .i64 d.frame,.bool d.r,.bool d.w,.bool d.x,.bool d.af,.bool d.ng,.int .i64 d.soft,.int .i64 d.note],258⟩])) ?_ (by (refine perm_cnt fun a=>?_;simp only [cntB_app,cntB_cons,cntB_nil]<;>omega))
  refine cStore (b:=A2) (tb:=43) (cs:=#[.int .i64 0,.int .i64 0,.int .i64 0,.bool false,.int .i64 0]) (cs':=#[.int .i64 Y.f.kind,.int .i64 Y.f.stage,.int .i64 Y.f.level,.bool Y.f.walk,.int .i64 Y.f.page]) (hp':=⟨A1,#[.int .i64 H.frame,.int .i64 H.mid,.bool H.r,.bool H.w,.bool H.x,.bool H.af,.bool H.ng,.int .i64 H.soft,.int .i64 H.level],234⟩::(hn1++[⟨F,#[.int .i64 G.kind,.int .i64 G.stage,.int .i64 G.level,.bool G.walk,.int .i64 G.page],43⟩,⟨R2,#[.int .i64 0,.int .i64 0,.int .i64 0,.bool false,.int .i64 0],43⟩,⟨R1,#[.int .i64 0,.int .i64 0,.bool false,.bool false,.bool false,.bool false,.bool false,.int .i64 0,.int .i64 0],234⟩,⟨D,#[.int .i64 d.kind,.int .i64 d.frame,.bool d.r,.bool d.w,.bool d.x,.bool d.af,.bool d.ng,.int .i64 d.soft,.int .i64 d.note],258⟩])) ?_ (by (refine perm_cnt fun a=>?_;simp only [cntB_app,cntB_cons,cntB_nil]<;>omega))
  refine dc_nil ?_
  refine opsC ?_
  refine ops_le (⟨A2,#[.int .i64 Y.f.kind,.int .i64 Y.f.stage,.int .i64 Y.f.level,.bool Y.f.walk,.int .i64 Y.f.page],43⟩::⟨A1,#[.int .i64 H.frame,.int .i64 H.mid,.bool H.r,.bool H.w,.bool H.x,.bool H.af,.bool H.ng,.int .i64 H.soft,.int .i64 H.level],234⟩::⟨R2,#[.int .i64 0,.int .i64 0,.int .i64 0,.bool false,.int .i64 0],43⟩::⟨R1,#[.int .i64 0,.int .i64 0,.bool false,.bool false,.bool false,.bool false,.bool false,.int .i64 0,.int .i64 0],234⟩::⟨D,#[.int .i64 d.kind,.int .i64 d.frame,.bool d.r,.bool d.w,.bool d.x,.bool d.af,.bool d.ng,.int .i64 d.soft,.int .i64 d.note],258⟩::⟨Wb,#[.slice p c.ws.length cap,ev1,dv1,.int .i64 c.pk.cpu,.bool c.pk.fill,.bool c.pk.mids,.bool c.pk.walk,.int .i64 c.pk.drop,.bool c.pk.use,.bool c.one.on,.int .i64 c.one.frame,.int .i64 c.one.tag,.bool c.two.on,.int .i64 c.two.frame,.int .i64 c.two.tag,.int .i64 (c.page:Int),.int .i64 c.acc,rv1],194⟩::(he1++hd1++hr1)) (by (refine hpLe_cnt fun a=>?_;have:=HpLe.cnt hle1 a;simp only [cntB_app,cntB_cons,cntB_nil] at *;omega)) ?_
  refine run ?_
  intro Z
  refine callE (fun wc hG=>pBoth_e ⟨d.r,d.w,d.x,d.af,d.ng⟩ ⟨H.r,H.w,H.x,H.af,H.ng⟩ d.soft H.soft (lie_rows (xs:=([((⟨d.r,d.w,d.x,d.af,d.ng⟩:AtD),d.soft),((⟨H.r,H.w,H.x,H.af,H.ng⟩:AtD),H.soft)].map atS)) (hG.here ⟨Z,#[.bool d.r,.bool d.w,.bool d.x,.bool d.af,.bool d.ng,.int .i64 d.soft,.bool H.r,.bool H.w,.bool H.x,.bool H.af,.bool H.ng,.int .i64 H.soft],112⟩ mh) (by simp [atS]) (by simp))) ?_
  generalize hB:bothA ⟨d.r,d.w,d.x,d.af,d.ng⟩ ⟨H.r,H.w,H.x,H.af,H.ng⟩=B
  refine run ?_
  refine drawC 4 2 [0,1] [2,3] (⟨A1,#[.int .i64 (⟨H.frame,H.mid,B.r,B.w,B.x,B.af,B.ng,0,H.level⟩:HtD).frame,.int .i64 (⟨H.frame,H.mid,B.r,B.w,B.x,B.af,B.ng,0,H.level⟩:HtD).mid,.bool (⟨H.frame,H.mid,B.r,B.w,B.x,B.af,B.ng,0,H.level⟩:HtD).r,.bool (⟨H.frame,H.mid,B.r,B.w,B.x,B.af,B.ng,0,H.level⟩:HtD).w,.bool (⟨H.frame,H.mid,B.r,B.w,B.x,B.af,B.ng,0,H.level⟩:HtD).x,.bool (⟨H.frame,H.mid,B.r,B.w,B.x,B.af,B.ng,0,H.level⟩:HtD).af,.bool (⟨H.frame,H.mid,B.r,B.w,B.x,B.af,B.ng,0,H.level⟩:HtD).ng,.int .i64 (⟨H.frame,H.mid,B.r,B.w,B.x,B.af,B.ng,0,H.level⟩:HtD).soft,.int .i64 (⟨H.frame,H.mid,B.r,B.w,B.x,B.af,B.ng,0,H.level⟩:HtD).level],234⟩::⟨A2,#[.int .i64 Y.f.kind,.int .i64 Y.f.stage,.int .i64 Y.f.level,.bool Y.f.walk,.int .i64 Y.f.page],43⟩::⟨Wb,#[.slice p c.ws.length cap,ev1,dv1,.int .i64 c.pk.cpu,.bool c.pk.fill,.bool c.pk.mids,.bool c.pk.walk,.int .i64 c.pk.drop,.bool c.pk.use,.bool c.one.on,.int .i64 c.one.frame,.int .i64 c.one.tag,.bool c.two.on,.int .i64 c.two.frame,.int .i64 c.two.tag,.int .i64 (c.page:Int),.int .i64 c.acc,rv1],194⟩::(he1++hd1++hr1)) ?_
  refine runZ ?_
  refine cStore (b:=R1) (tb:=234) (cs:=#[.int .i64 0,.int .i64 0,.bool false,.bool false,.bool false,.bool false,.bool false,.int .i64 0,.int .i64 0]) (cs':=#[.int .i64 (⟨H.frame,H.mid,B.r,B.w,B.x,B.af,B.ng,0,H.level⟩:HtD).frame,.int .i64 (⟨H.frame,H.mid,B.r,B.w,B.x,B.af,B.ng,0,H.level⟩:HtD).mid,.bool (⟨H.frame,H.mid,B.r,B.w,B.x,B.af,B.ng,0,H.level⟩:HtD).r,.bool (⟨H.frame,H.mid,B.r,B.w,B.x,B.af,B.ng,0,H.level⟩:HtD).w,.bool (⟨H.frame,H.mid,B.r,B.w,B.x,B.af,B.ng,0,H.level⟩:HtD).x,.bool (⟨H.frame,H.mid,B.r,B.w,B.x,B.af,B.ng,0,H.level⟩:HtD).af,.bool (⟨H.frame,H.mid,B.r,B.w,B.x,B.af,B.ng,0,H.level⟩:HtD).ng,.int .i64 (⟨H.frame,H.mid,B.r,B.w,B.x,B.af,B.ng,0,H.level⟩:HtD).soft,.int .i64 (⟨H.frame,H.mid,B.r,B.w,B.x,B.af,B.ng,0,H.level⟩:HtD).level]) (hp':=⟨A1,#[.int .i64 (⟨H.frame,H.mid,B.r,B.w,B.x,B.af,B.ng,0,H.level⟩:HtD).frame,.int .i64 (⟨H.frame,H.mid,B.r,B.w,B.x,B.af,B.ng,0,H.level⟩:HtD).mid,.bool (⟨H.frame,H.mid,B.r,B.w,B.x,B.af,B.ng,0,H.level⟩:HtD).r,.bool (⟨H.frame,H.mid,B.r,B.w,B.x,B.af,B.ng,0,H.level⟩:HtD).w,.bool (⟨H.frame,H.mid,B.r,B.w,B.x,B.af,B.ng,0,H.level⟩:HtD).x,.bool (⟨H.frame,H.mid,B.r,B.w,B.x,B.af,B.ng,0,H.level⟩:HtD).af,.bool (⟨H.frame,H.mid,B.r,B.w,B.x,B.af,B.ng,0,H.level⟩:HtD).ng,.int .i64 (⟨H.frame,H.mid,B.r,B.w,B.x,B.af,B.ng,0,H.level⟩:HtD).soft,.int .i64 (⟨H.frame,H.mid,B.r,B.w,B.x,B.af,B.ng,0,H.level⟩:HtD).level],234⟩::⟨Z,#[.bool d.r,.bool d.w,.bool d.x,.bool d.af,.bool d.ng,.int .i64 d.soft,.bool H.r,.bool H.w,.bool H.x,.bool H.af,.bool H.ng,.int .i64 H.soft],112⟩::⟨A2,#[.int .i64 Y.f.kind,.int .i64 Y.f.stage,.int .i64 Y.f.level,.bool Y.f.walk,.int .i64 Y.f.page],43⟩::⟨R2,#[.int .i64 0,.int .i64 0,.int .i64 0,.bool false,.int .i64 0],43⟩::⟨D,#[.int .i64 d.kind,.int .i64 d.frame,.bool d.r,.bool d.w,.bool d.x,.bool d.af,.bool d.ng,.int .i64 d.soft,.int .i64 d.note],258⟩::⟨Wb,#[.slice p c.ws.length cap,ev1,dv1,.int .i64 c.pk.cpu,.bool c.pk.fill,.bool c.pk.mids,.bool c.pk.walk,.int .i64 c.pk.drop,.bool c.pk.use,.bool c.one.on,.int .i64 c.one.frame,.int .i64 c.one.tag,.bool c.two.on,.int .i64 c.two.frame,.int .i64 c.two.tag,.int .i64 (c.page:Int),.int .i64 c.acc,rv1],194⟩::(he1++hd1++hr1)) ?_ (by (refine perm_cnt fun a=>?_;simp only [cntB_app,cntB_cons,cntB_nil]<;>omega))
  refine cStore (b:=R2) (tb:=43) (cs:=#[.int .i64 0,.int .i64 0,.int .i64 0,.bool false,.int .i64 0]) (cs':=#[.int .i64 Y.f.kind,.int .i64 Y.f.stage,.int .i64 Y.f.level,.bool Y.f.walk,.int .i64 Y.f.page]) (hp':=⟨R1,#[.int .i64 (⟨H.frame,H.mid,B.r,B.w,B.x,B.af,B.ng,0,H.level⟩:HtD).frame,.int .i64 (⟨H.frame,H.mid,B.r,B.w,B.x,B.af,B.ng,0,H.level⟩:HtD).mid,.bool (⟨H.frame,H.mid,B.r,B.w,B.x,B.af,B.ng,0,H.level⟩:HtD).r,.bool (⟨H.frame,H.mid,B.r,B.w,B.x,B.af,B.ng,0,H.level⟩:HtD).w,.bool (⟨H.frame,H.mid,B.r,B.w,B.x,B.af,B.ng,0,H.level⟩:HtD).x,.bool (⟨H.frame,H.mid,B.r,B.w,B.x,B.af,B.ng,0,H.level⟩:HtD).af,.bool (⟨H.frame,H.mid,B.r,B.w,B.x,B.af,B.ng,0,H.level⟩:HtD).ng,.int .i64 (⟨H.frame,H.mid,B.r,B.w,B.x,B.af,B.ng,0,H.level⟩:HtD).soft,.int .i64 (⟨H.frame,H.mid,B.r,B.w,B.x,B.af,B.ng,0,H.level⟩:HtD).level],234⟩::⟨A1,#[.int .i64 (⟨H.frame,H.mid,B.r,B.w,B.x,B.af,B.ng,0,H.level⟩:HtD).frame,.int .i64 (⟨H.frame,H.mid,B.r,B.w,B.x,B.af,B.ng,0,H.level⟩:HtD).mid,.bool (⟨H.frame,H.mid,B.r,B.w,B.x,B.af,B.ng,0,H.level⟩:HtD).r,.bool (⟨H.frame,H.mid,B.r,B.w,B.x,B.af,B.ng,0,H.level⟩:HtD).w,.bool (⟨H.frame,H.mid,B.r,B.w,B.x,B.af,B.ng,0,H.level⟩:HtD).x,.bool (⟨H.frame,H.mid,B.r,B.w,B.x,B.af,B.ng,0,H.level⟩:HtD).af,.bool (⟨H.frame,H.mid,B.r,B.w,B.x,B.af,B.ng,0,H.level⟩:HtD).ng,.int .i64 (⟨H.frame,H.mid,B.r,B.w,B.x,B.af,B.ng,0,H.level⟩:HtD).soft,.int .i64 (⟨H.frame,H.mid,B.r,B.w,B.x,B.af,B.ng,0,H.level⟩:HtD).level],234⟩::⟨Z,#[.bool d.r,.bool d.w,.bool d.x,.bool d.af,.bool d.ng,.int .i64 d.soft,.bool H.r,.bool H.w,.bool H.x,.bool H.af,.bool H.ng,.int .i64 H.soft],112⟩::⟨A2,#[.int .i64 Y.f.kind,.int .i64 Y.f.stage,.int .i64 Y.f.level,.bool Y.f.walk,.int .i64 Y.f.page],43⟩::⟨D,#[.int .i64 d.kind,.int .i64 d.frame,.bool d.r,.bool d.w,.bool d.x,.bool d.af,.bool d.ng,.int .i64 d.soft,.int .i64 d.note],258⟩::⟨Wb,#[.slice p c.ws.length cap,ev1,dv1,.int .i64 c.pk.cpu,.bool c.pk.fill,.bool c.pk.mids,.bool c.pk.walk,.int .i64 c.pk.drop,.bool c.pk.use,.bool c.one.on,.int .i64 c.one.frame,.int .i64 c.one.tag,.bool c.two.on,.int .i64 c.two.frame,.int .i64 c.two.tag,.int .i64 (c.page:Int),.int .i64 c.acc,rv1],194⟩::(he1++hd1++hr1)) ?_ (by (refine perm_cnt fun a=>?_;simp only [cntB_app,cntB_cons,cntB_nil]<;>omega))
  refine dc_nil ?_
  refine opsC ?_
  refine run ?_
  exact finAA2 (cs:=#[.int .i64 (⟨H.frame,H.mid,B.r,B.w,B.x,B.af,B.ng,0,H.level⟩:HtD).frame,.int .i64 (⟨H.frame,H.mid,B.r,B.w,B.x,B.af,B.ng,0,H.level⟩:HtD).mid,.bool (⟨H.frame,H.mid,B.r,B.w,B.x,B.af,B.ng,0,H.level⟩:HtD).r,.bool (⟨H.frame,H.mid,B.r,B.w,B.x,B.af,B.ng,0,H.level⟩:HtD).w,.bool (⟨H.frame,H.mid,B.r,B.w,B.x,B.af,B.ng,0,H.level⟩:HtD).x,.bool (⟨H.frame,H.mid,B.r,B.w,B.x,B.af,B.ng,0,H.level⟩:HtD).af,.bool (⟨H.frame,H.mid,B.r,B.w,B.x,B.af,B.ng,0,H.level⟩:HtD).ng,.int .i64 (⟨H.frame,H.mid,B.r,B.w,B.x,B.af,B.ng,0,H.level⟩:HtD).soft,.int .i64 (⟨H.frame,H.mid,B.r,B.w,B.x,B.af,B.ng,0,H.level⟩:HtD).level]) (cs2:=#[.int .i64 Y.f.kind,.int .i64 Y.f.stage,.int .i64 Y.f.level,.bool Y.f.walk,.int .i64 Y.f.page]) ⟨⟨H.frame,H.mid,B.r,B.w,B.x,B.af,B.ng,0,H.level⟩,Y,_,_,_,he1,hd1,hr1,rfl,rfl,hH1,fun h0=>⟨(hH2 h0).1,rfl,by rw [← hB,(hH2 h0).2]⟩,h11,h21,h31,by (refine hpLe_cnt fun a=>?_;simp only [cntB_app,cntB_cons,cntB_nil]<;>omega)⟩
end Go.Proofs.YtndklbjnofdgeaaGreat
namespace Go.Proofs.YtndklbjnofdgeaaGreat
open Go.RowKit
set_option linter.unusedVariables false
set_option linter.unusedSimpArgs false
set_option maxRecDepth 20000
attribute [local irreducible] Hy St Ops DH DHF DE1 DE2 DE3 DS DCh DWF
def firstA (c:AcC) (s:AcS):StR:=bif c.pk.use && decide (0≤walkI c s.es) then ⟨s,(s.es.getD (walkI c s.es).toNat default).frame,noFt⟩ else tblA c s c.one.frame.toNat 0
def firstL (c:AcC) (s:AcS):Nat:=bif c.pk.use && decide (0≤walkI c s.es) then (s.es.getD (walkI c s.es).toNat default).level.toNat else 0
theorem wyFirst_e (c:AcC) (hk:AcOk c) (cap:Nat) (hcc:c.ws.length≤cap) {p:Option Addr} {w:World} {Wb:Nat} {ev dv rv:Value} {he hd hr:Hp} (s:AcS) (ds:List IvD) (hE:EsOk c.ws.length s.es ds)  (hrl:s.rd.length<80000)
  (hm:Sees w (Wb::(he++hd++hr).map (·.b)) (.slice p c.ws.length cap) 1 (c.ws.map uV)) (h1:Own 114 14 ev he (s.es.map enV)) (h2:Own 121 4 dv hd (ds.map ivV)) (h3:Own 3 1 rv hr (s.rd.map inV)) (hN:HereN (⟨Wb,wyC c (.slice p c.ws.length cap) ev dv rv,194⟩::(he++hd++hr)) w):
  Fn Tryz.prog 196 [.pointer (some ⟨Wb,0,none⟩)].toArray w (Wb::(he++hd++hr).map (·.b)) (fun u hn=>∃ (lv:Int) (ev' dv' rv':Value) (he' hd' hr':Hp),u=.tuple #[.int .i64 (firstA c s).n,.int .i64 lv,ftV (firstA c s).f]∧((firstA c s).f.kind=0→lv=(firstL c s:Int))∧Own 114 14 ev' he' ((firstA c s).s.es.map enV)∧Own 121 4 dv' hd' (ds.map ivV)∧Own 3 1 rv' hr' ((firstA c s).s.rd.map inV)∧HpLe (⟨Wb,wyC c (.slice p c.ws.length cap) ev' dv' rv',194⟩::(he'++hd'++hr')) hn):=by
 have hcap:=h1.cap
 obtain ⟨qe,ce,ee⟩:=h1.opened
 obtain ⟨qd,cd,ed⟩:=h2.opened
 obtain ⟨qr,cr,er⟩:=h3.opened
 rw [List.length_map] at ee ed er
 subst ee ed er
 simp only [wyC] at hN ⊢
 have hmi:=memOk_iff hk.mem
 have hem:=hE.may
 have ho:=RtD.may_iff hk.one
 have htw:=RtD.may_iff hk.two
 refine enterM _ hN Tryz.func196 ?_
 refine run ?_
 intro F
 refine st_cutD (σ:=Unit) (fun _=>[]) (fun _=>⟨F,#[.int .i64 0,.int .i64 0,.int .i64 0,.bool false,.int .i64 0],43⟩::⟨Wb,#[.slice p c.ws.length cap,.slice qe s.es.length ce,.slice qd ds.length cd,.int .i64 c.pk.cpu,.bool c.pk.fill,.bool c.pk.mids,.bool c.pk.walk,.int .i64 c.pk.drop,.bool c.pk.use,.bool c.one.on,.int .i64 c.one.frame,.int .i64 c.one.tag,.bool c.two.on,.int .i64 c.two.frame,.int .i64 c.two.tag,.int .i64 (c.page:Int),.int .i64 c.acc,.slice qr s.rd.length cr],194⟩::(he++hd++hr)) (fun _=>(c.pk.use && decide (0≤walkI c s.es))=false) ?_ ?_
 ·refine st_cond _ rfl (fun hc=>?_) (fun hc=>?_)
  ·refine run ?_
   have hmm:=fun {wc:World} (ha1:SlAt wc (.slice qe s.es.length ce) 14 (s.es.map enV)) (hb1:SlAt wc (.slice qd ds.length cd) 4 (ds.map ivV))=>tWalk_e ha1 hb1 hcap hE.tlb c.two.tag c.one.tag c.page (btwT htw.2.1 htw.2.2) (btwT ho.2.1 ho.2.2) hk.page
   rw [fndV_eq,show bestI s.es (pWlk c.two.tag c.one.tag c.page) s.es.length=walkI c s.es from rfl] at hmm
   obtain ⟨E,hEE⟩:∃ E,E=(bif decide (0≤walkI c s.es) then s.es.getD (walkI c s.es).toNat default else default):=⟨_,rfl⟩
   rw [← hEE] at hmm
   refine drawEC 24 23 [0,1,2,3,4,5,6,7,8,9,10,11,12,13,14,15,16,17,18,19,20,21] [22] [23] (⟨F,#[.int .i64 0,.int .i64 0,.int .i64 0,.bool false,.int .i64 0],43⟩::⟨Wb,#[.slice p c.ws.length cap,.slice qe s.es.length ce,.slice qd ds.length cd,.int .i64 c.pk.cpu,.bool c.pk.fill,.bool c.pk.mids,.bool c.pk.walk,.int .i64 c.pk.drop,.bool c.pk.use,.bool c.one.on,.int .i64 c.one.frame,.int .i64 c.one.tag,.bool c.two.on,.int .i64 c.two.frame,.int .i64 c.two.tag,.int .i64 (c.page:Int),.int .i64 c.acc,.slice qr s.rd.length cr],194⟩::(he++hd++hr)) ?_
   refine runZ ?_
   refine sCallA (fun wc hx hG=>hmm (h1.lie (fun b hb=>hG.here b (by simp [hb])) (by rw [List.length_map];omega)) (h2.lie (fun b hb=>hG.here b (by simp [hb])) (by rw [List.length_map];omega))) ?_
   refine runZ ?_
   refine eAlloc ?_
   refine eNil ?_
   rintro _ _ ⟨X,rfl,rfl⟩
   simp only [DN,List.cons_append,List.nil_append,List.append_nil]
   refine cStore (b:=X) (tb:=114) (cs:=#[.int .i64 0,.int .i64 0,.int .i64 0,.bool false,.int .i64 0,.int .i64 0,.int .i64 0,.int .i64 0,.bool false,.bool false,.bool false,.bool false,.bool false,.int .i64 0]) (cs':=#[.int .i64 E.kind,.int .i64 E.vmid,.int .i64 E.asid,.bool E.all,.int .i64 E.page,.int .i64 E.level,.int .i64 E.frame,.int .i64 E.mid,.bool E.r,.bool E.w,.bool E.x,.bool E.af,.bool E.ng,.int .i64 E.soft]) (hp':=⟨F,#[.int .i64 0,.int .i64 0,.int .i64 0,.bool false,.int .i64 0],43⟩::⟨Wb,#[.slice p c.ws.length cap,.slice qe s.es.length ce,.slice qd ds.length cd,.int .i64 c.pk.cpu,.bool c.pk.fill,.bool c.pk.mids,.bool c.pk.walk,.int .i64 c.pk.drop,.bool c.pk.use,.bool c.one.on,.int .i64 c.one.frame,.int .i64 c.one.tag,.bool c.two.on,.int .i64 c.two.frame,.int .i64 c.two.tag,.int .i64 (c.page:Int),.int .i64 c.acc,.slice qr s.rd.length cr],194⟩::(he++hd++hr)) ?_ (by (refine perm_cnt fun a=>?_;simp only [cntB_app,cntB_cons,cntB_nil]<;>omega))
   refine dc_nil ?_
   refine opsC ?_
   refine run ?_
   refine st_cond _ rfl (fun hc2=>?_) (fun hc2=>?_)
   ·have h0:0≤walkI c s.es:=by
     cases hq:decide (0≤walkI c s.es) with
     | true=>exact of_decide_eq_true hq
     | false=>rw [hq] at hc2;simp at hc2
    have hA:firstA c s=⟨s,E.frame,noFt⟩:=by rw [hEE];simp only [firstA,hc,h0,decide_true,Bool.and_self,cond_true]
    have hL:firstL c s=E.level.toNat:=by rw [hEE];simp only [firstL,hc,h0,decide_true,Bool.and_self,cond_true]
    obtain ⟨_,hw2,hw3,_⟩:=walk_at hE h0
    simp only [h0,decide_true,cond_true] at hEE
    rw [← hEE] at hw2 hw3
    rw [hA,hL]
    refine run ?_
    refine dropS 2 ?_
    refine dropS 3 ?_
    refine drawC 8 7 [0,1,2,3,4,5,6] [7] (⟨X,#[.int .i64 E.kind,.int .i64 E.vmid,.int .i64 E.asid,.bool E.all,.int .i64 E.page,.int .i64 E.level,.int .i64 E.frame,.int .i64 E.mid,.bool E.r,.bool E.w,.bool E.x,.bool E.af,.bool E.ng,.int .i64 E.soft],114⟩::⟨Wb,#[.slice p c.ws.length cap,.slice qe s.es.length ce,.slice qd ds.length cd,.int .i64 c.pk.cpu,.bool c.pk.fill,.bool c.pk.mids,.bool c.pk.walk,.int .i64 c.pk.drop,.bool c.pk.use,.bool c.one.on,.int .i64 c.one.frame,.int .i64 c.one.tag,.bool c.two.on,.int .i64 c.two.frame,.int .i64 c.two.tag,.int .i64 (c.page:Int),.int .i64 c.acc,.slice qr s.rd.length cr],194⟩::(he++hd++hr)) ?_
    refine runZ ?_
    refine cStore (b:=F) (tb:=43) (cs:=#[.int .i64 0,.int .i64 0,.int .i64 0,.bool false,.int .i64 0]) (cs':=#[.int .i64 0,.int .i64 0,.int .i64 0,.bool false,.int .i64 0]) (hp':=⟨X,#[.int .i64 E.kind,.int .i64 E.vmid,.int .i64 E.asid,.bool E.all,.int .i64 E.page,.int .i64 E.level,.int .i64 E.frame,.int .i64 E.mid,.bool E.r,.bool E.w,.bool E.x,.bool E.af,.bool E.ng,.int .i64 E.soft],114⟩::⟨Wb,#[.slice p c.ws.length cap,.slice qe s.es.length ce,.slice qd ds.length cd,.int .i64 c.pk.cpu,.bool c.pk.fill,.bool c.pk.mids,.bool c.pk.walk,.int .i64 c.pk.drop,.bool c.pk.use,.bool c.one.on,.int .i64 c.one.frame,.int .i64 c.one.tag,.bool c.two.on,.int .i64 c.two.frame,.int .i64 c.two.tag,.int .i64 (c.page:Int),.int .i64 c.acc,.slice qr s.rd.length cr],194⟩::(he++hd++hr)) ?_ (by (refine perm_cnt fun a=>?_;simp only [cntB_app,cntB_cons,cntB_nil]<;>omega))
    refine dc_nil ?_
    refine opsC ?_
    refine run ?_
    exact finTTA (v:=.int .i64 E.frame) (v1:=.int .i64 E.level) (cs:=#[.int .i64 0,.int .i64 0,.int .i64 0,.bool false,.int .i64 0]) ⟨E.level,_,_,_,he,hd,hr,rfl,fun _=>by omega,h1,h2,h3,by (refine hpLe_cnt fun a=>?_;simp only [cntB_app,cntB_cons,cntB_nil]<;>omega)⟩
   ·refine run ?_
    exact meetS () (by
     rw [hc,Bool.true_and]
     cases hq:decide (0≤walkI c s.es) with
     | false=>rfl
     | true=>rw [hq] at hc2;simp at hc2)
  ·refine run ?_
   exact meetS () (by rw [hc];rfl)
 rintro ⟨⟩ hcut
 have hA:firstA c s=tblA c s c.one.frame.toNat 0:=by simp only [firstA,hcut,cond_false]
 have hL:firstL c s=0:=by simp only [firstL,hcut,cond_false]
 rw [hA,hL]
 have hT:=fun (wc:World) (hG:HereN (⟨Wb,#[.slice p c.ws.length cap,.slice qe s.es.length ce,.slice qd ds.length cd,.int .i64 c.pk.cpu,.bool c.pk.fill,.bool c.pk.mids,.bool c.pk.walk,.int .i64 c.pk.drop,.bool c.pk.use,.bool c.one.on,.int .i64 c.one.frame,.int .i64 c.one.tag,.bool c.two.on,.int .i64 c.two.frame,.int .i64 c.two.tag,.int .i64 (c.page:Int),.int .i64 c.acc,.slice qr s.rd.length cr],194⟩::(he++hd++hr)) wc) (hm:Sees wc (Wb::(he++hd++hr).map (·.b)) (.slice p c.ws.length cap) 1 (c.ws.map uV))=>wyTable_e c hk cap hcc s ds c.one.frame.toNat 0 (by omega) (by omega) hE (by omega) hm h1 h2 h3 hG
 rw [show ((c.one.frame.toNat:Nat):Int)=c.one.frame by omega] at hT
 refine run ?_
 refine callM (⟨Wb,#[.slice p c.ws.length cap,.slice qe s.es.length ce,.slice qd ds.length cd,.int .i64 c.pk.cpu,.bool c.pk.fill,.bool c.pk.mids,.bool c.pk.walk,.int .i64 c.pk.drop,.bool c.pk.use,.bool c.one.on,.int .i64 c.one.frame,.int .i64 c.one.tag,.bool c.two.on,.int .i64 c.two.frame,.int .i64 c.two.tag,.int .i64 (c.page:Int),.int .i64 c.acc,.slice qr s.rd.length cr],194⟩::(he++hd++hr)) [⟨F,#[.int .i64 0,.int .i64 0,.int .i64 0,.bool false,.int .i64 0],43⟩] (fun wc hG=>hT wc hG.hereN (hm.into hG)) ?_ (by (refine perm_cnt fun a=>?_;simp only [cntB_app,cntB_cons,cntB_nil]<;>omega))
 rintro u1 hn1 ⟨lv,ev1,dv1,rv1,he1,hd1,hr1,rfl,hlv,h11,h21,h31,hle1⟩
 simp only [wyC] at hle1
 generalize tblA c s c.one.frame.toNat 0=Y at hlv h11 h31 ⊢
 refine ops_le (⟨F,#[.int .i64 0,.int .i64 0,.int .i64 0,.bool false,.int .i64 0],43⟩::⟨Wb,#[.slice p c.ws.length cap,ev1,dv1,.int .i64 c.pk.cpu,.bool c.pk.fill,.bool c.pk.mids,.bool c.pk.walk,.int .i64 c.pk.drop,.bool c.pk.use,.bool c.one.on,.int .i64 c.one.frame,.int .i64 c.one.tag,.bool c.two.on,.int .i64 c.two.frame,.int .i64 c.two.tag,.int .i64 (c.page:Int),.int .i64 c.acc,rv1],194⟩::(he1++hd1++hr1)) (by (refine hpLe_cnt fun a=>?_;have:=HpLe.cnt hle1 a;simp only [cntB_app,cntB_cons,cntB_nil] at *;omega)) ?_
 refine run ?_
 exact finTTA (v:=.int .i64 Y.n) (v1:=.int .i64 lv) (cs:=#[.int .i64 Y.f.kind,.int .i64 Y.f.stage,.int .i64 Y.f.level,.bool Y.f.walk,.int .i64 Y.f.page]) ⟨lv,_,_,_,he1,hd1,hr1,rfl,fun h0=>hlv h0,h11,h21,h31,by (refine hpLe_cnt fun a=>?_;simp only [cntB_app,cntB_cons,cntB_nil]<;>omega)⟩
end Go.Proofs.YtndklbjnofdgeaaGreat
namespace Go.Proofs.YtndklbjnofdgeaaGreat
open Go.RowKit
set_option linter.unusedVariables false
set_option linter.unusedSimpArgs false
set_option maxRecDepth 20000
attribute [local irreducible] Hy St Ops DH DHF DE1 DE2 DE3 DS DCh DWF
def finM (c:AcC) (X:MdR) (M:Nat) (d:DsD):StR:=bif !decide (X.f.kind=0) then ⟨X.s,0,X.f⟩ else ⟨⟨bif c.pk.fill then fillL X.s.es (entH c X.n M d X.a) else X.s.es,X.s.rd⟩,X.n,noFt⟩
def stwA (c:AcC) (s:AcS):StR:=bif !decide ((firstA c s).f.kind=0) then ⟨(firstA c s).s,0,(firstA c s).f⟩ else stgA c (4 - firstL c s) (firstL c s) (firstA c s).n (firstA c s).s
theorem firstA_ok {c:AcC} (hk:AcOk c) {ds:List IvD} {s:AcS} (hE:EsOk c.ws.length s.es ds):StOk c.ws.length ds 4 s (firstA c s).s∧((firstA c s).f.kind=0→firstL c s<4∧hasF c.ws.length (firstA c s).n=true):=by
 unfold firstA firstL
 cases hc:(c.pk.use && decide (0≤walkI c s.es)) with
 | true=>
  rw [Bool.and_eq_true] at hc
  obtain ⟨h1,h2,h3,h4⟩:=walk_at hE (of_decide_eq_true hc.2)
  simp only [cond_true]
  exact ⟨⟨hE,by simp⟩,fun _=>⟨by omega,h4⟩⟩
 | false=>
  simp only [cond_false]
  have ho:=RtD.may_iff hk.one
  obtain ⟨h1,h2⟩:=tblA_ok hk hE (mid:=c.one.frame.toNat) (level:=0) (by omega) (by omega)
  exact ⟨h1,fun h0=>⟨by omega,h2 h0⟩⟩
theorem leafA_fin (c:AcC) (s:AcS) (l:Nat) (d:DsD):leafA c s l d=finM c (bif !decide ((flagL d.r d.w d.x d.af c.acc 1 l c.page).kind=0) then ⟨s,0,noAt,flagL d.r d.w d.x d.af c.acc 1 l c.page⟩ else midA c s (leafM c l d) c.acc) (leafM c l d) d:=by
 unfold leafA finM
 cases hc:(!decide ((flagL d.r d.w d.x d.af c.acc 1 l c.page).kind=0)) with
 | true=>simp only [cond_true];rw [hc];rfl
 | false=>rfl
theorem leafX_ok {c:AcC} (hk:AcOk c) {ds:List IvD} {s:AcS} (hE:EsOk c.ws.length s.es ds) {l:Nat} {d:DsD} (hM:leafM c l d≤4095) {X:MdR} (hX:X=(bif !decide ((flagL d.r d.w d.x d.af c.acc 1 l c.page).kind=0) then ⟨s,0,noAt,flagL d.r d.w d.x d.af c.acc 1 l c.page⟩ else midA c s (leafM c l d) c.acc)):EsOk c.ws.length X.s.es ds∧X.s.rd.length≤s.rd.length + 4∧(X.f.kind=0→hasF c.ws.length X.n=true∧X.f=noFt):=by
 cases hc:(!decide ((flagL d.r d.w d.x d.af c.acc 1 l c.page).kind=0)) with
 | true=>
  rw [hc] at hX
  subst hX
  exact ⟨hE,by simp,fun h0=>by simp at hc;exact absurd h0 hc⟩
 | false=>
  rw [hc] at hX
  subst hX
  obtain ⟨h1,h2⟩:=midA_ok hk hE hM c.acc
  exact ⟨h1.es,h1.rd,fun h0=>⟨(h2 h0).1,(h2 h0).2.1⟩⟩
structure StgZ where
 fr:Int
 lv:Int
 f:FtD
 s:AcS
 ev:Value
 dv:Value
 rv:Value
 he:Hp
 hd:Hp
 hr:Hp
structure StgI (c:AcC) (ds:List IvD) (R:StR) (z:StgZ):Prop where
 es:EsOk c.ws.length z.s.es ds
 rd:z.s.rd.length<40000
 on:z.f.kind=0→∃ L:Nat,z.lv=L∧L<4∧hasF c.ws.length z.fr=true∧z.s.rd.length + 6 * (4 - L)≤2000∧stgA c (4 - L) L z.fr z.s=R
 off:z.f.kind ≠ 0→(⟨z.s,0,z.f⟩:StR)=R
 h1:Own 114 14 z.ev z.he (z.s.es.map enV)
 h2:Own 121 4 z.dv z.hd (ds.map ivV)
 h3:Own 3 1 z.rv z.hr (z.s.rd.map inV)
theorem wyStage_e (c:AcC) (hk:AcOk c) (cap:Nat) (hcc:c.ws.length≤cap) {p:Option Addr} {w:World} {Wb:Nat} {ev dv rv:Value} {he hd hr:Hp} (s:AcS) (ds:List IvD) (hE:EsOk c.ws.length s.es ds)  (ha:PtD.btw c.acc 0 2=true) (hrl:s.rd.length<1000)
  (hm:Sees w (Wb::(he++hd++hr).map (·.b)) (.slice p c.ws.length cap) 1 (c.ws.map uV)) (h1:Own 114 14 ev he (s.es.map enV)) (h2:Own 121 4 dv hd (ds.map ivV)) (h3:Own 3 1 rv hr (s.rd.map inV)) (hN:HereN (⟨Wb,wyC c (.slice p c.ws.length cap) ev dv rv,194⟩::(he++hd++hr)) w):
  Fn Tryz.prog 167 [.pointer (some ⟨Wb,0,none⟩)].toArray w (Wb::(he++hd++hr).map (·.b)) (fun u hn=>∃ (H:HtD) (X:MdR) (M:Nat) (d:DsD) (ev' dv' rv':Value) (he' hd' hr':Hp),finM c X M d=stwA c s∧EsOk c.ws.length X.s.es ds∧X.s.rd.length<50000∧u=.tuple #[htV H,ftV X.f]∧H.frame=X.n∧(X.f.kind=0→M≤4095∧hasF c.ws.length X.n=true∧X.f=noFt∧H.mid=(M:Int)∧H.soft=0∧(⟨H.r,H.w,H.x,H.af,H.ng⟩:AtD)=bothA ⟨d.r,d.w,d.x,d.af,d.ng⟩ X.a)∧Own 114 14 ev' he' (X.s.es.map enV)∧Own 121 4 dv' hd' (ds.map ivV)∧Own 3 1 rv' hr' (X.s.rd.map inV)∧HpLe (⟨Wb,wyC c (.slice p c.ws.length cap) ev' dv' rv',194⟩::(he'++hd'++hr')) hn):=by
 simp only [wyC] at hN ⊢
 have hmi:=memOk_iff hk.mem
 have hem:=hE.may
 refine enterM _ hN Tryz.func167 ?_
 refine run ?_
 intro R1 R2
 refine callM (⟨Wb,#[.slice p c.ws.length cap,ev,dv,.int .i64 c.pk.cpu,.bool c.pk.fill,.bool c.pk.mids,.bool c.pk.walk,.int .i64 c.pk.drop,.bool c.pk.use,.bool c.one.on,.int .i64 c.one.frame,.int .i64 c.one.tag,.bool c.two.on,.int .i64 c.two.frame,.int .i64 c.two.tag,.int .i64 (c.page:Int),.int .i64 c.acc,rv],194⟩::(he++hd++hr)) (⟨R2,#[.int .i64 0,.int .i64 0,.int .i64 0,.bool false,.int .i64 0],43⟩::⟨R1,#[.int .i64 0,.int .i64 0,.bool false,.bool false,.bool false,.bool false,.bool false,.int .i64 0,.int .i64 0],234⟩::[]) (fun wc hG=>wyFirst_e c hk cap hcc s ds hE (by omega) (hm.into hG) h1 h2 h3 hG.hereN) ?_ (by (refine perm_cnt fun a=>?_;simp only [cntB_app,cntB_cons,cntB_nil]<;>omega))
 rintro u1 hn1 ⟨lv,ev1,dv1,rv1,he1,hd1,hr1,rfl,hlv,h11,h21,h31,hle1⟩
 simp only [wyC] at hle1
 refine ops_le (⟨R2,#[.int .i64 0,.int .i64 0,.int .i64 0,.bool false,.int .i64 0],43⟩::⟨R1,#[.int .i64 0,.int .i64 0,.bool false,.bool false,.bool false,.bool false,.bool false,.int .i64 0,.int .i64 0],234⟩::⟨Wb,#[.slice p c.ws.length cap,ev1,dv1,.int .i64 c.pk.cpu,.bool c.pk.fill,.bool c.pk.mids,.bool c.pk.walk,.int .i64 c.pk.drop,.bool c.pk.use,.bool c.one.on,.int .i64 c.one.frame,.int .i64 c.one.tag,.bool c.two.on,.int .i64 c.two.frame,.int .i64 c.two.tag,.int .i64 (c.page:Int),.int .i64 c.acc,rv1],194⟩::(he1++hd1++hr1)) (by (refine hpLe_cnt fun a=>?_;have:=HpLe.cnt hle1 a;simp only [cntB_app,cntB_cons,cntB_nil] at *;omega)) ?_
 obtain ⟨hFs,hFl⟩:=firstA_ok hk hE
 have hFr:=hFs.rd
 refine run ?_
 intro F
 have hm':=hm
 refine loopS (σ:=StgZ) (fun z=>[(4,.int .i64 z.fr),(5,.int .i64 z.lv)]) (fun z=>⟨F,#[.int .i64 z.f.kind,.int .i64 z.f.stage,.int .i64 z.f.level,.bool z.f.walk,.int .i64 z.f.page],43⟩::⟨R2,#[.int .i64 0,.int .i64 0,.int .i64 0,.bool false,.int .i64 0],43⟩::⟨R1,#[.int .i64 0,.int .i64 0,.bool false,.bool false,.bool false,.bool false,.bool false,.int .i64 0,.int .i64 0],234⟩::⟨Wb,#[.slice p c.ws.length cap,z.ev,z.dv,.int .i64 c.pk.cpu,.bool c.pk.fill,.bool c.pk.mids,.bool c.pk.walk,.int .i64 c.pk.drop,.bool c.pk.use,.bool c.one.on,.int .i64 c.one.frame,.int .i64 c.one.tag,.bool c.two.on,.int .i64 c.two.frame,.int .i64 c.two.tag,.int .i64 (c.page:Int),.int .i64 c.acc,z.rv],194⟩::(z.he++z.hd++z.hr)) (StgI c ds (stwA c s)) (fun z=>bif decide (z.f.kind=0) then 6 - z.lv.toNat else 0) ⟨(firstA c s).n,lv,(firstA c s).f,(firstA c s).s,ev1,dv1,rv1,he1,hd1,hr1⟩ ⟨hFs.es,by dsimp only;omega,fun h0=>?_,fun h0=>?_,h11,h21,h31⟩ ?_
 ·obtain ⟨g1,g2⟩:=hFl h0
  exact ⟨firstL c s,hlv h0,g1,g2,by dsimp only;omega,by dsimp only;rw [stwA,show decide ((firstA c s).f.kind=0)=true from decide_eq_true h0];rfl⟩
 ·dsimp only at h0 ⊢
  rw [stwA,show decide ((firstA c s).f.kind=0)=false from decide_eq_false h0];rfl
 rintro ⟨fr,lv,f,S,ev,dv,rv,he,hd,hr⟩ m hm ⟨hES,hrd,hon,hoff,h1,h2,h3⟩
 dsimp only at hm hES hrd hon hoff h1 h2 h3 ⊢
 refine run ?_
 refine st_cond _ rfl (fun hc=>?_) (fun hc=>?_)
 ·have hf0:f.kind=0:=by simpa using hc
  obtain ⟨L,rfl,hl,hff,hrd1,hwk⟩:=hon hf0
  clear hon hoff
  generalize stwA c s=R at hwk ⊢
  refine run ?_
  intro T
  refine appendW (c:=inV fr) (⟨T,#[.int .i64 fr],3⟩::⟨F,#[.int .i64 f.kind,.int .i64 f.stage,.int .i64 f.level,.bool f.walk,.int .i64 f.page],43⟩::⟨R2,#[.int .i64 0,.int .i64 0,.int .i64 0,.bool false,.int .i64 0],43⟩::⟨R1,#[.int .i64 0,.int .i64 0,.bool false,.bool false,.bool false,.bool false,.bool false,.int .i64 0,.int .i64 0],234⟩::⟨Wb,#[.slice p c.ws.length cap,ev,dv,.int .i64 c.pk.cpu,.bool c.pk.fill,.bool c.pk.mids,.bool c.pk.walk,.int .i64 c.pk.drop,.bool c.pk.use,.bool c.one.on,.int .i64 c.one.frame,.int .i64 c.one.tag,.bool c.two.on,.int .i64 c.two.frame,.int .i64 c.two.tag,.int .i64 (c.page:Int),.int .i64 c.acc,rv],194⟩::(he++hd)) h3 (fun v' ha' hA'=>?_) (by simp;omega) (news_own (m:=1) mh rfl) (hperm:=by (refine perm_cnt fun a=>?_;simp only [cntB_app,cntB_cons,cntB_nil]<;>omega))
  rw [show S.rd.map inV++[inV fr]=(S.rd++[fr]).map inV by simp] at hA'
  obtain ⟨q4,c4,e4⟩:=hA'.opened
  rw [List.length_map] at e4
  subst e4
  refine ops_le (⟨F,#[.int .i64 f.kind,.int .i64 f.stage,.int .i64 f.level,.bool f.walk,.int .i64 f.page],43⟩::⟨R2,#[.int .i64 0,.int .i64 0,.int .i64 0,.bool false,.int .i64 0],43⟩::⟨R1,#[.int .i64 0,.int .i64 0,.bool false,.bool false,.bool false,.bool false,.bool false,.int .i64 0,.int .i64 0],234⟩::⟨Wb,#[.slice p c.ws.length cap,ev,dv,.int .i64 c.pk.cpu,.bool c.pk.fill,.bool c.pk.mids,.bool c.pk.walk,.int .i64 c.pk.drop,.bool c.pk.use,.bool c.one.on,.int .i64 c.one.frame,.int .i64 c.one.tag,.bool c.two.on,.int .i64 c.two.frame,.int .i64 c.two.tag,.int .i64 (c.page:Int),.int .i64 c.acc,rv],194⟩::(he++hd++ha')) (by (refine hpLe_cnt fun a=>?_;simp only [cntB_app,cntB_cons,cntB_nil]<;>omega)) ?_
  refine run ?_
  have hT:=fun {wc:World} (h:SlAt wc (.slice p c.ws.length cap) 1 (c.ws.map uV))=>wTable_e c.ws hk.w64 cap hk.mem hcc h 1 (.inl rfl) L hl fr hff c.page hk.page
  have hmay:=dSt_may c.ws 1 (atN fr L c.page) L
  rw [show 4 - L=(3 - L) + 1 by omega,stgA] at hwk
  generalize dSt c.ws 1 (atN fr L c.page) L=d at hwk hmay hT
  obtain ⟨hkk,hk0,hk1,hk2⟩:=may_kinds hmay
  refine drawEC 16 15 [0,1,2,3,4,5,6,7,8,9,10,11,12,13] [14] [15] (⟨F,#[.int .i64 f.kind,.int .i64 f.stage,.int .i64 f.level,.bool f.walk,.int .i64 f.page],43⟩::⟨R2,#[.int .i64 0,.int .i64 0,.int .i64 0,.bool false,.int .i64 0],43⟩::⟨R1,#[.int .i64 0,.int .i64 0,.bool false,.bool false,.bool false,.bool false,.bool false,.int .i64 0,.int .i64 0],234⟩::⟨Wb,#[.slice p c.ws.length cap,ev,dv,.int .i64 c.pk.cpu,.bool c.pk.fill,.bool c.pk.mids,.bool c.pk.walk,.int .i64 c.pk.drop,.bool c.pk.use,.bool c.one.on,.int .i64 c.one.frame,.int .i64 c.one.tag,.bool c.two.on,.int .i64 c.two.frame,.int .i64 c.two.tag,.int .i64 (c.page:Int),.int .i64 c.acc,.slice q4 (S.rd++[fr]).length c4],194⟩::(he++hd++ha')) ?_
  refine runZ ?_
  refine sCallA (fun wc hx hG=>hT (hm'.good hG)) ?_
  refine runZ ?_
  refine eAlloc ?_
  refine eNil ?_
  rintro _ _ ⟨D,rfl,rfl⟩
  simp only [DN,List.cons_append,List.nil_append,List.append_nil]
  refine cStore (b:=D) (tb:=258) (cs:=#[.int .i64 0,.int .i64 0,.bool false,.bool false,.bool false,.bool false,.bool false,.int .i64 0,.int .i64 0]) (cs':=#[.int .i64 d.kind,.int .i64 d.frame,.bool d.r,.bool d.w,.bool d.x,.bool d.af,.bool d.ng,.int .i64 d.soft,.int .i64 d.note]) (hp':=⟨F,#[.int .i64 f.kind,.int .i64 f.stage,.int .i64 f.level,.bool f.walk,.int .i64 f.page],43⟩::⟨R2,#[.int .i64 0,.int .i64 0,.int .i64 0,.bool false,.int .i64 0],43⟩::⟨R1,#[.int .i64 0,.int .i64 0,.bool false,.bool false,.bool false,.bool false,.bool false,.int .i64 0,.int .i64 0],234⟩::⟨Wb,#[.slice p c.ws.length cap,ev,dv,.int .i64 c.pk.cpu,.bool c.pk.fill,.bool c.pk.mids,.bool c.pk.walk,.int .i64 c.pk.drop,.bool c.pk.use,.bool c.one.on,.int .i64 c.one.frame,.int .i64 c.one.tag,.bool c.two.on,.int .i64 c.two.frame,.int .i64 c.two.tag,.int .i64 (c.page:Int),.int .i64 c.acc,.slice q4 (S.rd++[fr]).length c4],194⟩::(he++hd++ha')) ?_ (by (refine perm_cnt fun a=>?_;simp only [cntB_app,cntB_cons,cntB_nil]<;>omega))
  refine dc_nil ?_
  refine opsC ?_
  refine run ?_
  refine st_cond _ rfl (fun hc2=>?_) (fun hc2=>?_)
  ·have hdk2:d.kind=2:=by simpa using hc2
   obtain ⟨hlf,hlf2⟩:=leaf_mid hmay hdk2 hl c.page
   simp only [hdk2,show decide ((2:Int)=1)=false from rfl,show decide ((2:Int)=0)=false from rfl,cond_false] at hwk
   refine run ?_
   refine callM (⟨Wb,#[.slice p c.ws.length cap,ev,dv,.int .i64 c.pk.cpu,.bool c.pk.fill,.bool c.pk.mids,.bool c.pk.walk,.int .i64 c.pk.drop,.bool c.pk.use,.bool c.one.on,.int .i64 c.one.frame,.int .i64 c.one.tag,.bool c.two.on,.int .i64 c.two.frame,.int .i64 c.two.tag,.int .i64 (c.page:Int),.int .i64 c.acc,.slice q4 (S.rd++[fr]).length c4],194⟩::(he++hd++ha')) (⟨D,#[.int .i64 d.kind,.int .i64 d.frame,.bool d.r,.bool d.w,.bool d.x,.bool d.af,.bool d.ng,.int .i64 d.soft,.int .i64 d.note],258⟩::⟨F,#[.int .i64 f.kind,.int .i64 f.stage,.int .i64 f.level,.bool f.walk,.int .i64 f.page],43⟩::⟨R2,#[.int .i64 0,.int .i64 0,.int .i64 0,.bool false,.int .i64 0],43⟩::⟨R1,#[.int .i64 0,.int .i64 0,.bool false,.bool false,.bool false,.bool false,.bool false,.int .i64 0,.int .i64 0],234⟩::[]) (fun wc hG=>wyLeaf_e c hk cap hcc ⟨S.es,S.rd++[fr]⟩ ds hES ha L hl d hmay hdk2 (by dsimp only;simp only [List.length_append,List.length_singleton];omega) (hm'.into hG) h1 h2 hA' hG.hereN) ?_ (by (refine perm_cnt fun a=>?_;simp only [cntB_app,cntB_cons,cntB_nil]<;>omega))
   rintro u1 hn1 ⟨H,X,ev2,dv2,rv2,he2,hd2,hr2,hX,rfl,hH1,hH2,h12,h22,h32,hle2⟩
   simp only [wyC] at hle2
   rw [leafA_fin,← hX] at hwk
   obtain ⟨hX1,hX2,hX3⟩:=leafX_ok hk (s:=⟨S.es,S.rd++[fr]⟩) hES hlf hX
   simp only [List.length_append,List.length_singleton] at hX2
   refine ops_le (⟨R2,#[.int .i64 0,.int .i64 0,.int .i64 0,.bool false,.int .i64 0],43⟩::⟨R1,#[.int .i64 0,.int .i64 0,.bool false,.bool false,.bool false,.bool false,.bool false,.int .i64 0,.int .i64 0],234⟩::⟨Wb,#[.slice p c.ws.length cap,ev2,dv2,.int .i64 c.pk.cpu,.bool c.pk.fill,.bool c.pk.mids,.bool c.pk.walk,.int .i64 c.pk.drop,.bool c.pk.use,.bool c.one.on,.int .i64 c.one.frame,.int .i64 c.one.tag,.bool c.two.on,.int .i64 c.two.frame,.int .i64 c.two.tag,.int .i64 (c.page:Int),.int .i64 c.acc,rv2],194⟩::(he2++hd2++hr2)) (by (refine hpLe_cnt fun a=>?_;have:=HpLe.cnt hle2 a;simp only [cntB_app,cntB_cons,cntB_nil] at *;omega)) ?_
   refine run ?_
   exact finAA2 (cs:=#[.int .i64 H.frame,.int .i64 H.mid,.bool H.r,.bool H.w,.bool H.x,.bool H.af,.bool H.ng,.int .i64 H.soft,.int .i64 H.level]) (cs2:=#[.int .i64 X.f.kind,.int .i64 X.f.stage,.int .i64 X.f.level,.bool X.f.walk,.int .i64 X.f.page]) ⟨H,X,leafM c L d,d,ev2,dv2,rv2,he2,hd2,hr2,hwk,hX1,by omega,rfl,hH1,fun h0=>⟨hlf,(hX3 h0).1,(hX3 h0).2,hH2 h0⟩,h12,h22,h32,by (refine hpLe_cnt fun a=>?_;simp only [cntB_app,cntB_cons,cntB_nil]<;>omega)⟩
  refine run ?_
  refine st_cond _ rfl (fun hc3=>?_) (fun hc3=>?_)
  ·have hdk0:d.kind=0:=by simpa using hc3
   simp only [hdk0,show decide ((0:Int)=1)=false from rfl,show decide ((0:Int)=0)=true from rfl,cond_false,cond_true] at hwk
   refine run ?_
   refine drawC 9 7 [0,1,2,3,4,5,6] [7,8] (⟨D,#[.int .i64 d.kind,.int .i64 d.frame,.bool d.r,.bool d.w,.bool d.x,.bool d.af,.bool d.ng,.int .i64 d.soft,.int .i64 d.note],258⟩::⟨F,#[.int .i64 f.kind,.int .i64 f.stage,.int .i64 f.level,.bool f.walk,.int .i64 f.page],43⟩::⟨Wb,#[.slice p c.ws.length cap,ev,dv,.int .i64 c.pk.cpu,.bool c.pk.fill,.bool c.pk.mids,.bool c.pk.walk,.int .i64 c.pk.drop,.bool c.pk.use,.bool c.one.on,.int .i64 c.one.frame,.int .i64 c.one.tag,.bool c.two.on,.int .i64 c.two.frame,.int .i64 c.two.tag,.int .i64 (c.page:Int),.int .i64 c.acc,.slice q4 (S.rd++[fr]).length c4],194⟩::(he++hd++ha')) ?_
   refine runZ ?_
   refine cStore (b:=R1) (tb:=234) (cs:=#[.int .i64 0,.int .i64 0,.bool false,.bool false,.bool false,.bool false,.bool false,.int .i64 0,.int .i64 0]) (cs':=#[.int .i64 0,.int .i64 0,.bool false,.bool false,.bool false,.bool false,.bool false,.int .i64 0,.int .i64 0]) (hp':=⟨D,#[.int .i64 d.kind,.int .i64 d.frame,.bool d.r,.bool d.w,.bool d.x,.bool d.af,.bool d.ng,.int .i64 d.soft,.int .i64 d.note],258⟩::⟨F,#[.int .i64 f.kind,.int .i64 f.stage,.int .i64 f.level,.bool f.walk,.int .i64 f.page],43⟩::⟨R2,#[.int .i64 0,.int .i64 0,.int .i64 0,.bool false,.int .i64 0],43⟩::⟨Wb,#[.slice p c.ws.length cap,ev,dv,.int .i64 c.pk.cpu,.bool c.pk.fill,.bool c.pk.mids,.bool c.pk.walk,.int .i64 c.pk.drop,.bool c.pk.use,.bool c.one.on,.int .i64 c.one.frame,.int .i64 c.one.tag,.bool c.two.on,.int .i64 c.two.frame,.int .i64 c.two.tag,.int .i64 (c.page:Int),.int .i64 c.acc,.slice q4 (S.rd++[fr]).length c4],194⟩::(he++hd++ha')) ?_ (by (refine perm_cnt fun a=>?_;simp only [cntB_app,cntB_cons,cntB_nil]<;>omega))
   refine cStore (b:=R2) (tb:=43) (cs:=#[.int .i64 0,.int .i64 0,.int .i64 0,.bool false,.int .i64 0]) (cs':=#[.int .i64 2,.int .i64 1,.int .i64 (L:Int),.bool false,.int .i64 (c.page:Int)]) (hp':=⟨R1,#[.int .i64 0,.int .i64 0,.bool false,.bool false,.bool false,.bool false,.bool false,.int .i64 0,.int .i64 0],234⟩::⟨D,#[.int .i64 d.kind,.int .i64 d.frame,.bool d.r,.bool d.w,.bool d.x,.bool d.af,.bool d.ng,.int .i64 d.soft,.int .i64 d.note],258⟩::⟨F,#[.int .i64 f.kind,.int .i64 f.stage,.int .i64 f.level,.bool f.walk,.int .i64 f.page],43⟩::⟨Wb,#[.slice p c.ws.length cap,ev,dv,.int .i64 c.pk.cpu,.bool c.pk.fill,.bool c.pk.mids,.bool c.pk.walk,.int .i64 c.pk.drop,.bool c.pk.use,.bool c.one.on,.int .i64 c.one.frame,.int .i64 c.one.tag,.bool c.two.on,.int .i64 c.two.frame,.int .i64 c.two.tag,.int .i64 (c.page:Int),.int .i64 c.acc,.slice q4 (S.rd++[fr]).length c4],194⟩::(he++hd++ha')) ?_ (by (refine perm_cnt fun a=>?_;simp only [cntB_app,cntB_cons,cntB_nil]<;>omega))
   refine dc_nil ?_
   refine opsC ?_
   refine run ?_
   exact finAA2 (cs:=#[.int .i64 0,.int .i64 0,.bool false,.bool false,.bool false,.bool false,.bool false,.int .i64 0,.int .i64 0]) (cs2:=#[.int .i64 2,.int .i64 1,.int .i64 (L:Int),.bool false,.int .i64 (c.page:Int)]) ⟨⟨0,0,false,false,false,false,false,0,0⟩,⟨⟨S.es,S.rd++[fr]⟩,0,noAt,⟨2,1,L,false,c.page⟩⟩,0,default,_,_,_,he,hd,ha',hwk,hES,by dsimp only;simp only [List.length_append,List.length_singleton];omega,rfl,rfl,fun h0=>by simp at h0,h1,h2,hA',by (refine hpLe_cnt fun a=>?_;simp only [cntB_app,cntB_cons,cntB_nil]<;>omega)⟩
  have hdk1:d.kind=1:=by simp at hc2 hc3;omega
  obtain ⟨k1,k2,k3,k4⟩:=hk1 hdk1
  simp only [hdk1,show decide ((1:Int)=1)=true from rfl,cond_true] at hwk
  have hcl:=fun (wc:World) (hG:HereN (⟨Wb,#[.slice p c.ws.length cap,ev,dv,.int .i64 c.pk.cpu,.bool c.pk.fill,.bool c.pk.mids,.bool c.pk.walk,.int .i64 c.pk.drop,.bool c.pk.use,.bool c.one.on,.int .i64 c.one.frame,.int .i64 c.one.tag,.bool c.two.on,.int .i64 c.two.frame,.int .i64 c.two.tag,.int .i64 (c.page:Int),.int .i64 c.acc,.slice q4 (S.rd++[fr]).length c4],194⟩::(he++hd++ha')) wc) (hm:Sees wc (Wb::(he++hd++ha').map (·.b)) (.slice p c.ws.length cap) 1 (c.ws.map uV))=>wyTable_e c hk cap hcc ⟨S.es,S.rd++[fr]⟩ ds d.frame.toNat (L + 1) (by omega) (by omega) hES (by dsimp only;simp only [List.length_append,List.length_singleton];omega) hm h1 h2 hA' hG
  rw [show ((d.frame.toNat:Nat):Int)=d.frame by omega] at hcl
  refine run ?_
  refine callM (⟨Wb,#[.slice p c.ws.length cap,ev,dv,.int .i64 c.pk.cpu,.bool c.pk.fill,.bool c.pk.mids,.bool c.pk.walk,.int .i64 c.pk.drop,.bool c.pk.use,.bool c.one.on,.int .i64 c.one.frame,.int .i64 c.one.tag,.bool c.two.on,.int .i64 c.two.frame,.int .i64 c.two.tag,.int .i64 (c.page:Int),.int .i64 c.acc,.slice q4 (S.rd++[fr]).length c4],194⟩::(he++hd++ha')) (⟨D,#[.int .i64 d.kind,.int .i64 d.frame,.bool d.r,.bool d.w,.bool d.x,.bool d.af,.bool d.ng,.int .i64 d.soft,.int .i64 d.note],258⟩::⟨F,#[.int .i64 f.kind,.int .i64 f.stage,.int .i64 f.level,.bool f.walk,.int .i64 f.page],43⟩::⟨R2,#[.int .i64 0,.int .i64 0,.int .i64 0,.bool false,.int .i64 0],43⟩::⟨R1,#[.int .i64 0,.int .i64 0,.bool false,.bool false,.bool false,.bool false,.bool false,.int .i64 0,.int .i64 0],234⟩::[]) (fun wc hG=>hcl wc hG.hereN (hm'.into hG)) ?_ (by (refine perm_cnt fun a=>?_;simp only [cntB_app,cntB_cons,cntB_nil]<;>omega))
  rintro u1 hn1 ⟨lv2,ev2,dv2,rv2,he2,hd2,hr2,rfl,hlv2,h12,h22,h32,hle2⟩
  simp only [wyC] at hle2
  obtain ⟨hYs,hYf⟩:=tblA_ok hk (s:=⟨S.es,S.rd++[fr]⟩) hES (mid:=d.frame.toNat) (level:=L + 1) (by omega) (by omega)
  have hYr:=hYs.rd
  simp only [List.length_append,List.length_singleton] at hYr
  generalize tblA c ⟨S.es,S.rd++[fr]⟩ d.frame.toNat (L + 1)=Y at hlv2 h12 h32 hYs hYf hYr hwk ⊢
  refine ops_le (⟨F,#[.int .i64 f.kind,.int .i64 f.stage,.int .i64 f.level,.bool f.walk,.int .i64 f.page],43⟩::⟨R2,#[.int .i64 0,.int .i64 0,.int .i64 0,.bool false,.int .i64 0],43⟩::⟨R1,#[.int .i64 0,.int .i64 0,.bool false,.bool false,.bool false,.bool false,.bool false,.int .i64 0,.int .i64 0],234⟩::⟨Wb,#[.slice p c.ws.length cap,ev2,dv2,.int .i64 c.pk.cpu,.bool c.pk.fill,.bool c.pk.mids,.bool c.pk.walk,.int .i64 c.pk.drop,.bool c.pk.use,.bool c.one.on,.int .i64 c.one.frame,.int .i64 c.one.tag,.bool c.two.on,.int .i64 c.two.frame,.int .i64 c.two.tag,.int .i64 (c.page:Int),.int .i64 c.acc,rv2],194⟩::(he2++hd2++hr2)) (by (refine hpLe_cnt fun a=>?_;have:=HpLe.cnt hle2 a;simp only [cntB_app,cntB_cons,cntB_nil] at *;omega)) ?_
  refine run ?_
  refine nextS (⟨Y.n,lv2,Y.f,Y.s,ev2,dv2,rv2,he2,hd2,hr2⟩:StgZ) ⟨hYs.es,by dsimp only;omega,fun h0=>?_,fun h0=>?_,h12,h22,h32⟩ (hm:=?_) (h2:=by (refine hpLe_cnt fun a=>?_;simp only [cntB_app,cntB_cons,cntB_nil]<;>omega))
  ·dsimp only at h0 ⊢
   rw [show decide (Y.f.kind=0)=true from decide_eq_true h0] at hwk
   exact ⟨L + 1,hlv2 h0,by omega,hYf h0,by omega,by rw [show 4 - (L + 1)=3 - L by omega];exact hwk⟩
  ·dsimp only at h0 ⊢
   rw [show decide (Y.f.kind=0)=false from decide_eq_false h0] at hwk
   exact hwk
  ·dsimp only
   rw [show decide (f.kind=0)=true from decide_eq_true hf0,cond_true] at hm
   cases h0:decide (Y.f.kind=0) with
   | true=>rw [cond_true,hlv2 (of_decide_eq_true h0)];omega
   | false=>rw [cond_false];omega
 ·have hf0:f.kind ≠ 0:=by simpa using hc
  have hwk:=hoff hf0
  refine run ?_
  refine drawC 4 2 [0,1] [2,3] (⟨F,#[.int .i64 f.kind,.int .i64 f.stage,.int .i64 f.level,.bool f.walk,.int .i64 f.page],43⟩::⟨Wb,#[.slice p c.ws.length cap,ev,dv,.int .i64 c.pk.cpu,.bool c.pk.fill,.bool c.pk.mids,.bool c.pk.walk,.int .i64 c.pk.drop,.bool c.pk.use,.bool c.one.on,.int .i64 c.one.frame,.int .i64 c.one.tag,.bool c.two.on,.int .i64 c.two.frame,.int .i64 c.two.tag,.int .i64 (c.page:Int),.int .i64 c.acc,rv],194⟩::(he++hd++hr)) ?_
  refine runZ ?_
  refine cStore (b:=R1) (tb:=234) (cs:=#[.int .i64 0,.int .i64 0,.bool false,.bool false,.bool false,.bool false,.bool false,.int .i64 0,.int .i64 0]) (cs':=#[.int .i64 0,.int .i64 0,.bool false,.bool false,.bool false,.bool false,.bool false,.int .i64 0,.int .i64 0]) (hp':=⟨F,#[.int .i64 f.kind,.int .i64 f.stage,.int .i64 f.level,.bool f.walk,.int .i64 f.page],43⟩::⟨R2,#[.int .i64 0,.int .i64 0,.int .i64 0,.bool false,.int .i64 0],43⟩::⟨Wb,#[.slice p c.ws.length cap,ev,dv,.int .i64 c.pk.cpu,.bool c.pk.fill,.bool c.pk.mids,.bool c.pk.walk,.int .i64 c.pk.drop,.bool c.pk.use,.bool c.one.on,.int .i64 c.one.frame,.int .i64 c.one.tag,.bool c.two.on,.int .i64 c.two.frame,.int .i64 c.two.tag,.int .i64 (c.page:Int),.int .i64 c.acc,rv],194⟩::(he++hd++hr)) ?_ (by (refine perm_cnt fun a=>?_;simp only [cntB_app,cntB_cons,cntB_nil]<;>omega))
  refine cStore (b:=R2) (tb:=43) (cs:=#[.int .i64 0,.int .i64 0,.int .i64 0,.bool false,.int .i64 0]) (cs':=#[.int .i64 f.kind,.int .i64 f.stage,.int .i64 f.level,.bool f.walk,.int .i64 f.page]) (hp':=⟨R1,#[.int .i64 0,.int .i64 0,.bool false,.bool false,.bool false,.bool false,.bool false,.int .i64 0,.int .i64 0],234⟩::⟨F,#[.int .i64 f.kind,.int .i64 f.stage,.int .i64 f.level,.bool f.walk,.int .i64 f.page],43⟩::⟨Wb,#[.slice p c.ws.length cap,ev,dv,.int .i64 c.pk.cpu,.bool c.pk.fill,.bool c.pk.mids,.bool c.pk.walk,.int .i64 c.pk.drop,.bool c.pk.use,.bool c.one.on,.int .i64 c.one.frame,.int .i64 c.one.tag,.bool c.two.on,.int .i64 c.two.frame,.int .i64 c.two.tag,.int .i64 (c.page:Int),.int .i64 c.acc,rv],194⟩::(he++hd++hr)) ?_ (by (refine perm_cnt fun a=>?_;simp only [cntB_app,cntB_cons,cntB_nil]<;>omega))
  refine dc_nil ?_
  refine opsC ?_
  refine run ?_
  exact finAA2 (cs:=#[.int .i64 0,.int .i64 0,.bool false,.bool false,.bool false,.bool false,.bool false,.int .i64 0,.int .i64 0]) (cs2:=#[.int .i64 f.kind,.int .i64 f.stage,.int .i64 f.level,.bool f.walk,.int .i64 f.page]) ⟨⟨0,0,false,false,false,false,false,0,0⟩,⟨S,0,noAt,f⟩,0,default,_,_,_,he,hd,hr,by rw [finM,show decide (f.kind=0)=false from decide_eq_false hf0];exact hwk,hES,by dsimp only;omega,rfl,rfl,fun h0=>absurd h0 hf0,h1,h2,h3,by (refine hpLe_cnt fun a=>?_;simp only [cntB_app,cntB_cons,cntB_nil]<;>omega)⟩
end Go.Proofs.YtndklbjnofdgeaaGreat
namespace Go.Proofs.YtndklbjnofdgeaaGreat
open Go.RowKit
set_option linter.unusedVariables false
set_option linter.unusedSimpArgs false
set_option maxRecDepth 20000
attribute [local irreducible] Hy St Ops DH DHF DE1 DE2 DE3 DS DCh DWF
theorem pageB_stw (c:AcC) (es:List EnD):pageB c es=bif !c.one.on then ⟨(midA c ⟨es,[]⟩ c.page c.acc).s,(midA c ⟨es,[]⟩ c.page c.acc).n,(midA c ⟨es,[]⟩ c.page c.acc).f⟩ else bif c.pk.use && decide (0≤wholeI c es) then ⟨⟨es,[]⟩,(es.getD (wholeI c es).toNat default).frame,noFt⟩ else stwA c ⟨es,[]⟩:=by
 unfold pageB pageW stwA firstA firstL
 cases hc:(c.pk.use && decide (0≤walkI c es)) with
 | true=>simp only [hc,cond_true,noFt,decide_true,Bool.not_true,cond_false]
 | false=>
  simp only [hc,cond_false]
  rw [rootA]
theorem wyFrame_e (c:AcC) (hk:AcOk c) (cap:Nat) (hcc:c.ws.length≤cap) {p:Option Addr} {w:World} {Wb:Nat} {ev dv rv:Value} {he hd hr:Hp} (es:List EnD) (ds:List IvD) (hE:EsOk c.ws.length es ds) (ha:PtD.btw c.acc 0 2=true)
  (hm:Sees w (Wb::(he++hd++hr).map (·.b)) (.slice p c.ws.length cap) 1 (c.ws.map uV)) (h1:Own 114 14 ev he ((⟨es,[]⟩:AcS).es.map enV)) (h2:Own 121 4 dv hd (ds.map ivV)) (h3:Own 3 1 rv hr ((⟨es,[]⟩:AcS).rd.map inV)) (hN:HereN (⟨Wb,wyC c (.slice p c.ws.length cap) ev dv rv,194⟩::(he++hd++hr)) w):
  Fn Tryz.prog 138 [.pointer (some ⟨Wb,0,none⟩)].toArray w (Wb::(he++hd++hr).map (·.b)) (fun u hn=>∃ (ev' dv' rv':Value) (he' hd' hr':Hp),u=.tuple #[.int .i64 (pageB c es).n,ftV (pageB c es).f]∧Own 114 14 ev' he' ((pageB c es).s.es.map enV)∧Own 121 4 dv' hd' (ds.map ivV)∧Own 3 1 rv' hr' ((pageB c es).s.rd.map inV)∧HpLe (⟨Wb,wyC c (.slice p c.ws.length cap) ev' dv' rv',194⟩::(he'++hd'++hr')) hn):=by
 have hcap:=h1.cap
 obtain ⟨qe,ce,ee⟩:=h1.opened
 obtain ⟨qd,cd,ed⟩:=h2.opened
 obtain ⟨qr,cr,er⟩:=h3.opened
 rw [List.length_map] at ee ed er
 subst ee ed er
 simp only [wyC] at hN ⊢
 have hmi:=memOk_iff hk.mem
 have hem:=hE.may
 have ho:=RtD.may_iff hk.one
 have htw:=RtD.may_iff hk.two
 have hm':=hm
 rw [pageB_stw]
 refine enterM _ hN Tryz.func138 ?_
 refine run ?_
 intro R
 refine run ?_
 refine st_cond _ rfl (fun hc=>?_) (fun hc=>?_)
 ·rw [hc,cond_true]
  refine run ?_
  have hcall:=fun (wc:World) (hG:HereN (⟨Wb,#[.slice p c.ws.length cap,.slice qe es.length ce,.slice qd ds.length cd,.int .i64 c.pk.cpu,.bool c.pk.fill,.bool c.pk.mids,.bool c.pk.walk,.int .i64 c.pk.drop,.bool c.pk.use,.bool c.one.on,.int .i64 c.one.frame,.int .i64 c.one.tag,.bool c.two.on,.int .i64 c.two.frame,.int .i64 c.two.tag,.int .i64 (c.page:Int),.int .i64 c.acc,.slice qr ([]:List Int).length cr],194⟩::(he++hd++hr)) wc) (hm:Sees wc (Wb::(he++hd++hr).map (·.b)) (.slice p c.ws.length cap) 1 (c.ws.map uV))=>wyMid_e c hk cap hcc ⟨es,[]⟩ ds c.page hk.page c.acc ha hE (by simp) hm h1 h2 h3 hG
  refine drawEW 15 9 (⟨Wb,#[.slice p c.ws.length cap,.slice qe es.length ce,.slice qd ds.length cd,.int .i64 c.pk.cpu,.bool c.pk.fill,.bool c.pk.mids,.bool c.pk.walk,.int .i64 c.pk.drop,.bool c.pk.use,.bool c.one.on,.int .i64 c.one.frame,.int .i64 c.one.tag,.bool c.two.on,.int .i64 c.two.frame,.int .i64 c.two.tag,.int .i64 (c.page:Int),.int .i64 c.acc,.slice qr ([]:List Int).length cr],194⟩::(he++hd++hr)) (⟨R,#[.int .i64 0,.int .i64 0,.int .i64 0,.bool false,.int .i64 0],43⟩::[]) [0,1,2,3,4,5,6,7,8] [9,13,14] [10,11,12] [] [15,16] ?_
  refine runS ?_
  refine wCall (fun wc hG=>hcall wc hG.hereN (hm.into hG)) (hcall w hN hm).some ?_
  refine wAlloc ?_
  refine wAlloc ?_
  refine wNil ?_
  rintro _ _ ⟨A2,rfl,rfl⟩ _ _ ⟨A1,rfl,rfl⟩ u1 hn1 ⟨H,ev1,dv1,rv1,he1,hd1,hr1,rfl,⟨hH1,hH2⟩,h11,h21,h31,hle1⟩
  simp only [wyC] at hle1
  generalize midA c ⟨es,[]⟩ c.page c.acc=Y at hH1 hH2 h11 h31 ⊢
  refine dMove ?_
  refine dExtract ?_
  refine dExtract ?_
  refine dNil ?_
  refine dNil ?_
  simp only [DN,List.cons_append,List.nil_append,List.append_nil]
  refine cStore (b:=A1) (tb:=234) (cs:=#[.int .i64 0,.int .i64 0,.bool false,.bool false,.bool false,.bool false,.bool false,.int .i64 0,.int .i64 0]) (cs':=#[.int .i64 H.frame,.int .i64 H.mid,.bool H.r,.bool H.w,.bool H.x,.bool H.af,.bool H.ng,.int .i64 H.soft,.int .i64 H.level]) (hp':=⟨A2,#[.int .i64 0,.int .i64 0,.int .i64 0,.bool false,.int .i64 0],43⟩::(hn1++[⟨R,#[.int .i64 0,.int .i64 0,.int .i64 0,.bool false,.int .i64 0],43⟩])) ?_ (by (refine perm_cnt fun a=>?_;simp only [cntB_app,cntB_cons,cntB_nil]<;>omega))
  refine cStore (b:=A2) (tb:=43) (cs:=#[.int .i64 0,.int .i64 0,.int .i64 0,.bool false,.int .i64 0]) (cs':=#[.int .i64 Y.f.kind,.int .i64 Y.f.stage,.int .i64 Y.f.level,.bool Y.f.walk,.int .i64 Y.f.page]) (hp':=⟨A1,#[.int .i64 H.frame,.int .i64 H.mid,.bool H.r,.bool H.w,.bool H.x,.bool H.af,.bool H.ng,.int .i64 H.soft,.int .i64 H.level],234⟩::(hn1++[⟨R,#[.int .i64 0,.int .i64 0,.int .i64 0,.bool false,.int .i64 0],43⟩])) ?_ (by (refine perm_cnt fun a=>?_;simp only [cntB_app,cntB_cons,cntB_nil]<;>omega))
  refine dc_nil ?_
  refine opsC ?_
  refine ops_le (⟨A2,#[.int .i64 Y.f.kind,.int .i64 Y.f.stage,.int .i64 Y.f.level,.bool Y.f.walk,.int .i64 Y.f.page],43⟩::⟨A1,#[.int .i64 H.frame,.int .i64 H.mid,.bool H.r,.bool H.w,.bool H.x,.bool H.af,.bool H.ng,.int .i64 H.soft,.int .i64 H.level],234⟩::⟨R,#[.int .i64 0,.int .i64 0,.int .i64 0,.bool false,.int .i64 0],43⟩::⟨Wb,#[.slice p c.ws.length cap,ev1,dv1,.int .i64 c.pk.cpu,.bool c.pk.fill,.bool c.pk.mids,.bool c.pk.walk,.int .i64 c.pk.drop,.bool c.pk.use,.bool c.one.on,.int .i64 c.one.frame,.int .i64 c.one.tag,.bool c.two.on,.int .i64 c.two.frame,.int .i64 c.two.tag,.int .i64 (c.page:Int),.int .i64 c.acc,rv1],194⟩::(he1++hd1++hr1)) (by (refine hpLe_cnt fun a=>?_;have:=HpLe.cnt hle1 a;simp only [cntB_app,cntB_cons,cntB_nil] at *;omega)) ?_
  refine run ?_
  refine dropS 2 ?_
  refine drawC 5 4 [0,1,2,3] [4] (⟨A2,#[.int .i64 Y.f.kind,.int .i64 Y.f.stage,.int .i64 Y.f.level,.bool Y.f.walk,.int .i64 Y.f.page],43⟩::⟨A1,#[.int .i64 H.frame,.int .i64 H.mid,.bool H.r,.bool H.w,.bool H.x,.bool H.af,.bool H.ng,.int .i64 H.soft,.int .i64 H.level],234⟩::⟨Wb,#[.slice p c.ws.length cap,ev1,dv1,.int .i64 c.pk.cpu,.bool c.pk.fill,.bool c.pk.mids,.bool c.pk.walk,.int .i64 c.pk.drop,.bool c.pk.use,.bool c.one.on,.int .i64 c.one.frame,.int .i64 c.one.tag,.bool c.two.on,.int .i64 c.two.frame,.int .i64 c.two.tag,.int .i64 (c.page:Int),.int .i64 c.acc,rv1],194⟩::(he1++hd1++hr1)) ?_
  refine runZ ?_
  refine cStore (b:=R) (tb:=43) (cs:=#[.int .i64 0,.int .i64 0,.int .i64 0,.bool false,.int .i64 0]) (cs':=#[.int .i64 Y.f.kind,.int .i64 Y.f.stage,.int .i64 Y.f.level,.bool Y.f.walk,.int .i64 Y.f.page]) (hp':=⟨A2,#[.int .i64 Y.f.kind,.int .i64 Y.f.stage,.int .i64 Y.f.level,.bool Y.f.walk,.int .i64 Y.f.page],43⟩::⟨A1,#[.int .i64 H.frame,.int .i64 H.mid,.bool H.r,.bool H.w,.bool H.x,.bool H.af,.bool H.ng,.int .i64 H.soft,.int .i64 H.level],234⟩::⟨Wb,#[.slice p c.ws.length cap,ev1,dv1,.int .i64 c.pk.cpu,.bool c.pk.fill,.bool c.pk.mids,.bool c.pk.walk,.int .i64 c.pk.drop,.bool c.pk.use,.bool c.one.on,.int .i64 c.one.frame,.int .i64 c.one.tag,.bool c.two.on,.int .i64 c.two.frame,.int .i64 c.two.tag,.int .i64 (c.page:Int),.int .i64 c.acc,rv1],194⟩::(he1++hd1++hr1)) ?_ (by (refine perm_cnt fun a=>?_;simp only [cntB_app,cntB_cons,cntB_nil]<;>omega))
  refine dc_nil ?_
  refine opsC ?_
  refine run ?_
  exact finTA (v:=.int .i64 H.frame) (cs:=#[.int .i64 Y.f.kind,.int .i64 Y.f.stage,.int .i64 Y.f.level,.bool Y.f.walk,.int .i64 Y.f.page]) ⟨_,_,_,he1,hd1,hr1,by rw [hH1],h11,h21,h31,by (refine hpLe_cnt fun a=>?_;simp only [cntB_app,cntB_cons,cntB_nil]<;>omega)⟩
 rw [hc,cond_false]
 refine run ?_
 refine st_cutD (σ:=Unit) (fun _=>[]) (fun _=>⟨R,#[.int .i64 0,.int .i64 0,.int .i64 0,.bool false,.int .i64 0],43⟩::⟨Wb,#[.slice p c.ws.length cap,.slice qe es.length ce,.slice qd ds.length cd,.int .i64 c.pk.cpu,.bool c.pk.fill,.bool c.pk.mids,.bool c.pk.walk,.int .i64 c.pk.drop,.bool c.pk.use,.bool c.one.on,.int .i64 c.one.frame,.int .i64 c.one.tag,.bool c.two.on,.int .i64 c.two.frame,.int .i64 c.two.tag,.int .i64 (c.page:Int),.int .i64 c.acc,.slice qr ([]:List Int).length cr],194⟩::(he++hd++hr)) (fun _=>(c.pk.use && decide (0≤wholeI c es))=false) ?_ ?_
 ·refine st_cond _ rfl (fun hc1=>?_) (fun hc1=>?_)
  ·refine run ?_
   have hmm:=fun {wc:World} (ha1:SlAt wc (.slice qe es.length ce) 14 (es.map enV)) (hb1:SlAt wc (.slice qd ds.length cd) 4 (ds.map ivV))=>tWhole_e ha1 hb1 hcap hE.tlb c.two.tag c.one.tag c.page c.acc (btwT htw.2.1 htw.2.2) (btwT ho.2.1 ho.2.2) hk.page ha
   rw [fndV_eq,show idxI (pWhole c.two.tag c.one.tag c.page c.acc) es=wholeI c es from rfl] at hmm
   obtain ⟨E,hEE⟩:∃ E,E=(bif decide (0≤wholeI c es) then es.getD (wholeI c es).toNat default else default):=⟨_,rfl⟩
   rw [← hEE] at hmm
   refine drawEC 28 27 [0,1,2,3,4,5,6,7,8,9,10,11,12,13,14,15,16,17,18,19,20,21,22,23,24,25] [26] [27] (⟨R,#[.int .i64 0,.int .i64 0,.int .i64 0,.bool false,.int .i64 0],43⟩::⟨Wb,#[.slice p c.ws.length cap,.slice qe es.length ce,.slice qd ds.length cd,.int .i64 c.pk.cpu,.bool c.pk.fill,.bool c.pk.mids,.bool c.pk.walk,.int .i64 c.pk.drop,.bool c.pk.use,.bool c.one.on,.int .i64 c.one.frame,.int .i64 c.one.tag,.bool c.two.on,.int .i64 c.two.frame,.int .i64 c.two.tag,.int .i64 (c.page:Int),.int .i64 c.acc,.slice qr ([]:List Int).length cr],194⟩::(he++hd++hr)) ?_
   refine runZ ?_
   refine sCallA (fun wc hx hG=>hmm (h1.lie (fun b hb=>hG.here b (by simp [hb])) (by rw [List.length_map];dsimp only;omega)) (h2.lie (fun b hb=>hG.here b (by simp [hb])) (by rw [List.length_map];omega))) ?_
   refine runZ ?_
   refine eAlloc ?_
   refine eNil ?_
   rintro _ _ ⟨X,rfl,rfl⟩
   simp only [DN,List.cons_append,List.nil_append,List.append_nil]
   refine cStore (b:=X) (tb:=114) (cs:=#[.int .i64 0,.int .i64 0,.int .i64 0,.bool false,.int .i64 0,.int .i64 0,.int .i64 0,.int .i64 0,.bool false,.bool false,.bool false,.bool false,.bool false,.int .i64 0]) (cs':=#[.int .i64 E.kind,.int .i64 E.vmid,.int .i64 E.asid,.bool E.all,.int .i64 E.page,.int .i64 E.level,.int .i64 E.frame,.int .i64 E.mid,.bool E.r,.bool E.w,.bool E.x,.bool E.af,.bool E.ng,.int .i64 E.soft]) (hp':=⟨R,#[.int .i64 0,.int .i64 0,.int .i64 0,.bool false,.int .i64 0],43⟩::⟨Wb,#[.slice p c.ws.length cap,.slice qe es.length ce,.slice qd ds.length cd,.int .i64 c.pk.cpu,.bool c.pk.fill,.bool c.pk.mids,.bool c.pk.walk,.int .i64 c.pk.drop,.bool c.pk.use,.bool c.one.on,.int .i64 c.one.frame,.int .i64 c.one.tag,.bool c.two.on,.int .i64 c.two.frame,.int .i64 c.two.tag,.int .i64 (c.page:Int),.int .i64 c.acc,.slice qr ([]:List Int).length cr],194⟩::(he++hd++hr)) ?_ (by (refine perm_cnt fun a=>?_;simp only [cntB_app,cntB_cons,cntB_nil]<;>omega))
   refine dc_nil ?_
   refine opsC ?_
   refine run ?_
   refine st_cond _ rfl (fun hc2=>?_) (fun hc2=>?_)
   ·have h0:0≤wholeI c es:=by
     cases hq:decide (0≤wholeI c es) with
     | true=>exact of_decide_eq_true hq
     | false=>rw [hq] at hc2;simp at hc2
    simp only [h0,decide_true,cond_true] at hEE
    rw [show (c.pk.use && decide (0≤wholeI c es))=true by rw [hc1,decide_eq_true h0];rfl,cond_true,← hEE]
    refine run ?_
    exact finTA (v:=.int .i64 E.frame) (cs:=#[.int .i64 0,.int .i64 0,.int .i64 0,.bool false,.int .i64 0]) ⟨_,_,_,he,hd,hr,rfl,h1,h2,h3,by (refine hpLe_cnt fun a=>?_;simp only [cntB_app,cntB_cons,cntB_nil]<;>omega)⟩
   ·refine run ?_
    exact meetS () (by
     rw [hc1,Bool.true_and]
     cases hq:decide (0≤wholeI c es) with
     | false=>rfl
     | true=>rw [hq] at hc2;simp at hc2)
  ·refine run ?_
   exact meetS () (by rw [hc1];rfl)
 rintro ⟨⟩ hcut
 rw [hcut,cond_false]
 refine run ?_
 refine callM (⟨Wb,#[.slice p c.ws.length cap,.slice qe es.length ce,.slice qd ds.length cd,.int .i64 c.pk.cpu,.bool c.pk.fill,.bool c.pk.mids,.bool c.pk.walk,.int .i64 c.pk.drop,.bool c.pk.use,.bool c.one.on,.int .i64 c.one.frame,.int .i64 c.one.tag,.bool c.two.on,.int .i64 c.two.frame,.int .i64 c.two.tag,.int .i64 (c.page:Int),.int .i64 c.acc,.slice qr ([]:List Int).length cr],194⟩::(he++hd++hr)) [⟨R,#[.int .i64 0,.int .i64 0,.int .i64 0,.bool false,.int .i64 0],43⟩] (fun wc hG=>wyStage_e c hk cap hcc ⟨es,[]⟩ ds hE ha (by simp) (hm.into hG) h1 h2 h3 hG.hereN) ?_ (by (refine perm_cnt fun a=>?_;simp only [cntB_app,cntB_cons,cntB_nil]<;>omega))
 rintro u1 hn1 ⟨H,X,M,d,ev1,dv1,rv1,he1,hd1,hr1,hX,hXE,hXr,rfl,hH1,hH2,h11,h21,h31,hle1⟩
 simp only [wyC] at hle1
 refine ops_le (⟨R,#[.int .i64 0,.int .i64 0,.int .i64 0,.bool false,.int .i64 0],43⟩::⟨Wb,#[.slice p c.ws.length cap,ev1,dv1,.int .i64 c.pk.cpu,.bool c.pk.fill,.bool c.pk.mids,.bool c.pk.walk,.int .i64 c.pk.drop,.bool c.pk.use,.bool c.one.on,.int .i64 c.one.frame,.int .i64 c.one.tag,.bool c.two.on,.int .i64 c.two.frame,.int .i64 c.two.tag,.int .i64 (c.page:Int),.int .i64 c.acc,rv1],194⟩::(he1++hd1++hr1)) (by (refine hpLe_cnt fun a=>?_;have:=HpLe.cnt hle1 a;simp only [cntB_app,cntB_cons,cntB_nil] at *;omega)) ?_
 refine run ?_
 intro HB F
 refine st_cond _ rfl (fun hc3=>?_) (fun hc3=>?_)
 ·rw [← hX,finM,hc3,cond_true]
  refine run ?_
  refine dropS 2 ?_
  refine drawC 3 2 [0,1] [2] (⟨F,#[.int .i64 X.f.kind,.int .i64 X.f.stage,.int .i64 X.f.level,.bool X.f.walk,.int .i64 X.f.page],43⟩::⟨HB,#[.int .i64 H.frame,.int .i64 H.mid,.bool H.r,.bool H.w,.bool H.x,.bool H.af,.bool H.ng,.int .i64 H.soft,.int .i64 H.level],234⟩::⟨Wb,#[.slice p c.ws.length cap,ev1,dv1,.int .i64 c.pk.cpu,.bool c.pk.fill,.bool c.pk.mids,.bool c.pk.walk,.int .i64 c.pk.drop,.bool c.pk.use,.bool c.one.on,.int .i64 c.one.frame,.int .i64 c.one.tag,.bool c.two.on,.int .i64 c.two.frame,.int .i64 c.two.tag,.int .i64 (c.page:Int),.int .i64 c.acc,rv1],194⟩::(he1++hd1++hr1)) ?_
  refine runZ ?_
  refine cStore (b:=R) (tb:=43) (cs:=#[.int .i64 0,.int .i64 0,.int .i64 0,.bool false,.int .i64 0]) (cs':=#[.int .i64 X.f.kind,.int .i64 X.f.stage,.int .i64 X.f.level,.bool X.f.walk,.int .i64 X.f.page]) (hp':=⟨F,#[.int .i64 X.f.kind,.int .i64 X.f.stage,.int .i64 X.f.level,.bool X.f.walk,.int .i64 X.f.page],43⟩::⟨HB,#[.int .i64 H.frame,.int .i64 H.mid,.bool H.r,.bool H.w,.bool H.x,.bool H.af,.bool H.ng,.int .i64 H.soft,.int .i64 H.level],234⟩::⟨Wb,#[.slice p c.ws.length cap,ev1,dv1,.int .i64 c.pk.cpu,.bool c.pk.fill,.bool c.pk.mids,.bool c.pk.walk,.int .i64 c.pk.drop,.bool c.pk.use,.bool c.one.on,.int .i64 c.one.frame,.int .i64 c.one.tag,.bool c.two.on,.int .i64 c.two.frame,.int .i64 c.two.tag,.int .i64 (c.page:Int),.int .i64 c.acc,rv1],194⟩::(he1++hd1++hr1)) ?_ (by (refine perm_cnt fun a=>?_;simp only [cntB_app,cntB_cons,cntB_nil]<;>omega))
  refine dc_nil ?_
  refine opsC ?_
  refine run ?_
  exact finTA (v:=.int .i64 0) (cs:=#[.int .i64 X.f.kind,.int .i64 X.f.stage,.int .i64 X.f.level,.bool X.f.walk,.int .i64 X.f.page]) ⟨_,_,_,he1,hd1,hr1,rfl,h11,h21,h31,by (refine hpLe_cnt fun a=>?_;simp only [cntB_app,cntB_cons,cntB_nil]<;>omega)⟩
 have hf0:X.f.kind=0:=by simpa using hc3
 obtain ⟨hM,hXn,hXno,hHm,hHs,hHa⟩:=hH2 hf0
 have hEq:enV (entH c H.frame M d X.a)=[.int .i64 1,.int .i64 c.two.tag,.int .i64 c.one.tag,.bool !H.ng,.int .i64 (c.page:Int),.int .i64 0,.int .i64 H.frame,.int .i64 H.mid,.bool H.r,.bool H.w,.bool H.x,.bool H.af,.bool H.ng,.int .i64 H.soft]:=by
  rw [AtD.mk.injEq] at hHa
  obtain ⟨e1,e2,e3,e4,e5⟩:=hHa
  rw [hHm,hHs,e1,e2,e3,e4,e5]
  rfl
 rw [← hX,finM,hc3,cond_false]
 refine run ?_
 obtain ⟨es',hes⟩:∃ es',es'=(bif c.pk.fill then fillL X.s.es (entH c X.n M d X.a) else X.s.es):=⟨_,rfl⟩
 rw [← hes]
 have hXm:=hXE.may
 refine st_cutD (σ:=Value × Value × Hp × Hp) (fun _=>[]) (fun z=>⟨F,#[.int .i64 X.f.kind,.int .i64 X.f.stage,.int .i64 X.f.level,.bool X.f.walk,.int .i64 X.f.page],43⟩::⟨HB,#[.int .i64 H.frame,.int .i64 H.mid,.bool H.r,.bool H.w,.bool H.x,.bool H.af,.bool H.ng,.int .i64 H.soft,.int .i64 H.level],234⟩::⟨R,#[.int .i64 0,.int .i64 0,.int .i64 0,.bool false,.int .i64 0],43⟩::⟨Wb,#[.slice p c.ws.length cap,z.1,z.2.1,.int .i64 c.pk.cpu,.bool c.pk.fill,.bool c.pk.mids,.bool c.pk.walk,.int .i64 c.pk.drop,.bool c.pk.use,.bool c.one.on,.int .i64 c.one.frame,.int .i64 c.one.tag,.bool c.two.on,.int .i64 c.two.frame,.int .i64 c.two.tag,.int .i64 (c.page:Int),.int .i64 c.acc,rv1],194⟩::(z.2.2.1++z.2.2.2++hr1)) (fun z=>Own 114 14 z.1 z.2.2.1 (es'.map enV)∧Own 121 4 z.2.1 z.2.2.2 (ds.map ivV)) ?_ ?_
 ·refine st_cond _ rfl (fun hc4=>?_) (fun hc4=>?_)
  ·rw [hc4,cond_true] at hes
   subst hes
   have hF:=fun (wc:World) (hG:HereN (⟨Wb,#[.slice p c.ws.length cap,ev1,dv1,.int .i64 c.pk.cpu,.bool c.pk.fill,.bool c.pk.mids,.bool c.pk.walk,.int .i64 c.pk.drop,.bool c.pk.use,.bool c.one.on,.int .i64 c.one.frame,.int .i64 c.one.tag,.bool c.two.on,.int .i64 c.two.frame,.int .i64 c.two.tag,.int .i64 (c.page:Int),.int .i64 c.acc,rv1],194⟩::(he1++hd1++hr1)) wc)=>wyFill_e c X.s.es ds hXE.tlb (entH c H.frame M d X.a) (entH_may hk hM (by rw [hH1];exact hXn)) ⟨_,_,_,rfl⟩ ⟨_,_,_,h31.opened.choose_spec.choose_spec⟩ h11 h21 hG
   rw [hEq] at hF
   refine run ?_
   refine drawN 26 ?_
   refine runD ?_
   refine callM (⟨Wb,#[.slice p c.ws.length cap,ev1,dv1,.int .i64 c.pk.cpu,.bool c.pk.fill,.bool c.pk.mids,.bool c.pk.walk,.int .i64 c.pk.drop,.bool c.pk.use,.bool c.one.on,.int .i64 c.one.frame,.int .i64 c.one.tag,.bool c.two.on,.int .i64 c.two.frame,.int .i64 c.two.tag,.int .i64 (c.page:Int),.int .i64 c.acc,rv1],194⟩::(he1++hd1++hr1)) (⟨F,#[.int .i64 X.f.kind,.int .i64 X.f.stage,.int .i64 X.f.level,.bool X.f.walk,.int .i64 X.f.page],43⟩::⟨HB,#[.int .i64 H.frame,.int .i64 H.mid,.bool H.r,.bool H.w,.bool H.x,.bool H.af,.bool H.ng,.int .i64 H.soft,.int .i64 H.level],234⟩::⟨R,#[.int .i64 0,.int .i64 0,.int .i64 0,.bool false,.int .i64 0],43⟩::[]) (fun wc hG=>hF wc hG.hereN) ?_ (by (refine perm_cnt fun a=>?_;simp only [cntB_app,cntB_cons,cntB_nil]<;>omega))
   rintro u7 hn7 ⟨ev7,dv7,he7,hd7,rfl,h17,h27,hle7⟩
   simp only [wyC] at hle7
   rw [hH1] at h17
   refine run ?_
   exact meetS (ev7,dv7,he7,hd7) ⟨h17,h27⟩ (h2:=by (refine hpLe_cnt fun a=>?_;have:=HpLe.cnt hle7 a;simp only [cntB_app,cntB_cons,cntB_nil] at *;omega))
  ·rw [hc4,cond_false] at hes
   subst hes
   refine run ?_
   exact meetS (ev1,dv1,he1,hd1) ⟨h11,h21⟩ (h2:=by (refine hpLe_cnt fun a=>?_;simp only [cntB_app,cntB_cons,cntB_nil]<;>omega))
 rintro ⟨ev2,dv2,he2,hd2⟩ ⟨h1',h2'⟩
 dsimp only at h1' h2' ⊢
 refine run ?_
 refine dropS 2 ?_
 refine drawC 5 4 [0,1,2,3] [4] (⟨F,#[.int .i64 X.f.kind,.int .i64 X.f.stage,.int .i64 X.f.level,.bool X.f.walk,.int .i64 X.f.page],43⟩::⟨HB,#[.int .i64 H.frame,.int .i64 H.mid,.bool H.r,.bool H.w,.bool H.x,.bool H.af,.bool H.ng,.int .i64 H.soft,.int .i64 H.level],234⟩::⟨Wb,#[.slice p c.ws.length cap,ev2,dv2,.int .i64 c.pk.cpu,.bool c.pk.fill,.bool c.pk.mids,.bool c.pk.walk,.int .i64 c.pk.drop,.bool c.pk.use,.bool c.one.on,.int .i64 c.one.frame,.int .i64 c.one.tag,.bool c.two.on,.int .i64 c.two.frame,.int .i64 c.two.tag,.int .i64 (c.page:Int),.int .i64 c.acc,rv1],194⟩::(he2++hd2++hr1)) ?_
 refine runZ ?_
 refine cStore (b:=R) (tb:=43) (cs:=#[.int .i64 0,.int .i64 0,.int .i64 0,.bool false,.int .i64 0]) (cs':=#[.int .i64 X.f.kind,.int .i64 X.f.stage,.int .i64 X.f.level,.bool X.f.walk,.int .i64 X.f.page]) (hp':=⟨F,#[.int .i64 X.f.kind,.int .i64 X.f.stage,.int .i64 X.f.level,.bool X.f.walk,.int .i64 X.f.page],43⟩::⟨HB,#[.int .i64 H.frame,.int .i64 H.mid,.bool H.r,.bool H.w,.bool H.x,.bool H.af,.bool H.ng,.int .i64 H.soft,.int .i64 H.level],234⟩::⟨Wb,#[.slice p c.ws.length cap,ev2,dv2,.int .i64 c.pk.cpu,.bool c.pk.fill,.bool c.pk.mids,.bool c.pk.walk,.int .i64 c.pk.drop,.bool c.pk.use,.bool c.one.on,.int .i64 c.one.frame,.int .i64 c.one.tag,.bool c.two.on,.int .i64 c.two.frame,.int .i64 c.two.tag,.int .i64 (c.page:Int),.int .i64 c.acc,rv1],194⟩::(he2++hd2++hr1)) ?_ (by (refine perm_cnt fun a=>?_;simp only [cntB_app,cntB_cons,cntB_nil]<;>omega))
 refine dc_nil ?_
 refine opsC ?_
 refine run ?_
 exact finTA (v:=.int .i64 H.frame) (cs:=#[.int .i64 X.f.kind,.int .i64 X.f.stage,.int .i64 X.f.level,.bool X.f.walk,.int .i64 X.f.page]) ⟨_,_,_,he2,hd2,hr1,by rw [hH1,hXno],h1',h2',h31,by (refine hpLe_cnt fun a=>?_;simp only [cntB_app,cntB_cons,cntB_nil]<;>omega)⟩
end Go.Proofs.YtndklbjnofdgeaaGreat
namespace Go.Proofs.YtndklbjnofdgeaaGreat
open Go.RowKit
set_option linter.unusedVariables false
set_option linter.unusedSimpArgs false
set_option maxRecDepth 20000
attribute [local irreducible] Hy St Ops DH DHF DE1 DE2 DE3 DS DCh DWF
theorem containsFEn_e {w:World} {F:Nat} {us:List Value} (p:EnD→Bool) (xs:List (EnD)) (v:Value) (h:SlAt w v 14 (xs.map enV)) (hF:∀ x,x∈xs→∀ w',AftB w w'→Fn Tryz.prog F ([]++[Value.agg (enV x).toArray]++us).toArray w' [] (fun u _=>u=.bool (p x))) (hcal:mem calN F=true:=by rfl):
  Fn Tryz.prog 65 [v,.func (.func F) [].toArray us.toArray].toArray w [] (fun u _=>u=.bool (xs.any p)):=by
 refine enter Tryz.func65 ?_
 refine run ?_
 refine callE (fun wc hG=>indexFEn_e p xs v (h.good hG) (fun x hx w' ha=>hF x hx w' ?_) hcal) ?_
 ·obtain ⟨hp,hg⟩:=ha
  exact ⟨_,hG.trans hg⟩
 refine run ?_
 refine fin1 ?_
 rw [← idxI_ge]
theorem wyMay1_e (n:Int) (x:EnD) (B:Nat) (w:World) (hB:w.cell? ⟨B,0,none⟩=some (.int .i64 n)):Fn Tryz.prog 163 ([]++[Value.agg (enV x).toArray]++[Value.pointer (some ⟨B,0,none⟩)]).toArray w [] (fun u _=>u=.bool (decide (n≤x.frame))):=by
 refine enter Tryz.func163 ?_
 refine run ?_
 intro E
 refine run ?_
 exact fin1 rfl
theorem rootB (r:RtD):(decide (r.frame<0) || decide (4095<r.frame) || decide (r.tag<0) || decide (15<r.tag))=!r.may:=by
 have e2:∀ a:Int,decide (a<0)=!decide (0≤a):=fun a=>by rw [Bool.eq_iff_iff];simp
 have e3:∀ a b:Int,decide (b<a)=!decide (a≤b):=fun a b=>by rw [Bool.eq_iff_iff];simp
 rw [RtD.may,PtD.btw,PtD.btw,e2,e2,e3,e3]
 simp only [Bool.not_and,Bool.or_assoc]
theorem wyMay_e (ws:List Nat) (hw:ws.length<1000000) (cap:Nat) (hcc:ws.length≤cap) {p:Option Addr} {w:World} {Wb:Nat} (es:List EnD) (ds:List IvD) (pk:PkD) (one two:RtD) (page acc:Int) {ev dv rv:Value} (he:Sees w [Wb] ev 14 (es.map enV)) (hd:Sees w [Wb] dv 4 (ds.map ivV)) (hcap:∃ q c,ev=.slice q es.length c∧es.length≤c) (hel:es.length<1000000)
  (hN:HereN [⟨Wb,#[.slice p ws.length cap,ev,dv,.int .i64 pk.cpu,.bool pk.fill,.bool pk.mids,.bool pk.walk,.int .i64 pk.drop,.bool pk.use,.bool one.on,.int .i64 one.frame,.int .i64 one.tag,.bool two.on,.int .i64 two.frame,.int .i64 two.tag,.int .i64 page,.int .i64 acc,rv],194⟩] w):
  Fn Tryz.prog 136 [.pointer (some ⟨Wb,0,none⟩)].toArray w [Wb] (fun u hn=>u=.bool (mayL ws.length es ds one two page acc)∧HpLe [⟨Wb,#[.slice p ws.length cap,ev,dv,.int .i64 pk.cpu,.bool pk.fill,.bool pk.mids,.bool pk.walk,.int .i64 pk.drop,.bool pk.use,.bool one.on,.int .i64 one.frame,.int .i64 one.tag,.bool two.on,.int .i64 two.frame,.int .i64 two.tag,.int .i64 page,.int .i64 acc,rv],194⟩] hn):=by
 refine enterM _ hN Tryz.func136 ?_
 obtain ⟨qe,ce,rfl,hlc⟩:=hcap
 obtain ⟨qd,cd,rfl,_⟩:=hd.at_.opened
 refine run ?_
 refine callE (fun wc hG=>mFrames_e ws.length cap (by omega) p wc) ?_
 refine run ?_
 intro Nb
 refine callE (fun wc hG=>pMay_e false false false false false 0 acc wc) ?_
 refine runG ?_
 refine callEG (fun hg wc hG=>tCheck_e es ds _ _ (he.good hG) (hd.good hG) ⟨_,_,rfl,hlc⟩) ?_
 refine runG ?_
 have hg:(!decide ((bif memOk ws.length then (0:Int) else 1)=0) || !decide ((bif PtD.btw acc 0 2 then (0:Int) else 1)=0) || !decide ((bif tlbOk es ds then (0:Int) else 1)=0) || !two.on || decide (page<0) || decide (4095<page))=!(memOk ws.length && PtD.btw acc 0 2 && tlbOk es ds && two.on && PtD.btw page 0 4095):=by
  have e1:∀ b,decide ((bif b then (0:Int) else 1)=0)=b:=by decide
  rw [e1,e1,e1]
  have e2:decide (page<0)=!decide (0≤page):=by rw [Bool.eq_iff_iff];simp
  have e3:decide (4095<page)=!decide (page≤4095):=by rw [Bool.eq_iff_iff];simp
  rw [e2,e3,PtD.btw,PtD.btw]
  simp only [Bool.not_and,Bool.or_assoc]
 rw [hg]
 refine st_cond _ rfl (fun hc=>?_) (fun hc=>?_)
 ·have hf:mayL ws.length es ds one two page acc=false:=by
   rw [mayL,whoL]
   simp only [Bool.not_eq_true',Bool.and_eq_false_iff] at hc
   rcases hc with (((h | h) | h) | h) | h<;>simp [h]
  rw [hf]
  refine run ?_
  exact fin1 ⟨rfl,by (refine hpLe_cnt fun a=>?_;simp only [cntB_app,cntB_cons,cntB_nil]<;>omega)⟩
 have hcc:memOk ws.length=true∧PtD.btw acc 0 2=true∧tlbOk es ds=true∧two.on=true∧PtD.btw page 0 4095=true:=by
  simp only [Bool.not_eq_false',Bool.and_eq_true] at hc
  exact ⟨hc.1.1.1.1,hc.1.1.1.2,hc.1.1.2,hc.1.2,hc.2⟩
 obtain ⟨g1,g2,g3,g4,g5⟩:=hcc
 have hmay:mayL ws.length es ds one two page acc=(one.may && two.may && heldL ws.length es):=by
  rw [mayL,whoL,g1,g2,g3,g4,g5];simp
 rw [hmay]
 simp only [g1,cond_true]
 refine run ?_
 refine drawC 11 8 [0,1,2,3,4,5,6,7,10] [8,9] [⟨Nb,#[.int .i64 ((ws.length / 8:Nat):Int)],3⟩,⟨Wb,#[.slice p ws.length cap,.slice qe es.length ce,.slice qd ds.length cd,.int .i64 pk.cpu,.bool pk.fill,.bool pk.mids,.bool pk.walk,.int .i64 pk.drop,.bool pk.use,.bool one.on,.int .i64 one.frame,.int .i64 one.tag,.bool two.on,.int .i64 two.frame,.int .i64 two.tag,.int .i64 page,.int .i64 acc,rv],194⟩] ?_
 refine runZ ?_
 refine cSlice [.bool one.on,.int .i64 one.frame,.int .i64 one.tag,.bool two.on,.int .i64 two.frame,.int .i64 two.tag] (fun Z=>?_)
 refine cVal (fun hx=>x_len tb_ok rfl rfl) ?_
 refine dc_nil ?_
 refine opsC ?_
 refine run ?_
 refine loopS (σ:=Nat) (fun j=>[(72,.int .i64 (j:Int))]) (fun j=>[⟨Z,#[.bool one.on,.int .i64 one.frame,.int .i64 one.tag,.bool two.on,.int .i64 two.frame,.int .i64 two.tag],33⟩,⟨Nb,#[.int .i64 ((ws.length / 8:Nat):Int)],3⟩,⟨Wb,#[.slice p ws.length cap,.slice qe es.length ce,.slice qd ds.length cd,.int .i64 pk.cpu,.bool pk.fill,.bool pk.mids,.bool pk.walk,.int .i64 pk.drop,.bool pk.use,.bool one.on,.int .i64 one.frame,.int .i64 one.tag,.bool two.on,.int .i64 two.frame,.int .i64 two.tag,.int .i64 page,.int .i64 acc,rv],194⟩]) (fun j=>j≤2∧(1≤j→one.may=true)∧(2≤j→two.may=true)) (fun j=>2 - j) 0 ⟨by omega,fun h=>by omega,fun h=>by omega⟩ ?_
 rintro j m hmj ⟨hj2,hj0,hj1⟩
 obtain rfl | rfl | rfl:j=0∨j=1∨j=2:=by omega
 ·refine runC ?_
  intro B
  rw [rootB]
  refine st_cond _ rfl (fun hc2=>?_) (fun hc2=>?_)
  ·refine run ?_
   rw [show one.may=false by simpa using hc2]
   exact fin1 ⟨rfl,by (refine hpLe_cnt fun a=>?_;simp only [cntB_app,cntB_cons,cntB_nil]<;>omega)⟩
  ·refine run ?_
   exact nextS 1 ⟨by omega,fun _=>by simpa using hc2,fun h=>by omega⟩ (h2:=by (refine hpLe_cnt fun a=>?_;simp only [cntB_app,cntB_cons,cntB_nil]<;>omega))
 ·refine runC ?_
  intro B
  rw [rootB]
  refine st_cond _ rfl (fun hc2=>?_) (fun hc2=>?_)
  ·refine run ?_
   rw [show two.may=false by simpa using hc2,Bool.and_false,Bool.false_and]
   exact fin1 ⟨rfl,by (refine hpLe_cnt fun a=>?_;simp only [cntB_app,cntB_cons,cntB_nil]<;>omega)⟩
  ·refine run ?_
   exact nextS 2 ⟨by omega,fun _=>hj0 (by omega),fun _=>by simpa using hc2⟩ (h2:=by (refine hpLe_cnt fun a=>?_;simp only [cntB_app,cntB_cons,cntB_nil]<;>omega))
 refine runC ?_
 refine callE (fun wc hG=>containsFEn_e (us:=[.pointer (some ⟨Nb,0,none⟩)]) (fun x=>decide (((ws.length / 8:Nat):Int)≤x.frame)) es _ (he.good hG) (fun x _ w' ha=>wyMay1_e _ x Nb w' ?_)) ?_
 ·obtain ⟨hp,hg⟩:=ha
  exact hg.cell (by rw [cell_of_block (hG.here ⟨Nb,#[.int .i64 ((ws.length / 8:Nat):Int)],3⟩ (by simp))];rfl) (by simp)
 refine run ?_
 rw [hj0 (by omega),hj1 (by omega)]
 refine fin1 ⟨?_,by (refine hpLe_cnt fun a=>?_;simp only [cntB_app,cntB_cons,cntB_nil]<;>omega)⟩
 rw [Bool.true_and,Bool.true_and,heldL,List.not_any_eq_all_not]
 congr 2
 funext x
 rw [Bool.eq_iff_iff];simp
end Go.Proofs.YtndklbjnofdgeaaGreat
