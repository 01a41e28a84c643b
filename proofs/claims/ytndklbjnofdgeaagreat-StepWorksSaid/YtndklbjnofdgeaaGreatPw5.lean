/- Texts of one's own, merged: the engine, what the functions do, plain laws. -/
import Derived.Test.YtndklbjnofdgeaaGreatPw4
namespace Go.Proofs.YtndklbjnofdgeaaGreat
open Go.RowKit
set_option linter.unusedVariables false
set_option linter.unusedSimpArgs false
section
variable {P : Program} {n : Nat} {w0 : World} {mu : List Nat} {l : Fm} {h0 hp : Hp} {Q : Exit → Fm → Hp → Prop} {all : Array Oper} {ivS : Fm} {k t0 : Nat} {ds : List (Nat × Nat)}
theorem midc_putS {ivE ivE':Fm} {h h':Hp} {listed:Array Bool} {a:Act} {w w':World} {i:Nat} {o:Oper} {v:Value} (hm:MidC n w0 mu all l ivS ivE h listed a w) (ho:all[i]?=some o) (hi:i<k) (hun:listed.getD i true=false) (hs:i<listed.size)
  (hd:dstKB all k n=true) (hf:∀ i d u,i<k→dstAt all i=some d→look l d=some u→lk ivS i=some u) (hG:Good w0 mu h' w') (hSk:∀ j v,lk ivS j=some v→j<k) (hEk:∀ j v,(j,v)∈ivE→j<k)
  (hv:(lk ivS i=some v∧ivE'=ivE)∨(lk ivS i=none∧ivE'=(i,v)::ivE)):MidC n w0 mu all l ivS ivE' h' (listed.setIfInBounds i true) (a.put o.dst v) w':=by
 have hod:dstAt all i=o.dst:=by simp [dstAt,ho]
 have hput:∀ t,(∀ d,o.dst=some d→t ≠ d)→(a.put o.dst v).tmps.getD t undef=a.tmps.getD t undef:=by
  intro t ht
  cases hdd:o.dst with
  | none=>rfl
  | some d=>simp [Act.put,Array.getElem?_setIfInBounds_ne (Ne.symm (ht d hdd))]
 have hself:∀ d,o.dst=some d→(a.put o.dst v).tmps.getD d undef=v:=by
  intro d hdd
  have:=dstK_lt hd hi (hod.trans hdd)
  rw [hdd]
  simp [Act.put,hm.size,this]
 have hother:∀ j d,j<k→j ≠ i→dstAt all j=some d→(a.put o.dst v).tmps.getD d undef=a.tmps.getD d undef:=fun j d hj hji hdj=>hput d fun d' hd'=>dstK_ne hd hj hi hji hdj (hod.trans hd')
 refine ⟨?_,?_,fun t u hu=>?_,hG,fun j u hj hl d hdj=>?_,fun j u hj=>?_⟩
 ·cases o.dst<;>simpa [Act.put] using hm.size
 ·cases o.dst<;>exact hm.defers
 ·by_cases hit:o.dst=some t
  ·have h1:=hf i t u hi (hod.trans hit) hu
   rcases hv with ⟨h2,_⟩ | ⟨h2,_⟩
   ·rw [h1] at h2;cases h2;exact hself t hit
   ·rw [h1] at h2;cases h2
  ·rw [hput t fun d hdd e=>hit (by rw [e];exact hdd)]
   exact hm.has t u hu
 ·by_cases hji:j=i
  ·subst hji
   rcases hv with ⟨h1,_⟩ | ⟨h1,_⟩
   ·rw [h1] at hj;cases hj
    exact hself d (hod▸hdj)
   ·rw [h1] at hj;cases hj
  ·rw [hother j d (hSk j u hj) hji hdj]
   exact hm.doneS j u hj (by rwa [getD_set_ne false (Ne.symm hji)] at hl) d hdj
 ·have hold:(j,u)∈ivE→(listed.setIfInBounds i true).getD j false=true∧∀ d,dstAt all j=some d→(a.put o.dst v).tmps.getD d undef=u:=fun hj=>by
   have h1:=hm.doneE j u hj
   have hji:j ≠ i:=fun e=>by subst e;rw [getD_both hun] at h1;cases h1.1
   exact ⟨getD_set_true h1.1,fun d hdj=>by rw [hother j d (hEk j u hj) hji hdj];exact h1.2 d hdj⟩
  rcases hv with ⟨_,rfl⟩ | ⟨_,rfl⟩
  ·exact hold hj
  ·rcases List.mem_cons.1 hj with hj | hj
   ·cases hj
    exact ⟨by simp [hs],fun d hdj=>hself d (hod▸hdj)⟩
   ·exact hold hj
theorem chain_runS (hds:∀ k d,lk ds k=some d→dstAt all k=some d) {g:Nat} {Q':Exit→Act→World→Prop} {X:Fm→Hp→Prop} (hk:k≤all.size) (hd:dstKB all k n=true) (hf:∀ i d u,i<k→dstAt all i=some d→look l d=some u→lk ivS i=some u) (hback:backB all=true) (hle0:HpLe h0 hp)
  (hstb:∀ i,i<k→dstAt all i=none→i=t0∨Region.waitsFor .any all i t0=true)
  (hS:∀ i v,lk ivS i=some v→i<k∧∃ o iv',all[i]?=some o∧Mono iv' ivS∧∀ hx,HyG P n w0 mu all (depFm ds iv' o.after.toList++l) (bif Region.waitsFor .any all t0 i then hx++hp else hx++h0) o v)
  (htail:∀ ivE h listed,HeadInv .any all k listed→(∀ i,i<k→listed.getD i true=true)→X ivE h→∀ a w,MidC n w0 mu all l ivS ivE h listed a w→(∀ i v,(i,v)∈ivE→i<k)→wpAny P .any all Q' g listed a w)
  (hwait:∀ listed,HeadInv .any all k listed→∀ i,i<k→listed.getD i true=false→∀ t,k≤t→t ∉ Region.ready .any all listed):
  ∀ f r ivE h listed a w,leftOf k listed=f→HeadInv .any all k listed→MidC n w0 mu all l ivS ivE h listed a w→(∀ i v,(i,v)∈ivE→i<k)→(∀ i∈r,i<k∧listed.getD i true=false∧lk ivS i=none)→r.Nodup→linkB all r=true→(∀ i,i<k→listed.getD i true=false→(∃ v,lk ivS i=some v)∨i∈r) →
   HpLe h0 h→(listed.getD t0 false=false→HpLe hp h)→DCh P n w0 mu all ds l h0 ivS X r ivE h→wpAny P .any all Q' (f + g) listed a w:=by
 intro f
 induction f with
 | zero=>
  intro r ivE h listed a w hlf inv hm hEk hr hnd hlink hcov hle hlep hD
  have hall:∀ i,i<k→listed.getD i true=true:=by
   intro i hi
   cases hc:listed.getD i true with
   | true=>rfl
   | false=>
    exfalso
    have:i∈(List.range k).filter fun i=>!listed.getD i true:=List.mem_filter.2 ⟨List.mem_range.2 hi,by simp only [hc,Bool.not_false]⟩
    have h2:=List.length_pos_of_mem this
    unfold leftOf at hlf
    omega
  cases r with
  | nil=>
   rw [Nat.zero_add]
   exact htail ivE h listed inv hall hD a w hm hEk
  | cons c r=>
   have h1:=hr c (List.mem_cons_self ..)
   rw [hall c h1.1] at h1
   exact absurd h1.2.1 (by decide)
 | succ f ih=>
  intro r ivE h listed a w hlf inv hm hEk hr hnd hlink hcov hle hlep hD
  rw [show f + 1 + g=(f + g) + 1 by omega]
  have hex:∃ i,i<k∧listed.getD i true=false:=by
   have h2:0<leftOf k listed:=by omega
   obtain ⟨i,hi⟩:=List.exists_mem_of_length_pos h2
   rw [List.mem_filter] at hi
   exact ⟨i,List.mem_range.1 hi.1,by simpa using hi.2⟩
  obtain ⟨i0,hi0k,hi0⟩:=hex
  refine ⟨fun hnil=>?_,fun i hi=>?_⟩
  ·exfalso
   obtain ⟨i,⟨hik,hil⟩,hmin⟩:=exists_least (p:=fun i=>i<k∧listed.getD i true=false) ⟨i0,hi0k,hi0⟩
   have hr:i∈Region.ready .any all listed:=by
    rw [mem_ready]
    have hs:i<all.size:=by omega
    refine ⟨hil,all[i],by simp [hs],fun e he hb=>?_⟩
    have hb2:=List.all_eq_true.1 hback i (List.mem_range.2 hs)
    simp only [Array.getElem?_eq_getElem hs] at hb2
    have hb3:=(Array.all_eq_true_iff_forall_mem.1 hb2) e he
    simp only [hb,Bool.not_true,Bool.false_or,Nat.blt_eq] at hb3
    cases hc:listed.getD e.on false with
    | true=>rfl
    | false=>
     have h5:=hmin e.on ⟨by omega,getD_in (by rw [inv.size];omega) hc⟩
     omega
   rw [hnil] at hr;cases hr
  ·have hik:i<k:=by
    rcases Nat.lt_or_ge i k with h | h
    ·exact h
    ·exact absurd hi (hwait listed inv i0 hi0k hi0 i h)
   obtain ⟨hun,o,ho,hall⟩:=mem_ready.1 hi
   have hsz:i<listed.size:=by rw [inv.size];omega
   have hunf:listed.getD i false=false:=getD_both hun
   have hleft:leftOf k (listed.setIfInBounds i true)=f:=by have:=left_set hik (by rw [inv.size];omega) hun;omega
   have hwl:∀ t,Region.waitsFor .any all i t=true→listed.getD t false=true:=fun t ht=>by
    obtain ⟨oj,h6,e,he,hb,heq⟩:=Region.waitsFor_spec ht
    rw [ho] at h6;cases h6
    rw [← heq];exact hall e he hb
   unfold wpOp
   simp only [ho]
   cases hSi:lk ivS i with
   | some v=>
    obtain ⟨_,o',iv',ho',hmo,hy⟩:=hS i v hSi
    rw [ho] at ho';cases ho'
    have hkn:=midc_knows (o:=o) hds hm (iv':=iv') (fun j u hu=>.inr (hmo j u (by rw [← look_lk];exact hu))) hall
    have hir:i ∉ r:=fun hm'=>by rw [(hr i hm').2.2] at hSi;cases hSi
    have hnext:∀ w',Good w0 mu h w'→wpAny P .any all Q' (f + g) (listed.setIfInBounds i true) (a.put o.dst v) w':=fun w' hG'=>by
     refine ih r ivE h _ _ _ hleft (inv.set hi hik) (midc_putS hm ho hik hun hsz hd hf hG' (fun j u hu=>(hS j u hu).1) hEk (.inl ⟨hSi,rfl⟩)) hEk (fun j hj=>?_) hnd hlink (fun j hj hl=>?_) hle (fun ht=>?_) hD
     ·have hji:i ≠ j:=fun e=>hir (e▸hj)
      exact ⟨(hr j hj).1,by rw [getD_set_ne true hji];exact (hr j hj).2.1,(hr j hj).2.2⟩
     ·refine hcov j hj ?_
      by_cases hji:i=j
      ·subst hji;simp [hsz] at hl
      ·rwa [getD_set_ne true hji] at hl
     ·refine hlep ?_
      by_cases hji:i=t0
      ·subst hji;exact hunf
      ·rwa [getD_set_ne false hji] at ht
    obtain ⟨hx,h3,hper⟩:∃ hx,HyG P n w0 mu all (depFm ds iv' o.after.toList++l) hx o v∧hx.Perm h:=by
     cases hwt:Region.waitsFor .any all t0 i with
     | true=>
      have ht0:listed.getD t0 false=false:=by
       cases hc:listed.getD t0 false with
       | false=>rfl
       | true=>
        obtain ⟨oj,h6,e,he,hb,heq⟩:=Region.waitsFor_spec hwt
        have:=inv.closed t0 oj h6 hc e he hb
        rw [heq,hunf] at this;cases this
      obtain ⟨x,hxp⟩:=(hlep ht0).perm
      have h4:=hy x
      rw [hwt] at h4
      exact ⟨x++hp,h4,List.perm_append_comm.trans hxp⟩
     | false=>
      obtain ⟨x,hxp⟩:=hle.perm
      have h4:=hy x
      rw [hwt] at h4
      exact ⟨x++h0,h4,List.perm_append_comm.trans hxp⟩
    have hgd:Good w0 mu hx w:=hm.good.perm hper
    replace hnext:∀ w',Good w0 mu hx w'→wpAny P .any all Q' (f + g) (listed.setIfInBounds i true) (a.put o.dst v) w':=fun w' hG'=>hnext w' (hG'.perm hper.symm)
    unfold HyG at h3
    cases hg:o.guard with
    | none=>
     rw [hg] at h3
     rw [if_pos (by simp [Region.wanted,hg])]
     exact .inl (h3 a w hkn hgd _ _ hnext)
    | some jw=>
     obtain ⟨j,want⟩:=jw
     rw [hg] at h3
     obtain ⟨dj,c0,b,u,hj,hb,hdj,hy,hvv⟩:=h3
     have hw:=wanted_of hkn hg hj hb hdj
     cases hc:(c0 && wnt b want) with
     | true=>
      rw [hc] at hw hvv
      rw [if_pos hw]
      rw [Bool.and_eq_true] at hc
      rw [show v=u from hvv] at hnext
      exact .inl (hy hc.1 hc.2 a w hkn hgd _ _ hnext)
     | false=>
      rw [hc] at hw hvv
      rw [if_neg (by rw [hw];decide)]
      rw [show v=undef from hvv] at hnext
      exact hnext w hgd
   | none=>
    have hir:i∈r:=by
     rcases hcov i hik hun with ⟨v,hv⟩ | h
     ·rw [hSi] at hv;cases hv
     ·exact h
    cases r with
    | nil=>cases hir
    | cons c r=>
     have hic:i=c:=by
      rcases List.mem_cons.1 hir with h | h
      ·exact h
      ·exfalso
       obtain ⟨p,hp⟩:=linkB_head hlink h
       rcases hp with ⟨h1,_,h3⟩ | ⟨_,h3⟩ | ⟨p,h1,h3⟩
       ·have:=(hr p h1).2.1;have h5:=hwl p h3
        rw [getD_both this] at h5;cases h5
       ·exact h3
       ·have:=(hr p h1).2.1;have h5:=hwl p h3
        rw [getD_both this] at h5;cases h5
     subst hic
     rw [List.nodup_cons] at hnd
     have hlink':linkB all r=true:=by
      cases r with
      | nil=>rfl
      | cons j r=>simp only [linkB,Bool.and_eq_true] at hlink;exact hlink.2
     have hr':∀ j∈r,j<k∧(listed.setIfInBounds i true).getD j true=false∧lk ivS j=none:=fun j hj=>by
      have h1:=hr j (List.mem_cons_of_mem _ hj)
      have hji:i ≠ j:=fun e=>hnd.1 (e▸hj)
      exact ⟨h1.1,by rw [getD_set_ne true hji];exact h1.2.1,h1.2.2⟩
     have hcov':∀ j,j<k→(listed.setIfInBounds i true).getD j true=false→(∃ v,lk ivS j=some v)∨j∈r:=fun j hj hl=>by
      by_cases hji:i=j
      ·subst hji;simp [hsz] at hl
      ·rw [getD_set_ne true hji] at hl
       rcases hcov j hj hl with h | h
       ·exact .inl h
       ·exact .inr ((List.mem_cons.1 h).resolve_left (Ne.symm hji))
     have hkn:=midc_knows (o:=o) hds hm (iv':=ivE++ivS) (fun j u hu=>by
      rw [look_lk,lk_app] at hu
      cases hE:lk ivE j with
      | some v=>rw [hE] at hu;exact .inl hu
      | none=>rw [hE] at hu;exact .inr hu) hall
     unfold DCh at hD
     obtain ⟨o',ho',hD⟩:=hD
     rw [ho] at ho';cases ho'
     rcases hD with ⟨hds',R,⟨hg,hE⟩,hD⟩ | ⟨hdn,h',⟨hg,_,hSt⟩,hle',hD⟩
     ·rw [if_pos (hg _ hkn)]
      refine .inl (hE a w [] hkn (by simpa using hm.good) _ _ fun v hn w' hR hG'=>?_)
      rw [List.nil_append] at hG'
      have hlen:∀ x:Hp,HpLe x h→HpLe x (hn++h):=fun x hx=>hpLe_cnt fun b=>by have:=hx.cnt b;rw [cntB_app];omega
      refine ih r ((i,v)::ivE) (hn++h) _ _ _ hleft (inv.set hi hik) (midc_putS hm ho hik hun hsz hd hf hG' (fun j u hu=>(hS j u hu).1) hEk (.inr ⟨hSi,rfl⟩)) (fun j u hu=>?_) hr' hnd.2 hlink' hcov' (hlen _ hle) (fun ht=>hlen _ (hlep ?_)) (hD v hn hR)
      ·rcases List.mem_cons.1 hu with hu | hu
       ·cases hu;exact hik
       ·exact hEk j u hu
      ·by_cases hji:i=t0
       ·subst hji;exact hunf
       ·rwa [getD_set_ne false hji] at ht
     ·rw [if_pos (by simp [Region.wanted,hg])]
      refine .inl (hSt a w hkn hm.good _ _ fun w' hG'=>?_)
      have hmc:MidC n w0 mu all l ivS ivE h' (listed.setIfInBounds i true) a w':=by
       refine ⟨hm.size,hm.defers,hm.has,hG',fun j u hj hl d hdj=>?_,fun j u hj=>⟨getD_set_true (hm.doneE j u hj).1,(hm.doneE j u hj).2⟩⟩
       have hji:i ≠ j:=fun e=>by subst e;rw [hSi] at hj;cases hj
       exact hm.doneS j u hj (by rwa [getD_set_ne false hji] at hl) d hdj
      refine ih r ivE h' _ _ _ hleft (inv.set hi hik) hmc hEk hr' hnd.2 hlink' hcov' hle' (fun ht=>?_) hD
      exfalso
      rcases hstb i hik (by simp [dstAt,ho,hdn]) with e | e
      ·subst e
       rw [show (listed.setIfInBounds i true).getD i false=true by simp [hsz]] at ht;cases ht
      ·have:=getD_set_true (i:=i) (hwl t0 e)
       rw [this] at ht;cases ht
theorem st_drawCS {ops:List Oper} (k t0 m:Nat) (S C:List Nat) (h0:Hp) (hB:drawCB ops.toArray n k t0 S C=true) (hf:freshB l ((List.range k).map fun i=>bif Nat.beq i m then none else dstAt ops.toArray i)=true) (hle0:HpLe h0 hp) (hds:dstTab ops 0=ds)
  (h:DS P n w0 mu ops.toArray ds l h0 hp t0 (fun ivS=>(((dstAt ops.toArray m).bind (look l)).isNone=true∨lk ivS m=(dstAt ops.toArray m).bind (look l))∧DCh P n w0 mu ops.toArray ds l h0 ivS (fun ivE hc=>Ops P n w0 mu ops.toArray (ops.drop k) (headFm ds (ivE++ivS)++l) hc Q) C [] hp) S []):StAny P n w0 mu ops.toArray l hp Q:=by
 intro a w hk hG
 simp only [drawCB,Bool.and_eq_true] at hB
 obtain ⟨⟨⟨⟨⟨hd,hback⟩,hcover⟩,hlink⟩,htailB⟩,hstb⟩:=hB
 simp only [coverB,Bool.and_eq_true,decide_eq_true_eq] at hcover
 obtain ⟨⟨hnd,hlt⟩,hcov⟩:=hcover
 have hlt':∀ i∈S++C,i<k:=fun i hi=>by have:=List.all_eq_true.1 hlt i hi;simpa using this
 rw [List.nodup_append] at hnd
 obtain ⟨hndS,hndC,hSC⟩:=hnd
 obtain ⟨ivS,⟨hfm,hX⟩,huS,hkS,hsS⟩:=ds_get S [] hndS (fun _ _=>rfl) (fun _ _ h=>by cases h) h (fun i v hv=>by cases hv)
 simp only [lk,reduceCtorEq,exists_false,or_false] at hkS
 have hks:k≤ops.toArray.size:=by
  simp only [tailB,Bool.or_eq_true,Bool.and_eq_true,decide_eq_true_eq] at htailB
  rcases htailB with h | h<;>omega
 have hdsl:∀ i d,lk ds i=some d→dstAt ops.toArray i=some d:=fun i d h=>by rw [← hds] at h;have:=(dstTab_ok ops 0 i d h).2;simpa [dstAt] using this
 have inv0:HeadInv .any ops.toArray k (Array.replicate ops.toArray.size false):=
  ⟨by simp,fun j oj _ hl=>(by rw [getD_replicate_false] at hl;cases hl),fun t _ ht=>getD_in (by simpa using ht) (getD_replicate_false _ _)⟩
 have hun0:∀ i,i<k→(Array.replicate ops.toArray.size false).getD i true=false:=fun i hi=>getD_in (by simp at hks ⊢;omega) (getD_replicate_false _ _)
 have hleft:leftOf k (Array.replicate ops.toArray.size false)=k:=by
  unfold leftOf
  rw [List.filter_eq_self.2]
  ·simp
  ·intro i hi
   simp only [hun0 i (by simpa using hi),Bool.not_false]
 have hff:∀ i d u,i<k→dstAt ops.toArray i=some d→look l d=some u→lk ivS i=some u:=fun i d u hi hdi hu=>by
  by_cases him:i=m
  ·subst him
   rw [hdi] at hfm
   rcases hfm with h1 | h1
   ·simp only [Option.bind_some,hu,Option.isNone_some,Bool.false_eq_true] at h1
   ·rw [h1];exact hu
  ·have h1:=fresh_none (d:=d) _ hf (List.mem_map.2 ⟨i,List.mem_range.2 hi,by
    have:Nat.beq i m=false:=by
     cases hb:Nat.beq i m with
     | false=>rfl
     | true=>exact absurd (Nat.eq_of_beq_eq_true hb) him
    rw [this];exact hdi⟩)
   rw [h1] at hu;cases hu
 have key:=chain_runS hdsl (P:=P) (n:=n) (w0:=w0) (mu:=mu) (l:=l) (hp:=hp) (h0:=h0) (all:=ops.toArray) (ivS:=ivS) (k:=k) (t0:=t0) (g:=ops.toArray.size - k) (Q':=QQ n w0 mu Q) (X:=fun ivE hc=>Ops P n w0 mu ops.toArray (ops.drop k) (headFm ds (ivE++ivS)++l) hc Q) hks hd hff hback hle0
  (fun i hi hdn=>by
   have:=List.all_eq_true.1 hstb i (List.mem_range.2 hi)
   rw [hdn] at this
   simp only [Option.isSome_none,Bool.false_or,Bool.or_eq_true] at this
   rcases this with h | h
   ·exact .inl (Nat.eq_of_beq_eq_true h)
   ·exact .inr h)
  (fun i v hv=>⟨hlt' i (List.mem_append_left _ ((hkS i).1 ⟨v,hv⟩)),hsS i v hv⟩)
  (fun ivE h listed inv hall hX a w hmid hEk=>by
   have hknows:Knows n (headFm ds (ivE++ivS)++l) a:=by
    refine ⟨hmid.size,hmid.defers,fun t v ht=>?_⟩
    rcases look_append ht with ht | ⟨_,ht⟩
    ·obtain ⟨j,h1,h2⟩:=headFm_mem (look_mem ht)
     rcases List.mem_append.1 h1 with h1 | h1
     ·exact (hmid.doneE j v h1).2 t (hdsl _ _ h2)
     ·have hj:=huS j v h1
      have hjk:=hlt' j (List.mem_append_left _ ((hkS j).1 ⟨v,hj⟩))
      refine hmid.doneS j v hj ?_ t (hdsl _ _ h2)
      have h5:=hall j hjk
      cases hcc:listed.getD j false with
      | true=>rfl
      | false=>rw [getD_in (by rw [inv.size];omega) hcc] at h5;cases h5
    ·exact hmid.has t v ht
   have hfin:=hX a w hknows hmid.good
   simp only [tailB,Bool.or_eq_true,Bool.and_eq_true,decide_eq_true_eq] at htailB
   rcases htailB with hks2 | ⟨⟨⟨hltk,hs⟩,hc⟩,hseq⟩
   ·have e0:ops.drop k=[]:=List.drop_eq_nil_of_le (by simp at hks2;omega)
    rw [e0] at hfin
    rw [show ops.toArray.size - k=0 by omega]
    refine ⟨?_,hfin⟩
    rw [List.eq_nil_iff_forall_not_mem]
    intro i hi
    obtain ⟨hun,o,ho,_⟩:=mem_ready.1 hi
    have hi':i<k:=by rw [hks2];exact (Array.getElem?_eq_some_iff.1 ho).1
    rw [hall i hi'] at hun;cases hun
   ·have hl:listed=(Array.replicate k true)++(Array.replicate (ops.toArray.size - k) false):=by
     apply Array.ext
     ·simp [inv.size];simp at hltk;omega
     ·intro i h1 h2
      by_cases hi:i<k
      ·have:=hall i hi
       simp [h1] at this
       rw [Array.getElem_append_left (by simpa using hi)]
       simpa using this
      ·have h3:=inv.tail i (by omega) (by rw [inv.size] at h1;exact h1)
       simp [h1] at h3
       rw [Array.getElem_append_right (by simp;omega)]
       simpa using h3
    have hdl:(ops.drop k).length=ops.toArray.size - k:=by simp
    rw [← hdl]
    exact wpAny_of_seq (ops.drop k) k listed a w (fun j=>by simp) (by rw [hl,hdl];exact hseq) hfin)
  (fun listed inv i hi hun t ht=>by
   simp only [tailB,Bool.or_eq_true,Bool.and_eq_true,decide_eq_true_eq] at htailB
   rcases htailB with h | ⟨⟨⟨hltk,hs⟩,hc⟩,hseq⟩
   ·intro hr
    obtain ⟨_,o,ho,_⟩:=mem_ready.1 hr
    have:=(Array.getElem?_eq_some_iff.1 ho).1
    omega
   ·exact tail_waits hs hc hltk inv _ i rfl hi hun t ht)
  k C [] hp _ a { w with drawn:=w.drawn + 1 } hleft inv0 ⟨hk.size,hk.defers,hk.has,hG.drawn _,fun i v _ hl=>(by rw [getD_replicate_false] at hl;cases hl),fun i v hv=>by cases hv⟩ (fun i v hv=>by cases hv)
  (fun i hi=>⟨hlt' i (List.mem_append_right _ hi),hun0 i (hlt' i (List.mem_append_right _ hi)),by
   cases hv:lk ivS i with
   | none=>rfl
   | some v=>exact absurd rfl (hSC i ((hkS i).1 ⟨v,hv⟩) i hi)⟩) hndC hlink
  (fun i hi _=>by
   have:=mem_mem (List.all_eq_true.1 hcov i (List.mem_range.2 hi))
   rcases List.mem_append.1 this with h | h
   ·exact .inl ((hkS i).2 h)
   ·exact .inr h) hle0 (fun _=>HpLe.refl _) hX
 have e:k + (ops.toArray.size - k)=ops.toArray.size:=by omega
 rw [e] at key
 exact key
end
set_option maxRecDepth 20000
section
variable {n : Nat} {w0 : World} {mu : List Nat} {l lf : Fm} {h0 hp hc : Hp} {Q : Exit → Fm → Hp → Prop} {all : Array Oper} {ivS iv ivE : Fm} {k t0 i d : Nat} {ds : List (Nat × Nat)} {S r : List Nat} {X : Fm → Prop} {Y : Fm → Hp → Prop} {op : Op} {ty : TypeId} {pos : String} {af : Array Edge} {v : Value}
theorem drawCS {id:Nat} {ops tl:List Oper} (k t0 m:Nat) (S C:List Nat) (h0:Hp) (h:DS Tryz.prog n w0 mu ops.toArray ds l h0 hp t0 (fun ivS=>(((dstAt ops.toArray m).bind (look l)).isNone=true∨lk ivS m=(dstAt ops.toArray m).bind (look l))∧DCh Tryz.prog n w0 mu ops.toArray ds l h0 ivS (fun ivE hc=>Ops Tryz.prog n w0 mu ops.toArray tl (headFm ds (ivE++ivS)++l) hc Q) C [] hp) S [])
  (hle0:HpLe h0 hp:=by (refine hpLe_cnt fun a=>?_;simp only [cntB_app,cntB_cons,cntB_nil]<;>omega)) (hds:dstTab ops 0=ds:=by (simp only [dstTab,Nat.reduceAdd,Nat.zero_add];rfl)) (htl:ops.drop k=tl:=by (simp only [List.drop_succ_cons,List.drop_zero,List.drop_nil];rfl)) (hm:Tryz.prog.follows .mixedOrders=true:=by kernel_rfl) (hB:drawCB ops.toArray n k t0 S C=true:=by decide +kernel) (hf:freshB l ((List.range k).map fun i=>bif Nat.beq i m then none else dstAt ops.toArray i)=true:=by rfl):St Tryz.prog n w0 mu (.region id ops.toArray true) l hp Q:=
 st_any hm (st_drawCS k t0 m S C h0 hB hf hle0 hds (by rw [htl];exact h))
end
end Go.Proofs.YtndklbjnofdgeaaGreat
namespace Go.Proofs.YtndklbjnofdgeaaGreat
open Go.RowKit
set_option linter.unusedVariables false
set_option linter.unusedSimpArgs false
set_option maxRecDepth 20000
attribute [local irreducible] Hy St Ops DH DHF DE1 DE2 DE3 DS DCh DWF
theorem finTAATT {fn:Func} {R:Value→Hp→Prop} {l:Fm} {hp:Hp} {s0 s2 s3 a t b a2 t2 b2:Nat} {cs cs2:Array Value} {tb tb2:TypeId} {v v2 v3:Value} (h:R (.tuple #[v,.agg cs,.agg cs2,v2,v3]) hp) (hr:fn.results=#[.tmp s0,.cell a t,.cell a2 t2,.tmp s2,.tmp s3]:=by rfl) (h0:look l s0=some v:=by rfl) (hv:look l a=some (.pointer (some ⟨b,0,none⟩)):=by rfl) (hw:look l a2=some (.pointer (some ⟨b2,0,none⟩)):=by rfl) (h3:look l s2=some v2:=by rfl) (h4:look l s3=some v3:=by rfl) (hag:mem Tb.ag t=true:=by rfl) (hm:(⟨b,cs,tb⟩:Blk)∈hp:=by (first | (with_reducible apply mh) | (focus ((repeat (first | (with_reducible apply mh) | (with_reducible apply mt) | (with_reducible apply List.mem_append_right)));done)))) (hz:lk Tb.sz t=some cs.size:=by rfl) (hag2:mem Tb.ag t2=true:=by rfl) (hm2:(⟨b2,cs2,tb2⟩:Blk)∈hp:=by (first | (with_reducible apply mh) | (focus ((repeat (first | (with_reducible apply mh) | (with_reducible apply mt) | (with_reducible apply List.mem_append_right)));done)))) (hz2:lk Tb.sz t2=some cs2.size:=by rfl):Fin Tryz.prog fn R .ret l hp:=
 ⟨.inl rfl,[v,.agg cs,.agg cs2,v2,v3],by rw [hr];exact ⟨h0,⟨⟨b,cs,tb⟩,hm,hv,.inr ⟨tb_ok.gag hag,tb_ok.gsz hz,rfl⟩⟩,⟨⟨b2,cs2,tb2⟩,hm2,hw,.inr ⟨tb_ok.gag hag2,tb_ok.gsz hz2,rfl⟩⟩,h3,h4,trivial⟩,h⟩
theorem aPage_e (ws:List Nat) (hw:W64 ws) (hwl:ws.length<1000000) (cap:Nat) (hcc:ws.length≤cap) {p:Option Addr} {w:World} (es:List EnD) (ds:List IvD) (pk:PkD) (one two:RtD) (page acc:Int) {ev dv:Value} (hm:SlAt w (.slice p ws.length cap) 1 (ws.map uV)) (he:SlAt w ev 14 (es.map enV)) (hd:SlAt w dv 4 (ds.map ivV)) (hcap:∃ q c,ev=.slice q es.length c∧es.length≤c) (hel:es.length<1000000) (hdl:ds.length<1000000):
  Fn Tryz.prog 106 [.agg #[.slice p ws.length cap],.agg #[ev,dv],.agg (rtV one).toArray,.agg (rtV two).toArray,.int .i64 page,.int .i64 acc,.agg (pkV pk).toArray].toArray w [] (fun u hn=>(mayL ws.length es ds one two page acc=true→∃ (ev' dv' rv':Value) (he' hd' hr':Hp),u=.tuple #[.int .i64 (pageA ⟨ws,one,two,pk,page.toNat,acc⟩ es).n,ftV (pageA ⟨ws,one,two,pk,page.toNat,acc⟩ es).f,.agg #[ev',dv'],rv',.int .i64 0]∧Own 114 14 ev' he' ((pageA ⟨ws,one,two,pk,page.toNat,acc⟩ es).s.es.map enV)∧Own 121 4 dv' hd' (ds.map ivV)∧Own 3 1 rv' hr' ((pageA ⟨ws,one,two,pk,page.toNat,acc⟩ es).s.rd.map inV)∧HpLe (he'++hd'++hr') hn)∧(mayL ws.length es ds one two page acc=false→u=.tuple #[.int .i64 0,ftV noFt,.agg #[.slice none 0 0,.slice none 0 0],.slice none 0 0,.int .i64 1])):=by
 obtain ⟨qe,ce,rfl,hlc⟩:=hcap
 obtain ⟨qd,cd,rfl,_⟩:=hd.opened
 refine enter Tryz.func106 ?_
 refine runNB ?_
 intro B1 B2 B3 B4 B5 B6 B7
 refine buildK #[.slice p ws.length cap,.slice qe es.length ce,.slice qd ds.length cd,.int .i64 pk.cpu,.bool pk.fill,.bool pk.mids,.bool pk.walk,.int .i64 pk.drop,.bool pk.use,.bool one.on,.int .i64 one.frame,.int .i64 one.tag,.bool two.on,.int .i64 two.frame,.int .i64 two.tag,.int .i64 page,.int .i64 acc,.slice none 0 0] ?_
 refine run ?_
 intro Wb
 refine callM [⟨Wb,#[.slice p ws.length cap,.slice qe es.length ce,.slice qd ds.length cd,.int .i64 pk.cpu,.bool pk.fill,.bool pk.mids,.bool pk.walk,.int .i64 pk.drop,.bool pk.use,.bool one.on,.int .i64 one.frame,.int .i64 one.tag,.bool two.on,.int .i64 two.frame,.int .i64 two.tag,.int .i64 page,.int .i64 acc,.slice none 0 0],194⟩] (⟨B7,#[.slice none 0 0,.slice none 0 0],77⟩::⟨B6,#[.int .i64 0,.int .i64 0,.int .i64 0,.bool false,.int .i64 0],43⟩::⟨B5,(pkV pk).toArray,51⟩::⟨B4,(rtV two).toArray,33⟩::⟨B3,(rtV one).toArray,33⟩::⟨B2,#[.slice qe es.length ce,.slice qd ds.length cd],77⟩::⟨B1,#[.slice p ws.length cap],24⟩::[]) (fun wc hG=>wyMay_e ws hwl cap hcc es ds pk one two page acc ((Sees.old he).into hG) ((Sees.old hd).into hG) ⟨_,_,rfl,hlc⟩ hel hG.hereN) ?_ (by (refine perm_cnt fun a=>?_;simp only [cntB_app,cntB_cons,cntB_nil]<;>omega))
 rintro _ hn1 ⟨rfl,hle1⟩
 refine ops_le (⟨Wb,#[.slice p ws.length cap,.slice qe es.length ce,.slice qd ds.length cd,.int .i64 pk.cpu,.bool pk.fill,.bool pk.mids,.bool pk.walk,.int .i64 pk.drop,.bool pk.use,.bool one.on,.int .i64 one.frame,.int .i64 one.tag,.bool two.on,.int .i64 two.frame,.int .i64 two.tag,.int .i64 page,.int .i64 acc,.slice none 0 0],194⟩::⟨B7,#[.slice none 0 0,.slice none 0 0],77⟩::⟨B6,#[.int .i64 0,.int .i64 0,.int .i64 0,.bool false,.int .i64 0],43⟩::⟨B5,(pkV pk).toArray,51⟩::⟨B4,(rtV two).toArray,33⟩::⟨B3,(rtV one).toArray,33⟩::⟨B2,#[.slice qe es.length ce,.slice qd ds.length cd],77⟩::⟨B1,#[.slice p ws.length cap],24⟩::[]) (by (refine hpLe_cnt fun a=>?_;have:=HpLe.cnt hle1 a;simp only [cntB_app,cntB_cons,cntB_nil] at *;omega)) ?_
 refine run ?_
 refine st_cond _ rfl (fun hc=>?_) (fun hc=>?_)
 ·have hf:mayL ws.length es ds one two page acc=false:=by simpa using hc
  rw [hf]
  refine run ?_
  refine dropS 14 ?_
  refine dropS 17 ?_
  refine dropS 18 ?_
  refine drawC 7 3 [0,1,2] [3,4,5,6] (⟨Wb,#[.slice p ws.length cap,.slice qe es.length ce,.slice qd ds.length cd,.int .i64 pk.cpu,.bool pk.fill,.bool pk.mids,.bool pk.walk,.int .i64 pk.drop,.bool pk.use,.bool one.on,.int .i64 one.frame,.int .i64 one.tag,.bool two.on,.int .i64 two.frame,.int .i64 two.tag,.int .i64 page,.int .i64 acc,.slice none 0 0],194⟩::⟨B7,#[.slice none 0 0,.slice none 0 0],77⟩::⟨B6,#[.int .i64 0,.int .i64 0,.int .i64 0,.bool false,.int .i64 0],43⟩::⟨B5,(pkV pk).toArray,51⟩::⟨B4,(rtV two).toArray,33⟩::⟨B3,(rtV one).toArray,33⟩::⟨B2,#[.slice qe es.length ce,.slice qd ds.length cd],77⟩::⟨B1,#[.slice p ws.length cap],24⟩::[]) ?_
  refine runZ ?_
  refine cSame ?_
  refine cSame ?_
  refine cVal (fun hx=>x_assign rfl) ?_
  refine cVal (fun hx=>x_assign rfl) ?_
  refine dc_nil ?_
  refine opsC ?_
  refine run ?_
  exact finTAATT (v:=.int .i64 0) (v2:=.slice none 0 0) (v3:=.int .i64 1) (cs:=#[.int .i64 0,.int .i64 0,.int .i64 0,.bool false,.int .i64 0]) (cs2:=#[.slice none 0 0,.slice none 0 0]) ⟨fun h=>(by cases h),fun _=>rfl⟩
 have hf:mayL ws.length es ds one two page acc=true:=by simpa using hc
 have hpg:PtD.btw page 0 4095=true:=by
  simp only [mayL,Bool.and_eq_true] at hf
  exact hf.1.1.2
 have hac:PtD.btw acc 0 2=true:=by
  simp only [mayL,Bool.and_eq_true] at hf
  exact hf.1.2
 obtain ⟨c,hws,hone,htwo,hpk,hpage,hacc⟩:∃ c:AcC,ws=c.ws∧one=c.one∧two=c.two∧pk=c.pk∧page=(c.page:Int)∧acc=c.acc:=⟨⟨ws,one,two,pk,page.toNat,acc⟩,rfl,rfl,rfl,rfl,by simp only [PtD.btw,Bool.and_eq_true,decide_eq_true_eq] at hpg;dsimp only;omega,rfl⟩
 subst hws hone htwo hpk hpage hacc
 obtain ⟨hk,hE,_,_⟩:=mayL_ok hw hf
 rw [hf,Int.toNat_natCast]
 have hco:(⟨c.ws,c.one,c.two,c.pk,c.page,c.acc⟩:AcC)=c:=rfl
 rw [hco]
 refine run ?_
 refine callB (fun wc hG=>tlbCopy_e es ds _ _ ((Sees.old he).good hG) ((Sees.old hd).good hG) hel hdl) ?_
 rintro _ hn2 ⟨v1,h1,v2,h2,rfl,hA1,hA2,hle2⟩
 obtain ⟨q1,c1,e1⟩:=hA1.opened
 obtain ⟨q2,c2,e2⟩:=hA2.opened
 rw [List.length_map] at e1 e2
 subst e1 e2
 refine ops_le (⟨Wb,#[.slice p c.ws.length cap,.slice qe es.length ce,.slice qd ds.length cd,.int .i64 c.pk.cpu,.bool c.pk.fill,.bool c.pk.mids,.bool c.pk.walk,.int .i64 c.pk.drop,.bool c.pk.use,.bool c.one.on,.int .i64 c.one.frame,.int .i64 c.one.tag,.bool c.two.on,.int .i64 c.two.frame,.int .i64 c.two.tag,.int .i64 (c.page:Int),.int .i64 c.acc,.slice none 0 0],194⟩::((h1++h2)++⟨B7,#[.slice none 0 0,.slice none 0 0],77⟩::⟨B6,#[.int .i64 0,.int .i64 0,.int .i64 0,.bool false,.int .i64 0],43⟩::⟨B5,(pkV c.pk).toArray,51⟩::⟨B4,(rtV c.two).toArray,33⟩::⟨B3,(rtV c.one).toArray,33⟩::⟨B2,#[.slice qe es.length ce,.slice qd ds.length cd],77⟩::⟨B1,#[.slice p c.ws.length cap],24⟩::[])) (by (refine hpLe_cnt fun a=>?_;have:=HpLe.cnt hle2 a;simp only [cntB_app,cntB_cons,cntB_nil] at *;omega)) ?_
 refine run ?_
 refine callB (fun wc hG=>tDrop_e ((Sees.old he).good hG) ((Sees.old hd).good hG) ⟨_,_,rfl,hlc⟩ hE.tlb c.pk.drop) ?_
 rintro _ hn3 ⟨v3,h3,v4,h4,rfl,hD1,hD2,hle3⟩
 have hE':=drop_ok hE c.pk.drop
 have hAc:pageA c es=pageB c (dropL es c.pk.drop):=rfl
 rw [hAc]
 obtain ⟨DB,hDB⟩:∃ DB,DB=(decide (0≤c.pk.drop) && decide (c.pk.drop<(es.length:Int))):=⟨_,rfl⟩
 rw [← hDB] at hD1 hD2
 obtain ⟨q3,n3,c3,q4,n4,c4,e3,e4⟩:∃ q3 n3 c3 q4 n4 c4,v3=.slice q3 n3 c3∧v4=.slice q4 n4 c4:=by
  cases DB with
  | true=>
   obtain ⟨g1,g2⟩:=hD1 rfl
   obtain ⟨q3,c3,e3⟩:=g1.opened
   obtain ⟨q4,c4,e4⟩:=g2.opened
   exact ⟨_,_,_,_,_,_,e3,e4⟩
  | false=>
   obtain ⟨e3,e4⟩:=hD2 rfl
   exact ⟨_,_,_,_,_,_,e3,e4⟩
 subst e3 e4
 refine ops_le (⟨Wb,#[.slice p c.ws.length cap,.slice q1 es.length c1,.slice q2 ds.length c2,.int .i64 c.pk.cpu,.bool c.pk.fill,.bool c.pk.mids,.bool c.pk.walk,.int .i64 c.pk.drop,.bool c.pk.use,.bool c.one.on,.int .i64 c.one.frame,.int .i64 c.one.tag,.bool c.two.on,.int .i64 c.two.frame,.int .i64 c.two.tag,.int .i64 (c.page:Int),.int .i64 c.acc,.slice none 0 0],194⟩::((h3++h4)++((h1++h2)++⟨B7,#[.slice none 0 0,.slice none 0 0],77⟩::⟨B6,#[.int .i64 0,.int .i64 0,.int .i64 0,.bool false,.int .i64 0],43⟩::⟨B5,(pkV c.pk).toArray,51⟩::⟨B4,(rtV c.two).toArray,33⟩::⟨B3,(rtV c.one).toArray,33⟩::⟨B2,#[.slice qe es.length ce,.slice qd ds.length cd],77⟩::⟨B1,#[.slice p c.ws.length cap],24⟩::[]))) (by (refine hpLe_cnt fun a=>?_;have:=HpLe.cnt hle3 a;simp only [cntB_app,cntB_cons,cntB_nil] at *;omega)) ?_
 rw [← hDB]
 refine run ?_
 intro Y
 refine st_cutD (σ:=Value × Value × Hp × Hp) (fun _=>[]) (fun z=>⟨Wb,#[.slice p c.ws.length cap,z.1,z.2.1,.int .i64 c.pk.cpu,.bool c.pk.fill,.bool c.pk.mids,.bool c.pk.walk,.int .i64 c.pk.drop,.bool c.pk.use,.bool c.one.on,.int .i64 c.one.frame,.int .i64 c.one.tag,.bool c.two.on,.int .i64 c.two.frame,.int .i64 c.two.tag,.int .i64 (c.page:Int),.int .i64 c.acc,.slice none 0 0],194⟩::((z.2.2.1++z.2.2.2)++⟨B7,#[.slice none 0 0,.slice none 0 0],77⟩::⟨B6,#[.int .i64 0,.int .i64 0,.int .i64 0,.bool false,.int .i64 0],43⟩::⟨B5,(pkV c.pk).toArray,51⟩::⟨B4,(rtV c.two).toArray,33⟩::⟨B3,(rtV c.one).toArray,33⟩::⟨B2,#[.slice qe es.length ce,.slice qd ds.length cd],77⟩::⟨B1,#[.slice p c.ws.length cap],24⟩::[])) (fun z=>Own 114 14 z.1 z.2.2.1 ((dropL es c.pk.drop).map enV)∧Own 121 4 z.2.1 z.2.2.2 (ds.map ivV)) ?_ ?_
 ·refine st_cond _ rfl (fun hc3=>?_) (fun hc3=>?_)
  ·have hDt:DB=true:=by cases DB with
    | true=>rfl
    | false=>simp at hc3
   obtain ⟨g1,g2⟩:=hD1 hDt
   refine run ?_
   exact meetS (.slice q3 n3 c3,.slice q4 n4 c4,h3,h4) ⟨g1,g2⟩ (h2:=by (refine hpLe_cnt fun a=>?_;simp only [cntB_app,cntB_cons,cntB_nil]<;>omega))
  ·have hDf:DB=false:=by cases DB with
    | true=>simp at hc3
    | false=>rfl
   have hdr:dropL es c.pk.drop=es:=by unfold dropL;rw [← hDB,hDf];rfl
   refine run ?_
   exact meetS (.slice q1 es.length c1,.slice q2 ds.length c2,h1,h2) ⟨by rw [hdr];exact hA1,hA2⟩ (h2:=by (refine hpLe_cnt fun a=>?_;simp only [cntB_app,cntB_cons,cntB_nil]<;>omega))
 rintro ⟨ev1,dv1,he1,hd1⟩ ⟨g1,g2⟩
 dsimp only at g1 g2 ⊢
 refine run ?_
 refine callM (⟨Wb,#[.slice p c.ws.length cap,ev1,dv1,.int .i64 c.pk.cpu,.bool c.pk.fill,.bool c.pk.mids,.bool c.pk.walk,.int .i64 c.pk.drop,.bool c.pk.use,.bool c.one.on,.int .i64 c.one.frame,.int .i64 c.one.tag,.bool c.two.on,.int .i64 c.two.frame,.int .i64 c.two.tag,.int .i64 (c.page:Int),.int .i64 c.acc,.slice none 0 0],194⟩::(he1++hd1++[])) (⟨B7,#[.slice none 0 0,.slice none 0 0],77⟩::⟨B6,#[.int .i64 0,.int .i64 0,.int .i64 0,.bool false,.int .i64 0],43⟩::⟨B5,(pkV c.pk).toArray,51⟩::⟨B4,(rtV c.two).toArray,33⟩::⟨B3,(rtV c.one).toArray,33⟩::⟨B2,#[.slice qe es.length ce,.slice qd ds.length cd],77⟩::⟨B1,#[.slice p c.ws.length cap],24⟩::[]) (fun wc hG=>wyFrame_e c hk cap hcc (dropL es c.pk.drop) ds hE' hac ((Sees.old hm).into hG) g1 g2 (Own.nil _ _) hG.hereN) ?_ (by (refine perm_cnt fun a=>?_;simp only [cntB_app,cntB_cons,cntB_nil]<;>omega))
 rintro u5 hn5 ⟨ev2,dv2,rv2,he2,hd2,hr2,rfl,h12,h22,h32,hle5⟩
 simp only [wyC] at hle5
 generalize pageB c (dropL es c.pk.drop)=X at h12 h32 ⊢
 obtain ⟨q5,c5,e5⟩:=h12.opened
 obtain ⟨q6,c6,e6⟩:=h22.opened
 obtain ⟨q7,c7,e7⟩:=h32.opened
 rw [List.length_map] at e5 e6 e7
 subst e5 e6 e7
 refine ops_le (⟨Wb,#[.slice p c.ws.length cap,.slice q5 X.s.es.length c5,.slice q6 ds.length c6,.int .i64 c.pk.cpu,.bool c.pk.fill,.bool c.pk.mids,.bool c.pk.walk,.int .i64 c.pk.drop,.bool c.pk.use,.bool c.one.on,.int .i64 c.one.frame,.int .i64 c.one.tag,.bool c.two.on,.int .i64 c.two.frame,.int .i64 c.two.tag,.int .i64 (c.page:Int),.int .i64 c.acc,.slice q7 X.s.rd.length c7],194⟩::⟨B7,#[.slice none 0 0,.slice none 0 0],77⟩::⟨B6,#[.int .i64 0,.int .i64 0,.int .i64 0,.bool false,.int .i64 0],43⟩::⟨B5,(pkV c.pk).toArray,51⟩::⟨B4,(rtV c.two).toArray,33⟩::⟨B3,(rtV c.one).toArray,33⟩::⟨B2,#[.slice qe es.length ce,.slice qd ds.length cd],77⟩::⟨B1,#[.slice p c.ws.length cap],24⟩::(he2++hd2++hr2)) (by (refine hpLe_cnt fun a=>?_;have:=HpLe.cnt hle5 a;simp only [cntB_app,cntB_cons,cntB_nil] at *;omega)) ?_
 refine run ?_
 refine dropS 17 ?_
 refine dropS 18 ?_
 refine drawCS 15 11 10 [0,1,2,3,4,5,6,7,8,9,10] [11,12,13,14] (⟨B6,#[.int .i64 X.f.kind,.int .i64 X.f.stage,.int .i64 X.f.level,.bool X.f.walk,.int .i64 X.f.page],43⟩::⟨Wb,#[.slice p c.ws.length cap,.slice q5 X.s.es.length c5,.slice q6 ds.length c6,.int .i64 c.pk.cpu,.bool c.pk.fill,.bool c.pk.mids,.bool c.pk.walk,.int .i64 c.pk.drop,.bool c.pk.use,.bool c.one.on,.int .i64 c.one.frame,.int .i64 c.one.tag,.bool c.two.on,.int .i64 c.two.frame,.int .i64 c.two.tag,.int .i64 (c.page:Int),.int .i64 c.acc,.slice q7 X.s.rd.length c7],194⟩::⟨B5,(pkV c.pk).toArray,51⟩::⟨B4,(rtV c.two).toArray,33⟩::⟨B3,(rtV c.one).toArray,33⟩::⟨B2,#[.slice qe es.length ce,.slice qd ds.length cd],77⟩::⟨B1,#[.slice p c.ws.length cap],24⟩::(he2++hd2++hr2)) ?_
 refine runZ ?_
 refine ⟨.inr rfl,?_⟩
 refine cSame (b:=B6) (tb:=43) (cs:=#[.int .i64 X.f.kind,.int .i64 X.f.stage,.int .i64 X.f.level,.bool X.f.walk,.int .i64 X.f.page]) ?_
 refine cStore (b:=B7) (tb:=77) (cs:=#[.slice none 0 0,.slice none 0 0]) (cs':=#[.slice q5 X.s.es.length c5,.slice q6 ds.length c6]) (hp':=⟨B6,#[.int .i64 X.f.kind,.int .i64 X.f.stage,.int .i64 X.f.level,.bool X.f.walk,.int .i64 X.f.page],43⟩::⟨Wb,#[.slice p c.ws.length cap,.slice q5 X.s.es.length c5,.slice q6 ds.length c6,.int .i64 c.pk.cpu,.bool c.pk.fill,.bool c.pk.mids,.bool c.pk.walk,.int .i64 c.pk.drop,.bool c.pk.use,.bool c.one.on,.int .i64 c.one.frame,.int .i64 c.one.tag,.bool c.two.on,.int .i64 c.two.frame,.int .i64 c.two.tag,.int .i64 (c.page:Int),.int .i64 c.acc,.slice q7 X.s.rd.length c7],194⟩::⟨B5,(pkV c.pk).toArray,51⟩::⟨B4,(rtV c.two).toArray,33⟩::⟨B3,(rtV c.one).toArray,33⟩::⟨B2,#[.slice qe es.length ce,.slice qd ds.length cd],77⟩::⟨B1,#[.slice p c.ws.length cap],24⟩::(he2++hd2++hr2)) ?_ (by (refine perm_cnt fun a=>?_;simp only [cntB_app,cntB_cons,cntB_nil]<;>omega))
 refine cVal (fun hx=>x_assign rfl) ?_
 refine cVal (fun hx=>x_assign rfl) ?_
 refine dc_nil ?_
 refine opsC ?_
 refine run ?_
 exact finTAATT (v:=.int .i64 X.n) (v2:=.slice q7 X.s.rd.length c7) (v3:=.int .i64 0) (cs:=#[.int .i64 X.f.kind,.int .i64 X.f.stage,.int .i64 X.f.level,.bool X.f.walk,.int .i64 X.f.page]) (cs2:=#[.slice q5 X.s.es.length c5,.slice q6 ds.length c6]) ⟨fun _=>⟨_,_,_,he2,hd2,hr2,rfl,h12,h22,h32,by (refine hpLe_cnt fun a=>?_;simp only [cntB_app,cntB_cons,cntB_nil]<;>omega)⟩,fun h=>by cases h⟩
end Go.Proofs.YtndklbjnofdgeaaGreat
namespace Go.Proofs.YtndklbjnofdgeaaGreat
open Go.RowKit
set_option linter.unusedVariables false
set_option linter.unusedSimpArgs false
set_option maxRecDepth 20000
attribute [local irreducible] Hy St Ops DH DHF DE1 DE2 DE3 DS DCh DWF
def readN (ws:List Nat) (at_ size:Nat):Nat:=getN (ws.getD (at_ / 8) default) (at_ % 8 * 8) (8 * size)
def putW (w sh size v:Nat):Nat:=(w &&& (18446744073709551615 - (lowN (8 * size) <<< sh) % 18446744073709551616)) ||| (((v &&& lowN (8 * size)) <<< sh) % 18446744073709551616)
def writeL (ws:List Nat) (at_ size v:Nat):List Nat:=ws.set (at_ / 8) (putW (ws.getD (at_ / 8) default) (at_ % 8 * 8) size v)
structure PlOk (ws:List Nat) (at_ size:Nat):Prop where
 ok:W64 ws
 le:ws.length≤512
 fr:ws.length % 8=0
 lt:at_<8 * ws.length
 sz:size=1∨size=2∨size=4∨size=8
 al:at_ % size=0
theorem PlOk.mem {ws:List Nat} {at_ size:Nat} (h:PlOk ws at_ size):memOk ws.length=true:=by
 obtain ⟨h1,h2,h3,h4,h5,h6⟩:=h
 unfold memOk
 simp
 omega
theorem mLow_e (size:Nat) (h:size=1∨size=2∨size=4∨size=8) (w:World):Fn Tryz.prog 109 [.int .i64 (size:Nat)].toArray w [] (fun u _=>u=.int .u64 (lowN (8 * size):Nat)):=by
 refine enter Tryz.func109 ?_
 refine run ?_
 refine op1 (by rfl) (x_shrN rfl rfl 18446744073709551615 (64 - 8 * size) rfl (by omega) (by omega)) ?_
 refine run ?_
 exact fin1 rfl
theorem mPlaced_e (ws:List Nat) (at_ size:Nat) (h:PlOk ws at_ size) (p:Option Addr) (cap:Nat) (w:World):Fn Tryz.prog 108 [.agg #[.slice p ws.length cap],.int .i64 (at_:Nat),.int .i64 (size:Nat)].toArray w [] (fun u _=>u=.int .i64 0):=by
 have hk:=h.mem
 obtain ⟨h1,h2,h3,h4,h5,h6⟩:=id h
 refine enter Tryz.func108 ?_
 refine run ?_
 intro B
 refine run ?_
 refine callE (fun wc hG=>mMay_e ws.length cap (by omega) p wc) ?_
 rw [hk]
 refine runG ?_
 refine st_cond _ rfl (fun hc=>absurd hc (by rcases h5 with rfl | rfl | rfl | rfl<;>simp)) (fun _=>?_)
 refine runG ?_
 refine st_cond _ rfl (fun hc=>absurd hc (by simp;omega)) (fun _=>?_)
 refine runG ?_
 refine op1 (by rfl) (x_remN rfl rfl at_ size rfl rfl (by omega)) ?_
 rw [h6]
 refine runC ?_
 exact fin1 rfl
theorem mRead_e (ws:List Nat) (at_ size:Nat) (h:PlOk ws at_ size) {w:World} {p:Option Addr} {cap:Nat} (hm:SlAt w (.slice p ws.length cap) 1 (ws.map uV)):Fn Tryz.prog 70 [.agg #[.slice p ws.length cap],.int .i64 (at_:Nat),.int .i64 (size:Nat)].toArray w [] (fun u _=>u=.tuple #[.int .u64 (readN ws at_ size:Nat),.int .i64 0]):=by
 obtain ⟨h1,h2,h3,h4,h5,h6⟩:=id h
 have hlt:at_ / 8<ws.length:=by omega
 have hv:ws.getD (at_ / 8) default<18446744073709551616:=h1.at _
 obtain ⟨q,c',e,hne,_⟩:=hm.opened
 obtain ⟨b,o,rfl⟩:=hne (by intro e;subst e;simp at hlt)
 cases e
 have hr:=rangeAt_cell0 (hm.row hlt)
 simp only [uV,Nat.mul_one] at hr
 refine enter Tryz.func70 ?_
 refine run ?_
 intro B
 refine run ?_
 refine callE (fun wc hG=>mPlaced_e ws at_ size h _ _ wc) ?_
 refine runC ?_
 refine drawN 13 ?_
 refine runD ?_
 refine opD (x_quoN rfl rfl at_ 8 rfl rfl (by decide) (by omega)) ?_
 refine runD ?_
 refine opD (x_remN rfl rfl at_ 8 rfl rfl (by decide)) ?_
 refine runD ?_
 refine opD (x_shrN rfl rfl (ws.getD (at_ / 8) default) (at_ % 8 * 8) rfl (by omega) (by omega)) ?_
 refine runD ?_
 refine callD (fun wc hG=>mLow_e size h5 wc) ?_
 refine opD (x_andN rfl rfl (ws.getD (at_ / 8) default >>> (at_ % 8 * 8)) (lowN (8 * size)) rfl rfl (shr_lt64 hv) (lowN_lt _)) ?_
 refine runD ?_
 refine run ?_
 exact fin2 rfl
theorem rRead_e (ws:List Nat) (at_ size:Nat) (h:PlOk ws at_ size) {w:World} {p:Option Addr} {cap:Nat} (hm:SlAt w (.slice p ws.length cap) 1 (ws.map uV)):Fn Tryz.prog 32 [.agg #[.slice p ws.length cap],.int .i64 (at_:Nat),.int .i64 (size:Nat)].toArray w [] (fun u _=>u=.int .u64 (readN ws at_ size:Nat)):=by
 obtain ⟨h1,h2,h3,h4,h5,h6⟩:=id h
 have hlt:at_ / 8<ws.length:=by omega
 have hv:ws.getD (at_ / 8) default<18446744073709551616:=h1.at _
 obtain ⟨q,c',e,hne,_⟩:=hm.opened
 obtain ⟨b,o,rfl⟩:=hne (by intro e;subst e;simp at hlt)
 cases e
 have hr:=rangeAt_cell0 (hm.row hlt)
 simp only [uV,Nat.mul_one] at hr
 refine enter Tryz.func32 ?_
 refine run ?_
 intro B
 refine run ?_
 refine op1 (by rfl) (x_quoN rfl rfl at_ 8 rfl rfl (by decide) (by omega)) ?_
 refine run ?_
 refine op1 (by rfl) (x_remN rfl rfl at_ 8 rfl rfl (by decide)) ?_
 refine run ?_
 rw [show ((at_ % 8:Nat):Int) * 8=((at_ % 8 * 8:Nat):Int) by omega,show (8:Int) * (size:Int)=((8 * size:Nat):Int) by omega]
 refine callE (fun wc hG=>rGet_e (ws.getD (at_ / 8) default) (at_ % 8 * 8) (8 * size) (by omega) (by omega) hv wc) ?_
 refine run ?_
 exact fin1 rfl
theorem Own.setV {e:Nat} {v:Value} {h:Hp} {xs:List Nat} (hA:Own e 1 v h (xs.map uV)) {k:Nat} (hk:k<xs.length):∃ g cap cur,v=.slice (some ⟨g,0,none⟩) xs.length cap∧h=[⟨g,cur,e⟩]∧nth cur.toList k=some (.int .u64 (xs.getD k default:Nat))∧k + 1≤cur.size ∧
  ∀ z:Nat,Own e 1 (.slice (some ⟨g,0,none⟩) xs.length cap) [⟨g,cur.setIfInBounds k (.int .u64 (z:Int)),e⟩] ((xs.set k z).map uV):=by
 have h0:=hA
 obtain ⟨g,cap,cur,rfl,rfl,hs,hz⟩:=hA.setU hk
 obtain ⟨g',cap',cur',e1,e2,hr⟩:=h0.row (n:=xs.length) (by simp) (by omega)
 injection e2 with e2
 injection e2 with _ e2
 subst e2
 have hall:∀ c∈xs.map uV,c.length=1:=by
  intro c hc
  obtain ⟨x,_,rfl⟩:=List.mem_map.1 hc
  rfl
 have hi:(xs.map uV)[k]?=some (uV (xs.getD k default)):=by
  rw [List.getElem?_map,List.getD_eq_getElem?_getD,List.getElem?_eq_getElem hk];rfl
 have h1:=hr.nth hall hi (k:=0) rfl
 rw [Nat.mul_one,Nat.add_zero] at h1
 exact ⟨g,cap,cur,rfl,rfl,h1,hs,hz⟩
theorem u_all (xs:List Nat):∀ c∈xs.map uV,c.length=1∧c.all (·.oneCell')=true:=by
 intro c hc
 obtain ⟨x,_,rfl⟩:=List.mem_map.1 hc
 exact ⟨rfl,rfl⟩
theorem mCopied_e (ws:List Nat) (hl:ws.length<1000000) {w:World} {v:Value} (hm:SlAt w v 1 (ws.map uV)):Fn Tryz.prog 144 [.agg #[v]].toArray w [] (fun u hn=>∃ v' h',u=.agg #[v']∧Own 25 1 v' h' (ws.map uV)∧HpLe h' hn):=by
 obtain ⟨q,cap,rfl,_⟩:=id hm.opened
 refine enter Tryz.func144 ?_
 refine run ?_
 intro B
 refine run ?_
 intro X
 refine callB (fun wc hG=>cloneWords_e _ (ws.map uV) (hm.good hG) (u_all ws) (by simpa using hl)) ?_
 intro u hn hO
 obtain ⟨q2,c2,e2⟩:=hO.opened
 subst e2
 refine ops_le (⟨X,#[.slice none 0 0],152⟩::⟨B,#[.slice q ws.length cap],24⟩::hn) (by (refine hpLe_cnt fun a=>?_;simp only [cntB_app,cntB_cons,cntB_nil]<;>omega)) ?_
 refine run ?_
 refine finA ?_
 exact ⟨_,hn,rfl,hO,by (refine hpLe_cnt fun a=>?_;simp only [cntB_app,cntB_cons,cntB_nil]<;>omega)⟩
theorem rPut_e (v a n x:Nat) (hn:n≤64) (ha:a≤64) (hv:v<18446744073709551616) (hx:x<18446744073709551616) (w:World):Fn Tryz.prog 94 [.int .u64 (v:Nat),.agg #[.int .i64 (a:Nat),.int .i64 (n:Nat),.int .u64 (x:Nat)]].toArray w [] (fun u _=>u=.int .u64 (((v &&& (18446744073709551615 - (lowN n <<< a) % 18446744073709551616)) ||| ((x <<< a) % 18446744073709551616):Nat):Int)):=by
 refine enter Tryz.func94 ?_
 refine run ?_
 intro B
 refine run ?_
 refine drawN 14 ?_
 refine runD ?_
 refine callD (fun wc hG=>rMask_e n hn wc) ?_
 refine runD ?_
 refine opD (x_shlN rfl rfl (lowN n) a rfl rfl (by omega)) ?_
 refine opD (x_andNotN rfl rfl v ((lowN n <<< a) % 18446744073709551616) rfl rfl hv (Nat.mod_lt _ (by decide))) ?_
 refine runD ?_
 refine opD (x_shlN rfl rfl x a rfl rfl (by omega)) ?_
 refine opD (x_orN rfl rfl (v &&& (18446744073709551615 - (lowN n <<< a) % 18446744073709551616)) ((x <<< a) % 18446744073709551616) rfl rfl (Nat.lt_of_le_of_lt Nat.and_le_left hv) (Nat.mod_lt _ (by decide))) ?_
 refine runD ?_
 refine run ?_
 exact fin1 rfl
theorem mWrite_e (ws:List Nat) (at_ size v:Nat) (h:PlOk ws at_ size) (hv0:W64n v) {w:World} {p:Option Addr} {cap:Nat} (hm:SlAt w (.slice p ws.length cap) 1 (ws.map uV)):Fn Tryz.prog 115 [.agg #[.slice p ws.length cap],.int .i64 (at_:Nat),.int .i64 (size:Nat),.int .u64 (v:Nat)].toArray w [] (fun u hn=>∃ v' h',u=.tuple #[.agg #[v'],.int .i64 0]∧Own 25 1 v' h' ((writeL ws at_ size v).map uV)∧HpLe h' hn):=by
 obtain ⟨h1,h2,h3,h4,h5,h6⟩:=id h
 have hlt:at_ / 8<ws.length:=by omega
 have hv:ws.getD (at_ / 8) default<18446744073709551616:=h1.at _
 refine enter Tryz.func115 ?_
 refine run ?_
 intro B X
 refine run ?_
 refine callE (fun wc hG=>mPlaced_e ws at_ size h _ _ wc) ?_
 refine runC ?_
 refine callB (fun wc hG=>mCopied_e ws (by omega) (hm.good hG)) ?_
 rintro u hn ⟨v',h',rfl,hO,hle⟩
 obtain ⟨g,cap2,cur,rfl,rfl,hnth,hsz,hset⟩:=hO.setV hlt
 refine ops_le (⟨g,cur,25⟩::⟨X,#[.slice none 0 0],24⟩::⟨B,#[.slice p ws.length cap],24⟩::[]) (by (refine hpLe_cnt fun a=>?_;have:=HpLe.cnt hle a;simp only [cntB_app,cntB_cons,cntB_nil] at *;omega)) ?_
 refine run ?_
 refine op1 (by rfl) (x_remN rfl rfl at_ 8 rfl rfl (by decide)) ?_
 refine run ?_
 intro Y
 refine run ?_
 refine drawN 24 ?_
 refine runD ?_
 refine opD (x_quoN rfl rfl at_ 8 rfl rfl (by decide) (by omega)) ?_
 refine runD ?_
 refine opD (x_quoN rfl rfl at_ 8 rfl rfl (by decide) (by omega)) ?_
 refine runD ?_
 refine callD (fun wc hG=>mLow_e size h5 wc) ?_
 refine runD ?_
 refine opD (x_shlN rfl rfl (lowN (8 * size)) (at_ % 8 * 8) rfl (by omega) (by omega)) ?_
 refine opD (x_andNotN rfl rfl (ws.getD (at_ / 8) default) ((lowN (8 * size) <<< (at_ % 8 * 8)) % 18446744073709551616) rfl rfl hv (Nat.mod_lt _ (by decide))) ?_
 refine runD ?_
 refine callD (fun wc hG=>mLow_e size h5 wc) ?_
 refine opD (x_andN rfl rfl v (lowN (8 * size)) rfl rfl hv0 (lowN_lt _)) ?_
 refine runD ?_
 refine opD (x_shlN rfl rfl (v &&& lowN (8 * size)) (at_ % 8 * 8) rfl (by omega) (by omega)) ?_
 refine opD (x_orN rfl rfl (ws.getD (at_ / 8) default &&& (18446744073709551615 - (lowN (8 * size) <<< (at_ % 8 * 8)) % 18446744073709551616)) (((v &&& lowN (8 * size)) <<< (at_ % 8 * 8)) % 18446744073709551616) rfl rfl (Nat.lt_of_le_of_lt Nat.and_le_left hv) (Nat.mod_lt _ (by decide))) ?_
 refine runD ?_
 refine run ?_
 refine finA1 ?_
 exact ⟨_,_,rfl,hset ((ws.getD (at_ / 8) default &&& (18446744073709551615 - (lowN (8 * size) <<< (at_ % 8 * 8)) % 18446744073709551616)) ||| (((v &&& lowN (8 * size)) <<< (at_ % 8 * 8)) % 18446744073709551616)),by (refine hpLe_cnt fun a=>?_;simp only [cntB_app,cntB_cons,cntB_nil]<;>omega)⟩
theorem rWrite_e (ws:List Nat) (at_ size v:Nat) (h:PlOk ws at_ size) (hv0:W64n v) {w:World} {p:Option Addr} {cap:Nat} (hm:SlAt w (.slice p ws.length cap) 1 (ws.map uV)):Fn Tryz.prog 54 [.agg #[.slice p ws.length cap],.int .i64 (at_:Nat),.int .i64 (size:Nat),.int .u64 (v:Nat)].toArray w [] (fun u hn=>∃ v' h',u=.agg #[v']∧Own 25 1 v' h' ((writeL ws at_ size v).map uV)∧HpLe h' hn):=by
 obtain ⟨h1,h2,h3,h4,h5,h6⟩:=id h
 have hlt:at_ / 8<ws.length:=by omega
 have hv:ws.getD (at_ / 8) default<18446744073709551616:=h1.at _
 refine enter Tryz.func54 ?_
 refine run ?_
 intro B X
 refine run ?_
 refine callB (fun wc hG=>copyMem_e ws _ (hm.good hG) (by omega)) ?_
 rintro u hn ⟨v',h',rfl,hO,hle⟩
 obtain ⟨g,cap2,cur,rfl,rfl,hnth,hsz,hset⟩:=hO.setV hlt
 refine ops_le (⟨g,cur,25⟩::⟨X,#[.slice none 0 0],24⟩::⟨B,#[.slice p ws.length cap],24⟩::[]) (by (refine hpLe_cnt fun a=>?_;have:=HpLe.cnt hle a;simp only [cntB_app,cntB_cons,cntB_nil] at *;omega)) ?_
 refine run ?_
 intro Y
 refine run ?_
 refine drawN 22 ?_
 refine runD ?_
 refine opD (x_quoN rfl rfl at_ 8 rfl rfl (by decide) (by omega)) ?_
 refine runD ?_
 refine opD (x_quoN rfl rfl at_ 8 rfl rfl (by decide) (by omega)) ?_
 refine runD ?_
 refine opD (x_remN rfl rfl at_ 8 rfl rfl (by decide)) ?_
 refine runD ?_
 rw [show (8:Int) * (size:Int)=((8 * size:Nat):Int) by omega]
 refine callD (fun wc hG=>rMask_e (8 * size) (by omega) wc) ?_
 refine opD (x_andN rfl rfl v (lowN (8 * size)) rfl rfl hv0 (lowN_lt _)) ?_
 refine runD ?_
 rw [show ((at_ % 8:Nat):Int) * 8=((at_ % 8 * 8:Nat):Int) by omega]
 refine callD (fun wc hG=>rPut_e (ws.getD (at_ / 8) default) (at_ % 8 * 8) (8 * size) (v &&& lowN (8 * size)) (by omega) (by omega) hv (Nat.lt_of_le_of_lt Nat.and_le_left hv0) wc) ?_
 refine runD ?_
 refine run ?_
 refine finA ?_
 exact ⟨_,_,rfl,hset ((ws.getD (at_ / 8) default &&& (18446744073709551615 - (lowN (8 * size) <<< (at_ % 8 * 8)) % 18446744073709551616)) ||| (((v &&& lowN (8 * size)) <<< (at_ % 8 * 8)) % 18446744073709551616)),by (refine hpLe_cnt fun a=>?_;simp only [cntB_app,cntB_cons,cntB_nil]<;>omega)⟩
end Go.Proofs.YtndklbjnofdgeaaGreat
namespace Go.Proofs.YtndklbjnofdgeaaGreat
open Go.RowKit
set_option linter.unusedVariables false
set_option linter.unusedSimpArgs false
set_option maxRecDepth 20000
def applyL (es:List EnD) (due:List IvD):List EnD:=keepL (fun e=>due.any fun i=>i.takes e) es
def ApR (r:Option (List EnD × List IvD)) (u:Value) (hn:Hp):Prop:=match r with
 | none=>u=.tuple #[.agg #[.slice none 0 0,.slice none 0 0],.int .i64 1]
 | some x=>∃ v1 h1 v2 h2,u=.tuple #[.agg #[v1,v2],.int .i64 0]∧Own 114 14 v1 h1 (x.1.map enV)∧Own 121 4 v2 h2 (x.2.map ivV)∧HpLe (h1++h2) hn
def applyG (es:List EnD) (ds due:List IvD):Option (List EnD × List IvD):=bif tlbOk es ds && due.all IvD.may then some (applyL es due,ds) else none
theorem tlbOk_may {es:List EnD} {ds:List IvD} (h:tlbOk es ds=true):(∀ e∈es,e.may=true)∧es.length≤8∧ds.length≤8:=by
 simp only [tlbOk,Bool.and_eq_true,decide_eq_true_eq] at h
 refine ⟨fun e he=>?_,h.1.2,h.2⟩
 obtain ⟨j,hj,rfl⟩:=List.getElem_of_mem he
 have:=List.all_eq_true.1 h.1.1.1 j (List.mem_range.2 hj)
 simp only [enOk,Bool.and_eq_true] at this
 rw [List.getD_eq_getElem?_getD,List.getElem?_eq_getElem hj] at this
 exact this.1
theorem SlAt.keep {w0 wc w':World} {hp hp2 h1:Hp} {v:Value} {sz:Nat} {xs:List (List Value)} (h:SlAt w0 v sz xs) (hG:Good w0 [] (h1++hp) wc) (hg:Good wc (h1.map (·.b)) hp2 w'):SlAt w' v sz xs:=by
 obtain ⟨⟨p,c,rfl,hp⟩,hl⟩:=h
 refine ⟨⟨p,c,rfl,fun hne=>?_⟩,hl⟩
 obtain ⟨b,off,rfl,hr⟩:=hp hne
 refine ⟨b,off,rfl,fun i c hc=>?_⟩
 intro j u hj
 have h3:=hr i c hc j u hj
 refine hg.cell (hG.cell h3 (by simp)) fun hm=>?_
 obtain ⟨e,he,hb⟩:=List.mem_map.1 hm
 have h4:b<w0.heap.size:=block_lt_of_cell h3
 rcases hG.own e (List.mem_append_left _ he) with h5 | h5
 ·simp at h5
 ·rw [hb] at h5;omega
theorem notin_left {w0 w:World} {mu:List Nat} {h1 hp:Hp} {e:Blk} (hG:Good w0 mu (h1++hp) w) (he:e∈hp):e.b ∉ h1.map (·.b):=by
 have hn:=hG.nodup
 rw [List.map_append,List.nodup_append] at hn
 exact fun hm=>hn.2.2 _ hm _ (List.mem_map.2 ⟨e,he,rfl⟩) rfl
attribute [local irreducible] Hy St Ops DH DHF DE1 DE2 DE3 DS DCh
theorem iApply_e {w:World} (es:List EnD) (ds due:List IvD) (v u lv:Value) (h:SlAt w v 14 (es.map enV)) (hd:SlAt w u 4 (ds.map ivV)) (hcap:∃ q c,v=.slice q es.length c∧es.length≤c) (hl:SlAt w lv 4 (due.map ivV)):
  Fn Tryz.prog 147 [.agg #[v,u],lv].toArray w [] (fun r hn=>ApR (applyG es ds due) r hn):=by
 have h':=h
 have hd':=hd
 have hl':=hl
 obtain ⟨q,cap,rfl,_,_⟩:=h.opened
 obtain ⟨q2,cap2,rfl,_,_⟩:=hd.opened
 obtain ⟨q3,cap3,rfl,hne3,_⟩:=hl.opened
 refine enter Tryz.func147 ?_
 refine run ?_
 intro B C R
 refine callE (fun wc hG=>tCheck_e es ds _ _ (h'.good hG) (hd'.good hG) hcap) ?_
 cases ht:tlbOk es ds with
 | false=>
  refine runC ?_
  have hg:applyG es ds due=none:=by simp [applyG,ht]
  rw [hg]
  refine finA1 (cs:=#[.slice none 0 0,.slice none 0 0]) ?_
  rfl
 | true=>
 obtain ⟨hmay,h8,h8d⟩:=tlbOk_may ht
 refine runC ?_
 refine callEG (fun _ wc hG=>iMay_e due (hl'.good hG)) ?_
 refine runC ?_
 cases hm:due.all IvD.may with
 | false=>
  refine runC ?_
  have hg:applyG es ds due=none:=by simp [applyG,ht,hm]
  rw [hg]
  refine finA1 (cs:=#[.slice none 0 0,.slice none 0 0]) ?_
  rfl
 | true=>
 have hg:applyG es ds due=some (applyL es due,ds):=by simp only [applyG,ht,hm];rfl
 rw [hg]
 refine runC ?_
 refine callB (fun wc hG=>tlbCopy_e es ds _ _ (h'.good hG) (hd'.good hG) (by omega) (by omega)) ?_
 rintro _ hn ⟨v1,h1,v2,h2,rfl,hO1,hO2,hle⟩
 obtain ⟨p1,c1,e1⟩:=hO1.opened
 obtain ⟨p2,c2,e2⟩:=hO2.opened
 rw [List.length_map] at e1 e2
 subst e1 e2
 refine ops_sub hle ?_
 refine ops_perm (_++(h1++h2)) List.perm_append_comm ?_
 simp only [List.cons_append,List.nil_append]
 refine runC ?_
 intro X
 refine runC ?_
 have hdue:∀ i∈due,i.may=true:=fun i hi=>List.all_eq_true.1 hm i hi
 refine callM (R:=fun u hn=>Own 114 14 u hn ((applyL es due).map enV)) h1 (⟨X,#[.slice p1 es.length c1,.slice p2 ds.length c2],77⟩::⟨R,#[.slice none 0 0,.slice none 0 0],77⟩::⟨C,#[.slice q3 due.length cap3],75⟩::⟨B,#[.slice q es.length cap,.slice q2 ds.length cap2],77⟩::h2) (fun wc hG=>?_) (fun v4 h4 hO4=>?_) (by (refine perm_cnt fun a=>?_;simp only [cntB_app,cntB_cons,cntB_nil]<;>omega))
 ·refine deleteEn_e (us:=[.pointer (some ⟨C,0,none⟩)]) (fun e=>due.any fun i=>i.takes e) es hO1 hG.hereN (by omega) (fun x hx w' ha=>?_)
  obtain ⟨hp,hg⟩:=ha
  have hC:(⟨C,#[.slice q3 due.length cap3],75⟩:Blk)∈(⟨X,#[.slice p1 es.length c1,.slice p2 ds.length c2],77⟩::⟨R,#[.slice none 0 0,.slice none 0 0],77⟩::⟨C,#[.slice q3 due.length cap3],75⟩::⟨B,#[.slice q es.length cap,.slice q2 ds.length cap2],77⟩::h2:Hp):=by simp
  exact apply1_e due hdue x (hmay x hx) C (hg.cell (by rw [cell_of_block (hG.here _ (List.mem_append_right _ hC))];rfl) (notin_left hG hC)) (hl'.keep hG hg)
 generalize applyL es due=al at hO4
 obtain ⟨p4,c4,e4⟩:=hO4.opened
 rw [List.length_map] at e4
 subst e4
 refine ops_perm (_++h4) List.perm_append_comm ?_
 simp only [List.cons_append,List.nil_append]
 refine runC ?_
 refine z_store tb_ok (b:=R) (off:=0) (cs:=#[.slice none 0 0,.slice none 0 0]) (cs':=#[.slice p4 al.length c4,.slice p2 ds.length c2]) (tb:=77) (vs:=[.slice p4 al.length c4,.slice p2 ds.length c2]) (sz:=2) rfl rfl rfl rfl rfl (List.Perm.swap ..) rfl (Nat.le_refl 2) rfl ?_
 refine runC ?_
 refine finA1 (cs:=#[.slice p4 al.length c4,.slice p2 ds.length c2]) ?_
 exact ⟨_,h4,_,h2,rfl,hO4,hO2,by (refine hpLe_cnt fun a=>?_;simp only [cntB_app,cntB_cons,cntB_nil]<;>omega)⟩
end Go.Proofs.YtndklbjnofdgeaaGreat
namespace Go.Proofs.YtndklbjnofdgeaaGreat
open Go.RowKit
set_option linter.unusedVariables false
set_option linter.unusedSimpArgs false
set_option maxRecDepth 20000
structure FgS where
 k:Nat
 v:Value
 ha:Hp
 hs:Hp
 ts:List TlD
attribute [local irreducible] Hy St Ops DH DHF DE1 DE2 DE3 DS DCh
end Go.Proofs.YtndklbjnofdgeaaGreat
namespace Go.Proofs.YtndklbjnofdgeaaGreat
open Go.RowKit
set_option linter.unusedVariables false
set_option linter.unusedSimpArgs false
set_option maxRecDepth 20000
attribute [local irreducible] Hy St Ops DH DHF DE1 DE2 DE3 DS DCh DWF
theorem indexFTl_e {w:World} {F:Nat} {us:List Value} (p:TlD→Bool) (xs:List (TlD)) (v:Value) (h:SlAt w v 2 (xs.map tlV)) (hF:∀ x,x∈xs→∀ w',AftB w w'→Fn Tryz.prog F ([]++[Value.agg (tlV x).toArray]++us).toArray w' [] (fun u _=>u=.bool (p x))) (hcal:mem calN F=true:=by rfl):
  Fn Tryz.prog 98 [v,.func (.func F) [].toArray us.toArray].toArray w [] (fun u _=>u=.int .i64 (idxI p xs)):=by
 obtain ⟨q,cap,rfl,hne,hle⟩:=h.opened
 refine enter Tryz.func98 ?_
 refine run ?_
 refine loopS (σ:=Nat) (fun k=>[(8,.int .i64 (k:Int))]) (fun _=>[]) (fun k=>k≤xs.length∧∀ j,j<k→p (xs.getD j default)=false) (fun k=>xs.length - k) 0 ⟨Nat.zero_le _,fun j hj=>absurd hj (by omega)⟩ ?_
 rintro k m rfl ⟨hk,hno⟩
 refine run ?_
 refine st_cond _ rfl (fun hc=>?_) (fun hc=>?_)
 ·have hlt:k<xs.length:=by simpa using hc
  obtain ⟨b,o,rfl⟩:=hne (by intro e;subst e;simp at hlt)
  have hr:=h.row hlt
  refine run ?_
  refine callF (fun wc hG=>hF (xs.getD k default) (getD_mem hlt) wc ⟨_,hG⟩) (hcal:=hcal) ?_
  refine run ?_
  refine st_cond _ rfl (fun hp=>?_) (fun hp=>?_)
  ·refine run ?_
   refine fin1 ?_
   rw [idxI_at hlt hp hno]
  ·refine run ?_
   refine nextS (k + 1) ⟨hlt,fun j hj=>?_⟩
   rcases Nat.lt_succ_iff_lt_or_eq.1 hj with hj | rfl
   ·exact hno j hj
   ·exact hp
 ·have hge:k=xs.length:=by simp at hc;omega
  subst hge
  refine run ?_
  refine fin1 ?_
  rw [idxI_none hno]
theorem containsFTl_e {w:World} {F:Nat} {us:List Value} (p:TlD→Bool) (xs:List (TlD)) (v:Value) (h:SlAt w v 2 (xs.map tlV)) (hF:∀ x,x∈xs→∀ w',AftB w w'→Fn Tryz.prog F ([]++[Value.agg (tlV x).toArray]++us).toArray w' [] (fun u _=>u=.bool (p x))) (hcal:mem calN F=true:=by rfl):
  Fn Tryz.prog 62 [v,.func (.func F) [].toArray us.toArray].toArray w [] (fun u _=>u=.bool (xs.any p)):=by
 refine enter Tryz.func62 ?_
 refine run ?_
 refine callE (fun wc hG=>indexFTl_e p xs v (h.good hG) (fun x hx w' ha=>hF x hx w' ?_) hcal) ?_
 ·obtain ⟨hp,hg⟩:=ha
  exact ⟨_,hG.trans hg⟩
 refine run ?_
 refine fin1 ?_
 rw [← idxI_ge]
theorem tLater_e {w:World} (es:List EnD) (ds:List IvD) (i:IvD) (v u:Value) (h:SlAt w v 14 (es.map enV)) (hd:SlAt w u 4 (ds.map ivV)) (hcap:∃ q c,v=.slice q es.length c∧es.length≤c) (ht:tlbOk es ds=true) (hi:i.may=true):
  Fn Tryz.prog 117 [.agg #[v,u],.agg (ivV i).toArray].toArray w [] (fun r hn=>bif decide (ds.length<8) then ∃ v1 h1 v2 h2,r=.tuple #[.agg #[v1,v2],.int .i64 0]∧Own 114 14 v1 h1 (es.map enV)∧Own 121 4 v2 h2 ((ds++[i]).map ivV)∧HpLe (h1++h2) hn else r=.tuple #[.agg #[.slice none 0 0,.slice none 0 0],.int .i64 5]):=by
 have h':=h
 have hd':=hd
 obtain ⟨q,cap,rfl,_,_⟩:=h.opened
 obtain ⟨q2,cap2,rfl,_,_⟩:=hd.opened
 refine enter Tryz.func117 ?_
 refine run ?_
 intro B C
 refine run ?_
 intro X
 refine callE (fun wc hG=>tCheck_e es ds _ _ (h'.good hG) (hd'.good hG) hcap) ?_
 rw [ht]
 refine runG ?_
 refine opsGT ?_ ?_
 rotate_left
 ·decide
 refine runG ?_
 intro Y
 refine opsGT ?_ ?_
 rotate_left
 ·decide
 refine callE (fun wc hG=>iMay_e [i] ((own_row (e:=121) (t:=121) Y 1 (ivV i) (xs:=[i].map ivV) rfl rfl (by simp [Value.oneCell'])).lie (fun b hb=>hG.here b (by simp at hb;subst hb;simp)) (by simp))) ?_
 rw [show [i].all IvD.may=true by simp [hi]]
 refine runC ?_
 refine st_cond _ rfl (fun hc=>?_) (fun hc=>?_)
 ·rw [show decide (ds.length<8)=false by simp at hc;exact decide_eq_false (by omega)]
  refine run ?_
  refine finA1 ?_
  rfl
 ·have hd8:ds.length<8:=by simp at hc;omega
  rw [show decide (ds.length<8)=true from decide_eq_true hd8]
  refine run ?_
  refine callB (fun wc hG=>tlbCopy_e es ds _ _ (h'.good hG) (hd'.good hG) (by have:=(tlbOk_may ht).2.1;omega) (by omega)) ?_
  rintro r hn ⟨v1,h1,v2,h2,rfl,hO1,hO2,hle⟩
  obtain ⟨r1,c1,e1⟩:=hO1.opened
  obtain ⟨r2,c2,e2⟩:=hO2.opened
  rw [List.length_map] at e1 e2
  subst e1 e2
  refine ops_le (⟨X,#[.slice none 0 0,.slice none 0 0],77⟩::⟨C,(ivV i).toArray,121⟩::(h1++h2)) (by (refine hpLe_cnt fun a=>?_;have:=HpLe.cnt hle a;simp only [cntB_app,cntB_cons,cntB_nil] at *;omega)) ?_
  refine run ?_
  intro Z U
  refine appendG [ivV i] (⟨U,#[.int .i64 i.kind,.int .i64 i.vmid,.int .i64 i.asid,.int .i64 i.page],121⟩::⟨Z,#[.slice r1 es.length c1,.slice r2 ds.length c2],77⟩::⟨X,#[.slice none 0 0,.slice none 0 0],77⟩::⟨C,(ivV i).toArray,121⟩::h1) hO2 (SrcAt.own (own_row (e:=121) (t:=121) U 1 [.int .i64 i.kind,.int .i64 i.vmid,.int .i64 i.asid,.int .i64 i.page] (xs:=[ivV i]) (sz:=4) rfl rfl (by simp [Value.oneCell'])) (by (refine hpLe_cnt fun a=>?_;simp only [cntB_app,cntB_cons,cntB_nil]<;>omega))) (fun v' ha' hA'=>?_) (by simp;omega) (by simp [Value.oneCell']) (hperm:=by (refine perm_cnt fun a=>?_;simp only [cntB_app,cntB_cons,cntB_nil]<;>omega))
  obtain ⟨r3,c3,e3⟩:=hA'.opened
  subst e3
  generalize (List.map ivV ds++[ivV i]).length=L at hA' ⊢
  refine ops_le (⟨Z,#[.slice r1 es.length c1,.slice r2 ds.length c2],77⟩::⟨X,#[.slice none 0 0,.slice none 0 0],77⟩::(h1++ha')) (by (refine hpLe_cnt fun a=>?_;simp only [cntB_app,cntB_cons,cntB_nil]<;>omega)) ?_
  refine run ?_
  refine finA1 ?_
  exact ⟨_,h1,_,ha',rfl,hO1,by rw [List.map_append];exact hA',by (refine hpLe_cnt fun a=>?_;simp only [cntB_app,cntB_cons,cntB_nil]<;>omega)⟩
theorem wait1_e (t:TlD) {w:World} (h:SlAt w t.ev 14 (t.es.map enV)) (hd:SlAt w t.dv 4 (t.ds.map ivV)) (hc:t.es.length≤t.ec):Fn Tryz.prog 146 ([]++[Value.agg (tlV t).toArray]++[]).toArray w [] (fun u _=>u=.bool (!tlbOk t.es t.ds)):=by
 refine enter Tryz.func146 ?_
 refine run ?_
 intro B
 refine run ?_
 refine callE (fun wc hG=>tCheck_e t.es t.ds _ _ (h.good hG) (hd.good hG) ⟨_,_,rfl,hc⟩) ?_
 refine run ?_
 refine fin1 ?_
 cases tlbOk t.es t.ds<;>rfl
def TlI (hs:Hp) (t:TlD):Prop:=(∀ wc,Here hs wc→SlAt wc t.ev 14 (t.es.map enV)∧SlAt wc t.dv 4 (t.ds.map ivV))∧t.es.length≤t.ec
def TlsI (hs:Hp) (ts:List TlD):Prop:=∀ t∈ts,TlI hs t
abbrev TlD.p (t:TlD):List EnD × List IvD:=(t.es,t.ds)
def waitL (ls:List (List EnD × List IvD)) (cpu:Nat):List (List EnD × List IvD):=
 (ls.map fun t=>(applyL t.1 (ls.getD cpu default).2,t.2)).set cpu (applyL (ls.getD cpu default).1 (ls.getD cpu default).2,[])
theorem Own.putR {α:Type} [Inhabited α] {f:α→List Value} {e sz:Nat} {v:Value} {h:Hp} {xs:List α} (hA:Own e sz v h (xs.map f)) {k:Nat} (hk:k<xs.length):∃ g cap cur,v=.slice (some ⟨g,0,none⟩) xs.length cap∧h=[⟨g,cur,e⟩]∧k * sz + sz≤cur.size ∧
  (∀ (j:Nat) (c:Value),(f (xs.getD k default))[j]?=some c→nth cur.toList (k * sz + j)=some c) ∧
  ∀ (j:Nat) (vs:List Value) (y:α),j + vs.length≤sz→(f (xs.getD k default)).take j++vs++(f (xs.getD k default)).drop (j + vs.length)=f y→(f y).length=sz∧(f y).all (·.oneCell')=true→Own e sz (.slice (some ⟨g,0,none⟩) xs.length cap) [⟨g,putAt cur (k * sz + j) vs,e⟩] ((xs.set k y).map f):=by
 obtain ⟨g,cap,cur,rfl,rfl,hr⟩:=hA.row (n:=xs.length) (by simp) (by omega)
 have hall:∀ c∈xs.map f,c.length=sz:=fun c hc=>(hA.1 c hc).1
 have hi:(xs.map f)[k]?=some (f (xs.getD k default)):=by
  rw [List.getElem?_map,List.getD_eq_getElem?_getD,List.getElem?_eq_getElem hk];rfl
 have hsz:=hr.size
 have hle:=hr.le
 refine ⟨g,cap,cur,rfl,rfl,?_,fun j c hj=>hr.nth hall hi hj,fun j vs y hj he hy=>⟨fun c hc=>?_,.inr ⟨g,cap,_,by simp,rfl,?_⟩⟩⟩
 ·have h1:k * sz + sz≤xs.length * sz:=by rw [← Nat.succ_mul];exact Nat.mul_le_mul_right _ hk
  have h2:xs.length * sz≤cap * sz:=Nat.mul_le_mul_right _ hle
  omega
 ·obtain ⟨x,hx,rfl⟩:=List.mem_map.1 hc
  rcases List.mem_or_eq_of_mem_set hx with hx | rfl
  ·exact hA.1 _ (List.mem_map.2 ⟨x,hx,rfl⟩)
  ·exact hy
 ·have h2:=hr.put hall hi (k:=j) (vs:=vs) hj
  rw [he] at h2
  have e2:((xs.set k y).map f).length=xs.length:=by simp
  rw [e2,List.map_set]
  exact h2
def TlOw (t:TlD) (he hd:Hp):Prop:=Own 114 14 t.ev he (t.es.map enV)∧Own 121 4 t.dv hd (t.ds.map ivV)∧t.es.length≤8∧t.ds.length≤8
def TlsW:List TlD→Hp→Prop
 | [],_=>True
 | t::ts,h=>∃ he hd hr,TlOw t he hd∧TlsW ts hr∧HpLe (he++hd++hr) h
theorem hple_tr {a b c:Hp} (h1:HpLe a b) (h2:HpLe b c):HpLe a c:=hpLe_cnt fun x=>Nat.le_trans (h1.cnt x) (h2.cnt x)
theorem TlsW.le:∀ {ts:List TlD} {a b:Hp},TlsW ts a→HpLe a b→TlsW ts b
 | [],_,_,_,_=>trivial
 | t::ts,_,_,⟨he,hd,hr,h1,h2,h3⟩,h=>⟨he,hd,hr,h1,h2,hple_tr h3 h⟩
theorem TlOw.i {t:TlD} {he hd h:Hp} (h1:TlOw t he hd) (hh:∀ wc,Here h wc→Here he wc∧Here hd wc):TlI h t:=by
 obtain ⟨g1,g2,g3,g4⟩:=h1
 refine ⟨fun wc hw=>⟨g1.lie (hh wc hw).1 (by rw [List.length_map];omega),g2.lie (hh wc hw).2 (by rw [List.length_map];omega)⟩,?_⟩
 obtain ⟨p,c,e,hle⟩:=g1.openedC
 rw [List.length_map] at e hle
 cases e
 exact hle
theorem here_le {a b:Hp} (h:HpLe a b) {wc:World} (hh:Here b wc):Here a wc:=fun e he=>hh e (h.mem he)
theorem TlsW.i:∀ {ts:List TlD} {h:Hp},TlsW ts h→TlsI h ts
 | [],_,_=>fun t ht=>absurd ht (by simp)
 | t::ts,h,⟨he,hd,hr,h1,h2,h3⟩=>fun x hx=>by
  rcases List.mem_cons.1 hx with rfl | hx
  ·exact h1.i fun wc hw=>⟨fun e m=>here_le h3 hw e (by simp [m]),fun e m=>here_le h3 hw e (by simp [m])⟩
  ·have:=h2.i x hx
   exact ⟨fun wc hw=>this.1 wc (fun e m=>here_le h3 hw e (by simp [m])),this.2⟩
theorem TlsW.set {y:TlD} {he hd:Hp} (hy:TlOw y he hd):∀ {ts:List TlD} {h:Hp} (k:Nat),TlsW ts h→TlsW (ts.set k y) (he++hd++h)
 | [],_,_,_=>trivial
 | t::ts,h,0,⟨a,b,c,h1,h2,h3⟩=>⟨he,hd,c,hy,h2,hpLe_cnt fun x=>by have:=h3.cnt x;simp only [cntB_app] at this ⊢;omega⟩
 | t::ts,h,k + 1,⟨a,b,c,h1,h2,h3⟩=>⟨a,b,he++hd++c,h1,TlsW.set hy k h2,hpLe_cnt fun x=>by have:=h3.cnt x;simp only [cntB_app] at this ⊢;omega⟩
theorem TlsW.snoc {y:TlD} {he hd:Hp} (hy:TlOw y he hd):∀ {ts:List TlD} {h:Hp},TlsW ts h→TlsW (ts++[y]) (he++hd++h)
 | [],h,_=>⟨he,hd,h,hy,trivial,HpLe.refl _⟩
 | t::ts,h,⟨a,b,c,h1,h2,h3⟩=>⟨a,b,he++hd++c,h1,TlsW.snoc hy h2,hpLe_cnt fun x=>by have:=h3.cnt x;simp only [cntB_app] at this ⊢;omega⟩
theorem TlsW.upd {y:TlD}:∀ {ts:List TlD} {h:Hp} (k:Nat),TlsW ts h→(∀ he hd,TlOw (ts.getD k default) he hd→∃ hd',TlOw y he hd'∧HpLe hd' hd)→TlsW (ts.set k y) h
 | [],_,_,_,_=>trivial
 | t::ts,h,0,⟨a,b,c,h1,h2,h3⟩,hu=>by
  obtain ⟨b',h4,h5⟩:=hu a b h1
  exact ⟨a,b',c,h4,h2,hpLe_cnt fun x=>by have:=h3.cnt x;have:=h5.cnt x;simp only [cntB_app] at this ⊢;simp only [cntB_app] at *;omega⟩
 | t::ts,h,k + 1,⟨a,b,c,h1,h2,h3⟩,hu=>⟨a,b,c,h1,TlsW.upd k h2 hu,h3⟩
theorem tlsW_some:∀ (ls:List (List EnD × List IvD)),(∀ t∈ls,t.1.length≤8∧t.2.length≤8)→∃ (ts:List TlD) (h:Hp),TlsW ts h∧ts.map TlD.p=ls
 | [],_=>⟨[],[],trivial,rfl⟩
 | x::r,hx=>by
  obtain ⟨ts,h,h1,h2⟩:=tlsW_some r fun t ht=>hx t (List.mem_cons_of_mem _ ht)
  obtain ⟨b1,b2⟩:=hx x (List.mem_cons_self ..)
  obtain ⟨a1,g1,o1⟩:=own_some (e:=114) (xs:=x.1.map enV) en_all (by rw [List.length_map];omega)
  obtain ⟨a2,g2,o2⟩:=own_some (e:=121) (xs:=x.2.map ivV) iv_all (by rw [List.length_map];omega)
  obtain ⟨q1,c1,e1⟩:=o1.opened
  obtain ⟨q2,c2,e2⟩:=o2.opened
  rw [List.length_map] at e1 e2
  subst e1 e2
  exact ⟨⟨x.1,x.2,q1,c1,q2,c2⟩::ts,g1++g2++h,⟨g1,g2,h,⟨o1,o2,b1,b2⟩,h1,HpLe.refl _⟩,by rw [List.map_cons,h2]⟩
theorem iWait_e {w:World} (ts:List TlD) (cpu:Nat) (hc:cpu<ts.length) (hl:ts.length<100000) {lv:Value} (h:TlAt w lv ts) (hcap:∀ t∈ts,t.es.length≤t.ec) (hok:∀ t∈ts,tlbOk t.es t.ds=true):
  Fn Tryz.prog 118 [lv,.int .i64 (cpu:Nat)].toArray w [] (fun r hn=>∃ v ha hs ts',r=.tuple #[v,.int .i64 0]∧Own 77 2 v ha (ts'.map tlV)∧TlsW ts' hs∧ts'.map TlD.p=waitL (ts.map TlD.p) cpu∧HpLe (ha++hs) hn):=by
 obtain ⟨q,cap,rfl,hne,_⟩:=id h.rows.opened
 refine enter Tryz.func118 ?_
 refine runG ?_
 refine callEG (fun _ wc hG=>containsFTl_e (F:=146) (us:=[]) (fun t=>!tlbOk t.es t.ds) ts _ (h.good hG).rows (fun x hx w' ha=>?_)) ?_
 ·obtain ⟨hp,hg⟩:=ha
  exact wait1_e x (((h.good hG).good hg).en x hx) (((h.good hG).good hg).iv x hx) (hcap x hx)
 rw [show ts.any (fun t=>!tlbOk t.es t.ds)=false by
  rw [List.any_eq_false]
  intro x hx
  rw [hok x hx];decide]
 refine runG ?_
 refine st_cond _ rfl (fun hc=>absurd hc (by simp;omega)) (fun _=>?_)
 refine run ?_
 obtain ⟨b,o,rfl⟩:=hne (by intro e;subst e;simp at hc)
 have hlc:=h.rows.row hc
 have hic:=h.iv _ (getD_mem hc)
 have hkc:=hok _ (getD_mem hc)
 generalize hgc:ts.getD cpu default=tc at hlc hic hkc
 have hdc:tc.ds.all IvD.may=true:=by
  simp only [tlbOk,Bool.and_eq_true] at hkc
  exact hkc.1.1.2
 refine loopS (σ:=FgS) (fun s=>[(25,.int .i64 (s.k:Int)),(6,s.v)]) (fun s=>s.ha++s.hs) (fun s=>s.k≤ts.length∧Acc 77 2 s.v s.ha (s.ts.map tlV)∧TlsW s.ts s.hs∧s.ts.map TlD.p=(ts.take s.k).map (fun t=>(applyL t.es tc.ds,t.ds))) (fun s=>ts.length - s.k) ⟨0,_,[],[],[]⟩ ⟨Nat.zero_le _,Acc.nil _ _,(trivial:TlsW [] []),rfl⟩ ?_
 rintro ⟨k,ov,ha,hs,ts'⟩ m hm ⟨hk,hA,hO,hE⟩
 dsimp only at hm hk hA hO hE ⊢
 refine run ?_
 refine st_cond _ rfl (fun hc2=>?_) (fun hc2=>?_)
 ·have hlt:k<ts.length:=by simpa using hc2
  have hr:=h.rows.row hlt
  have hen:=h.en _ (getD_mem hlt)
  have hiv:=h.iv _ (getD_mem hlt)
  have hcp:=hcap _ (getD_mem hlt)
  have hkt:=hok _ (getD_mem hlt)
  have htn:=take_next hlt
  generalize ts.getD k default=t at hr hen hiv hcp hkt htn
  refine run ?_
  intro X
  have hlc1:=hlc 1 tc.dv rfl
  have hg:applyG t.es t.ds tc.ds=some (applyL t.es tc.ds,t.ds):=by simp only [applyG,hkt,hdc];rfl
  have hap:∀ wc,Good w [] (⟨X,#[t.ev,t.dv],77⟩::(ha++hs)) wc→Fn Tryz.prog 147 [.agg #[t.ev,t.dv],tc.dv].toArray wc [] (fun r hn=>ApR (some (applyL t.es tc.ds,t.ds)) r hn):=fun wc hG=>by
   rw [← hg]
   exact iApply_e t.es t.ds tc.ds _ _ _ (hen.good hG) (hiv.good hG) ⟨_,_,rfl,hcp⟩ (hic.good hG)
  refine drawED 11 [0,1,2,3,4,5] [6,10] [7,8,9] [12] [11] ?_
  refine runS ?_
  refine eCall (fun wc hG=>hap wc hG) ?_ ?_
  ·obtain ⟨a1,b1,o1⟩:=own_some (e:=114) (xs:=(applyL t.es tc.ds).map enV) en_all (by rw [List.length_map];have h1:(applyL t.es tc.ds).length≤t.es.length:=List.length_filter_le ..;have:=(tlbOk_may hkt).2.1;omega)
   obtain ⟨a2,b2,o2⟩:=own_some (e:=121) (xs:=t.ds.map ivV) iv_all (by rw [List.length_map];have:=(tlbOk_may hkt).2.2;omega)
   exact ⟨_,b1++b2,a1,b1,a2,b2,rfl,o1,o2,HpLe.refl _⟩
  refine eAlloc ?_
  refine eNil ?_
  rintro _ _ ⟨Y,rfl,rfl⟩ u hn ⟨v1,h1,v2,h2,rfl,hO1,hO2,hle⟩
  dsimp only at hO1 hO2
  have hlen:(applyL t.es tc.ds).length≤t.es.length:=List.length_filter_le ..
  generalize hal:applyL t.es tc.ds=al at hO1 hlen
  obtain ⟨r1,c1,e1⟩:=hO1.opened
  obtain ⟨r2,c2,e2⟩:=hO2.opened
  rw [List.length_map] at e1 e2
  subst e1 e2
  refine dMove ?_
  refine dExtract ?_
  refine dExtract ?_
  refine dNil ?_
  refine dAssign ?_
  refine dNil ?_
  simp only [DN,List.cons_append,List.nil_append,List.append_nil]
  refine cStore (b:=Y) (tb:=77) (cs:=#[.slice none 0 0,.slice none 0 0]) (cs':=#[.slice r1 al.length c1,.slice r2 t.ds.length c2]) (hp':=hn++⟨X,#[t.ev,t.dv],77⟩::(ha++hs)) ?_ (by (refine perm_cnt fun a=>?_;simp only [cntB_app,cntB_cons,cntB_nil]<;>omega))
  refine dc_nil ?_
  refine opsC ?_
  simp only [List.cons_append,List.nil_append,List.append_nil]
  refine ops_le (⟨Y,#[.slice r1 al.length c1,.slice r2 t.ds.length c2],77⟩::(ha++(h1++h2++hs))) (by (refine hpLe_cnt fun a=>?_;have:=HpLe.cnt hle a;simp only [cntB_app,cntB_cons,cntB_nil] at *;omega)) ?_
  refine run ?_
  intro Z
  refine appendA (c:=[.slice r1 al.length c1,.slice r2 t.ds.length c2]) hA (fun v' ha' hA2=>?_) (by have:=congrArg List.length hE;simp at this;simp;omega) (news_own (m:=2) mh rfl) (hp':=⟨Z,#[.slice r1 al.length c1,.slice r2 t.ds.length c2],77⟩::⟨Y,#[.slice r1 al.length c1,.slice r2 t.ds.length c2],77⟩::(h1++h2++hs)) (hperm:=by (refine perm_cnt fun a=>?_;simp only [cntB_app,cntB_cons,cntB_nil]<;>omega))
  refine run ?_
  have hcp1:al.length≤c1:=by
   obtain ⟨q9,c9,e9,h9⟩:=hO1.cap
   injection e9 with _ _ e9
   omega
  refine nextS ⟨k + 1,v',ha',h1++h2++hs,ts'++[⟨al,t.ds,r1,c1,r2,c2⟩]⟩ ⟨hlt,?_,?_,?_⟩ (hm:=by dsimp only;omega) (h2:=by (refine hpLe_cnt fun a=>?_;simp only [cntB_app,cntB_cons,cntB_nil]<;>omega))
  ·dsimp only
   rw [List.map_append]
   exact hA2
  ·exact TlsW.snoc (y:=⟨al,t.ds,r1,c1,r2,c2⟩) ⟨hO1,hO2,Nat.le_trans hlen (tlbOk_may hkt).2.1,(tlbOk_may hkt).2.2⟩ hO
  ·dsimp only
   rw [htn,List.map_append,List.map_append,hE]
   simp [hal,TlD.p]
 ·have hge:k=ts.length:=by simp at hc2;omega
  subst hge
  rw [List.take_length] at hE
  have hl':ts'.length=ts.length:=by have:=congrArg List.length hE;simpa using this
  have hcl:cpu<ts'.length:=by omega
  obtain ⟨g,cap2,cur,rfl,rfl,hsz,hnth,hset⟩:=hA.own.putR hcl
  have hS:=hset 1 [.slice none 0 0] { ts'.getD cpu default with ds:=[],dp:=none,dc:=0 } (by simp) rfl ⟨rfl,rfl⟩
  simp only [putAt] at hS
  simp only [List.cons_append,List.nil_append]
  refine run ?_
  refine fin2 ?_
  refine ⟨_,_,hs,_,rfl,hS,TlsW.upd (y:={ ts'.getD cpu default with ds:=[],dp:=none,dc:=0 }) cpu hO fun he hd ⟨g1,g2,g3,g4⟩=>⟨[],⟨g1,Own.nil _ _,g3,Nat.zero_le _⟩,hpLe_cnt fun x=>Nat.zero_le _⟩,?_,by (refine hpLe_cnt fun a=>?_;simp only [cntB_app,cntB_cons,cntB_nil]<;>omega)⟩
  ·have h9:(ts'.map TlD.p).getD cpu default=(applyL tc.es tc.ds,tc.ds):=by
    rw [hE,List.getD_eq_getElem?_getD,List.getElem?_map,List.getElem?_eq_getElem hc]
    rw [← hgc,List.getD_eq_getElem?_getD,List.getElem?_eq_getElem hc];rfl
   rw [List.getD_eq_getElem?_getD,List.getElem?_map,List.getElem?_eq_getElem hcl] at h9
   have h10:(ts.map TlD.p).getD cpu default=(tc.es,tc.ds):=by
    rw [List.getD_eq_getElem?_getD,List.getElem?_map,List.getElem?_eq_getElem hc]
    rw [← hgc,List.getD_eq_getElem?_getD,List.getElem?_eq_getElem hc];rfl
   unfold waitL
   rw [h10,List.map_set,hE,List.map_map]
   congr 1
   have h11:(ts'.getD cpu default).es=applyL tc.es tc.ds:=by
    rw [List.getD_eq_getElem?_getD,List.getElem?_eq_getElem hcl]
    exact congrArg Prod.fst h9
   show (_,_)=_
   rw [h11]
end Go.Proofs.YtndklbjnofdgeaaGreat
namespace Go.Proofs.YtndklbjnofdgeaaGreat
open Go.RowKit
set_option linter.unusedVariables false
set_option linter.unusedSimpArgs false
set_option maxRecDepth 20000
attribute [local irreducible] Hy St Ops DH DHF DE1 DE2 DE3 DS DCh DWF
structure PS where
 ws:List Nat
 ls:List (List EnD × List IvD)
 seen:List Int
 r:RgD
 pk:PkD
 kind:Int
 insn:InD
 ft:FtD
 over:Bool
def trapP (s:PS) (esr far:Nat):PS:={ s with over:=true,kind:=1,r:=s.r.trap esr far }
def faultP (s:PS) (f:FtD) (addr:Nat):PS:=
 bif decide (f.stage=2) then { s with ft:=f,over:=true,kind:=2 } else trapP { s with ft:=f } (synW f) addr
def mc (wv sv lv:Value) (cpu:Nat) (two:RtD) (s:PS):Array Value:=
 #[wv,.int .i64 (cpu:Nat),.int .i64 s.kind,.int .i64 s.insn.op,.int .i64 s.insn.d,.int .i64 s.insn.n,.int .i64 s.insn.m,.int .i64 s.insn.imm,
  .int .i64 s.ft.kind,.int .i64 s.ft.stage,.int .i64 s.ft.level,.bool s.ft.walk,.int .i64 s.ft.page,.int .i64 0,sv,
  .int .u64 (s.r.x0:Nat),.int .u64 (s.r.x1:Nat),.int .u64 (s.r.x2:Nat),.int .u64 (s.r.x3:Nat),.int .u64 (s.r.x4:Nat),.int .u64 (s.r.x5:Nat),.int .u64 (s.r.x6:Nat),.int .u64 (s.r.x7:Nat),
  .int .u64 (s.r.pc:Nat),.int .u64 (s.r.ttbr:Nat),.int .u64 (s.r.sctlr:Nat),.int .u64 (s.r.vbar:Nat),.int .u64 (s.r.elr:Nat),.int .u64 (s.r.esr:Nat),.int .u64 (s.r.far:Nat),
  .int .i64 s.pk.cpu,.bool s.pk.fill,.bool s.pk.mids,.bool s.pk.walk,.int .i64 s.pk.drop,.bool s.pk.use,lv,.int .i64 (cpu:Nat),.bool two.on,.int .i64 two.frame,.int .i64 two.tag,.bool s.over]
section
variable {n : Nat} {w0 : World} {mu : List Nat} {l : Fm} {hp hp' : Hp} {Q : Exit → Fm → Hp → Prop} {all : Array Oper} {rest : List Oper} {ty : TypeId} {pos : String} {af : Array Edge}
theorem zCell {t:TypeId} {x y:Operand} {b off sz:Nat} {v:Value} {vs:List Value} {cs:Array Value} {tb:TypeId} (cs':Array Value) (h:Ops Tryz.prog n w0 mu all rest l (⟨b,cs',tb⟩::hp') Q) (hx:ev l x=some (.pointer (some ⟨b,off,none⟩)):=by rfl) (hy:ev l y=some v:=by rfl) (hvc:v.cells=vs.toArray:=by (first | ((simp only [Value.cells])<;>rfl) | rfl)) (hs:lk Tb.sz t=some sz:=by rfl) (hl:vs.length=sz:=by rfl)
  (hperm:(⟨b,cs,tb⟩::hp').Perm hp:=by (first | (with_reducible apply p0) | (with_reducible apply p1) | (with_reducible apply p2) | (with_reducible apply p3) | (with_reducible apply p4) | (with_reducible apply p5))) (hv1:vs.all (·.oneCell')=true:=by rfl) (hlt:Nat.ble (off + vs.length) cs.size=true:=by rfl) (hput:putAt cs off vs=cs':=by kernel_rfl):Ops Tryz.prog n w0 mu all (⟨none,.store t x y,ty,pos,af,none⟩::rest) l hp Q:=
 z_store tb_ok hx hy hvc hs hl hperm hv1 (Nat.le_of_ble_eq_true hlt) hput h
end
theorem sTrap_e (wv sv lv:Value) (cpu:Nat) (two:RtD) (s:PS) (esr far M:Nat) {w:World} (hN:HereN [⟨M,mc wv sv lv cpu two s,82⟩] w):Fn Tryz.prog 72 [.pointer (some ⟨M,0,none⟩),.int .u64 (esr:Nat),.int .u64 (far:Nat)].toArray w [M] (fun u hn=>u=.tuple #[]∧HpLe [⟨M,mc wv sv lv cpu two (trapP s esr far),82⟩] hn):=by
 refine enterM [⟨M,mc wv sv lv cpu two s,82⟩] hN Tryz.func72 ?_
 refine run ?_
 rw [show (List.take 15 (List.drop 15 (mc wv sv lv cpu two s).toList)).toArray=(rgV s.r).toArray from rfl]
 refine callE (fun wc hG=>rTrap_e s.r esr far wc) ?_
 refine run ?_
 refine zCell (mc wv sv lv cpu two { s with over:=true }) ?_
 refine run ?_
 refine zCell (mc wv sv lv cpu two { s with over:=true,kind:=1 }) ?_
 refine run ?_
 refine zCell (mc wv sv lv cpu two (trapP s esr far)) ?_
 refine run ?_
 exact fin0 ⟨rfl,by (refine hpLe_cnt fun a=>?_;simp only [cntB_app,cntB_cons,cntB_nil]<;>omega)⟩
theorem sFault_e (wv sv lv:Value) (cpu:Nat) (two:RtD) (s:PS) (f:FtD) (hf:f.stage ≠ 2→f.Fit) (addr M:Nat) {w:World} (hN:HereN [⟨M,mc wv sv lv cpu two s,82⟩] w):Fn Tryz.prog 105 [.pointer (some ⟨M,0,none⟩),ftV f,.int .u64 (addr:Nat)].toArray w [M] (fun u hn=>u=.tuple #[]∧HpLe [⟨M,mc wv sv lv cpu two (faultP s f addr),82⟩] hn):=by
 refine enterM [⟨M,mc wv sv lv cpu two s,82⟩] hN Tryz.func105 ?_
 refine run ?_
 intro F
 refine run ?_
 refine zCell (mc wv sv lv cpu two { s with ft:=f }) ?_ (hperm:=p1)
 refine run ?_
 refine st_cond _ rfl (fun hc=>?_) (fun hc=>?_)
 ·have h2:faultP s f addr={ s with ft:=f,over:=true,kind:=2 }:=by
   unfold faultP
   rw [show decide (f.stage=2)=true from hc];rfl
  rw [h2]
  refine run ?_
  refine zCell (mc wv sv lv cpu two { s with ft:=f,over:=true }) ?_
  refine run ?_
  refine zCell (mc wv sv lv cpu two { s with ft:=f,over:=true,kind:=2 }) ?_
  refine run ?_
  exact fin0 ⟨rfl,by (refine hpLe_cnt fun a=>?_;simp only [cntB_app,cntB_cons,cntB_nil]<;>omega)⟩
 ·have h2:faultP s f addr=trapP { s with ft:=f } (synW f) addr:=by
   unfold faultP
   rw [show decide (f.stage=2)=false from hc];rfl
  rw [h2]
  have hF:=hf (of_decide_eq_false hc)
  refine run ?_
  refine callV (fun wc hG=>sWord_e f hF wc) ?_
  rintro _ ⟨e,rfl⟩
  refine run ?_
  refine callM [⟨M,mc wv sv lv cpu two { s with ft:=f },82⟩] [⟨F,#[.int .i64 f.kind,.int .i64 f.stage,.int .i64 f.level,.bool f.walk,.int .i64 f.page],43⟩] (fun wc hG=>sTrap_e wv sv lv cpu two { s with ft:=f } (synW f) addr M hG.hereN) (fun v hn hv=>?_) ?_
  ·obtain ⟨rfl,hle⟩:=hv
   refine run ?_
   exact fin0 ⟨rfl,by (refine hpLe_cnt fun a=>?_;have:=HpLe.cnt hle a;simp only [cntB_app,cntB_cons,cntB_nil] at *;omega)⟩
  ·exact List.Perm.refl _
def alignP (s:PS) (addr n:Nat):PS:=bif decide (addr % n=0) then s else trapP s 16777216 addr
theorem sAligned_e (wv sv lv:Value) (cpu:Nat) (two:RtD) (s:PS) (addr n M:Nat) (hn0:0<n) (hn8:n≤8) {w:World} (hN:HereN [⟨M,mc wv sv lv cpu two s,82⟩] w):Fn Tryz.prog 68 [.pointer (some ⟨M,0,none⟩),.int .u64 (addr:Nat),.int .i64 (n:Nat)].toArray w [M] (fun u hn=>u=.bool (decide (addr % n=0))∧HpLe [⟨M,mc wv sv lv cpu two (alignP s addr n),82⟩] hn):=by
 refine enterM [⟨M,mc wv sv lv cpu two s,82⟩] hN Tryz.func68 ?_
 refine run ?_
 refine op1 (by rfl) (x_remN rfl rfl addr n rfl rfl hn0) ?_
 refine run ?_
 refine st_cond _ rfl (fun hc=>?_) (fun hc=>?_)
 ·have h1:decide (addr % n=0)=false:=by simp at hc;exact decide_eq_false (by omega)
  have h2:alignP s addr n=trapP s 16777216 addr:=by unfold alignP;rw [h1];rfl
  rw [h1,h2]
  refine run ?_
  refine callM [⟨M,mc wv sv lv cpu two s,82⟩] [] (fun wc hG=>sTrap_e wv sv lv cpu two s 16777216 addr M hG.hereN) (fun v hn hv=>?_) ?_
  ·obtain ⟨rfl,hle⟩:=hv
   refine run ?_
   exact fin1 ⟨rfl,by (refine hpLe_cnt fun a=>?_;have:=HpLe.cnt hle a;simp only [cntB_app,cntB_cons,cntB_nil] at *;omega)⟩
  ·exact List.Perm.refl _
 ·have h1:decide (addr % n=0)=true:=by simp at hc;exact decide_eq_true (by omega)
  have h2:alignP s addr n=s:=by unfold alignP;rw [h1];rfl
  rw [h1,h2]
  refine run ?_
  exact fin1 ⟨rfl,by (refine hpLe_cnt fun a=>?_;simp only [cntB_app,cntB_cons,cntB_nil]<;>omega)⟩
end Go.Proofs.YtndklbjnofdgeaaGreat
namespace Go.Proofs.YtndklbjnofdgeaaGreat
open Go.RowKit
set_option linter.unusedVariables false
set_option linter.unusedSimpArgs false
set_option maxRecDepth 20000
attribute [local irreducible] Hy St Ops DH DHF DE1 DE2 DE3 DS DCh DWF
def PS.tl (s:PS) (cpu:Nat):List EnD × List IvD:=s.ls.getD cpu default
def PS.acc (s:PS) (cpu:Nat) (two:RtD) (addr:Nat) (acc:Int):StR:=pageA ⟨s.ws,s.r.one,two,s.pk,addr / 64,acc⟩ (s.tl cpu).1
def PS.put (s:PS) (cpu:Nat) (a:StR):PS:={ s with ls:=s.ls.set cpu (a.s.es,(s.tl cpu).2),pk:={ s.pk with drop:=-1 },seen:=s.seen++a.s.rd }
def PS.see (s:PS) (n:Int):PS:={ s with seen:=s.seen++[n] }
def placeP (s : PS) (cpu : Nat) (two : RtD) (addr : Nat) (acc : Int) : PS × Int :=
  bif decide (addr < 262144) then
    (bif decide ((s.acc cpu two addr acc).f.kind = 0) then ((s.put cpu (s.acc cpu two addr acc)).see (s.acc cpu two addr acc).n, (s.acc cpu two addr acc).n * 64 + ((addr % 64 : Nat) : Int))
     else (faultP (s.put cpu (s.acc cpu two addr acc)) (s.acc cpu two addr acc).f addr, 0))
  else (faultP s ⟨2, 1, 0, false, 4095⟩ addr, 0)
structure ML where
 wv:Value
 sv:Value
 lv:Value
 ts:List TlD
 hw:Hp
 hs:Hp
 hl:Hp
 ht:Hp
def ML.hp (L:ML) (M cpu:Nat) (two:RtD) (s:PS):Hp:=⟨M,mc L.wv L.sv L.lv cpu two s,82⟩::(L.hl++L.hs++(L.hw++L.ht))
structure MOk (L:ML) (s:PS):Prop where
 w:Own 25 1 L.wv L.hw (s.ws.map uV)
 q:Own 3 1 L.sv L.hs (s.seen.map inV)
 l:Own 77 2 L.lv L.hl (L.ts.map tlV)
 t:TlsW L.ts L.ht
 p:L.ts.map TlD.p=s.ls
structure PsOk (s:PS) (cpu:Nat) (two:RtD):Prop where
 w64:W64 s.ws
 mem:memOk s.ws.length=true
 cpu:cpu<s.ls.length
 len:s.ls.length<100000
 es:∀ t∈s.ls,EsOk s.ws.length t.1 t.2
 two:two.on=true∧two.may=true
 r:s.r.Ok
theorem sAt_e (addr:Nat) (h:addr<18446744073709551616) (w:World):Fn Tryz.prog 26 [.int .u64 (addr:Nat)].toArray w [] (fun u _=>u=bif decide (addr<262144) then .tuple #[.int .i64 ((addr / 64:Nat):Int),.int .i64 ((addr % 64:Nat):Int),.int .i64 0] else .tuple #[.int .i64 0,.int .i64 0,.int .i64 2]):=by
 refine enter Tryz.func26 ?_
 refine run ?_
 refine st_cond _ rfl (fun hc=>?_) (fun hc=>?_)
 ·rw [show decide (addr<262144)=false by simp at hc;exact decide_eq_false (by omega)]
  refine run ?_
  exact fin3 rfl
 ·have hl:addr<262144:=by simp at hc;omega
  rw [show decide (addr<262144)=true from decide_eq_true hl]
  refine run ?_
  refine op1 (by rfl) (x_quoU rfl rfl addr 64 rfl rfl (by decide) h) ?_
  refine run ?_
  refine op1 (by rfl) (x_remN rfl rfl addr 64 rfl rfl (by decide)) ?_
  refine run ?_
  exact fin3 rfl
end Go.Proofs.YtndklbjnofdgeaaGreat
namespace Go.Proofs.YtndklbjnofdgeaaGreat
open Go.RowKit
set_option linter.unusedVariables false
set_option linter.unusedSimpArgs false
theorem noFt_fit:noFt.Fit:=⟨by decide,by decide,by decide,by decide⟩
theorem flagL_st {r w x af:Bool} {acc stage level page:Int}:flagL r w x af acc stage level page=noFt∨(flagL r w x af acc stage level page).stage=stage:=by
 unfold flagL
 cases af<;>cases mayA r w x acc<;>simp
theorem wlk_st {ws:List Nat} {stage:Int} {page:Nat}:∀ k level f rd,(wlk ws stage page k level f rd).f=noFt∨(wlk ws stage page k level f rd).f.stage=stage:=by
 intro k
 induction k with
 | zero=>intro level f rd;exact .inr rfl
 | succ k ih=>
  intro level f rd
  rw [wlk]
  cases hasF ws.length f with
  | false=>exact .inr rfl
  | true=>
   simp only [cond_true]
   cases decide ((dSt ws stage (atN f level page) level).kind=1) with
   | true=>exact ih _ _ _
   | false=>
    simp only [cond_false,endL]
    cases decide ((dSt ws stage (atN f level page) level).kind=0) with
    | true=>exact .inr rfl
    | false=>
     simp only [cond_false]
     cases hasF ws.length ((dSt ws stage (atN f level page) level).frame + ((page % coversN level:Nat):Int)) with
     | true=>exact .inl rfl
     | false=>exact .inr rfl
theorem midL_st {ws:List Nat} {frame:Int} {mid:Nat} {acc:Int}:(midL ws true frame mid acc).f=noFt∨(midL ws true frame mid acc).f.stage=2:=by
 have hG:midG (walk5 ws 2 frame mid) mid acc=noFt∨(midG (walk5 ws 2 frame mid) mid acc).stage=2:=by
  unfold midG
  cases decide ((walk5 ws 2 frame mid).f.kind=0) with
  | true=>exact flagL_st
  | false=>exact wlk_st _ _ _ _
 simp only [midL,Bool.not_true,cond_false,midE]
 cases decide ((midG (walk5 ws 2 frame mid) mid acc).kind=0) with
 | true=>exact hG
 | false=>exact hG
theorem midA_st {c:AcC} {s:AcS} {mid:Nat} {acc:Int}:(midA c s mid acc).f=noFt∨(midA c s mid acc).f.stage=2:=by
 unfold midA
 cases (c.pk.use && decide (0≤midI c s mid acc)) with
 | true=>exact .inl rfl
 | false=>
  simp only [cond_false,midF]
  have h:=midL_st (ws:=c.ws) (frame:=c.two.frame) (mid:=mid) (acc:=acc)
  cases decide ((midL c.ws true c.two.frame mid acc).f.kind=0) with
  | true=>exact h
  | false=>exact h
structure ROk (n:Nat) (r:StR):Prop where
 n:r.f.kind=0→hasF n r.n=true
 f:r.f.stage ≠ 2→r.f.Fit
theorem tblA_r {c:AcC} (hk:AcOk c) {ds:List IvD} {s:AcS} (hE:EsOk c.ws.length s.es ds) {mid level:Nat} (hm:mid≤4095) (hl:level≤3):ROk c.ws.length (tblA c s mid level):=by
 refine ⟨(tblA_ok hk hE hm hl).2,?_⟩
 have h:=midA_st (c:=c) (s:=s) (mid:=mid) (acc:=0)
 unfold tblA
 cases hc:decide ((midA c s mid 0).f.kind=0) with
 | false=>
  simp only [Bool.not_false,cond_true]
  intro h2
  rcases h with h | h
  ·rw [h] at hc;simp [noFt] at hc
  ·exact absurd h h2
 | true=>intro _;exact noFt_fit
theorem leafA_r {c:AcC} (hk:AcOk c) {ds:List IvD} {s:AcS} (hE:EsOk c.ws.length s.es ds) {level:Nat} {d:DsD} (hm:leafM c level d≤4095) (hl:level≤3):ROk c.ws.length (leafA c s level d):=by
 refine ⟨(leafA_ok hk hE hm).2,?_⟩
 have h:=midA_st (c:=c) (s:=s) (mid:=leafM c level d) (acc:=c.acc)
 have hp:=hk.page
 have hF:(flagL d.r d.w d.x d.af c.acc 1 level c.page).Fit:=by
  unfold flagL
  cases d.af with
  | false=>exact ⟨by simp,by simp,by simp;omega,by simp;omega⟩
  | true=>
   simp only [Bool.not_true,cond_false]
   cases mayA d.r d.w d.x c.acc with
   | false=>exact ⟨by simp,by simp,by simp;omega,by simp;omega⟩
   | true=>exact noFt_fit
 unfold leafA
 cases decide ((flagL d.r d.w d.x d.af c.acc 1 level c.page).kind=0) with
 | false=>intro _;exact hF
 | true=>
  simp only [Bool.not_true,cond_false]
  cases hc:decide ((midA c s (leafM c level d) c.acc).f.kind=0) with
  | false=>
   simp only [Bool.not_false,cond_true]
   intro h2
   rcases h with h | h
   ·rw [h];exact noFt_fit
   ·exact absurd h h2
  | true=>intro _;exact noFt_fit
theorem hasF0 {n:Nat} (h:memOk n=true):hasF n 0=true:=by
 have:=memOk_iff h
 simp only [hasF,Bool.and_eq_true,decide_eq_true_eq]
 omega
theorem stgA_r {c:AcC} (hk:AcOk c) {ds:List IvD}:∀ (k level:Nat) (f:Int) (s:AcS),level + k=4→EsOk c.ws.length s.es ds→ROk c.ws.length (stgA c k level f s):=by
 intro k
 induction k with
 | zero=>intro level f s hl hE;exact ⟨fun _=>hasF0 hk.mem,fun _=>noFt_fit⟩
 | succ k ih=>
  intro level f s hl hE
  rw [stgA]
  have hp:=hk.page
  have hmay:=dSt_may c.ws 1 (atN f level c.page) level
  generalize dSt c.ws 1 (atN f level c.page) level=d at hmay ⊢
  obtain ⟨hkk,hk0,hk1,hk2⟩:=may_kinds hmay
  cases h1:decide (d.kind=1) with
  | true=>
   obtain ⟨g1,g2,g3,g4⟩:=hk1 (of_decide_eq_true h1)
   have h2:=(tblA_ok hk (s:=⟨s.es,s.rd++[f]⟩) hE (mid:=d.frame.toNat) (level:=level + 1) (by omega) (by omega)).1
   have h3:=tblA_r hk (s:=⟨s.es,s.rd++[f]⟩) hE (mid:=d.frame.toNat) (level:=level + 1) (by omega) (by omega)
   simp only [cond_true]
   generalize tblA c ⟨s.es,s.rd++[f]⟩ d.frame.toNat (level + 1)=T at h2 h3 ⊢
   cases hc:decide (T.f.kind=0) with
   | false=>simp only [Bool.not_false,cond_true];exact ⟨fun h=>by simp at hc;exact absurd h hc,h3.f⟩
   | true=>
    simp only [Bool.not_true,cond_false]
    exact ih (level + 1) T.n T.s (by omega) h2.es
  | false=>
   simp only [cond_false]
   cases h0:decide (d.kind=0) with
   | true=>simp only [cond_true];exact ⟨fun h=>(by cases h),fun _=>⟨by simp,by simp,(by simp;omega),(by simp;omega)⟩⟩
   | false=>
    simp only [cond_false]
    have hd2:d.kind=2:=by simp at h1 h0;omega
    exact leafA_r hk (s:=⟨s.es,s.rd++[f]⟩) hE (d:=d) (level:=level) (leaf_mid hmay hd2 (by omega) c.page).1 (by omega)
theorem rootA_r {c:AcC} (hk:AcOk c) {ds:List IvD} {s:AcS} (hE:EsOk c.ws.length s.es ds):ROk c.ws.length (rootA c s):=by
 have h1:=RtD.may_iff hk.one
 have h2:=(tblA_ok hk hE (mid:=c.one.frame.toNat) (level:=0) (by omega) (by omega)).1
 have h3:=tblA_r hk hE (mid:=c.one.frame.toNat) (level:=0) (by omega) (by omega)
 unfold rootA
 generalize tblA c s c.one.frame.toNat 0=T at h2 h3 ⊢
 cases hc:decide (T.f.kind=0) with
 | false=>simp only [Bool.not_false,cond_true];exact ⟨fun h=>by simp at hc;exact absurd h hc,h3.f⟩
 | true=>
  simp only [Bool.not_true,cond_false]
  exact stgA_r hk 4 0 T.n T.s rfl h2.es
theorem pageB_r {c:AcC} (hk:AcOk c) {ds:List IvD} {es:List EnD} (hE:EsOk c.ws.length es ds):ROk c.ws.length (pageB c es):=by
 unfold pageB
 cases c.one.on with
 | false=>
  simp only [Bool.not_false,cond_true]
  refine ⟨fun h=>((midA_ok hk (s:=⟨es,[]⟩) hE hk.page c.acc).2 h).1,fun h=>?_⟩
  rcases midA_st (c:=c) (s:=⟨es,[]⟩) (mid:=c.page) (acc:=c.acc) with h2 | h2
  ·show (midA c ⟨es,[]⟩ c.page c.acc).f.Fit
   rw [h2];exact noFt_fit
  ·exact absurd h2 h
 | true=>
  simp only [Bool.not_true,cond_false]
  cases hc:(c.pk.use && decide (0≤wholeI c es)) with
  | true=>
   rw [Bool.and_eq_true,decide_eq_true_eq] at hc
   simp only [cond_true]
   have hw:(wholeI c es).toNat<es.length:=(idxI_at2 hc.2).1
   exact ⟨fun _=>(hE.may_of hw).2,fun _=>noFt_fit⟩
  | false=>
   simp only [cond_false]
   unfold pageW
   cases hc2:(c.pk.use && decide (0≤walkI c es)) with
   | true=>
    rw [Bool.and_eq_true,decide_eq_true_eq] at hc2
    obtain ⟨h1,h2,h3,h4⟩:=walk_at hE hc2.2
    simp only [cond_true]
    exact stgA_r hk (ds:=ds) (4 - (es.getD (walkI c es).toNat default).level.toNat) (es.getD (walkI c es).toNat default).level.toNat (es.getD (walkI c es).toNat default).frame ⟨es,[]⟩ (by omega) hE
   | false=>
    simp only [cond_false]
    exact rootA_r hk (s:=⟨es,[]⟩) hE
theorem pageA_r {c:AcC} (hk:AcOk c) {ds:List IvD} {es:List EnD} (hE:EsOk c.ws.length es ds):ROk c.ws.length (pageA c es):=pageB_r hk (drop_ok hE c.pk.drop)
end Go.Proofs.YtndklbjnofdgeaaGreat
namespace Go.Proofs.YtndklbjnofdgeaaGreat
open Go.RowKit
set_option linter.unusedVariables false
set_option linter.unusedSimpArgs false
set_option maxRecDepth 20000
attribute [local irreducible] Hy St Ops DH DHF DE1 DE2 DE3 DS DCh DWF
def PgR (A:StR) (ds:List IvD) (u:Value) (hn:Hp):Prop:=∃ (ev dv rv:Value) (he hd hr:Hp),u=.tuple #[.int .i64 A.n,ftV A.f,.agg #[ev,dv],rv,.int .i64 0]∧Own 114 14 ev he (A.s.es.map enV)∧Own 121 4 dv hd (ds.map ivV)∧Own 3 1 rv hr (A.s.rd.map inV)∧HpLe (he++hd++hr) hn
theorem may_of_ok {c:AcC} (hk:AcOk c) {es:List EnD} {ds:List IvD} (hE:EsOk c.ws.length es ds) (hac:PtD.btw c.acc 0 2=true):mayL c.ws.length es ds c.one c.two c.page c.acc=true:=by
 have h1:=hk.page
 have h2:heldL c.ws.length es=true:=List.all_eq_true.2 fun e he=>by
  have:=hasF_iff (hE.held e he)
  exact decide_eq_true (by omega)
 have h3:PtD.btw (c.page:Int) 0 4095=true:=btwT (by omega) (by omega)
 simp only [mayL,whoL,hk.mem,hE.tlb,hk.one,hk.two,hk.on,hac,h2,h3,Bool.and_true]
theorem aPageS_e (c:AcC) (hk:AcOk c) (hac:PtD.btw c.acc 0 2=true) (hwl:c.ws.length<1000000) (cap:Nat) (hcc:c.ws.length≤cap) {p:Option Addr} {w:World} (es:List EnD) (ds:List IvD) (hE:EsOk c.ws.length es ds) {ev dv:Value} (hm:SlAt w (.slice p c.ws.length cap) 1 (c.ws.map uV)) (he:SlAt w ev 14 (es.map enV)) (hd:SlAt w dv 4 (ds.map ivV)) (hcap:∃ q c,ev=.slice q es.length c∧es.length≤c):
  Fn Tryz.prog 106 [.agg #[.slice p c.ws.length cap],.agg #[ev,dv],.agg (rtV c.one).toArray,.agg (rtV c.two).toArray,.int .i64 (c.page:Nat),.int .i64 c.acc,.agg (pkV c.pk).toArray].toArray w [] (PgR (pageA c es) ds):=by
 have h8:=tlb_may hE.tlb
 refine (aPage_e c.ws hk.w64 hwl cap hcc es ds c.pk c.one c.two c.page c.acc hm he hd hcap (by omega) (by omega)).mono ?_
 rintro u hn ⟨h1,_⟩
 obtain ⟨ev',dv',rv',he',hd',hr',hu,g1,g2,g3,hle⟩:=h1 (may_of_ok hk hE hac)
 exact ⟨ev',dv',rv',he',hd',hr',hu,g1,g2,g3,hle⟩
theorem pg_ex {A:StR} {ds:List IvD} (h1:A.s.es.length≤8) (h2:ds.length≤8) (h3:A.s.rd.length≤100):∃ u hn,PgR A ds u hn:=by
 obtain ⟨a1,b1,o1⟩:=own_some (e:=114) (xs:=A.s.es.map enV) en_all (by rw [List.length_map];omega)
 obtain ⟨a2,b2,o2⟩:=own_some (e:=121) (xs:=ds.map ivV) iv_all (by rw [List.length_map];omega)
 obtain ⟨a3,b3,o3⟩:=own_some (e:=3) (xs:=A.s.rd.map inV) in_all (by rw [List.length_map];omega)
 exact ⟨_,_,a1,a2,a3,b1,b2,b3,rfl,o1,o2,o3,HpLe.refl _⟩
theorem nth_two {α:Type} {a b:α}:∀ {l:List α} {k:Nat},nth l (k + 0)=some a→nth l (k + 1)=some b→List.take 2 (List.drop k l)=[a,b]
 | [],k,h,_=>by cases k<;>cases h
 | x::l,k + 1,h0,h1=>by
  rw [List.drop_succ_cons]
  exact nth_two (l:=l) (k:=k) (by rwa [Nat.succ_add] at h0) (by rwa [Nat.succ_add] at h1)
 | [x],0,h0,h1=>by cases h1
 | x::y::l,0,h0,h1=>by cases h0;cases h1;rfl
section
variable {n : Nat} {w0 : World} {mu : List Nat} {l : Fm} {hc : Hp} {all : Array Oper} {ds : List (Nat × Nat)} {h0 : Hp} {ivS ivE : Fm} {Y : Fm → Hp → Prop} {i : Nat} {r : List Nat} {ty : TypeId} {pos : String} {af : Array Edge}
theorem cCell {t:TypeId} {x y:Operand} {b off sz:Nat} {v:Value} {vs:List Value} {cs:Array Value} {tb:TypeId} {hp':Hp} (cs':Array Value) (h:DCh Tryz.prog n w0 mu all ds l h0 ivS Y r ivE (⟨b,cs',tb⟩::hp')) (ho:all[i]?=some ⟨none,.store t x y,ty,pos,af,none⟩:=by rfl)
  (hx:ev (depFm ds (ivE++ivS) af.toList++l) x=some (.pointer (some ⟨b,off,none⟩)):=by rfl) (hy:ev (depFm ds (ivE++ivS) af.toList++l) y=some v:=by rfl) (hvc:v.cells=vs.toArray:=by (first | ((simp only [Value.cells])<;>rfl) | rfl)) (hs:lk Tb.sz t=some sz:=by rfl) (hl:vs.length=sz:=by rfl) (hperm:(⟨b,cs,tb⟩::hp').Perm hc:=by (first | (with_reducible apply p0) | (with_reducible apply p1) | (with_reducible apply p2) | (with_reducible apply p3) | (with_reducible apply p4) | (with_reducible apply p5))) (hv1:vs.all (·.oneCell')=true:=by rfl) (hlt:Nat.ble (off + vs.length) cs.size=true:=by rfl) (hput:putAt cs off vs=cs':=by kernel_rfl)
  (hle:HpLe h0 (⟨b,cs',tb⟩::hp'):=by (refine hpLe_cnt fun a=>?_;simp only [cntB_app,cntB_cons,cntB_nil]<;>omega)):DCh Tryz.prog n w0 mu all ds l h0 ivS Y (i::r) ivE hc:=dc_s tb_ok ho hx hy hvc hs hl hperm hv1 (Nat.le_of_ble_eq_true hlt) hput hle h
end
theorem getN_hi (w a:Nat) {n:Nat} (hn:n≤64):getN w a n≤2 ^ n - 1:=by
 have:=getN_le w a n
 rwa [lowN_eq hn] at this
theorem one_may (r:RgD):r.one.may=true:=by
 have h:∀ v,(rootO v).frame≤4095∧0≤(rootO v).frame∧(rootO v).tag≤15∧0≤(rootO v).tag:=fun v=>by
  have h1:=getN_hi v 12 (n:=12) (by decide)
  have h2:=getN_hi v 48 (n:=4) (by decide)
  unfold rootO
  cases decide (rtW (decide (getN v 0 1=1)) (getN v 12 12) (getN v 48 4)=v) with
  | true=>simp only [cond_true];omega
  | false=>simp
 obtain ⟨h1,h2,h3,h4⟩:=h (r.ttbr &&& (18446744073709551615 - 1))
 have g1:PtD.btw r.one.frame 0 4095=true:=btwT h2 h1
 have g2:PtD.btw r.one.tag 0 15=true:=btwT h4 h3
 unfold RtD.may
 rw [g1,g2];rfl
def PS.ac (s:PS) (two:RtD) (addr:Nat) (acc:Int):AcC:=⟨s.ws,s.r.one,two,s.pk,addr / 64,acc⟩
theorem PsOk.ac {s:PS} {cpu:Nat} {two:RtD} (h:PsOk s cpu two) {addr:Nat} (ha:addr<262144) (acc:Int):AcOk (s.ac two addr acc):=⟨h.w64,h.mem,one_may _,h.two.2,h.two.1,by show addr / 64≤4095;omega⟩
theorem getD_memP {l:List (List EnD × List IvD)} {k:Nat} (h:k<l.length):l.getD k default∈l:=by
 rw [List.getD_eq_getElem?_getD,List.getElem?_eq_getElem h];exact List.getElem_mem h
theorem PsOk.te {s:PS} {cpu:Nat} {two:RtD} (h:PsOk s cpu two):EsOk s.ws.length (s.tl cpu).1 (s.tl cpu).2:=h.es _ (getD_memP h.cpu)
theorem MOk.tl {L:ML} {s:PS} (h:MOk L s) (cpu:Nat):(L.ts.getD cpu default).p=s.tl cpu:=by
 unfold PS.tl
 rw [← h.p,List.getD_eq_getElem?_getD,List.getD_eq_getElem?_getD,List.getElem?_map]
 cases L.ts[cpu]?<;>rfl
theorem TlI.more {h h':Hp} {t:TlD} (hh:∀ wc,Here h' wc→Here h wc) (ht:TlI h t):TlI h' t:=⟨fun wc hw=>ht.1 wc (hh wc hw),ht.2⟩
theorem here_r {a b:Hp} {wc:World} (h:Here (a++b) wc):Here b wc:=fun e he=>h e (List.mem_append_right _ he)
theorem here_l {a b:Hp} {wc:World} (h:Here (a++b) wc):Here a wc:=fun e he=>h e (List.mem_append_left _ he)
theorem tlsI_set {ts:List TlD} {cpu:Nat} {y:TlD} {h1 ht:Hp} (hy:TlI h1 y) (h:TlsI ht ts):TlsI (h1++ht) (ts.set cpu y):=fun t hm=>by
 rcases List.mem_or_eq_of_mem_set hm with h2 | rfl
 ·exact (h t h2).more fun wc hw=>here_r hw
 ·exact hy.more fun wc hw=>here_l hw
theorem MOk.fault {L:ML} {s:PS} (h:MOk L s) (f:FtD) (addr:Nat):MOk L (faultP s f addr):=by
 unfold faultP
 cases decide (f.stage=2) with
 | true=>exact ⟨h.w,h.q,h.l,h.t,h.p⟩
 | false=>exact ⟨h.w,h.q,h.l,h.t,h.p⟩
theorem sPlace_e (L:ML) (M cpu:Nat) (two:RtD) (s:PS) (hL:MOk L s) (hs:PsOk s cpu two) (hsn:s.seen.length<100000) (addr:Nat) (ha:addr<18446744073709551616) (acc:Int) (hac:PtD.btw acc 0 2=true) {w:World} (hN:HereN (L.hp M cpu two s) w):Fn Tryz.prog 69 [.pointer (some ⟨M,0,none⟩),.int .u64 (addr:Nat),.int .i64 acc].toArray w ((L.hp M cpu two s).map (·.b)) (fun u hn=>u=.int .i64 (placeP s cpu two addr acc).2∧∃ L',MOk L' (placeP s cpu two addr acc).1∧HpLe (L'.hp M cpu two (placeP s cpu two addr acc).1) hn):=by
 have htl:=hL.tl cpu
 have htE:=hs.te
 have h8:=tlb_may htE.tlb
 have hlen:L.ts.length=s.ls.length:=by rw [← hL.p,List.length_map]
 have hcl:cpu<L.ts.length:=by rw [hlen];exact hs.cpu
 obtain ⟨wv,sv,lv,ts,hw,hq,hl,ht⟩:=L
 obtain ⟨hLw,hLq,hLl,hLt,hLp⟩:=hL
 dsimp only at hLw hLq hLl hLt hLp htl hlen hcl
 obtain ⟨g,lc,lcur,rfl,rfl,hsz,hnth,hput⟩:=hLl.putR hcl
 have hx:=hLt.i _ (getD_mem hcl)
 generalize ts.getD cpu default=tc at hnth hput htl hx
 obtain ⟨wp,wc,e0,hwc⟩:=hLw.openedC
 rw [List.length_map] at e0 hwc
 subst e0
 refine enterM (⟨M,mc (.slice wp s.ws.length wc) sv (.slice (some ⟨g,0,none⟩) ts.length lc) cpu two s,82⟩::(Blk.mk g lcur 77::(hq++(hw++ht)))) hN Tryz.func69 ?_
 refine run ?_
 refine callE (fun wc hG=>sAt_e addr ha wc) ?_
 cases hd:decide (addr<262144) with
 | false=>
  have hp:placeP s cpu two addr acc=(faultP s ⟨2,1,0,false,4095⟩ addr,0):=by unfold placeP;rw [hd];rfl
  rw [hp]
  refine runC ?_
  refine callM [⟨M,mc (.slice wp s.ws.length wc) sv (.slice (some ⟨g,0,none⟩) ts.length lc) cpu two s,82⟩] (Blk.mk g lcur 77::(hq++(hw++ht))) (fun wc' hG=>sFault_e _ _ _ cpu two s ⟨2,1,0,false,4095⟩ (fun _=>⟨by decide,by decide,by decide,by decide⟩) addr M hG.hereN) (fun v hn hv=>?_) ?_
  ·obtain ⟨rfl,hle⟩:=hv
   refine run ?_
   exact fin1 ⟨rfl,⟨.slice wp s.ws.length wc,sv,.slice (some ⟨g,0,none⟩) ts.length lc,ts,hw,hq,[⟨g,lcur,77⟩],ht⟩,(MOk.fault (s:=s) ⟨hLw,hLq,hLl,hLt,hLp⟩ ⟨2,1,0,false,4095⟩ addr),by unfold ML.hp;(refine hpLe_cnt fun a=>?_;have:=HpLe.cnt hle a;simp only [cntB_app,cntB_cons,cntB_nil] at *;omega)⟩
  ·exact List.Perm.refl _
 | true=>
  have hd':=of_decide_eq_true hd
  have hld:List.take 2 (List.drop (cpu * 2) lcur.toList)=[tc.ev,tc.dv]:=by
   have h0:=hnth 0 tc.ev rfl
   have h1:=hnth 1 tc.dv rfl
   exact nth_two h0 h1
  refine runC ?_
  refine drawED 39 [0,1,2,3,4,5,6,7,8,9,10,11,12,13,14,15,16,17,18,19,20,21,22,23,24,25,26,27,28,29] [30,37,38] [31,32,33,34,35,36] [39,42,43] [40,41] ?_
  refine runS ?_
  rw [show (List.take 15 (List.drop 15 (mc (.slice wp s.ws.length wc) sv (.slice (some ⟨g,0,none⟩) ts.length lc) cpu two s).toList)).toArray=(rgV s.r).toArray from rfl,show (List.take 1 (mc (.slice wp s.ws.length wc) sv (.slice (some ⟨g,0,none⟩) ts.length lc) cpu two s).toList).toArray=#[.slice wp s.ws.length wc] from rfl]
  refine sCallE (fun wc hx hG=>rOne_e s.r hs.r.ttbr hs.r.sctlr wc) ?_
  refine runS ?_
  have hAo:=pageA_ok (hs.ac hd' acc) htE
  have hAr:=pageA_r (hs.ac hd' acc) htE
  refine eCall (fun wc' hG=>aPageS_e (s.ac two addr acc) (hs.ac hd' acc) hac (by have:=memOk_iff hs.mem;show s.ws.length<_;omega) wc hwc tc.es tc.ds (by rw [← htl] at htE;exact htE) (hLw.lie (fun e he=>hG.here e (by simp [he])) (by have:=memOk_iff hs.mem;rw [List.length_map];omega)) (hx.1 wc' (fun e he=>hG.here e (by simp [he]))).1 (hx.1 wc' (fun e he=>hG.here e (by simp [he]))).2 ⟨_,_,rfl,hx.2⟩) ?_ ?_
  ·rw [← htl] at hAo h8;exact pg_ex (tlb_may hAo.es.tlb).2.1 h8.2.2 (by have:=hAo.rd;simp only [List.length_nil,Nat.zero_add] at this;exact Nat.le_trans this (by decide))
  refine eAlloc ?_
  refine eAlloc ?_
  refine eNil ?_
  rintro _ _ ⟨Y2,rfl,rfl⟩ _ _ ⟨Y1,rfl,rfl⟩ u hn ⟨ev1,dv1,rv1,he1,hd1,hr1,rfl,g1,g2,g3,hle⟩
  have hXe':s.acc cpu two addr acc=pageA (s.ac two addr acc) (s.tl cpu).1:=rfl
  have hXe:s.acc cpu two addr acc=pageA (s.ac two addr acc) tc.es:=by unfold PS.acc;rw [← htl];rfl
  obtain ⟨X,hX⟩:∃ X,X=s.acc cpu two addr acc:=⟨_,rfl⟩
  rw [← hXe,← hX] at g1 g3 ⊢
  have hX8:X.s.es.length≤8:=by rw [hX,hXe];rw [← htl] at hAo;exact (tlb_may hAo.es.tlb).2.1
  have hD8:tc.ds.length≤8:=by rw [← htl] at h8;exact h8.2.2
  have hXf:X.f.stage ≠ 2→X.f.Fit:=by rw [hX,hXe];rw [← htl] at hAr;exact hAr.f
  have hXn:X.f.kind=0→hasF s.ws.length X.n=true:=by rw [hX,hXe];rw [← htl] at hAr;exact hAr.n
  obtain ⟨r1,c1,e1⟩:=g1.opened
  obtain ⟨r2,c2,e2⟩:=g2.opened
  obtain ⟨r3,c3,e3⟩:=g3.opened
  rw [List.length_map] at e1 e2 e3
  subst e1 e2 e3
  refine dMove ?_
  refine dExtract ?_
  refine dExtract ?_
  refine dExtract ?_
  refine dExtract ?_
  refine dExtract ?_
  refine dNil ?_
  refine dAssign ?_
  refine dAssign ?_
  refine dAssign ?_
  refine dNil ?_
  simp only [DN,List.cons_append,List.nil_append,List.append_nil]
  refine cStore (b:=Y1) (tb:=43) (cs:=#[.int .i64 0,.int .i64 0,.int .i64 0,.bool false,.int .i64 0]) (cs':=#[.int .i64 X.f.kind,.int .i64 X.f.stage,.int .i64 X.f.level,.bool X.f.walk,.int .i64 X.f.page]) (hp':=⟨Y2,#[.slice none 0 0,.slice none 0 0],77⟩::(hn++Blk.mk M (mc (.slice wp s.ws.length wc) sv (.slice (some ⟨g,0,none⟩) ts.length lc) cpu two s) 82::Blk.mk g lcur 77::(hq++(hw++ht)))) ?_ (by (refine perm_cnt fun a=>?_;simp only [cntB_app,cntB_cons,cntB_nil]<;>omega))
  refine cStore (b:=Y2) (tb:=77) (cs:=#[.slice none 0 0,.slice none 0 0]) (cs':=#[.slice r1 X.s.es.length c1,.slice r2 tc.ds.length c2]) (hp':=⟨Y1,#[.int .i64 X.f.kind,.int .i64 X.f.stage,.int .i64 X.f.level,.bool X.f.walk,.int .i64 X.f.page],43⟩::(hn++Blk.mk M (mc (.slice wp s.ws.length wc) sv (.slice (some ⟨g,0,none⟩) ts.length lc) cpu two s) 82::Blk.mk g lcur 77::(hq++(hw++ht)))) ?_ (by (refine perm_cnt fun a=>?_;simp only [cntB_app,cntB_cons,cntB_nil]<;>omega))
  refine dc_nil ?_
  refine opsC ?_
  refine ops_le (Blk.mk g lcur 77::Blk.mk M (mc (.slice wp s.ws.length wc) sv (.slice (some ⟨g,0,none⟩) ts.length lc) cpu two s) 82::⟨Y1,#[.int .i64 X.f.kind,.int .i64 X.f.stage,.int .i64 X.f.level,.bool X.f.walk,.int .i64 X.f.page],43⟩::⟨Y2,#[.slice r1 X.s.es.length c1,.slice r2 tc.ds.length c2],77⟩::((he1++hd1++hr1)++(hq++(hw++ht)))) (by (refine hpLe_cnt fun a=>?_;have:=HpLe.cnt hle a;simp only [cntB_app,cntB_cons,cntB_nil] at *;omega)) ?_
  refine run ?_
  refine drawC 16 11 [0,1,2,3,4,5,6,7,8,9,10,12,13,14] [11,15] [] ?_
  refine runZ ?_
  refine cPut (b:=g) (cs:=lcur) (cs':=putAt lcur (cpu * 2) [.slice r1 X.s.es.length c1,.slice r2 tc.ds.length c2]) (hp':=Blk.mk M (mc (.slice wp s.ws.length wc) sv (.slice (some ⟨g,0,none⟩) ts.length lc) cpu two s) 82::⟨Y1,#[.int .i64 X.f.kind,.int .i64 X.f.stage,.int .i64 X.f.level,.bool X.f.walk,.int .i64 X.f.page],43⟩::⟨Y2,#[.slice r1 X.s.es.length c1,.slice r2 tc.ds.length c2],77⟩::((he1++hd1++hr1)++(hq++(hw++ht)))) ?_ (hput:=rfl)
  refine cCell (b:=M) (mc (.slice wp s.ws.length wc) sv (.slice (some ⟨g,0,none⟩) ts.length lc) cpu two { s with pk:={ s.pk with drop:=-1 } }) (hp':=Blk.mk g (putAt lcur (cpu * 2) [.slice r1 X.s.es.length c1,.slice r2 tc.ds.length c2]) 77::⟨Y1,#[.int .i64 X.f.kind,.int .i64 X.f.stage,.int .i64 X.f.level,.bool X.f.walk,.int .i64 X.f.page],43⟩::⟨Y2,#[.slice r1 X.s.es.length c1,.slice r2 tc.ds.length c2],77⟩::((he1++hd1++hr1)++(hq++(hw++ht)))) ?_ (hperm:=p1)
  refine dc_nil ?_
  refine opsC ?_
  refine run ?_
  have hrd:=hAo.rd
  rw [← hXe',← hX] at hrd
  simp only [List.length_nil,Nat.zero_add] at hrd
  refine appendG (X.s.rd.map inV) (Blk.mk M (mc (.slice wp s.ws.length wc) sv (.slice (some ⟨g,0,none⟩) ts.length lc) cpu two { s with pk:={ s.pk with drop:=-1 } }) 82::Blk.mk g (putAt lcur (cpu * 2) [.slice r1 X.s.es.length c1,.slice r2 tc.ds.length c2]) 77::⟨Y1,#[.int .i64 X.f.kind,.int .i64 X.f.stage,.int .i64 X.f.level,.bool X.f.walk,.int .i64 X.f.page],43⟩::⟨Y2,#[.slice r1 X.s.es.length c1,.slice r2 tc.ds.length c2],77⟩::((he1++hd1++hr1)++(hw++ht))) hLq (SrcAt.own g3 (by (refine hpLe_cnt fun a=>?_;simp only [cntB_app,cntB_cons,cntB_nil]<;>omega))) (fun sv2 hq2 hO2=>?_) (by rw [List.length_map,List.length_map];omega) in_all (by (refine perm_cnt fun a=>?_;simp only [cntB_app,cntB_cons,cntB_nil]<;>omega))
  rw [← List.map_append] at hO2
  obtain ⟨q2,k2,e4⟩:=hO2.opened
  rw [List.length_map] at e4
  subst e4
  refine ops_le (Blk.mk M (mc (.slice wp s.ws.length wc) sv (.slice (some ⟨g,0,none⟩) ts.length lc) cpu two { s with pk:={ s.pk with drop:=-1 } }) 82::(hq2++(Blk.mk g (putAt lcur (cpu * 2) [.slice r1 X.s.es.length c1,.slice r2 tc.ds.length c2]) 77::⟨Y1,#[.int .i64 X.f.kind,.int .i64 X.f.stage,.int .i64 X.f.level,.bool X.f.walk,.int .i64 X.f.page],43⟩::⟨Y2,#[.slice r1 X.s.es.length c1,.slice r2 tc.ds.length c2],77⟩::((he1++hd1++hr1)++(hw++ht))))) (by (refine hpLe_cnt fun a=>?_;simp only [cntB_app,cntB_cons,cntB_nil]<;>omega)) ?_
  refine run ?_
  refine zCell (mc (.slice wp s.ws.length wc) (.slice q2 (s.seen++X.s.rd).length k2) (.slice (some ⟨g,0,none⟩) ts.length lc) cpu two (s.put cpu X)) ?_
  refine run ?_
  have hO3:=hput 0 [.slice r1 X.s.es.length c1,.slice r2 tc.ds.length c2] ⟨X.s.es,tc.ds,r1,c1,r2,c2⟩ (by simp) rfl ⟨rfl,rfl⟩
  have hM:MOk ⟨.slice wp s.ws.length wc,.slice q2 (s.seen++X.s.rd).length k2,(.slice (some ⟨g,0,none⟩) ts.length lc),ts.set cpu ⟨X.s.es,tc.ds,r1,c1,r2,c2⟩,hw,hq2,[⟨g,putAt lcur (cpu * 2) [.slice r1 X.s.es.length c1,.slice r2 tc.ds.length c2],77⟩],he1++hd1++ht⟩ (s.put cpu X):=
   ⟨hLw,hO2,hO3,TlsW.set (y:=⟨X.s.es,tc.ds,r1,c1,r2,c2⟩) ⟨g1,g2,hX8,hD8⟩ cpu hLt,by rw [List.map_set,hLp];show s.ls.set cpu (X.s.es,tc.ds)=s.ls.set cpu (X.s.es,(s.tl cpu).2);rw [← htl]⟩
  refine st_cond _ rfl (fun hc=>?_) (fun hc=>?_)
  ·have hk:X.f.kind ≠ 0:=by simpa using hc
   have hp:placeP s cpu two addr acc=(faultP (s.put cpu X) X.f addr,0):=by
    unfold placeP
    rw [← hX,hd,decide_eq_false hk];rfl
   rw [hp]
   refine run ?_
   refine callM [⟨M,mc (.slice wp s.ws.length wc) (.slice q2 (s.seen++X.s.rd).length k2) (.slice (some ⟨g,0,none⟩) ts.length lc) cpu two (s.put cpu X),82⟩] (hq2++(Blk.mk g (putAt lcur (cpu * 2) [.slice r1 X.s.es.length c1,.slice r2 tc.ds.length c2]) 77::⟨Y1,#[.int .i64 X.f.kind,.int .i64 X.f.stage,.int .i64 X.f.level,.bool X.f.walk,.int .i64 X.f.page],43⟩::⟨Y2,#[.slice r1 X.s.es.length c1,.slice r2 tc.ds.length c2],77⟩::((he1++hd1++hr1)++(hw++ht)))) (fun wc' hG=>sFault_e _ _ _ cpu two (s.put cpu X) X.f hXf addr M hG.hereN) (fun v hn hv=>?_) ?_
   ·obtain ⟨rfl,hle⟩:=hv
    refine run ?_
    exact fin1 ⟨rfl,_,hM.fault _ _,by unfold ML.hp;(refine hpLe_cnt fun a=>?_;have:=HpLe.cnt hle a;simp only [cntB_app,cntB_cons,cntB_nil] at *;omega)⟩
   ·exact List.Perm.refl _
  ·have hk:X.f.kind=0:=by simpa using hc
   have hp:placeP s cpu two addr acc=((s.put cpu X).see X.n,X.n * 64 + ((addr % 64:Nat):Int)):=by
    unfold placeP
    rw [← hX,hd,decide_eq_true hk];rfl
   rw [hp]
   refine run ?_
   intro B
   have hn:=hasF_iff (hXn hk)
   have hmi:=memOk_iff hs.mem
   refine appendG ([X.n].map inV) (Blk.mk M (mc (.slice wp s.ws.length wc) (.slice q2 (s.seen++X.s.rd).length k2) (.slice (some ⟨g,0,none⟩) ts.length lc) cpu two (s.put cpu X)) 82::⟨B,#[.int .i64 X.n],3⟩::Blk.mk g (putAt lcur (cpu * 2) [.slice r1 X.s.es.length c1,.slice r2 tc.ds.length c2]) 77::⟨Y1,#[.int .i64 X.f.kind,.int .i64 X.f.stage,.int .i64 X.f.level,.bool X.f.walk,.int .i64 X.f.page],43⟩::⟨Y2,#[.slice r1 X.s.es.length c1,.slice r2 tc.ds.length c2],77⟩::((he1++hd1++hr1)++(hw++ht))) hO2 ⟨_,_,rfl,.inr ⟨_,_,rfl,news_own (m:=1) mh rfl⟩⟩ (fun sv3 hq3 hO4=>?_) (by simp only [List.length_map,List.length_append,List.length_singleton];omega) in_all (by (refine perm_cnt fun a=>?_;simp only [cntB_app,cntB_cons,cntB_nil]<;>omega))
   rw [← List.map_append] at hO4
   obtain ⟨q3,k3,e5⟩:=hO4.opened
   rw [List.length_map] at e5
   subst e5
   refine ops_le (Blk.mk M (mc (.slice wp s.ws.length wc) (.slice q2 (s.seen++X.s.rd).length k2) (.slice (some ⟨g,0,none⟩) ts.length lc) cpu two (s.put cpu X)) 82::(hq3++(Blk.mk g (putAt lcur (cpu * 2) [.slice r1 X.s.es.length c1,.slice r2 tc.ds.length c2]) 77::⟨Y1,#[.int .i64 X.f.kind,.int .i64 X.f.stage,.int .i64 X.f.level,.bool X.f.walk,.int .i64 X.f.page],43⟩::⟨Y2,#[.slice r1 X.s.es.length c1,.slice r2 tc.ds.length c2],77⟩::((he1++hd1++hr1)++(hw++ht))))) (by (refine hpLe_cnt fun a=>?_;simp only [cntB_app,cntB_cons,cntB_nil]<;>omega)) ?_
   refine run ?_
   refine zCell (mc (.slice wp s.ws.length wc) (.slice q3 (s.seen++X.s.rd++[X.n]).length k3) (.slice (some ⟨g,0,none⟩) ts.length lc) cpu two (s.put cpu X)) ?_
   refine run ?_
   refine fin1 ⟨rfl,⟨.slice wp s.ws.length wc,.slice q3 (s.seen++X.s.rd++[X.n]).length k3,(.slice (some ⟨g,0,none⟩) ts.length lc),ts.set cpu ⟨X.s.es,tc.ds,r1,c1,r2,c2⟩,hw,hq3,[⟨g,putAt lcur (cpu * 2) [.slice r1 X.s.es.length c1,.slice r2 tc.ds.length c2],77⟩],he1++hd1++ht⟩,⟨hM.w,hO4,hM.l,hM.t,hM.p⟩,?_⟩
   unfold ML.hp
   show HpLe (⟨M,mc (.slice wp s.ws.length wc) (.slice q3 (s.seen++X.s.rd++[X.n]).length k3) (.slice (some ⟨g,0,none⟩) ts.length lc) cpu two (s.put cpu X),82⟩::_) _
   (refine hpLe_cnt fun a=>?_;simp only [cntB_app,cntB_cons,cntB_nil]<;>omega)
end Go.Proofs.YtndklbjnofdgeaaGreat
namespace Go.Proofs.YtndklbjnofdgeaaGreat
open Go.RowKit
set_option linter.unusedVariables false
set_option linter.unusedSimpArgs false
set_option maxRecDepth 20000
def RgD.x (r:RgD):Nat→Nat
 | 0=>r.x0 | 1=>r.x1 | 2=>r.x2 | 3=>r.x3 | 4=>r.x4 | 5=>r.x5 | 6=>r.x6 | _=>r.x7
def RgD.setX (r:RgD) (k v:Nat):RgD:=
 match k with
 | 0=>{ r with x0:=v } | 1=>{ r with x1:=v } | 2=>{ r with x2:=v } | 3=>{ r with x3:=v }
 | 4=>{ r with x4:=v } | 5=>{ r with x5:=v } | 6=>{ r with x6:=v } | _=>{ r with x7:=v }
theorem RgD.x_lt {r:RgD} (h:r.Ok) (k:Nat):W64n (r.x k):=by
 obtain ⟨h0,h1,h2,h3,h4,h5,h6,h7,_⟩:=h
 unfold RgD.x;split<;>assumption
theorem RgD.setX_ok {r:RgD} (h:r.Ok) (k:Nat) {v:Nat} (hv:W64n v):(r.setX k v).Ok:=by
 obtain ⟨h0,h1,h2,h3,h4,h5,h6,h7,h8,h9,h10,h11,h12,h13,h14⟩:=h
 unfold RgD.setX;split<;>(constructor<;>assumption)
theorem RgD.set_ok {r:RgD} (h:r.Ok) (k:Int) {v:Nat} (hv:W64n v):(r.set k v).Ok:=by
 obtain ⟨h0,h1,h2,h3,h4,h5,h6,h7,h8,h9,h10,h11,h12,h13,h14⟩:=h
 unfold RgD.set
 cases decide (k=0)<;>cases decide (k=1)<;>cases decide (k=2)<;>cases decide (k=3)<;>cases decide (k=4)<;>(simp only [cond_true,cond_false];constructor<;>assumption)
theorem RgD.get_lt {r:RgD} (h:r.Ok) (k:Int):W64n (r.get k):=by
 obtain ⟨h0,h1,h2,h3,h4,h5,h6,h7,h8,h9,h10,h11,h12,h13,h14⟩:=h
 unfold RgD.get RgD.sysl
 rw [List.getD_eq_getElem?_getD]
 match k.toNat with
 | 0=>exact h9
 | 1=>exact h10
 | 2=>exact h11
 | 3=>exact h12
 | 4=>exact h13
 | 5=>exact h14
 | _ + 6=>show (0:Nat)<_;decide
theorem RgD.trap_ok {r:RgD} (h:r.Ok) {a b:Nat} (ha:W64n a) (hb:W64n b):(r.trap a b).Ok:=by
 obtain ⟨h0,h1,h2,h3,h4,h5,h6,h7,h8,h9,h10,h11,h12,h13,h14⟩:=h
 unfold RgD.trap
 constructor<;>assumption
theorem RgD.back_ok {r:RgD} (h:r.Ok):r.back.Ok:=by
 obtain ⟨h0,h1,h2,h3,h4,h5,h6,h7,h8,h9,h10,h11,h12,h13,h14⟩:=h
 unfold RgD.back
 constructor<;>assumption
theorem uW_lt (z:Int):W64n (uW z):=by
 have h1:=uW_eq z
 have h2:IntKind.u64.wrap z<18446744073709551616:=by
  show z % 18446744073709551616<_
  omega
 unfold W64n
 omega
def waitP (s:PS) (cpu:Nat):PS:={ s with ls:=waitL s.ls cpu }
def PS.due (s:PS) (two:RtD) (i:InD):IvD:=⟨i.imm,two.tag,(getN (s.r.x i.n.toNat) 48 4:Nat),(getN (s.r.x i.n.toNat) 0 12:Nat)⟩
def PS.more (s:PS) (cpu:Nat) (d:IvD):PS:={ s with ls:=s.ls.set cpu ((s.tl cpu).1,(s.tl cpu).2++[d]) }
def forgetP (s:PS) (cpu:Nat) (two:RtD) (i:InD):PS:=
 bif decide ((s.tl cpu).2.length<8) then s.more cpu (s.due two i) else (waitP s cpu).more cpu (s.due two i)
def fetchP (s : PS) (cpu : Nat) (two : RtD) : PS :=
  bif decide (s.r.pc % 4 = 0) then
    (bif (placeP s cpu two s.r.pc 2).1.over then (placeP s cpu two s.r.pc 2).1
     else bif InD.okN (readN s.ws (placeP s cpu two s.r.pc 2).2.toNat 4) then { (placeP s cpu two s.r.pc 2).1 with insn := InD.of (readN s.ws (placeP s cpu two s.r.pc 2).2.toNat 4) }
     else trapP (placeP s cpu two s.r.pc 2).1 33554432 s.r.pc)
  else trapP s 16777216 s.r.pc
def PS.addr (s:PS) (i:InD):Nat:=uW ((s.r.x i.n.toNat:Nat) + i.imm)
def InD.acc (i:InD):Int:=bif decide (i.op=8) then 1 else 0
def moveP (s : PS) (cpu : Nat) (two : RtD) (i : InD) : PS :=
  bif decide (s.addr i % 2 ^ i.m.toNat = 0) then
    (bif (placeP s cpu two (s.addr i) i.acc).1.over then (placeP s cpu two (s.addr i) i.acc).1
     else bif decide (i.op = 8) then { (placeP s cpu two (s.addr i) i.acc).1 with ws := writeL s.ws (placeP s cpu two (s.addr i) i.acc).2.toNat (2 ^ i.m.toNat) (s.r.x i.d.toNat) }
     else { (placeP s cpu two (s.addr i) i.acc).1 with r := s.r.setX i.d.toNat (readN s.ws (placeP s cpu two (s.addr i) i.acc).2.toNat (2 ^ i.m.toNat)) })
  else trapP s 16777216 (s.addr i)
def doP (s:PS) (cpu:Nat) (two:RtD) (i:InD):PS × Option (List Int):=
 bif decide (i.op=7) || decide (i.op=8) then (moveP s cpu two i,some [])
 else bif decide (i.op=9) then (s,some [i.imm])
 else bif decide (i.op=10) then (s,some (bif decide (s.r.x i.n.toNat=0) then [i.imm] else []))
 else bif decide (i.op=11) then ({ s with r:=s.r.setX i.d.toNat (s.r.get i.imm) },some [])
 else bif decide (i.op=12) then ({ s with r:=s.r.set i.imm (s.r.x i.n.toNat) },some [])
 else bif decide (i.op=13) then (forgetP s cpu two i,some [])
 else bif decide (i.op=14) then (waitP s cpu,some [])
 else bif decide (i.op=15) then ({ s with kind:=3 },some [])
 else bif decide (i.op=16) then ({ s with r:=s.r.back },none)
 else ({ s with r:=s.r.setX i.d.toNat (aluI i (s.r.x i.n.toNat) (s.r.x i.m.toNat)).toNat },some [])
def nextP (x:PS × Option (List Int)):PS:=
 bif x.1.over then x.1 else match x.2 with
  | none=>x.1
  | some l=>{ x.1 with r:=x.1.r.next l }
def stepP (s:PS) (cpu:Nat) (two:RtD):PS:=
 bif (fetchP s cpu two).over then fetchP s cpu two else nextP (doP (fetchP s cpu two) cpu two (fetchP s cpu two).insn)
theorem PsOk.trap {s:PS} {cpu:Nat} {two:RtD} (h:PsOk s cpu two) {a b:Nat} (ha:W64n a) (hb:W64n b):PsOk (trapP s a b) cpu two:=⟨h.w64,h.mem,h.cpu,h.len,h.es,h.two,RgD.trap_ok h.r ha hb⟩
theorem PsOk.fault {s:PS} {cpu:Nat} {two:RtD} (h:PsOk s cpu two) (f:FtD) {b:Nat} (hb:W64n b):PsOk (faultP s f b) cpu two:=by
 unfold faultP
 cases decide (f.stage=2) with
 | true=>exact ⟨h.w64,h.mem,h.cpu,h.len,h.es,h.two,h.r⟩
 | false=>exact ⟨h.w64,h.mem,h.cpu,h.len,h.es,h.two,RgD.trap_ok h.r (joinL_lt _ _ _ (by decide)) hb⟩
theorem fault_over (s:PS) (f:FtD) (b:Nat):(faultP s f b).over=true:=by
 unfold faultP
 cases decide (f.stage=2)<;>rfl
theorem fault_seen (s:PS) (f:FtD) (b:Nat):(faultP s f b).seen=s.seen:=by
 unfold faultP
 cases decide (f.stage=2)<;>rfl
theorem PsOk.put {s:PS} {cpu:Nat} {two:RtD} (h:PsOk s cpu two) {X:StR} (hX:EsOk s.ws.length X.s.es (s.tl cpu).2):PsOk (s.put cpu X) cpu two:=by
 refine ⟨h.w64,h.mem,by show cpu<(s.ls.set cpu _).length;rw [List.length_set];exact h.cpu,by show (s.ls.set cpu _).length<_;rw [List.length_set];exact h.len,fun t ht=>?_,h.two,h.r⟩
 rcases List.mem_or_eq_of_mem_set ht with ht | rfl
 ·exact h.es t ht
 ·exact hX
theorem place_cases {s:PS} {cpu:Nat} {two:RtD} (h:PsOk s cpu two) {addr:Nat} (ha:W64n addr) (acc:Int):PsOk (placeP s cpu two addr acc).1 cpu two∧(placeP s cpu two addr acc).1.seen.length≤s.seen.length + 25∧((placeP s cpu two addr acc).1.over=false→(placeP s cpu two addr acc).1.ws=s.ws∧(placeP s cpu two addr acc).1.r=s.r∧(placeP s cpu two addr acc).1.kind=s.kind∧∃ a:Nat,(placeP s cpu two addr acc).2=(a:Int)∧a<8 * s.ws.length∧a % 64=addr % 64):=by
 unfold placeP
 cases hd:decide (addr<262144) with
 | false=>
  simp only [cond_false]
  refine ⟨h.fault _ ha,by rw [fault_seen];omega,fun hv=>?_⟩
  rw [fault_over] at hv;cases hv
 | true=>
  have hd':=of_decide_eq_true hd
  have hAo:=pageA_ok (h.ac hd' acc) h.te
  have hAr:=pageA_r (h.ac hd' acc) h.te
  have hXe:s.acc cpu two addr acc=pageA (s.ac two addr acc) (s.tl cpu).1:=rfl
  rw [← hXe] at hAo hAr
  generalize s.acc cpu two addr acc=X at hAo hAr ⊢
  have hrd:=hAo.rd
  simp only [List.length_nil,Nat.zero_add] at hrd
  have hp:=h.put hAo.es
  have hsl:(s.put cpu X).seen.length≤s.seen.length + 24:=by
   show (s.seen++X.s.rd).length≤_
   rw [List.length_append];omega
  simp only [cond_true]
  cases hc:decide (X.f.kind=0) with
  | false=>
   simp only [cond_false]
   refine ⟨hp.fault _ ha,by rw [fault_seen];omega,fun hv=>?_⟩
   rw [fault_over] at hv;cases hv
  | true=>
   simp only [cond_true]
   refine ⟨⟨hp.w64,hp.mem,hp.cpu,hp.len,hp.es,hp.two,hp.r⟩,?_,fun _=>⟨rfl,rfl,rfl,X.n.toNat * 64 + addr % 64,?_⟩⟩
   ·show ((s.put cpu X).seen++[X.n]).length≤_
    rw [List.length_append,List.length_singleton];omega
   ·have hn:0≤X.n∧X.n.toNat<s.ws.length / 8∧(X.n.toNat:Int)=X.n:=hasF_iff (hAr.n (of_decide_eq_true hc))
    have hm:=memOk_iff h.mem
    refine ⟨by omega,by omega,by omega⟩
theorem pl_ok {s:PS} {cpu:Nat} {two:RtD} (h:PsOk s cpu two) {a addr size:Nat} (ha:a<8 * s.ws.length) (hm:a % 64=addr % 64) (hs:size=1∨size=2∨size=4∨size=8) (hal:addr % size=0):PlOk s.ws a size:=by
 have:=memOk_iff h.mem
 refine ⟨h.w64,by have:=h.mem;simp only [memOk,Bool.and_eq_true,decide_eq_true_eq] at this;omega,by omega,ha,hs,?_⟩
 rcases hs with rfl | rfl | rfl | rfl<;>omega
theorem readN_lt {ws:List Nat} {a size:Nat} (hs:size=1∨size=2∨size=4∨size=8):readN ws a size<2 ^ (8 * size):=by
 have h1:=getN_hi (ws.getD (a / 8) default) (a % 8 * 8) (n:=8 * size) (by omega)
 unfold readN
 rcases hs with rfl | rfl | rfl | rfl<;>(simp only [Nat.reduceMul,Nat.reducePow,Nat.reduceSub] at h1 ⊢;omega)
theorem of_may {v:Nat} (h:InD.okN v=true):(InD.of v).may=true:=by
 have h2:InD.of v=InD.ofN v:=by unfold InD.of;rw [h];rfl
 rw [h2]
 simp only [InD.okN,Bool.and_eq_true] at h
 exact h.1
theorem fetch_ok {s:PS} {cpu:Nat} {two:RtD} (h:PsOk s cpu two):PsOk (fetchP s cpu two) cpu two∧(fetchP s cpu two).seen.length≤s.seen.length + 25∧((fetchP s cpu two).over=false→(fetchP s cpu two).insn.may=true∧(fetchP s cpu two).kind=s.kind):=by
 obtain ⟨h1,h2,h3⟩:=place_cases h h.r.pc 2
 unfold fetchP
 cases hd:decide (s.r.pc % 4=0) with
 | false=>exact ⟨h.trap (by unfold W64n;decide) h.r.pc,(by show s.seen.length≤_;omega),fun hv=>by cases hv⟩
 | true=>
  generalize placeP s cpu two s.r.pc 2=P at h1 h2 h3 ⊢
  simp only [cond_true]
  cases ho:P.1.over with
  | true=>exact ⟨h1,h2,fun hv=>by rw [cond_true,ho] at hv;cases hv⟩
  | false=>
   simp only [cond_false]
   cases hk:InD.okN (readN s.ws P.2.toNat 4) with
   | true=>exact ⟨⟨h1.w64,h1.mem,h1.cpu,h1.len,h1.es,h1.two,h1.r⟩,h2,fun _=>⟨of_may hk,(h3 ho).2.2.1⟩⟩
   | false=>exact ⟨h1.trap (by unfold W64n;decide) h.r.pc,h2,fun hv=>by cases hv⟩
theorem writeL_ok {ws:List Nat} (h:W64 ws) {a size v:Nat}:W64 (writeL ws a size v):=by
 refine h.set ?_ _
 have h1:ws.getD (a / 8) default<18446744073709551616:=h.at _
 unfold putW
 exact Nat.or_lt_two_pow (n:=64) (Nat.lt_of_le_of_lt Nat.and_le_left h1) (Nat.mod_lt _ (by decide))
theorem size_of {i:InD} (hi:i.may=true) (h:i.op=7∨i.op=8):2 ^ i.m.toNat=1∨2 ^ i.m.toNat=2∨2 ^ i.m.toNat=4∨2 ^ i.m.toNat=8:=by
 have h2:i.kind=true:=by
  simp only [InD.may,Bool.and_eq_true] at hi;exact hi.2
 have h3:i.m≤3:=by
  unfold InD.kind at h2
  rcases h with h | h<;>(rw [h] at h2;simpa using h2)
 have h4:i.m.toNat=0∨i.m.toNat=1∨i.m.toNat=2∨i.m.toNat=3:=by omega
 rcases h4 with e | e | e | e<;>rw [e]<;>decide
theorem move_ok {s:PS} {cpu:Nat} {two:RtD} (h:PsOk s cpu two) {i:InD} (hi:i.may=true) (hop:i.op=7∨i.op=8):PsOk (moveP s cpu two i) cpu two∧(moveP s cpu two i).seen.length≤s.seen.length + 25:=by
 have ha:W64n (s.addr i):=uW_lt _
 obtain ⟨h1,h2,h3⟩:=place_cases h ha i.acc
 have hsz:=size_of hi hop
 unfold moveP
 cases hd:decide (s.addr i % 2 ^ i.m.toNat=0) with
 | false=>exact ⟨h.trap (by unfold W64n;decide) ha,by show s.seen.length≤_;omega⟩
 | true=>
  generalize placeP s cpu two (s.addr i) i.acc=P at h1 h2 h3 ⊢
  simp only [cond_true]
  cases ho:P.1.over with
  | true=>exact ⟨h1,h2⟩
  | false=>
   obtain ⟨h4,h5,_,a,h6,h7,h8⟩:=h3 ho
   simp only [cond_false]
   cases decide (i.op=8) with
   | true=>exact ⟨⟨writeL_ok h.w64,by rw [cond_true];show memOk (writeL s.ws _ _ _).length=true;rw [writeL,List.length_set];exact h.mem,h1.cpu,h1.len,by rw [cond_true];show ∀ t∈P.1.ls,EsOk (writeL s.ws _ _ _).length t.1 t.2;rw [writeL,List.length_set,← h4];exact h1.es,h1.two,h1.r⟩,h2⟩
   | false=>exact ⟨⟨h1.w64,h1.mem,h1.cpu,h1.len,h1.es,h1.two,RgD.setX_ok h.r _ (Nat.lt_of_lt_of_le (readN_lt hsz) (by rcases hsz with e | e | e | e<;>rw [e]<;>decide))⟩,h2⟩
theorem applyL_ok {n:Nat} {es:List EnD} {ds ds2 due:List IvD} (h:EsOk n es ds) (hd:ds2.all IvD.may=true) (h8:ds2.length≤8):EsOk n (applyL es due) ds2:=by
 obtain ⟨h1,h2,h3,h4,h5⟩:=tlb_iff.1 h.tlb
 have hsub:(applyL es due).Sublist es:=List.filter_sublist
 exact ⟨tlb_iff.2 ⟨fun e he=>h1 e (hsub.subset he),h2.sublist hsub,hd,Nat.le_trans hsub.length_le h4,h8⟩,fun e he=>h.held e (hsub.subset he)⟩
theorem wait_ok {s:PS} {cpu:Nat} {two:RtD} (h:PsOk s cpu two):PsOk (waitP s cpu) cpu two:=by
 have hl:(waitL s.ls cpu).length=s.ls.length:=by unfold waitL;rw [List.length_set,List.length_map]
 refine ⟨h.w64,h.mem,by show cpu<(waitL s.ls cpu).length;rw [hl];exact h.cpu,by show (waitL s.ls cpu).length<_;rw [hl];exact h.len,fun t ht=>?_,h.two,h.r⟩
 rcases List.mem_or_eq_of_mem_set ht with ht | rfl
 ·obtain ⟨u,hu,rfl⟩:=List.mem_map.1 ht
  have:=tlb_iff.1 (h.es u hu).tlb
  exact applyL_ok (h.es u hu) this.2.2.1 this.2.2.2.2
 ·exact applyL_ok (h.es _ (getD_memP h.cpu)) rfl (by simp)
theorem more_ok {s:PS} {cpu:Nat} {two:RtD} (h:PsOk s cpu two) {d:IvD} (hd:d.may=true) (h8:(s.tl cpu).2.length<8):PsOk (s.more cpu d) cpu two:=by
 refine ⟨h.w64,h.mem,by show cpu<(s.ls.set cpu _).length;rw [List.length_set];exact h.cpu,by show (s.ls.set cpu _).length<_;rw [List.length_set];exact h.len,fun t ht=>?_,h.two,h.r⟩
 rcases List.mem_or_eq_of_mem_set ht with ht | rfl
 ·exact h.es t ht
 ·obtain ⟨h1,h2,h3,h4,h5⟩:=tlb_iff.1 h.te.tlb
  refine ⟨tlb_iff.2 ⟨h1,h2,?_,h4,?_⟩,h.te.held⟩
  ·rw [List.all_append,h3];simp [hd]
  ·rw [List.length_append,List.length_singleton];omega
theorem due_may {s:PS} {cpu:Nat} {two:RtD} (h:PsOk s cpu two) {i:InD} (hi:i.may=true) (hop:i.op=13):(s.due two i).may=true:=by
 have h2:i.kind=true:=by
  simp only [InD.may,Bool.and_eq_true] at hi;exact hi.2
 have h3:PtD.btw i.imm 3 5=true:=by
  unfold InD.kind at h2
  rw [hop] at h2;simpa using h2
 have h4:=RtD.may_iff h.two.2
 have h5:=getN_hi (s.r.x i.n.toNat) 48 (n:=4) (by decide)
 have h6:=getN_hi (s.r.x i.n.toNat) 0 (n:=12) (by decide)
 simp only [PtD.btw,Bool.and_eq_true,decide_eq_true_eq] at h3
 unfold IvD.may PS.due
 simp only [PtD.btw,Bool.and_eq_true,decide_eq_true_eq]
 omega
theorem wait_tl {s:PS} {cpu:Nat} (h:cpu<s.ls.length):(waitP s cpu).tl cpu=(applyL (s.tl cpu).1 (s.tl cpu).2,[]):=by
 unfold PS.tl waitP waitL
 rw [List.getD_eq_getElem?_getD,List.getElem?_set_self (by rw [List.length_map];exact h)]
 rfl
theorem forget_ok {s:PS} {cpu:Nat} {two:RtD} (h:PsOk s cpu two) {i:InD} (hi:i.may=true) (hop:i.op=13):PsOk (forgetP s cpu two i) cpu two:=by
 have hd:=due_may h hi hop
 unfold forgetP
 cases h8:decide ((s.tl cpu).2.length<8) with
 | true=>exact more_ok h hd (of_decide_eq_true h8)
 | false=>exact more_ok (wait_ok h) hd (by rw [wait_tl h.cpu];exact Nat.zero_lt_succ 7)
theorem aluI_lt {i:InD} {n m:Nat} (hn:W64n n) (hm:W64n m):W64n (aluI i n m).toNat:=by
 have hw:∀ z:Int,W64n (IntKind.u64.wrap z).toNat:=uW_lt
 have hmod:∀ z:Int,W64n (z % 18446744073709551616).toNat:=fun z=>by unfold W64n;omega
 unfold aluI
 cases decide (i.op=1) with
 | true=>exact hw _
 | false=>
  cases decide (i.op=2) with
  | true=>exact hmod _
  | false=>
   cases decide (i.op=3) with
   | true=>exact hmod _
   | false=>
    cases decide (i.op=4) with
    | true=>exact Nat.lt_of_le_of_lt Nat.and_le_left hn
    | false=>
     cases decide (i.op=5) with
     | true=>exact Nat.or_lt_two_pow (n:=64) hn hm
     | false=>exact Nat.xor_lt_two_pow (n:=64) hn hm
theorem PsOk.reg {s:PS} {cpu:Nat} {two:RtD} (h:PsOk s cpu two) {r:RgD} (hr:r.Ok):PsOk { s with r:=r } cpu two:=⟨h.w64,h.mem,h.cpu,h.len,h.es,h.two,hr⟩
theorem do_ok {s:PS} {cpu:Nat} {two:RtD} (h:PsOk s cpu two) {i:InD} (hi:i.may=true):PsOk (doP s cpu two i).1 cpu two∧(doP s cpu two i).1.seen.length≤s.seen.length + 25:=by
 unfold doP
 cases h78:(decide (i.op=7) || decide (i.op=8)) with
 | true=>exact move_ok h hi (by simpa using h78)
 | false=>
  cases decide (i.op=9) with
  | true=>exact ⟨h,by show s.seen.length≤_;omega⟩
  | false=>
   cases decide (i.op=10) with
   | true=>exact ⟨h,by show s.seen.length≤_;omega⟩
   | false=>
    cases decide (i.op=11) with
    | true=>exact ⟨h.reg (RgD.setX_ok h.r _ (RgD.get_lt h.r _)),by show s.seen.length≤_;omega⟩
    | false=>
     cases decide (i.op=12) with
     | true=>exact ⟨h.reg (RgD.set_ok h.r _ (RgD.x_lt h.r _)),by show s.seen.length≤_;omega⟩
     | false=>
      cases h13:decide (i.op=13) with
      | true=>exact ⟨forget_ok h hi (of_decide_eq_true h13),by simp only [cond_true,cond_false];unfold forgetP;cases decide ((s.tl cpu).2.length<8)<;>(show s.seen.length≤_;omega)⟩
      | false=>
       cases decide (i.op=14) with
       | true=>exact ⟨wait_ok h,by show s.seen.length≤_;omega⟩
       | false=>
        cases decide (i.op=15) with
        | true=>exact ⟨⟨h.w64,h.mem,h.cpu,h.len,h.es,h.two,h.r⟩,by show s.seen.length≤_;omega⟩
        | false=>
         cases decide (i.op=16) with
         | true=>exact ⟨h.reg (RgD.back_ok h.r),by show s.seen.length≤_;omega⟩
         | false=>exact ⟨h.reg (RgD.setX_ok h.r _ (aluI_lt (RgD.x_lt h.r _) (RgD.x_lt h.r _))),by show s.seen.length≤_;omega⟩
end Go.Proofs.YtndklbjnofdgeaaGreat
namespace Go.Proofs.YtndklbjnofdgeaaGreat
open Go.RowKit
set_option linter.unusedVariables false
set_option linter.unusedSimpArgs false
set_option maxRecDepth 20000
attribute [local irreducible] Hy St Ops DH DHF DE1 DE2 DE3 DS DCh DWF
theorem bif_t {α:Type} {b:Bool} {x y:α} (h:b=true):(bif b then x else y)=x:=by rw [h];rfl
theorem bif_f {α:Type} {b:Bool} {x y:α} (h:b=false):(bif b then x else y)=y:=by rw [h];rfl
def MRet (M cpu:Nat) (two:RtD) (s:PS) (v:Value) (u:Value) (hn:Hp):Prop:=u=v∧∃ L,MOk L s∧HpLe (L.hp M cpu two s) hn
theorem MOk.mem {L:ML} {s:PS} (h:MOk L s):∃ wp wc,L.wv=.slice wp s.ws.length wc∧s.ws.length≤wc:=by
 obtain ⟨wp,wc,e,h2⟩:=h.w.openedC
 rw [List.length_map] at e h2
 exact ⟨wp,wc,e,h2⟩
theorem MOk.trap {L:ML} {s:PS} (h:MOk L s) (a b:Nat):MOk L (trapP s a b):=⟨h.w,h.q,h.l,h.t,h.p⟩
theorem sFetch_e (L:ML) (M cpu:Nat) (two:RtD) (s:PS) (hL:MOk L s) (hs:PsOk s cpu two) (hq:s.seen.length<90000) (hov:s.over=false) {w:World} (hN:HereN (L.hp M cpu two s) w):Fn Tryz.prog 40 [.pointer (some ⟨M,0,none⟩)].toArray w ((L.hp M cpu two s).map (·.b)) (MRet M cpu two (fetchP s cpu two) (.tuple #[])):=by
 obtain ⟨h1,h2,h3⟩:=place_cases hs hs.r.pc 2
 refine enterM (Blk.mk M (mc L.wv L.sv L.lv cpu two s) 82::(L.hl++L.hs++(L.hw++L.ht))) hN Tryz.func40 ?_
 refine run ?_
 refine callM [Blk.mk M (mc L.wv L.sv L.lv cpu two s) 82] (L.hl++L.hs++(L.hw++L.ht)) (fun wc hG=>sAligned_e L.wv L.sv L.lv cpu two s s.r.pc 4 M (by decide) (by decide) hG.hereN) (fun v hn hv=>?_) (.refl _)
 obtain ⟨rfl,hle⟩:=hv
 unfold fetchP
 cases hd:decide (s.r.pc % 4=0) with
 | false=>
  have ha:alignP s s.r.pc 4=trapP s 16777216 s.r.pc:=by unfold alignP;rw [hd];rfl
  rw [ha] at hle
  simp only [cond_false]
  refine runC ?_
  exact fin0 ⟨rfl,L,hL.trap _ _,by unfold ML.hp;(refine hpLe_cnt fun a=>?_;have:=HpLe.cnt hle a;simp only [cntB_app,cntB_cons,cntB_nil] at *;omega)⟩
 | true=>
  have ha:alignP s s.r.pc 4=s:=by unfold alignP;rw [hd];rfl
  rw [ha] at hle
  refine ops_le (Blk.mk M (mc L.wv L.sv L.lv cpu two s) 82::(L.hl++L.hs++(L.hw++L.ht))) (by (refine hpLe_cnt fun a=>?_;have:=HpLe.cnt hle a;simp only [cntB_app,cntB_cons,cntB_nil] at *;omega)) ?_
  refine runC ?_
  refine callM (Blk.mk M (mc L.wv L.sv L.lv cpu two s) 82::(L.hl++L.hs++(L.hw++L.ht))) [] (fun wc hG=>sPlace_e L M cpu two s hL hs (by omega) s.r.pc hs.r.pc 2 rfl hG.hereN) (fun v hn2 hv=>?_) (by (refine perm_cnt fun a=>?_;simp only [cntB_app,cntB_cons,cntB_nil]<;>omega))
  obtain ⟨rfl,L2,hL2,hle2⟩:=hv
  generalize placeP s cpu two s.r.pc 2=P at h1 h2 h3 hL2 hle2 ⊢
  unfold ML.hp at hle2
  refine ops_le (Blk.mk M (mc L2.wv L2.sv L2.lv cpu two P.1) 82::(L2.hl++L2.hs++(L2.hw++L2.ht))) (by (refine hpLe_cnt fun a=>?_;have:=HpLe.cnt hle2 a;simp only [cntB_app,cntB_cons,cntB_nil] at *;omega)) ?_
  simp only [cond_true]
  refine run ?_
  refine st_cond _ rfl (fun hc=>?_) (fun hc=>?_)
  ·rw [bif_t hc]
   refine run ?_
   exact fin0 ⟨rfl,L2,hL2,by unfold ML.hp;(refine hpLe_cnt fun a=>?_;simp only [cntB_app,cntB_cons,cntB_nil]<;>omega)⟩
  rw [bif_f hc]
  obtain ⟨hws,hr,_,a,ha2,hlt,hm⟩:=h3 hc
  have hpl:PlOk P.1.ws a 4:=pl_ok h1 (by rw [hws];exact hlt) hm (.inr (.inr (.inl rfl))) (of_decide_eq_true hd)
  obtain ⟨wp,wc,ew,hwc⟩:=hL2.mem
  have hml:∀ w',Here L2.hw w'→SlAt w' L2.wv 1 (P.1.ws.map uV):=fun w' hw=>hL2.w.lie hw (by have:=memOk_iff h1.mem;rw [List.length_map];omega)
  rw [ew] at hml ⊢
  rw [← hws,← hr,ha2,Int.toNat_natCast]
  have hrl:readN P.1.ws a 4<4294967296:=readN_lt (.inr (.inr (.inl rfl)))
  refine run ?_
  refine callE (fun wc' hG=>mRead_e P.1.ws a 4 hpl (hml wc' (fun e he=>hG.here e (by simp [he])))) ?_
  refine run ?_
  refine op1 (by rfl) (x_conv tb_ok rfl rfl rfl) ?_
  rw [show IntKind.u32.wrap ((readN P.1.ws a 4:Nat):Int)=((readN P.1.ws a 4:Nat):Int) by rw [IntKind.wrap_u32];omega]
  refine run ?_
  refine callE (fun wc' hG=>nOf_e (readN P.1.ws a 4) hrl wc') ?_
  refine run ?_
  intro I
  refine run ?_
  cases hk:InD.okN (readN P.1.ws a 4) with
  | false=>
   simp only [cond_false]
   refine runC ?_
   refine callM [Blk.mk M (mc (.slice wp P.1.ws.length wc) L2.sv L2.lv cpu two P.1) 82] (Blk.mk I #[.int .i64 (InD.of (readN P.1.ws a 4)).op,.int .i64 (InD.of (readN P.1.ws a 4)).d,.int .i64 (InD.of (readN P.1.ws a 4)).n,.int .i64 (InD.of (readN P.1.ws a 4)).m,.int .i64 (InD.of (readN P.1.ws a 4)).imm] 41::(L2.hl++L2.hs++(L2.hw++L2.ht))) (fun wc' hG=>sTrap_e _ L2.sv L2.lv cpu two P.1 33554432 P.1.r.pc M hG.hereN) (fun v hn hv=>?_) (by (refine perm_cnt fun a=>?_;simp only [cntB_app,cntB_cons,cntB_nil]<;>omega))
   obtain ⟨rfl,hle⟩:=hv
   refine run ?_
   exact fin0 ⟨rfl,L2,hL2.trap _ _,by unfold ML.hp;rw [ew];(refine hpLe_cnt fun a=>?_;have:=HpLe.cnt hle a;simp only [cntB_app,cntB_cons,cntB_nil] at *;omega)⟩
  | true=>
   simp only [cond_true]
   refine runC ?_
   refine zCell (mc (.slice wp P.1.ws.length wc) L2.sv L2.lv cpu two { P.1 with insn:=InD.of (readN P.1.ws a 4) }) ?_ (hperm:=p1)
   refine run ?_
   exact fin0 ⟨rfl,L2,⟨hL2.w,hL2.q,hL2.l,hL2.t,hL2.p⟩,by unfold ML.hp;rw [ew];(refine hpLe_cnt fun a=>?_;simp only [cntB_app,cntB_cons,cntB_nil]<;>omega)⟩
end Go.Proofs.YtndklbjnofdgeaaGreat
namespace Go.Proofs.YtndklbjnofdgeaaGreat
open Go.RowKit
set_option linter.unusedVariables false
set_option linter.unusedSimpArgs false
set_option maxRecDepth 20000
attribute [local irreducible] Hy St Ops DH DHF DE1 DE2 DE3 DS DCh DWF
theorem mc_x (wv sv lv:Value) (cpu:Nat) (two:RtD) (s:PS) {k:Nat} (h:k<8):nth (mc wv sv lv cpu two s).toList (15 + k)=some (.int .u64 (s.r.x k:Nat)):=by
 match k,h with
 | 0,_=>rfl | 1,_=>rfl | 2,_=>rfl | 3,_=>rfl | 4,_=>rfl | 5,_=>rfl | 6,_=>rfl | 7,_=>rfl
theorem mc_setX (wv sv lv:Value) (cpu:Nat) (two:RtD) (s:PS) {k:Nat} (h:k<8) (v:Nat):putAt (mc wv sv lv cpu two s) (15 + k) [.int .u64 (v:Nat)]=mc wv sv lv cpu two { s with r:=s.r.setX k v }:=by
 match k,h with
 | 0,_=>rfl | 1,_=>rfl | 2,_=>rfl | 3,_=>rfl | 4,_=>rfl | 5,_=>rfl | 6,_=>rfl | 7,_=>rfl
theorem wrap_addr (x:Nat) (imm:Int):IntKind.u64.wrap ((x:Int) + IntKind.u64.wrap imm)=((uW ((x:Nat) + imm):Nat):Int):=by
 rw [← uW_eq]
 simp only [IntKind.wrap_u64]
 omega
theorem k3 {K:Nat} (h:2 ^ K=1∨2 ^ K=2∨2 ^ K=4∨2 ^ K=8):K≤3:=by
 refine Nat.le_of_not_lt fun h2=>?_
 have:2 ^ 4≤2 ^ K:=Nat.pow_le_pow_right (by decide) h2
 omega
theorem wrap_size {K:Nat} (h:K≤3):IntKind.i64.wrap (1 * 2 ^ (K:Int).toNat)=((2 ^ K:Nat):Int):=by
 match K,h with
 | 0,_=>decide
 | 1,_=>decide
 | 2,_=>decide
 | 3,_=>decide
theorem sMove_e (L:ML) (M cpu:Nat) (two:RtD) (s:PS) (hL:MOk L s) (hs:PsOk s cpu two) (hq:s.seen.length<90000) (hov:s.over=false) (op imm:Int) (D N K:Nat) (hi:(⟨op,D,N,K,imm⟩:InD).may=true) (hop:op=7∨op=8) {w:World} (hN:HereN (L.hp M cpu two s) w):Fn Tryz.prog 73 [.pointer (some ⟨M,0,none⟩),.agg #[.int .i64 op,.int .i64 (D:Nat),.int .i64 (N:Nat),.int .i64 (K:Nat),.int .i64 imm]].toArray w ((L.hp M cpu two s).map (·.b)) (MRet M cpu two (moveP s cpu two ⟨op,D,N,K,imm⟩) (.tuple #[])):=by
 have hb:PtD.btw (D:Int) 0 7=true∧PtD.btw (N:Int) 0 7=true∧PtD.btw (K:Int) 0 7=true:=by
  simp only [InD.may,InD.base,Bool.and_eq_true] at hi
  exact ⟨hi.1.2.1,hi.1.2.2.1,hi.1.2.2.2.1⟩
 obtain ⟨hD,hN',hK⟩:D<8∧N<8∧K<8:=by
  simp only [PtD.btw,Bool.and_eq_true,decide_eq_true_eq] at hb;omega
 have hsz:=size_of hi hop
 have hsz':2 ^ K=1∨2 ^ K=2∨2 ^ K=4∨2 ^ K=8:=hsz
 have hK3:=k3 hsz'
 have hxN:=mc_x L.wv L.sv L.lv cpu two s hN'
 refine enterM (Blk.mk M (mc L.wv L.sv L.lv cpu two s) 82::(L.hl++L.hs++(L.hw++L.ht))) hN Tryz.func73 ?_
 refine run ?_
 intro I
 refine run ?_
 refine drawAll ?_
 refine runD ?_
 refine opD (x_conv tb_ok rfl rfl rfl) ?_
 refine runD ?_
 refine opD (x_shlW rfl rfl (by omega) (by show (K:Int)≤64;omega)) ?_
 rw [wrap_addr,wrap_size hK3]
 rw [show uW ((s.r.x N:Nat) + imm)=s.addr ⟨op,D,N,K,imm⟩ from rfl]
 have ha0:W64n (s.addr ⟨op,D,N,K,imm⟩):=uW_lt _
 unfold moveP
 obtain ⟨Z,hZ⟩:∃ Z,Z=s.addr ⟨op,D,N,K,imm⟩:=⟨_,rfl⟩
 obtain ⟨ac,hac⟩:∃ ac,ac=InD.acc ⟨op,D,N,K,imm⟩:=⟨_,rfl⟩
 have hac2:PtD.btw ac 0 2=true:=by rw [hac];unfold InD.acc;cases decide (op=8)<;>rfl
 rw [← hZ] at ha0 ⊢
 rw [← hac]
 dsimp only [Int.toNat_natCast]
 obtain ⟨h1,h2,h3⟩:=place_cases hs ha0 ac
 refine runD ?_
 refine run ?_
 refine callM [Blk.mk M (mc L.wv L.sv L.lv cpu two s) 82] (Blk.mk I #[.int .i64 op,.int .i64 (D:Nat),.int .i64 (N:Nat),.int .i64 (K:Nat),.int .i64 imm] 41::(L.hl++L.hs++(L.hw++L.ht))) (fun wc hG=>sAligned_e L.wv L.sv L.lv cpu two s Z (2 ^ K) M (by omega) (by omega) hG.hereN) (fun v hn hv=>?_) (by (refine perm_cnt fun a=>?_;simp only [cntB_app,cntB_cons,cntB_nil]<;>omega))
 obtain ⟨rfl,hle⟩:=hv
 cases hd:decide (Z % 2 ^ K=0) with
 | false=>
  have ha:alignP s Z (2 ^ K)=trapP s 16777216 Z:=by unfold alignP;rw [hd];rfl
  rw [ha] at hle
  simp only [cond_false]
  refine runC ?_
  exact fin0 ⟨rfl,L,hL.trap _ _,by unfold ML.hp;(refine hpLe_cnt fun a=>?_;have:=HpLe.cnt hle a;simp only [cntB_app,cntB_cons,cntB_nil] at *;omega)⟩
 | true=>
  have ha:alignP s Z (2 ^ K)=s:=by unfold alignP;rw [hd];rfl
  rw [ha] at hle
  refine ops_le (Blk.mk I #[.int .i64 op,.int .i64 (D:Nat),.int .i64 (N:Nat),.int .i64 (K:Nat),.int .i64 imm] 41::Blk.mk M (mc L.wv L.sv L.lv cpu two s) 82::(L.hl++L.hs++(L.hw++L.ht))) (by (refine hpLe_cnt fun a=>?_;have:=HpLe.cnt hle a;simp only [cntB_app,cntB_cons,cntB_nil] at *;omega)) ?_
  refine runC ?_
  refine st_cutD (σ:=Unit) (fun _=>[(6,.int .i64 ac),(5,.int .i64 (2 ^ K:Nat)),(4,.int .u64 (Z:Nat)),(3,.pointer (some ⟨I,0,none⟩)),(0,.pointer (some ⟨M,0,none⟩))]) (fun _=>Blk.mk I #[.int .i64 op,.int .i64 (D:Nat),.int .i64 (N:Nat),.int .i64 (K:Nat),.int .i64 imm] 41::Blk.mk M (mc L.wv L.sv L.lv cpu two s) 82::(L.hl++L.hs++(L.hw++L.ht))) (fun _=>True) ?_ ?_
  ·refine st_cond _ rfl (fun hc=>?_) (fun hc=>?_)
   ·rw [show ac=1 by rw [hac];unfold InD.acc;rw [hc];rfl]
    refine run ?_
    exact meetS () trivial
   ·rw [show ac=0 by rw [hac];unfold InD.acc;rw [hc];rfl]
    refine run ?_
    exact meetS () trivial
  rintro _ _
  refine run ?_
  refine callM (Blk.mk M (mc L.wv L.sv L.lv cpu two s) 82::(L.hl++L.hs++(L.hw++L.ht))) [Blk.mk I #[.int .i64 op,.int .i64 (D:Nat),.int .i64 (N:Nat),.int .i64 (K:Nat),.int .i64 imm] 41] (fun wc hG=>sPlace_e L M cpu two s hL hs (by omega) Z ha0 ac hac2 hG.hereN) (fun v hn2 hv=>?_) (by (refine perm_cnt fun a=>?_;simp only [cntB_app,cntB_cons,cntB_nil]<;>omega))
  obtain ⟨rfl,L2,hL2,hle2⟩:=hv
  generalize placeP s cpu two Z ac=P at h1 h2 h3 hL2 hle2 ⊢
  unfold ML.hp at hle2
  refine ops_le (Blk.mk I #[.int .i64 op,.int .i64 (D:Nat),.int .i64 (N:Nat),.int .i64 (K:Nat),.int .i64 imm] 41::Blk.mk M (mc L2.wv L2.sv L2.lv cpu two P.1) 82::(L2.hl++L2.hs++(L2.hw++L2.ht))) (by (refine hpLe_cnt fun a=>?_;have:=HpLe.cnt hle2 a;simp only [cntB_app,cntB_cons,cntB_nil] at *;omega)) ?_
  simp only [cond_true]
  refine run ?_
  refine st_cond _ rfl (fun hc=>?_) (fun hc=>?_)
  ·rw [bif_t hc]
   refine run ?_
   exact fin0 ⟨rfl,L2,hL2,by unfold ML.hp;(refine hpLe_cnt fun a=>?_;simp only [cntB_app,cntB_cons,cntB_nil]<;>omega)⟩
  rw [bif_f hc]
  obtain ⟨hws,hr,_,a,ha2,hlt,hm⟩:=h3 hc
  have hpl:PlOk P.1.ws a (2 ^ K):=pl_ok h1 (by rw [hws];exact hlt) hm hsz' (of_decide_eq_true hd)
  obtain ⟨wp,wc,ew,hwc⟩:=hL2.mem
  have hml:∀ w',Here L2.hw w'→SlAt w' L2.wv 1 (P.1.ws.map uV):=fun w' hw=>hL2.w.lie hw (by have:=memOk_iff h1.mem;rw [List.length_map];omega)
  rw [ew] at hml ⊢
  rw [← hws,← hr,ha2,Int.toNat_natCast]
  refine run ?_
  have hxD:=mc_x (.slice wp P.1.ws.length wc) L2.sv L2.lv cpu two P.1 hD
  refine st_cond _ rfl (fun hc8=>?_) (fun hc8=>?_)
  ·rw [bif_t hc8]
   refine run ?_
   refine drawED 20 [0,1,2,3,4,5,6,7,8,9,10,11,12,13,14,15] [16] [17,18,19] [20,21] [22] ?_
   refine runS ?_
   refine eCall (fun wc' hG=>mWrite_e P.1.ws a (2 ^ K) (P.1.r.x D) hpl (RgD.x_lt h1.r D) (hml wc' (fun e he=>hG.here e (by simp [he])))) ?_ ?_
   ·obtain ⟨a1,b1,o1⟩:=own_some (e:=25) (xs:=(writeL P.1.ws a (2 ^ K) (P.1.r.x D)).map uV) (u_all _) (by have:=memOk_iff h1.mem;rw [List.length_map,writeL,List.length_set];omega)
    exact ⟨_,_,a1,b1,rfl,o1,HpLe.refl _⟩
   refine eNil ?_
   rintro u hn ⟨v',h',rfl,g1,hle3⟩
   refine dMove ?_
   refine dExtract ?_
   refine dExtract ?_
   refine dNil ?_
   refine dNilCheck ?_
   refine dField ?_
   refine dNil ?_
   simp only [DN,List.cons_append,List.nil_append,List.append_nil]
   obtain ⟨q1,c1,e1⟩:=g1.opened
   rw [List.length_map] at e1
   subst e1
   refine cCell (b:=M) (tb:=82) (cs:=mc (.slice wp P.1.ws.length wc) L2.sv L2.lv cpu two P.1) (mc (.slice q1 (writeL P.1.ws a (2 ^ K) (P.1.r.x D)).length c1) L2.sv L2.lv cpu two { P.1 with ws:=writeL P.1.ws a (2 ^ K) (P.1.r.x D) }) (hp':=hn++(Blk.mk I #[.int .i64 op,.int .i64 (D:Nat),.int .i64 (N:Nat),.int .i64 (K:Nat),.int .i64 imm] 41::(L2.hl++L2.hs++(L2.hw++L2.ht)))) ?_ (hperm:=by (refine perm_cnt fun a=>?_;simp only [cntB_app,cntB_cons,cntB_nil]<;>omega))
   refine dc_nil ?_
   refine opsC ?_
   refine run ?_
   exact fin0 ⟨rfl,⟨.slice q1 (writeL P.1.ws a (2 ^ K) (P.1.r.x D)).length c1,L2.sv,L2.lv,L2.ts,h',L2.hs,L2.hl,L2.ht⟩,⟨g1,hL2.q,hL2.l,hL2.t,hL2.p⟩,by unfold ML.hp;(refine hpLe_cnt fun a=>?_;have:=HpLe.cnt hle3 a;simp only [cntB_app,cntB_cons,cntB_nil] at *;omega)⟩
  ·rw [bif_f hc8]
   refine run ?_
   refine drawC 19 18 [0,1,2,3,4,5,6,7,8,9,10,11,12,13,14,15,16,17] [18] [] ?_
   refine runZ ?_
   refine sCallA (fun wc' hx hG=>mRead_e P.1.ws a (2 ^ K) hpl (hml wc' (fun e he=>hG.here e (by simp [he])))) ?_
   refine runZ ?_
   refine cCell (b:=M) (tb:=82) (cs:=mc (.slice wp P.1.ws.length wc) L2.sv L2.lv cpu two P.1) (mc (.slice wp P.1.ws.length wc) L2.sv L2.lv cpu two { P.1 with r:=P.1.r.setX D (readN P.1.ws a (2 ^ K)) }) (hp':=Blk.mk I #[.int .i64 op,.int .i64 (D:Nat),.int .i64 (N:Nat),.int .i64 (K:Nat),.int .i64 imm] 41::(L2.hl++L2.hs++(L2.hw++L2.ht))) ?_ (hperm:=by (refine perm_cnt fun a=>?_;simp only [cntB_app,cntB_cons,cntB_nil]<;>omega)) (hput:=mc_setX _ _ _ _ _ _ hD _) (hlt:=Nat.ble_eq_true_of_le (show 15 + D + 1≤42 by omega))
   refine dc_nil ?_
   refine opsC ?_
   refine run ?_
   exact fin0 ⟨rfl,L2,⟨hL2.w,hL2.q,hL2.l,hL2.t,hL2.p⟩,by unfold ML.hp;rw [ew];(refine hpLe_cnt fun a=>?_;simp only [cntB_app,cntB_cons,cntB_nil]<;>omega)⟩
end Go.Proofs.YtndklbjnofdgeaaGreat
namespace Go.Proofs.YtndklbjnofdgeaaGreat
open Go.RowKit
set_option linter.unusedVariables false
set_option linter.unusedSimpArgs false
set_option maxRecDepth 20000
attribute [local irreducible] Hy St Ops DH DHF DE1 DE2 DE3 DS DCh DWF
theorem MOk.tls {L:ML} {s:PS} {cpu:Nat} {two:RtD} (h:MOk L s) (hs:PsOk s cpu two) {w:World} (h1:Here L.hl w) (h2:Here L.ht w):TlAt w L.lv L.ts:=by
 have hlen:L.ts.length=s.ls.length:=by rw [← h.p,List.length_map]
 have:=hs.len
 exact ⟨h.l.lie h1 (by rw [List.length_map];omega),fun t ht=>((h.t.i t ht).1 w h2).1,fun t ht=>((h.t.i t ht).1 w h2).2⟩
theorem MOk.tlbs {L:ML} {s:PS} {cpu:Nat} {two:RtD} (h:MOk L s) (hs:PsOk s cpu two):(∀ t∈L.ts,t.es.length≤t.ec)∧(∀ t∈L.ts,tlbOk t.es t.ds=true):=by
 refine ⟨fun t ht=>(h.t.i t ht).2,fun t ht=>?_⟩
 have hm:t.p∈s.ls:=by rw [← h.p];exact List.mem_map.2 ⟨t,ht,rfl⟩
 exact (hs.es _ hm).tlb
theorem waitO_some {ls:List (List EnD × List IvD)} (hl:ls.length<100000) (h8:∀ t∈ls,t.1.length≤8∧t.2.length≤8):∃ v ha hs,∃ ts:List TlD,Own 77 2 v ha (ts.map tlV)∧TlsW ts hs∧ts.map TlD.p=ls:=by
 obtain ⟨ts,h,h1,h2⟩:=tlsW_some ls h8
 obtain ⟨v,ha,hO⟩:=own_some (e:=77) (sz:=2) (xs:=ts.map tlV) (fun c hc=>by obtain ⟨x,_,rfl⟩:=List.mem_map.1 hc;exact ⟨rfl,rfl⟩) (by rw [List.length_map];have:=congrArg List.length h2;simp at this;omega)
 exact ⟨v,ha,h,ts,hO,h1,h2⟩
theorem sWait_e (L:ML) (M cpu:Nat) (two:RtD) (s:PS) (hL:MOk L s) (hs:PsOk s cpu two) {w:World} (hN:HereN (L.hp M cpu two s) w):Fn Tryz.prog 77 [.pointer (some ⟨M,0,none⟩)].toArray w ((L.hp M cpu two s).map (·.b)) (MRet M cpu two (waitP s cpu) (.tuple #[])):=by
 obtain ⟨htc,hto⟩:=hL.tlbs hs
 have hlen:L.ts.length=s.ls.length:=by rw [← hL.p,List.length_map]
 have hcl:cpu<L.ts.length:=by rw [hlen];exact hs.cpu
 have hll:L.ts.length<100000:=by rw [hlen];exact hs.len
 refine enterM (Blk.mk M (mc L.wv L.sv L.lv cpu two s) 82::(L.hl++L.hs++(L.hw++L.ht))) hN Tryz.func77 ?_
 refine run ?_
 refine drawED 13 [0,1,2,3,4,5,6,7,8] [9] [10,11,12] [13,14] [15] ?_
 refine runS ?_
 refine eCall (fun wc hG=>iWait_e L.ts cpu hcl hll (hL.tls hs (fun e he=>hG.here e (by simp [he])) (fun e he=>hG.here e (by simp [he]))) htc hto) ?_ ?_
 ·rw [hL.p]
  obtain ⟨v,ha,h',ts',h1,h2,h3⟩:=waitO_some (wait_ok hs).len (fun t ht=>by have:=tlb_may ((wait_ok hs).es t ht).tlb;exact this.2)
  exact ⟨_,_,v,ha,h',ts',rfl,h1,h2,h3,HpLe.refl _⟩
 refine eNil ?_
 rintro u hn ⟨v,ha,h',ts',rfl,g1,g2,g3,hle⟩
 refine dMove ?_
 refine dExtract ?_
 refine dExtract ?_
 refine dNil ?_
 refine dNilCheck ?_
 refine dField ?_
 refine dNil ?_
 simp only [DN,List.cons_append,List.nil_append,List.append_nil]
 have hv:=g1.opened
 obtain ⟨q1,c1,e1⟩:=hv
 subst e1
 refine cCell (b:=M) (tb:=82) (cs:=mc L.wv L.sv L.lv cpu two s) (mc L.wv L.sv (.slice q1 (ts'.map tlV).length c1) cpu two (waitP s cpu)) (hp':=hn++(L.hl++L.hs++(L.hw++L.ht))) ?_ (hperm:=by (refine perm_cnt fun a=>?_;simp only [cntB_app,cntB_cons,cntB_nil]<;>omega))
 refine dc_nil ?_
 refine opsC ?_
 refine run ?_
 refine fin0 ⟨rfl,⟨L.wv,L.sv,.slice q1 (ts'.map tlV).length c1,ts',L.hw,L.hs,ha,h'⟩,⟨hL.w,hL.q,g1,g2,?_⟩,by unfold ML.hp;(refine hpLe_cnt fun a=>?_;have:=HpLe.cnt hle a;simp only [cntB_app,cntB_cons,cntB_nil] at *;omega)⟩
 rw [g3,hL.p];rfl
end Go.Proofs.YtndklbjnofdgeaaGreat
namespace Go.Proofs.YtndklbjnofdgeaaGreat
open Go.RowKit
set_option linter.unusedVariables false
set_option linter.unusedSimpArgs false
set_option maxRecDepth 20000
attribute [local irreducible] Hy St Ops DH DHF DE1 DE2 DE3 DS DCh DWF
theorem MOk.row {L:ML} {s:PS} {cpu:Nat} {two:RtD} (h:MOk L s) (hs:PsOk s cpu two):∃ g lc lcur,∃ tc:TlD,L.lv=.slice (some ⟨g,0,none⟩) L.ts.length lc∧L.hl=[⟨g,lcur,77⟩]∧List.take 2 (List.drop (cpu * 2) lcur.toList)=[tc.ev,tc.dv]∧tc.p=s.tl cpu∧TlI L.ht tc∧cpu<L.ts.length∧cpu * 2 + 2≤lcur.size ∧
  ∀ (y:TlD) (he hd:Hp),TlOw y he hd→Own 77 2 (.slice (some ⟨g,0,none⟩) L.ts.length lc) [⟨g,putAt lcur (cpu * 2) [y.ev,y.dv],77⟩] ((L.ts.set cpu y).map tlV)∧TlsW (L.ts.set cpu y) (he++hd++L.ht)∧(L.ts.set cpu y).map TlD.p=s.ls.set cpu y.p:=by
 have hlen:L.ts.length=s.ls.length:=by rw [← h.p,List.length_map]
 have hcl:cpu<L.ts.length:=by rw [hlen];exact hs.cpu
 obtain ⟨g,lc,lcur,e1,e2,hsz,hnth,hput⟩:=h.l.putR hcl
 refine ⟨g,lc,lcur,L.ts.getD cpu default,e1,e2,nth_two (hnth 0 _ rfl) (hnth 1 _ rfl),h.tl cpu,h.t.i _ (getD_mem hcl),hcl,hsz,fun y he hd hty=>⟨hput 0 [y.ev,y.dv] y (by simp) rfl ⟨rfl,rfl⟩,TlsW.set hty cpu h.t,by rw [List.map_set,h.p]⟩⟩
theorem later_some (es:List EnD) (ds:List IvD) (d:IvD) (h1:es.length≤8) (h2:ds.length≤8):∃ r hn v1 h1 v2 h2,r=Value.tuple #[.agg #[v1,v2],.int .i64 0]∧Own 114 14 v1 h1 (es.map enV)∧Own 121 4 v2 h2 ((ds++[d]).map ivV)∧HpLe (h1++h2) hn:=by
 obtain ⟨a1,b1,o1⟩:=own_some (e:=114) (xs:=es.map enV) en_all (by rw [List.length_map];omega)
 obtain ⟨a2,b2,o2⟩:=own_some (e:=121) (xs:=(ds++[d]).map ivV) iv_all (by rw [List.length_map,List.length_append,List.length_singleton];omega)
 exact ⟨_,_,a1,b1,a2,b2,rfl,o1,o2,HpLe.refl _⟩
theorem sForget_e (L:ML) (M cpu:Nat) (two:RtD) (s:PS) (hL:MOk L s) (hs:PsOk s cpu two) (op imm:Int) (D N K:Nat) (hi:(⟨op,D,N,K,imm⟩:InD).may=true) (hop:op=13) {w:World} (hN:HereN (L.hp M cpu two s) w):Fn Tryz.prog 76 [.pointer (some ⟨M,0,none⟩),.agg #[.int .i64 op,.int .i64 (D:Nat),.int .i64 (N:Nat),.int .i64 (K:Nat),.int .i64 imm]].toArray w ((L.hp M cpu two s).map (·.b)) (MRet M cpu two (forgetP s cpu two ⟨op,D,N,K,imm⟩) (.tuple #[])):=by
 have hb:PtD.btw (N:Int) 0 7=true:=by
  simp only [InD.may,InD.base,Bool.and_eq_true] at hi
  exact hi.1.2.2.1
 obtain hN':N<8:=by
  simp only [PtD.btw,Bool.and_eq_true,decide_eq_true_eq] at hb;omega
 have hxN:=mc_x L.wv L.sv L.lv cpu two s hN'
 have hdm:=due_may hs hi hop
 obtain ⟨d,hd⟩:∃ d,d=s.due two ⟨op,D,N,K,imm⟩:=⟨_,rfl⟩
 refine enterM (Blk.mk M (mc L.wv L.sv L.lv cpu two s) 82::(L.hl++L.hs++(L.hw++L.ht))) hN Tryz.func76 ?_
 refine run ?_
 intro I
 refine run ?_
 refine drawAll ?_
 refine runD ?_
 refine run ?_
 have hxl:s.r.x N<18446744073709551616:=RgD.x_lt hs.r N
 have e1:s.r.x N >>> 48 &&& 15=getN (s.r.x N) 48 4:=rfl
 have e2:s.r.x N &&& 4095=getN (s.r.x N) 0 12:=rfl
 have b1:=getN_hi (s.r.x N) 48 (n:=4) (by decide)
 have b2:=getN_hi (s.r.x N) 0 (n:=12) (by decide)
 refine drawEC 17 16 [0,1,2,3,4,5,6,7,8,9,10,11,12,13,14] [15] [16] [] ?_
 refine runZ ?_
 refine ds_a (by rfl) (by decide +kernel) (fun hx=>x_shrN rfl rfl (s.r.x N) 48 rfl rfl (by decide)) ?_
 refine runZ ?_
 refine ds_a (by rfl) (by decide +kernel) (fun hx=>x_andN rfl rfl (s.r.x N >>> 48) 15 rfl rfl (Nat.lt_of_le_of_lt (Nat.shiftRight_le ..) hxl) (by decide)) ?_
 rw [e1]
 generalize hg1:getN (s.r.x N) 48 4=z1 at b1 ⊢
 refine runZ ?_
 refine ds_a (by rfl) (by decide +kernel) (fun hx=>x_andN rfl rfl (s.r.x N) 4095 rfl rfl hxl (by decide)) ?_
 rw [e2]
 generalize hg2:getN (s.r.x N) 0 12=z2 at b2 ⊢
 refine runZ ?_
 refine eAlloc ?_
 refine eNil ?_
 rintro _ _ ⟨Y,rfl,rfl⟩
 simp only [DN,List.cons_append,List.nil_append,List.append_nil]
 have hdv:d=⟨imm,two.tag,(z1:Nat),(z2:Nat)⟩:=by rw [hd,← hg1,← hg2];rfl
 refine cPut (b:=Y) (tb:=121) (cs':=(ivV d).toArray) (hp':=Blk.mk I #[.int .i64 op,.int .i64 (D:Nat),.int .i64 (N:Nat),.int .i64 (K:Nat),.int .i64 imm] 41::Blk.mk M (mc L.wv L.sv L.lv cpu two s) 82::(L.hl++L.hs++(L.hw++L.ht))) ?_ (hput:=by rw [hdv];rfl)
 refine dc_nil ?_
 refine opsC ?_
 refine ops_le (⟨Y,(ivV d).toArray,121⟩::Blk.mk I #[.int .i64 op,.int .i64 (D:Nat),.int .i64 (N:Nat),.int .i64 (K:Nat),.int .i64 imm] 41::Blk.mk M (mc L.wv L.sv L.lv cpu two s) 82::(L.hl++L.hs++(L.hw++L.ht))) (by (refine hpLe_cnt fun a=>?_;simp only [cntB_app,cntB_cons,cntB_nil]<;>omega)) ?_
 refine run ?_
 obtain ⟨g,lc,lcur,tc,e3,e4,hld,htc,hti,hcl,hsz,hput⟩:=hL.row hs
 have h8:=tlb_may hs.te.tlb
 have htE:=hs.te
 rw [← htc] at h8 htE
 unfold forgetP
 rw [← hd]
 cases hdl:decide ((s.tl cpu).2.length<8) with
 | true=>
  have hdl2:decide (tc.ds.length<8)=true:=by rw [← hdl,← htc]
  rw [e3,e4]
  simp only [cond_true,List.cons_append,List.nil_append]
  refine drawED 16 [0,1,2,3,4,5,6,7,8,9,10] [11,15] [12,13,14] [17] [16] ?_
  refine runS ?_
  have hla:∀ wc,Here L.ht wc→_:=fun wc hh=>tLater_e tc.es tc.ds d tc.ev tc.dv (hti.1 wc hh).1 (hti.1 wc hh).2 ⟨_,_,rfl,hti.2⟩ htE.tlb (by rw [hd];exact hdm)
  simp only [hdl2,cond_true] at hla
  refine eCall (fun wc hG=>hla wc (fun e he=>hG.here e (by simp [he]))) (later_some tc.es tc.ds d h8.2.1 h8.2.2) ?_
  refine eAlloc ?_
  refine eNil ?_
  rintro _ _ ⟨T,rfl,rfl⟩ u hn ⟨v1,h1,v2,h2,rfl,g1,g2,hle⟩
  obtain ⟨q1,c1,x1⟩:=g1.opened
  obtain ⟨q2,c2,x2⟩:=g2.opened
  rw [List.length_map] at x1 x2
  subst x1 x2
  refine dMove ?_
  refine dExtract ?_
  refine dExtract ?_
  refine dNil ?_
  refine dAssign ?_
  refine dNil ?_
  simp only [DN,List.cons_append,List.nil_append,List.append_nil]
  refine cPut (b:=T) (tb:=77) (cs:=#[.slice none 0 0,.slice none 0 0]) (cs':=#[.slice q1 tc.es.length c1,.slice q2 (tc.ds++[d]).length c2]) (hp':=hn++(⟨Y,(ivV d).toArray,121⟩::Blk.mk I #[.int .i64 op,.int .i64 (D:Nat),.int .i64 (N:Nat),.int .i64 (K:Nat),.int .i64 imm] 41::Blk.mk M (mc L.wv L.sv (.slice (some ⟨g,0,none⟩) L.ts.length lc) cpu two s) 82::Blk.mk g lcur 77::(L.hs++(L.hw++L.ht)))) ?_ (hput:=rfl) (hperm:=by (refine perm_cnt fun a=>?_;simp only [cntB_app,cntB_cons,cntB_nil]<;>omega))
  refine dc_nil ?_
  refine opsC ?_
  refine ops_le (Blk.mk M (mc L.wv L.sv (.slice (some ⟨g,0,none⟩) L.ts.length lc) cpu two s) 82::Blk.mk g lcur 77::⟨T,#[.slice q1 tc.es.length c1,.slice q2 (tc.ds++[d]).length c2],77⟩::((h1++h2)++(L.hs++(L.hw++L.ht)))) (by (refine hpLe_cnt fun a=>?_;have:=HpLe.cnt hle a;simp only [cntB_app,cntB_cons,cntB_nil] at *;omega)) ?_
  refine runC ?_
  refine drawN 10 ?_
  refine runD ?_
  refine run ?_
  obtain ⟨p1',p2',p3'⟩:=hput ⟨tc.es,tc.ds++[d],q1,c1,q2,c2⟩ h1 h2 ⟨g1,g2,h8.2.1,by show (tc.ds++[d]).length≤8;rw [List.length_append,List.length_singleton];have:=of_decide_eq_true hdl2;omega⟩
  refine fin0 ⟨rfl,⟨L.wv,L.sv,.slice (some ⟨g,0,none⟩) L.ts.length lc,L.ts.set cpu ⟨tc.es,tc.ds++[d],q1,c1,q2,c2⟩,L.hw,L.hs,[⟨g,putAt lcur (cpu * 2) [.slice q1 tc.es.length c1,.slice q2 (tc.ds++[d]).length c2],77⟩],h1++h2++L.ht⟩,⟨hL.w,hL.q,p1',p2',?_⟩,by unfold ML.hp;dsimp only;rw [show mc L.wv L.sv (.slice (some ⟨g,0,none⟩) L.ts.length lc) cpu two (s.more cpu d)=mc L.wv L.sv (.slice (some ⟨g,0,none⟩) L.ts.length lc) cpu two s from rfl];simp only [putAt];(refine hpLe_cnt fun a=>?_;simp only [cntB_app,cntB_cons,cntB_nil]<;>omega)⟩
  dsimp only
  rw [p3',PS.more,← htc]
 | false=>
  have hdl2:decide (tc.ds.length<8)=false:=by rw [← hdl,← htc]
  rw [e3,e4]
  simp only [cond_false,List.cons_append,List.nil_append]
  refine drawED 16 [0,1,2,3,4,5,6,7,8,9,10] [11,15] [12,13,14] [17] [16] ?_
  refine runS ?_
  have hla:∀ wc,Here L.ht wc→_:=fun wc hh=>tLater_e tc.es tc.ds d tc.ev tc.dv (hti.1 wc hh).1 (hti.1 wc hh).2 ⟨_,_,rfl,hti.2⟩ htE.tlb (by rw [hd];exact hdm)
  simp only [hdl2,cond_false] at hla
  refine eCall (fun wc hG=>hla wc (fun e he=>hG.here e (by simp [he]))) ⟨_,[],rfl⟩ ?_
  refine eAlloc ?_
  refine eNil ?_
  rintro _ _ ⟨T,rfl,rfl⟩ u hn rfl
  refine dMove ?_
  refine dExtract ?_
  refine dExtract ?_
  refine dNil ?_
  refine dAssign ?_
  refine dNil ?_
  simp only [DN,List.cons_append,List.nil_append,List.append_nil]
  refine cPut (b:=T) (tb:=77) (cs:=#[.slice none 0 0,.slice none 0 0]) (cs':=#[.slice none 0 0,.slice none 0 0]) (hp':=hn++(⟨Y,(ivV d).toArray,121⟩::Blk.mk I #[.int .i64 op,.int .i64 (D:Nat),.int .i64 (N:Nat),.int .i64 (K:Nat),.int .i64 imm] 41::Blk.mk M (mc L.wv L.sv (.slice (some ⟨g,0,none⟩) L.ts.length lc) cpu two s) 82::Blk.mk g lcur 77::(L.hs++(L.hw++L.ht)))) ?_ (hput:=rfl) (hperm:=by (refine perm_cnt fun a=>?_;simp only [cntB_app,cntB_cons,cntB_nil]<;>omega))
  refine dc_nil ?_
  refine opsC ?_
  rw [← e3]
  refine ops_le (⟨T,#[.slice none 0 0,.slice none 0 0],77⟩::⟨Y,(ivV d).toArray,121⟩::Blk.mk M (mc L.wv L.sv L.lv cpu two s) 82::(L.hl++L.hs++(L.hw++L.ht))) (by rw [e4];(refine hpLe_cnt fun a=>?_;simp only [cntB_app,cntB_cons,cntB_nil]<;>omega)) ?_
  refine runC ?_
  refine callM (Blk.mk M (mc L.wv L.sv L.lv cpu two s) 82::(L.hl++L.hs++(L.hw++L.ht))) [⟨T,#[.slice none 0 0,.slice none 0 0],77⟩,⟨Y,(ivV d).toArray,121⟩] (fun wc hG=>sWait_e L M cpu two s hL hs hG.hereN) (fun v hn2 hv=>?_) (by (refine perm_cnt fun a=>?_;simp only [cntB_app,cntB_cons,cntB_nil]<;>omega))
  obtain ⟨rfl,L2,hL2,hle2⟩:=hv
  have hs2:=wait_ok hs
  have hwt:=wait_tl hs.cpu
  generalize waitP s cpu=s2 at hL2 hle2 hs2 hwt ⊢
  obtain ⟨g2,lc2,lcur2,tc2,e5,e6,hld2,htc2,hti2,hcl2,hsz2,hput2⟩:=hL2.row hs2
  have h82:=tlb_may hs2.te.tlb
  have htE2:=hs2.te
  rw [← htc2] at h82 htE2 hwt
  unfold ML.hp at hle2
  rw [e5,e6] at hle2
  have hd0:tc2.ds=[]:=congrArg Prod.snd hwt
  refine ops_le (⟨T,#[.slice none 0 0,.slice none 0 0],77⟩::⟨Y,(ivV d).toArray,121⟩::Blk.mk M (mc L2.wv L2.sv (.slice (some ⟨g2,0,none⟩) L2.ts.length lc2) cpu two s2) 82::Blk.mk g2 lcur2 77::(L2.hs++(L2.hw++L2.ht))) (by (refine hpLe_cnt fun a=>?_;have:=HpLe.cnt hle2 a;simp only [cntB_app,cntB_cons,cntB_nil] at *;omega)) ?_
  refine run ?_
  refine drawED 15 [0,1,2,3,4,5,6,7,8,9,10] [11] [12,13,14] [] [15] ?_
  refine runS ?_
  have hla2:∀ wc,Here L2.ht wc→_:=fun wc hh=>tLater_e tc2.es tc2.ds d tc2.ev tc2.dv (hti2.1 wc hh).1 (hti2.1 wc hh).2 ⟨_,_,rfl,hti2.2⟩ htE2.tlb (by rw [hd];exact hdm)
  simp only [show decide (tc2.ds.length<8)=true by rw [hd0];rfl,cond_true] at hla2
  refine eCall (fun wc hG=>hla2 wc (fun e he=>hG.here e (by simp [he]))) (later_some tc2.es tc2.ds d h82.2.1 h82.2.2) ?_
  refine eNil ?_
  rintro u hn3 ⟨v1,h1,v2,h2,rfl,g3,g4,hle3⟩
  obtain ⟨q1,c1,x1⟩:=g3.opened
  obtain ⟨q2,c2,x2⟩:=g4.opened
  rw [List.length_map] at x1 x2
  subst x1 x2
  refine dMove ?_
  refine dExtract ?_
  refine dExtract ?_
  refine dNil ?_
  refine dNil ?_
  simp only [DN,List.cons_append,List.nil_append,List.append_nil]
  refine cPut (b:=T) (tb:=77) (cs:=#[.slice none 0 0,.slice none 0 0]) (cs':=#[.slice q1 tc2.es.length c1,.slice q2 (tc2.ds++[d]).length c2]) (hp':=hn3++(⟨Y,(ivV d).toArray,121⟩::Blk.mk M (mc L2.wv L2.sv (.slice (some ⟨g2,0,none⟩) L2.ts.length lc2) cpu two s2) 82::Blk.mk g2 lcur2 77::(L2.hs++(L2.hw++L2.ht)))) ?_ (hput:=rfl) (hperm:=by (refine perm_cnt fun a=>?_;simp only [cntB_app,cntB_cons,cntB_nil]<;>omega))
  refine dc_nil ?_
  refine opsC ?_
  refine ops_le (Blk.mk M (mc L2.wv L2.sv (.slice (some ⟨g2,0,none⟩) L2.ts.length lc2) cpu two s2) 82::Blk.mk g2 lcur2 77::⟨T,#[.slice q1 tc2.es.length c1,.slice q2 (tc2.ds++[d]).length c2],77⟩::((h1++h2)++(L2.hs++(L2.hw++L2.ht)))) (by (refine hpLe_cnt fun a=>?_;have:=HpLe.cnt hle3 a;simp only [cntB_app,cntB_cons,cntB_nil] at *;omega)) ?_
  refine runC ?_
  refine drawN 10 ?_
  refine runD ?_
  refine run ?_
  obtain ⟨p1',p2',p3'⟩:=hput2 ⟨tc2.es,tc2.ds++[d],q1,c1,q2,c2⟩ h1 h2 ⟨g3,g4,h82.2.1,by show (tc2.ds++[d]).length≤8;rw [List.length_append,List.length_singleton,hd0];decide⟩
  refine fin0 ⟨rfl,⟨L2.wv,L2.sv,.slice (some ⟨g2,0,none⟩) L2.ts.length lc2,L2.ts.set cpu ⟨tc2.es,tc2.ds++[d],q1,c1,q2,c2⟩,L2.hw,L2.hs,[⟨g2,putAt lcur2 (cpu * 2) [.slice q1 tc2.es.length c1,.slice q2 (tc2.ds++[d]).length c2],77⟩],h1++h2++L2.ht⟩,⟨hL2.w,hL2.q,p1',p2',?_⟩,by unfold ML.hp;dsimp only;rw [show mc L2.wv L2.sv (.slice (some ⟨g2,0,none⟩) L2.ts.length lc2) cpu two (s2.more cpu d)=mc L2.wv L2.sv (.slice (some ⟨g2,0,none⟩) L2.ts.length lc2) cpu two s2 from rfl];simp only [putAt];(refine hpLe_cnt fun a=>?_;simp only [cntB_app,cntB_cons,cntB_nil]<;>omega)⟩
  dsimp only
  rw [p3',PS.more,← htc2]
end Go.Proofs.YtndklbjnofdgeaaGreat
namespace Go.Proofs.YtndklbjnofdgeaaGreat
open Go.RowKit
set_option linter.unusedVariables false
set_option linter.unusedSimpArgs false
set_option maxRecDepth 20000
attribute [local irreducible] Hy St Ops DH DHF DE1 DE2 DE3 DS DCh DWF
def DRet (M cpu:Nat) (two:RtD) (x:PS × Option (List Int)) (u:Value) (hn:Hp):Prop:=∃ (v:Value) (ha:Hp) (L:ML),u=.tuple #[v,.bool x.2.isNone]∧Own 3 1 v ha ((x.2.getD []).map inV)∧MOk L x.1∧HpLe (L.hp M cpu two x.1++ha) hn
theorem own_int1 (b:Nat) (x:Int):Own 3 1 (.slice (some ⟨b,0,none⟩) 1 1) [⟨b,#[.int .i64 x],3⟩] ([x].map inV):=
 own_row b 1 _ (by rfl) rfl in_all (by simp) (by simp) (by unfold maxLen;omega)
theorem aluI_nn {i:InD} {n m:Nat}:∃ A:Nat,aluI i n m=(A:Int):=by
 have hmod:∀ z:Int,∃ A:Nat,z % 18446744073709551616=(A:Int):=fun z=>⟨(z % 18446744073709551616).toNat,by omega⟩
 unfold aluI
 cases decide (i.op=1) with
 | true=>exact ⟨_,uW_eq _⟩
 | false=>
  cases decide (i.op=2) with
  | true=>exact hmod _
  | false=>
   cases decide (i.op=3) with
   | true=>exact hmod _
   | false=>
    cases decide (i.op=4) with
    | true=>exact ⟨_,rfl⟩
    | false=>
     cases decide (i.op=5) with
     | true=>exact ⟨_,rfl⟩
     | false=>exact ⟨_,rfl⟩
theorem sDo_e (L:ML) (M cpu:Nat) (two:RtD) (s:PS) (hL:MOk L s) (hs:PsOk s cpu two) (hq:s.seen.length<90000) (hov:s.over=false) (op imm:Int) (D N K:Nat) (hi:(⟨op,D,N,K,imm⟩:InD).may=true) {w:World} (hN:HereN (L.hp M cpu two s) w):Fn Tryz.prog 41 [.pointer (some ⟨M,0,none⟩),.agg #[.int .i64 op,.int .i64 (D:Nat),.int .i64 (N:Nat),.int .i64 (K:Nat),.int .i64 imm]].toArray w ((L.hp M cpu two s).map (·.b)) (DRet M cpu two (doP s cpu two ⟨op,D,N,K,imm⟩)):=by
 have hb:PtD.btw op 1 16=true∧PtD.btw (D:Int) 0 7=true∧PtD.btw (N:Int) 0 7=true∧PtD.btw (K:Int) 0 7=true:=by
  simp only [InD.may,InD.base,Bool.and_eq_true] at hi
  exact ⟨hi.1.1,hi.1.2.1,hi.1.2.2.1,hi.1.2.2.2.1⟩
 obtain ⟨hop,hD,hN',hK⟩:(1≤op∧op≤16)∧D<8∧N<8∧K<8:=by
  simp only [PtD.btw,Bool.and_eq_true,decide_eq_true_eq] at hb;omega
 have hxN:=mc_x L.wv L.sv L.lv cpu two s hN'
 have hxK:=mc_x L.wv L.sv L.lv cpu two s hK
 refine enterM (Blk.mk M (mc L.wv L.sv L.lv cpu two s) 82::(L.hl++L.hs++(L.hw++L.ht))) hN Tryz.func41 ?_
 refine run ?_
 intro I
 refine run ?_
 have hcs:(op=7∨op=8)∨op=9∨op=10∨op=11∨op=12∨op=13∨op=14∨op=15∨op=16∨op≤6:=by omega
 rcases hcs with h78 | rfl | rfl | rfl | rfl | rfl | rfl | rfl | rfl | h6
 ·have hm:=fun wc (hG:HereN (L.hp M cpu two s) wc)=>sMove_e L M cpu two s hL hs hq hov op imm D N K hi h78 hG
  have hdo:doP s cpu two ⟨op,D,N,K,imm⟩=(moveP s cpu two ⟨op,D,N,K,imm⟩,some []):=by
   unfold doP
   rcases h78 with rfl | rfl<;>rfl
  rw [hdo]
  rcases h78 with rfl | rfl
  ·refine runC ?_
   refine callM (Blk.mk M (mc L.wv L.sv L.lv cpu two s) 82::(L.hl++L.hs++(L.hw++L.ht))) [Blk.mk I #[.int .i64 7,.int .i64 (D:Nat),.int .i64 (N:Nat),.int .i64 (K:Nat),.int .i64 imm] 41] (fun wc hG=>hm wc hG.hereN) (fun v hn hv=>?_) (by (refine perm_cnt fun a=>?_;simp only [cntB_app,cntB_cons,cntB_nil]<;>omega))
   obtain ⟨rfl,L2,hL2,hle⟩:=hv
   refine run ?_
   exact fin2 ⟨_,_,L2,rfl,Own.nil _ _,hL2,by (refine hpLe_cnt fun a=>?_;have:=HpLe.cnt hle a;simp only [cntB_app,cntB_cons,cntB_nil] at *;omega)⟩
  ·refine runC ?_
   refine callM (Blk.mk M (mc L.wv L.sv L.lv cpu two s) 82::(L.hl++L.hs++(L.hw++L.ht))) [Blk.mk I #[.int .i64 8,.int .i64 (D:Nat),.int .i64 (N:Nat),.int .i64 (K:Nat),.int .i64 imm] 41] (fun wc hG=>hm wc hG.hereN) (fun v hn hv=>?_) (by (refine perm_cnt fun a=>?_;simp only [cntB_app,cntB_cons,cntB_nil]<;>omega))
   obtain ⟨rfl,L2,hL2,hle⟩:=hv
   refine run ?_
   exact fin2 ⟨_,_,L2,rfl,Own.nil _ _,hL2,by (refine hpLe_cnt fun a=>?_;have:=HpLe.cnt hle a;simp only [cntB_app,cntB_cons,cntB_nil] at *;omega)⟩
 ·rw [show doP s cpu two ⟨9,D,N,K,imm⟩=(s,some [imm]) from rfl]
  refine runC ?_
  intro B
  exact fin2 ⟨_,_,L,rfl,own_int1 B imm,hL,by unfold ML.hp;(refine hpLe_cnt fun a=>?_;simp only [cntB_app,cntB_cons,cntB_nil]<;>omega)⟩
 ·refine runC ?_
  refine drawAll ?_
  refine runD ?_
  refine run ?_
  refine st_cond _ rfl (fun hc=>?_) (fun hc=>?_)
  ·have h0:decide (s.r.x N=0)=true:=by simpa using hc
   rw [show doP s cpu two ⟨10,D,N,K,imm⟩=(s,some (bif decide (s.r.x N=0) then [imm] else [])) from rfl,h0]
   refine run ?_
   intro B
   exact fin2 ⟨_,_,L,rfl,own_int1 B imm,hL,by unfold ML.hp;(refine hpLe_cnt fun a=>?_;simp only [cntB_app,cntB_cons,cntB_nil]<;>omega)⟩
  ·have h0:decide (s.r.x N=0)=false:=by simpa using hc
   rw [show doP s cpu two ⟨10,D,N,K,imm⟩=(s,some (bif decide (s.r.x N=0) then [imm] else [])) from rfl,h0]
   refine run ?_
   exact fin2 ⟨_,_,L,rfl,Own.nil _ _,hL,by unfold ML.hp;(refine hpLe_cnt fun a=>?_;simp only [cntB_app,cntB_cons,cntB_nil]<;>omega)⟩
 ·have hk:sysOk imm=true:=by
   have:=hi
   simp only [InD.may,Bool.and_eq_true] at this
   exact this.2
  rw [show doP s cpu two ⟨11,D,N,K,imm⟩=({ s with r:=s.r.setX D (s.r.get imm) },some []) from rfl]
  refine runC ?_
  refine drawC 20 19 [0,1,2,3,4,5,6,7,8,9,10,11,12,13,14,15,16,17,18] [19] [] ?_
  refine runZ ?_
  rw [show (List.take 15 (List.drop 15 (mc L.wv L.sv L.lv cpu two s).toList)).toArray=(rgV s.r).toArray from rfl]
  refine sCallA (fun wc hx hG=>rGet13_e s.r imm wc) ?_
  rw [hk]
  refine runZ ?_
  refine cCell (b:=M) (tb:=82) (cs:=mc L.wv L.sv L.lv cpu two s) (mc L.wv L.sv L.lv cpu two { s with r:=s.r.setX D (s.r.get imm) }) (hp':=Blk.mk I #[.int .i64 11,.int .i64 (D:Nat),.int .i64 (N:Nat),.int .i64 (K:Nat),.int .i64 imm] 41::(L.hl++L.hs++(L.hw++L.ht))) ?_ (hperm:=by (refine perm_cnt fun a=>?_;simp only [cntB_app,cntB_cons,cntB_nil]<;>omega)) (hput:=mc_setX _ _ _ _ _ _ hD _) (hlt:=Nat.ble_eq_true_of_le (show 15 + D + 1≤42 by omega))
  refine dc_nil ?_
  refine opsC ?_
  refine run ?_
  exact fin2 ⟨_,_,L,rfl,Own.nil _ _,⟨hL.w,hL.q,hL.l,hL.t,hL.p⟩,by unfold ML.hp;(refine hpLe_cnt fun a=>?_;simp only [cntB_app,cntB_cons,cntB_nil]<;>omega)⟩
 ·have hk:sysOk imm=true:=by
   have:=hi
   simp only [InD.may,Bool.and_eq_true] at this
   exact this.2
  rw [show doP s cpu two ⟨12,D,N,K,imm⟩=({ s with r:=s.r.set imm (s.r.x N) },some []) from rfl]
  refine runC ?_
  refine drawC 25 24 [0,1,2,3,4,5,6,7,8,9,10,11,12,13,14,15,16,17,18,19,20,21,22,23] [24] [] ?_
  refine runZ ?_
  rw [show (List.take 15 (List.drop 15 (mc L.wv L.sv L.lv cpu two s).toList)).toArray=(rgV s.r).toArray from rfl]
  refine sCallA (fun wc hx hG=>rSet13_e s.r imm (s.r.x N) wc) ?_
  rw [hk]
  refine runZ ?_
  refine cCell (b:=M) (tb:=82) (cs:=mc L.wv L.sv L.lv cpu two s) (mc L.wv L.sv L.lv cpu two { s with r:=s.r.set imm (s.r.x N) }) (hp':=Blk.mk I #[.int .i64 12,.int .i64 (D:Nat),.int .i64 (N:Nat),.int .i64 (K:Nat),.int .i64 imm] 41::(L.hl++L.hs++(L.hw++L.ht))) ?_ (hperm:=by (refine perm_cnt fun a=>?_;simp only [cntB_app,cntB_cons,cntB_nil]<;>omega))
  refine dc_nil ?_
  refine opsC ?_
  refine run ?_
  exact fin2 ⟨_,_,L,rfl,Own.nil _ _,⟨hL.w,hL.q,hL.l,hL.t,hL.p⟩,by unfold ML.hp;(refine hpLe_cnt fun a=>?_;simp only [cntB_app,cntB_cons,cntB_nil]<;>omega)⟩
 ·rw [show doP s cpu two ⟨13,D,N,K,imm⟩=(forgetP s cpu two ⟨13,D,N,K,imm⟩,some []) from rfl]
  refine runC ?_
  refine callM (Blk.mk M (mc L.wv L.sv L.lv cpu two s) 82::(L.hl++L.hs++(L.hw++L.ht))) [Blk.mk I #[.int .i64 13,.int .i64 (D:Nat),.int .i64 (N:Nat),.int .i64 (K:Nat),.int .i64 imm] 41] (fun wc hG=>sForget_e L M cpu two s hL hs 13 imm D N K hi rfl hG.hereN) (fun v hn hv=>?_) (by (refine perm_cnt fun a=>?_;simp only [cntB_app,cntB_cons,cntB_nil]<;>omega))
  obtain ⟨rfl,L2,hL2,hle⟩:=hv
  refine run ?_
  exact fin2 ⟨_,_,L2,rfl,Own.nil _ _,hL2,by (refine hpLe_cnt fun a=>?_;have:=HpLe.cnt hle a;simp only [cntB_app,cntB_cons,cntB_nil] at *;omega)⟩
 ·rw [show doP s cpu two ⟨14,D,N,K,imm⟩=(waitP s cpu,some []) from rfl]
  refine runC ?_
  refine callM (Blk.mk M (mc L.wv L.sv L.lv cpu two s) 82::(L.hl++L.hs++(L.hw++L.ht))) [Blk.mk I #[.int .i64 14,.int .i64 (D:Nat),.int .i64 (N:Nat),.int .i64 (K:Nat),.int .i64 imm] 41] (fun wc hG=>sWait_e L M cpu two s hL hs hG.hereN) (fun v hn hv=>?_) (by (refine perm_cnt fun a=>?_;simp only [cntB_app,cntB_cons,cntB_nil]<;>omega))
  obtain ⟨rfl,L2,hL2,hle⟩:=hv
  refine run ?_
  exact fin2 ⟨_,_,L2,rfl,Own.nil _ _,hL2,by (refine hpLe_cnt fun a=>?_;have:=HpLe.cnt hle a;simp only [cntB_app,cntB_cons,cntB_nil] at *;omega)⟩
 ·rw [show doP s cpu two ⟨15,D,N,K,imm⟩=({ s with kind:=3 },some []) from rfl]
  refine runC ?_
  refine zCell (mc L.wv L.sv L.lv cpu two { s with kind:=3 }) ?_ (hperm:=p1)
  refine run ?_
  exact fin2 ⟨_,_,L,rfl,Own.nil _ _,⟨hL.w,hL.q,hL.l,hL.t,hL.p⟩,by unfold ML.hp;(refine hpLe_cnt fun a=>?_;simp only [cntB_app,cntB_cons,cntB_nil]<;>omega)⟩
 ·rw [show doP s cpu two ⟨16,D,N,K,imm⟩=({ s with r:=s.r.back },none) from rfl]
  refine runC ?_
  rw [show (List.take 15 (List.drop 15 (mc L.wv L.sv L.lv cpu two s).toList)).toArray=(rgV s.r).toArray from rfl]
  refine callE (fun wc hG=>rBack_e s.r wc) ?_
  refine run ?_
  refine zCell (mc L.wv L.sv L.lv cpu two { s with r:=s.r.back }) ?_ (hperm:=p1)
  refine run ?_
  exact fin2 ⟨_,_,L,rfl,Own.nil _ _,⟨hL.w,hL.q,hL.l,hL.t,hL.p⟩,by unfold ML.hp;(refine hpLe_cnt fun a=>?_;simp only [cntB_app,cntB_cons,cntB_nil]<;>omega)⟩
 ·have hdo:doP s cpu two ⟨op,D,N,K,imm⟩=({ s with r:=s.r.setX D (aluI ⟨op,D,N,K,imm⟩ (s.r.x N) (s.r.x K)).toNat },some []):=by
   unfold doP
   rw [decide_eq_false (show ¬ op=7 by omega),decide_eq_false (show ¬ op=8 by omega),decide_eq_false (show ¬ op=9 by omega),decide_eq_false (show ¬ op=10 by omega),decide_eq_false (show ¬ op=11 by omega),decide_eq_false (show ¬ op=12 by omega),decide_eq_false (show ¬ op=13 by omega),decide_eq_false (show ¬ op=14 by omega),decide_eq_false (show ¬ op=15 by omega),decide_eq_false (show ¬ op=16 by omega)]
   rfl
  rw [hdo]
  rw [decide_eq_false (show ¬ op=7 by omega)];refine runC ?_
  rw [decide_eq_false (show ¬ op=8 by omega)];refine runC ?_
  rw [decide_eq_false (show ¬ op=9 by omega)];refine runC ?_
  rw [decide_eq_false (show ¬ op=10 by omega)];refine runC ?_
  rw [decide_eq_false (show ¬ op=11 by omega)];refine runC ?_
  rw [decide_eq_false (show ¬ op=12 by omega)];refine runC ?_
  rw [decide_eq_false (show ¬ op=13 by omega)];refine runC ?_
  rw [decide_eq_false (show ¬ op=14 by omega)];refine runC ?_
  rw [decide_eq_false (show ¬ op=15 by omega)];refine runC ?_
  rw [decide_eq_false (show ¬ op=16 by omega)];refine runC ?_
  obtain ⟨A,hA⟩:=aluI_nn (i:=⟨op,D,N,K,imm⟩) (n:=s.r.x N) (m:=s.r.x K)
  refine drawC 32 31 [0,1,2,3,4,5,6,7,8,9,10,11,12,13,14,15,16,17,18,19,20,21,22,23,24,25,26,27,28,29,30] [31] [] ?_
  refine runZ ?_
  refine sCallA (fun wc hx hG=>aDo_e ⟨op,D,N,K,imm⟩ hi h6 (s.r.x N) (s.r.x K) (RgD.x_lt hs.r N) (RgD.x_lt hs.r K) wc) ?_
  rw [hA,Int.toNat_natCast]
  refine runZ ?_
  refine cCell (b:=M) (tb:=82) (cs:=mc L.wv L.sv L.lv cpu two s) (mc L.wv L.sv L.lv cpu two { s with r:=s.r.setX D A }) (hp':=Blk.mk I #[.int .i64 op,.int .i64 (D:Nat),.int .i64 (N:Nat),.int .i64 (K:Nat),.int .i64 imm] 41::(L.hl++L.hs++(L.hw++L.ht))) ?_ (hperm:=by (refine perm_cnt fun a=>?_;simp only [cntB_app,cntB_cons,cntB_nil]<;>omega)) (hput:=mc_setX _ _ _ _ _ _ hD _) (hlt:=Nat.ble_eq_true_of_le (show 15 + D + 1≤42 by omega))
  refine dc_nil ?_
  refine opsC ?_
  refine run ?_
  exact fin2 ⟨_,_,L,rfl,Own.nil _ _,⟨hL.w,hL.q,hL.l,hL.t,hL.p⟩,by unfold ML.hp;(refine hpLe_cnt fun a=>?_;simp only [cntB_app,cntB_cons,cntB_nil]<;>omega)⟩
theorem sDoI_e (L:ML) (M cpu:Nat) (two:RtD) (s:PS) (hL:MOk L s) (hs:PsOk s cpu two) (hq:s.seen.length<90000) (hov:s.over=false) (i:InD) (hi:i.may=true) {w:World} (hN:HereN (L.hp M cpu two s) w):Fn Tryz.prog 41 [.pointer (some ⟨M,0,none⟩),.agg (isV i).toArray].toArray w ((L.hp M cpu two s).map (·.b)) (DRet M cpu two (doP s cpu two i)):=by
 obtain ⟨op,d,n,m,imm⟩:=i
 have hb:PtD.btw d 0 7=true∧PtD.btw n 0 7=true∧PtD.btw m 0 7=true:=by
  simp only [InD.may,InD.base,Bool.and_eq_true] at hi
  exact ⟨hi.1.2.1,hi.1.2.2.1,hi.1.2.2.2.1⟩
 simp only [PtD.btw,Bool.and_eq_true,decide_eq_true_eq] at hb
 obtain ⟨D,rfl⟩:∃ D:Nat,d=(D:Int):=⟨d.toNat,by omega⟩
 obtain ⟨N,rfl⟩:∃ N:Nat,n=(N:Int):=⟨n.toNat,by omega⟩
 obtain ⟨K,rfl⟩:∃ K:Nat,m=(K:Int):=⟨m.toNat,by omega⟩
 exact sDo_e L M cpu two s hL hs hq hov op imm D N K hi hN
end Go.Proofs.YtndklbjnofdgeaaGreat
namespace Go.Proofs.YtndklbjnofdgeaaGreat
open Go.RowKit
set_option linter.unusedVariables false
set_option linter.unusedSimpArgs false
set_option maxRecDepth 20000
attribute [local irreducible] Hy St Ops DH DHF DE1 DE2 DE3 DS DCh DWF
def mci (wv sv lv:Value) (cpu:Int) (two:RtD) (s:PS):Array Value:=
 #[wv,.int .i64 cpu,.int .i64 s.kind,.int .i64 s.insn.op,.int .i64 s.insn.d,.int .i64 s.insn.n,.int .i64 s.insn.m,.int .i64 s.insn.imm,
  .int .i64 s.ft.kind,.int .i64 s.ft.stage,.int .i64 s.ft.level,.bool s.ft.walk,.int .i64 s.ft.page,.int .i64 0,sv,
  .int .u64 (s.r.x0:Nat),.int .u64 (s.r.x1:Nat),.int .u64 (s.r.x2:Nat),.int .u64 (s.r.x3:Nat),.int .u64 (s.r.x4:Nat),.int .u64 (s.r.x5:Nat),.int .u64 (s.r.x6:Nat),.int .u64 (s.r.x7:Nat),
  .int .u64 (s.r.pc:Nat),.int .u64 (s.r.ttbr:Nat),.int .u64 (s.r.sctlr:Nat),.int .u64 (s.r.vbar:Nat),.int .u64 (s.r.elr:Nat),.int .u64 (s.r.esr:Nat),.int .u64 (s.r.far:Nat),
  .int .i64 s.pk.cpu,.bool s.pk.fill,.bool s.pk.mids,.bool s.pk.walk,.int .i64 s.pk.drop,.bool s.pk.use,lv,.int .i64 cpu,.bool two.on,.int .i64 two.frame,.int .i64 two.tag,.bool s.over]
theorem mci_nat (wv sv lv:Value) (cpu:Nat) (two:RtD) (s:PS):mci wv sv lv (cpu:Nat) two s=mc wv sv lv cpu two s:=rfl
def mayS (n:Nat) (ls:List (List EnD × List IvD)) (cpu:Int) (two:RtD):Bool:=
 memOk n && decide (0≤cpu) && decide (cpu<(ls.length:Int)) && two.on && two.may && ls.all fun t=>tlbOk t.1 t.2 && heldL n t.1
structure SeesT (w:World) (mu:List Nat) (v:Value) (ts:List TlD):Prop where
 rows:Sees w mu v 2 (ts.map tlV)
 en:∀ t∈ts,Sees w mu t.ev 14 (t.es.map enV)
 iv:∀ t∈ts,Sees w mu t.dv 4 (t.ds.map ivV)
theorem SeesT.good {w w':World} {mu:List Nat} {hp:Hp} {v:Value} {ts:List TlD} (h:SeesT w mu v ts) (hG:Good w mu hp w'):TlAt w' v ts:=⟨h.rows.good hG,fun t ht=>(h.en t ht).good hG,fun t ht=>(h.iv t ht).good hG⟩
theorem SeesT.into {w wc:World} {mu:List Nat} {hi rest:Hp} {v:Value} {ts:List TlD} (h:SeesT w mu v ts) (hG:Good w mu (hi++rest) wc):SeesT wc (hi.map (·.b)) v ts:=⟨h.rows.into hG,fun t ht=>(h.en t ht).into hG,fun t ht=>(h.iv t ht).into hG⟩
theorem SeesT.old {w:World} {v:Value} {ts:List TlD} (h:TlAt w v ts):SeesT w [] v ts:=⟨Sees.old h.rows,fun t ht=>Sees.old (h.en t ht),fun t ht=>Sees.old (h.iv t ht)⟩
theorem sMay1_e (n:Int) (x:EnD) (B:Nat) (w:World) (hB:w.cell? ⟨B,0,none⟩=some (.int .i64 n)):Fn Tryz.prog 61 ([]++[Value.agg (enV x).toArray]++[Value.pointer (some ⟨B,0,none⟩)]).toArray w [] (fun u _=>u=.bool (decide (n≤x.frame))):=by
 refine enter Tryz.func61 ?_
 refine run ?_
 intro E
 refine run ?_
 exact fin1 rfl
theorem sMay2_e (n:Int) (t:TlD) (B C:Nat) (w:World) (hB:w.cell? ⟨B,0,none⟩=some (.int .i64 n)) (hC:w.cell? ⟨C,0,none⟩=some (.func (.func 61) #[] #[.pointer (some ⟨B,0,none⟩)])) (h1:SlAt w t.ev 14 (t.es.map enV)) (h2:SlAt w t.dv 4 (t.ds.map ivV)) (hc:t.es.length≤t.ec):
  Fn Tryz.prog 63 ([]++[Value.agg (tlV t).toArray]++[Value.pointer (some ⟨C,0,none⟩)]).toArray w [] (fun u _=>u=.bool (!tlbOk t.es t.ds || t.es.any fun x=>decide (n≤x.frame))):=by
 refine enter Tryz.func63 ?_
 refine run ?_
 intro E
 refine runG ?_
 refine callE (fun wc hG=>tCheck_e t.es t.ds _ _ (h1.good hG) (h2.good hG) ⟨_,_,rfl,hc⟩) ?_
 refine runG ?_
 refine opG (by rfl) (by rfl) (by rfl) (by rfl) (fun _=>hy_load0 (by rfl) (by kernel_rfl) (by rfl) hC List.not_mem_nil) ?_
 refine runG ?_
 refine callEG (fun hg wc hG=>containsFEn_e (F:=61) (us:=[.pointer (some ⟨B,0,none⟩)]) (fun x=>decide (n≤x.frame)) t.es _ (h1.good hG) (fun x _ w' ha=>sMay1_e n x B w' ?_)) ?_
 ·obtain ⟨hp,hg⟩:=ha
  exact hg.cell (hG.cell hB (by simp)) (by simp)
 refine runG ?_
 refine fin1 ?_
 cases tlbOk t.es t.ds<;>rfl
theorem sMay_e (ws:List Nat) (hw:ws.length<1000000) (cap:Nat) (hcc:ws.length≤cap) {p:Option Addr} {w:World} {M:Nat} (ts:List TlD) (cpu:Int) (two:RtD) (s:PS) {sv lv:Value} (hT:SeesT w [M] lv ts) (htc:∀ t∈ts,t.es.length≤t.ec) (hN:HereN [⟨M,mci (.slice p ws.length cap) sv lv cpu two s,82⟩] w):
  Fn Tryz.prog 37 [.pointer (some ⟨M,0,none⟩)].toArray w [M] (fun u hn=>u=.bool (mayS ws.length (ts.map TlD.p) cpu two)∧HpLe [⟨M,mci (.slice p ws.length cap) sv lv cpu two s,82⟩] hn):=by
 obtain ⟨ql,cl,rfl,hlc⟩:=hT.rows.at_.opened
 refine enterM _ hN Tryz.func37 ?_
 refine run ?_
 rw [show (List.take 1 (mci (.slice p ws.length cap) sv (.slice ql ts.length cl) cpu two s).toList).toArray=#[.slice p ws.length cap] from rfl]
 refine callE (fun wc hG=>mFrames_e ws.length cap (by omega) p wc) ?_
 refine run ?_
 intro Nb Tb
 rw [show putAt #[.bool false,.int .i64 0,.int .i64 0] 0 (List.take 3 (List.drop 38 (mci (.slice p ws.length cap) sv (.slice ql ts.length cl) cpu two s).toList))=(rtV two).toArray from rfl]
 refine run ?_
 refine drawAll ?_
 refine runDG ?_
 have hg:(!decide ((bif memOk ws.length then (0:Int) else 1)=0) || decide (cpu<0) || decide ((ts.length:Int)≤cpu) || !two.on || decide (two.frame<0) || decide (4095<two.frame) || decide (two.tag<0) || decide (15<two.tag))=!(memOk ws.length && decide (0≤cpu) && decide (cpu<(ts.length:Int)) && two.on && two.may):=by
  have e1:∀ b,decide ((bif b then (0:Int) else 1)=0)=b:=by decide
  have e2:∀ a:Int,decide (a<0)=!decide (0≤a):=fun a=>by rw [Bool.eq_iff_iff];simp
  have e3:∀ a b:Int,decide (b<a)=!decide (a≤b):=fun a b=>by rw [Bool.eq_iff_iff];simp
  rw [e1,e2,RtD.may,PtD.btw,PtD.btw,e2,e2,e3 two.frame,e3 two.tag,e3 (ts.length:Int)]
  simp only [Bool.not_and,Bool.or_assoc,Bool.not_not]
 rw [hg]
 refine run ?_
 refine st_cond _ rfl (fun hc=>?_) (fun hc=>?_)
 ·have hf:mayS ws.length (ts.map TlD.p) cpu two=false:=by
   rw [mayS,List.length_map]
   simp only [Bool.not_eq_true'] at hc
   rw [hc];rfl
  rw [hf]
  refine run ?_
  exact fin1 ⟨rfl,by (refine hpLe_cnt fun a=>?_;simp only [cntB_app,cntB_cons,cntB_nil]<;>omega)⟩
 ·have hcc:(memOk ws.length && decide (0≤cpu) && decide (cpu<(ts.length:Int)) && two.on && two.may)=true:=by simpa using hc
  have hf:mayS ws.length (ts.map TlD.p) cpu two=(ts.map TlD.p).all fun t=>tlbOk t.1 t.2 && heldL ws.length t.1:=by
   rw [mayS,List.length_map,hcc];rfl
  have hmo:memOk ws.length=true:=by simp only [Bool.and_eq_true] at hcc;exact hcc.1.1.1.1
  rw [hf]
  simp only [hmo,cond_true]
  refine run ?_
  refine ops_alloc (z:=.nilFunc) rfl rfl rfl (by kernel_rfl) (fun Fb=>?_)
  refine ops_store [.func (.func 61) #[] #[.pointer (some ⟨Nb,0,none⟩)]] rfl rfl rfl (x:=.tmp 6) rfl rfl rfl rfl (by kernel_rfl) (.refl _) (Nat.le_refl 1) ?_
  simp only [putAt]
  rw [show Value.nilFunc.cells.setIfInBounds 0 (.func (.func 61) #[] #[.pointer (some ⟨Nb,0,none⟩)])=#[.func (.func 61) #[] #[.pointer (some ⟨Nb,0,none⟩)]] from rfl]
  refine run ?_
  refine callE (fun wc hG=>containsFTl_e (F:=63) (us:=[.pointer (some ⟨Fb,0,none⟩)]) (fun t=>!tlbOk t.es t.ds || t.es.any fun x=>decide (((ws.length / 8:Nat):Int)≤x.frame)) ts _ (hT.good hG).rows (fun x hx w' ha=>?_)) ?_
  ·obtain ⟨hp,hg2⟩:=ha
   refine sMay2_e _ x Nb Fb w' (hg2.cell (by rw [cell_of_block (hG.here ⟨Nb,#[.int .i64 ((ws.length / 8:Nat):Int)],3⟩ (by simp))];rfl) (by simp)) (hg2.cell (by rw [cell_of_block (hG.here ⟨Fb,#[.func (.func 61) #[] #[.pointer (some ⟨Nb,0,none⟩)]],115⟩ (by simp))];rfl) (by simp)) (((hT.good hG).good hg2).en x hx) (((hT.good hG).good hg2).iv x hx) (htc x hx)
  refine run ?_
  refine fin1 ⟨?_,by (refine hpLe_cnt fun a=>?_;simp only [cntB_app,cntB_cons,cntB_nil]<;>omega)⟩
  rw [List.not_any_eq_all_not,List.all_map]
  congr 2
  funext t
  simp only [Function.comp_def,heldL,Bool.not_or,Bool.not_not,List.not_any_eq_all_not]
  congr 2
  funext x
  rw [Bool.eq_iff_iff];simp
end Go.Proofs.YtndklbjnofdgeaaGreat
namespace Go.Proofs.YtndklbjnofdgeaaGreat
open Go.RowKit
set_option linter.unusedVariables false
set_option linter.unusedSimpArgs false
set_option maxRecDepth 20000
attribute [local irreducible] Hy St Ops DH DHF DE1 DE2 DE3 DS DCh DWF
def s0P (ws:List Nat) (ls:List (List EnD × List IvD)) (r:RgD) (pk:PkD):PS:=⟨ws,ls,[],r,pk,0,⟨0,0,0,0,0⟩,noFt,false⟩
def obC (cpu:Int) (sv:Value) (s:PS):Array Value:=
 #[.int .i64 cpu,.int .i64 s.kind,.int .i64 s.insn.op,.int .i64 s.insn.d,.int .i64 s.insn.n,.int .i64 s.insn.m,.int .i64 s.insn.imm,.int .i64 s.ft.kind,.int .i64 s.ft.stage,.int .i64 s.ft.level,.bool s.ft.walk,.int .i64 s.ft.page,.int .i64 0,sv,
  .int .u64 (s.r.x0:Nat),.int .u64 (s.r.x1:Nat),.int .u64 (s.r.x2:Nat),.int .u64 (s.r.x3:Nat),.int .u64 (s.r.x4:Nat),.int .u64 (s.r.x5:Nat),.int .u64 (s.r.x6:Nat),.int .u64 (s.r.x7:Nat),
  .int .u64 (s.r.pc:Nat),.int .u64 (s.r.ttbr:Nat),.int .u64 (s.r.sctlr:Nat),.int .u64 (s.r.vbar:Nat),.int .u64 (s.r.elr:Nat),.int .u64 (s.r.esr:Nat),.int .u64 (s.r.far:Nat)]
def noPS:PS:=⟨[],[],[],noRg,⟨0,false,false,false,0,false⟩,0,⟨0,0,0,0,0⟩,noFt,false⟩
def SRet (cpu:Int) (s:PS) (u:Value) (hn:Hp):Prop:=∃ L:ML,MOk L s∧u=.tuple #[.agg #[L.wv],.agg (rgV s.r).toArray,L.lv,.agg (obC cpu L.sv s),.int .i64 0]∧HpLe (L.hl++L.hs++(L.hw++L.ht)) hn
def SNot (u:Value):Prop:=u=.tuple #[.agg #[.slice none 0 0],.agg (rgV noRg).toArray,.slice none 0 0,.agg (obC 0 (.slice none 0 0) noPS),.int .i64 1]
theorem es_ok {n:Nat} {es:List EnD} {ds:List IvD} (h1:tlbOk es ds=true) (h2:heldL n es=true):EsOk n es ds:=by
 refine ⟨h1,fun e he=>?_⟩
 have h9:=List.all_eq_true.1 h2 e he
 have h10:=(tlb_may h1).1 e he
 simp only [EnD.may,EnD.nums,PtD.btw,Bool.and_eq_true,decide_eq_true_eq] at h10
 simp only [hasF,Bool.and_eq_true,decide_eq_true_eq]
 exact ⟨h10.1.1.1.2.1,of_decide_eq_true h9⟩
theorem do_len (s:PS) (cpu:Nat) (two:RtD) (i:InD):∀ x,(doP s cpu two i).2=some x→x.length≤281474976710656:=by
 have h0:∀ x:List Int,some ([]:List Int)=some x→x.length≤281474976710656:=fun x h=>by cases h;simp
 have h1:∀ x:List Int,some [i.imm]=some x→x.length≤281474976710656:=fun x h=>by cases h;simp
 unfold doP
 cases (decide (i.op=7) || decide (i.op=8)) with
 | true=>exact h0
 | false=>
  cases decide (i.op=9) with
  | true=>exact h1
  | false=>
   cases decide (i.op=10) with
   | true=>
    cases decide (s.r.x i.n.toNat=0) with
    | true=>exact h1
    | false=>exact h0
   | false=>
    cases decide (i.op=11)<;>cases decide (i.op=12)<;>cases decide (i.op=13)<;>cases decide (i.op=14)<;>cases decide (i.op=15)<;>cases decide (i.op=16)<;>first | exact h0 | (intro x h;cases h)
theorem finAATAT {fn:Func} {R:Value→Hp→Prop} {l:Fm} {hp:Hp} {s0 s2 a t b a2 t2 b2 a3 t3 b3:Nat} {cs cs2 cs3:Array Value} {tb tb2 tb3:TypeId} {v v2:Value} (h:R (.tuple #[.agg cs,.agg cs2,v,.agg cs3,v2]) hp) (hr:fn.results=#[.cell a t,.cell a2 t2,.tmp s0,.cell a3 t3,.tmp s2]:=by rfl) (h0:look l s0=some v:=by rfl) (hv:look l a=some (.pointer (some ⟨b,0,none⟩)):=by rfl) (hw:look l a2=some (.pointer (some ⟨b2,0,none⟩)):=by rfl) (hw3:look l a3=some (.pointer (some ⟨b3,0,none⟩)):=by rfl) (h3:look l s2=some v2:=by rfl) (hag:mem Tb.ag t=true:=by rfl) (hm:(⟨b,cs,tb⟩:Blk)∈hp:=by (first | (with_reducible apply mh) | (focus ((repeat (first | (with_reducible apply mh) | (with_reducible apply mt) | (with_reducible apply List.mem_append_right)));done)))) (hz:lk Tb.sz t=some cs.size:=by rfl) (hag2:mem Tb.ag t2=true:=by rfl) (hm2:(⟨b2,cs2,tb2⟩:Blk)∈hp:=by (first | (with_reducible apply mh) | (focus ((repeat (first | (with_reducible apply mh) | (with_reducible apply mt) | (with_reducible apply List.mem_append_right)));done)))) (hz2:lk Tb.sz t2=some cs2.size:=by rfl) (hag3:mem Tb.ag t3=true:=by rfl) (hm3:(⟨b3,cs3,tb3⟩:Blk)∈hp:=by (first | (with_reducible apply mh) | (focus ((repeat (first | (with_reducible apply mh) | (with_reducible apply mt) | (with_reducible apply List.mem_append_right)));done)))) (hz3:lk Tb.sz t3=some cs3.size:=by rfl):Fin Tryz.prog fn R .ret l hp:=
 ⟨.inl rfl,[.agg cs,.agg cs2,v,.agg cs3,v2],by rw [hr];exact ⟨⟨⟨b,cs,tb⟩,hm,hv,.inr ⟨tb_ok.gag hag,tb_ok.gsz hz,rfl⟩⟩,⟨⟨b2,cs2,tb2⟩,hm2,hw,.inr ⟨tb_ok.gag hag2,tb_ok.gsz hz2,rfl⟩⟩,h0,⟨⟨b3,cs3,tb3⟩,hm3,hw3,.inr ⟨tb_ok.gag hag3,tb_ok.gsz hz3,rfl⟩⟩,h3,trivial⟩,h⟩
set_option maxHeartbeats 4000000 in
theorem sStep_e (ws:List Nat) (hw:W64 ws) (hwl:ws.length<1000000) (cap:Nat) (hcc:ws.length≤cap) {p:Option Addr} {w:World} (ts:List TlD) (r:RgD) (hr:r.Ok) (cpu:Int) (two:RtD) (pk:PkD) {lv:Value} (hm:SlAt w (.slice p ws.length cap) 1 (ws.map uV)) (hT:TlAt w lv ts) (htc:∀ t∈ts,t.es.length≤t.ec) (hl:ts.length<100000):
  Fn Tryz.prog 16 [.agg #[.slice p ws.length cap],.agg (rgV r).toArray,lv,.int .i64 cpu,.agg (rtV two).toArray,.agg (pkV pk).toArray].toArray w [] (fun u hn=>
   bif mayS ws.length (ts.map TlD.p) cpu two then SRet cpu (stepP (s0P ws (ts.map TlD.p) r pk) cpu.toNat two) u hn
   else SNot u):=by
 have hT':=hT
 obtain ⟨ql,cl,rfl,hne,_⟩:=hT.rows.opened
 refine enter Tryz.func16 ?_
 refine runNB ?_
 intro B1 B2 B3 B4 B5 B6 B7
 refine buildK (obC cpu (.slice none 0 0) (s0P ws (ts.map TlD.p) r pk)) ?_
 refine runNB ?_
 refine buildK (mci (.slice p ws.length cap) (.slice none 0 0) (.slice ql ts.length cl) cpu two (s0P ws (ts.map TlD.p) r pk)) ?_
 obtain ⟨S0,hS0⟩:∃ S0,S0=s0P ws (ts.map TlD.p) r pk:=⟨_,rfl⟩
 rw [← hS0]
 refine run ?_
 intro M
 show Ops _ _ _ _ _ _ _ (Blk.mk M (mci (.slice p ws.length cap) (.slice none 0 0) (.slice ql ts.length cl) cpu two S0) 82::_) _
 refine callM [Blk.mk M (mci (.slice p ws.length cap) (.slice none 0 0) (.slice ql ts.length cl) cpu two S0) 82] (Blk.mk B7 (obC 0 (.slice none 0 0) noPS) 46::Blk.mk B6 ((rgV noRg).toArray) 30::Blk.mk B5 (#[.slice none 0 0]) 24::Blk.mk B4 (pkV pk).toArray 51::Blk.mk B3 (rtV two).toArray 33::Blk.mk B2 (rgV r).toArray 30::Blk.mk B1 #[.slice p ws.length cap] 24::[]) (fun wc hG=>sMay_e ws hwl cap hcc ts cpu two S0 ((SeesT.old hT').into hG) htc hG.hereN) (fun v hn hv=>?_) (.refl _)
 obtain ⟨rfl,hle⟩:=hv
 refine ops_le (Blk.mk M (mci (.slice p ws.length cap) (.slice none 0 0) (.slice ql ts.length cl) cpu two S0) 82::Blk.mk B7 (obC 0 (.slice none 0 0) noPS) 46::Blk.mk B6 ((rgV noRg).toArray) 30::Blk.mk B5 (#[.slice none 0 0]) 24::Blk.mk B4 (pkV pk).toArray 51::Blk.mk B3 (rtV two).toArray 33::Blk.mk B2 (rgV r).toArray 30::Blk.mk B1 #[.slice p ws.length cap] 24::[]) (by (refine hpLe_cnt fun a=>?_;have:=HpLe.cnt hle a;simp only [cntB_app,cntB_cons,cntB_nil] at *;omega)) ?_
 cases hmay:mayS ws.length (ts.map TlD.p) cpu two with
 | false=>
  simp only [cond_false]
  refine runC ?_
  refine dropS 14 ?_
  refine dropS 16 ?_
  refine drawC 8 3 [0,1,2] [3,4,5,6,7] (Blk.mk M (mci (.slice p ws.length cap) (.slice none 0 0) (.slice ql ts.length cl) cpu two S0) 82::Blk.mk B7 (obC 0 (.slice none 0 0) noPS) 46::Blk.mk B6 ((rgV noRg).toArray) 30::Blk.mk B5 (#[.slice none 0 0]) 24::Blk.mk B4 (pkV pk).toArray 51::Blk.mk B3 (rtV two).toArray 33::Blk.mk B2 (rgV r).toArray 30::Blk.mk B1 #[.slice p ws.length cap] 24::[]) ?_
  refine runZ ?_
  refine cSame ?_
  refine cSame ?_
  refine cVal (fun hx=>x_assign rfl) ?_
  refine cSame ?_
  refine cVal (fun hx=>x_assign rfl) ?_
  refine dc_nil ?_
  refine opsC ?_
  refine run ?_
  exact finAATAT (cs:=#[.slice none 0 0]) (cs2:=(rgV noRg).toArray) (cs3:=obC 0 (.slice none 0 0) noPS) (rfl:SNot _)
 | true=>
  have hall:∀ t∈ts,tlbOk t.es t.ds=true:=fun t ht=>by
   have h2:=hmay
   simp only [mayS,Bool.and_eq_true] at h2
   have h3:=List.all_eq_true.1 h2.2 t.p (List.mem_map.2 ⟨t,ht,rfl⟩)
   simp only [Bool.and_eq_true] at h3
   exact h3.1
  simp only [cond_true]
  refine runC ?_
  refine callB (fun wc hG=>cloneWords_e (.slice p ws.length cap) (ws.map uV) (hm.good hG) (u_all _) (by rw [List.length_map];exact hwl)) ?_
  intro wv hw1 hW
  obtain ⟨wp,wc,e1⟩:=hW.opened
  rw [List.length_map] at e1
  subst e1
  refine ops_le (Blk.mk M (mci (.slice p ws.length cap) (.slice none 0 0) (.slice ql ts.length cl) cpu two S0) 82::(hw1++Blk.mk B7 (obC 0 (.slice none 0 0) noPS) 46::Blk.mk B6 ((rgV noRg).toArray) 30::Blk.mk B5 (#[.slice none 0 0]) 24::Blk.mk B4 (pkV pk).toArray 51::Blk.mk B3 (rtV two).toArray 33::Blk.mk B2 (rgV r).toArray 30::Blk.mk B1 #[.slice p ws.length cap] 24::[])) (by (refine hpLe_cnt fun a=>?_;simp only [cntB_app,cntB_cons,cntB_nil]<;>omega)) ?_
  refine run ?_
  refine zCell (mci (.slice wp ws.length wc) (.slice none 0 0) (.slice ql ts.length cl) cpu two S0) ?_
  refine run ?_
  refine zCell (mci (.slice wp ws.length wc) (.slice none 0 0) (.slice none 0 0) cpu two S0) ?_
  refine run ?_
  refine loopS (σ:=FgS) (fun z=>[(50,.int .i64 (z.k:Int))]) (fun z=>Blk.mk M (mci (.slice wp ws.length wc) (.slice none 0 0) (z.v) cpu two S0) 82::(z.ha++z.hs++hw1++Blk.mk B7 (obC 0 (.slice none 0 0) noPS) 46::Blk.mk B6 ((rgV noRg).toArray) 30::Blk.mk B5 (#[.slice none 0 0]) 24::Blk.mk B4 (pkV pk).toArray 51::Blk.mk B3 (rtV two).toArray 33::Blk.mk B2 (rgV r).toArray 30::Blk.mk B1 #[.slice p ws.length cap] 24::[])) (fun z=>z.k≤ts.length∧Acc 77 2 z.v z.ha (z.ts.map tlV)∧TlsW z.ts z.hs∧z.ts.map TlD.p=(ts.take z.k).map TlD.p) (fun z=>ts.length - z.k) ⟨0,_,[],[],[]⟩ ⟨Nat.zero_le _,Acc.nil _ _,(trivial:TlsW [] []),rfl⟩ (hh:=by (refine hpLe_cnt fun a=>?_;simp only [cntB_app,cntB_cons,cntB_nil]<;>omega)) ?_
  rintro ⟨k,ov,ha,hs,ts'⟩ m hm2 ⟨hk,hA,hO,hE⟩
  dsimp only at hm2 hk hA hO hE ⊢
  obtain ⟨oq,oc,eo⟩:=hA.own.opened
  have hl':ts'.length=k:=by have:=congrArg List.length hE;simpa [Nat.min_eq_left hk] using this
  rw [List.length_map] at eo
  subst eo
  refine run ?_
  refine st_cond _ rfl (fun hc2=>?_) (fun hc2=>?_)
  ·have hlt:k<ts.length:=by simpa using hc2
   obtain ⟨b,o,rfl⟩:=hne (by intro e;rw [e] at hlt;simp at hlt)
   have hr2:=hT'.rows.row hlt
   have hen:=hT'.en _ (getD_mem hlt)
   have hiv:=hT'.iv _ (getD_mem hlt)
   have hcp:=htc _ (getD_mem hlt)
   have htn:=take_next hlt
   have hok:=hall _ (getD_mem hlt)
   generalize ts.getD k default=t at hr2 hen hiv hcp htn hok
   refine run ?_
   intro X
   refine run ?_
   refine drawCX 12 8 [0,1,2,3,4,5,9,10] [(6,false),(7,false),(8,false),(11,false)] (⟨X,#[t.ev,t.dv],77⟩::(hs++hw1++Blk.mk B7 (obC 0 (.slice none 0 0) noPS) 46::Blk.mk B6 ((rgV noRg).toArray) 30::Blk.mk B5 (#[.slice none 0 0]) 24::Blk.mk B4 (pkV pk).toArray 51::Blk.mk B3 (rtV two).toArray 33::Blk.mk B2 (rgV r).toArray 30::Blk.mk B1 #[.slice p ws.length cap] 24::[])) ?_
   refine runZ ?_
   refine xC ?_
   refine cCall (fun wc hG=>tlbCopy_e t.es t.ds _ _ (hen.good hG) (hiv.good hG) (by have:=tlb_may hok;omega) (by have:=tlb_may hok;omega)) ?_
   rintro _ hn ⟨v1,h1,v2,h2,rfl,g1,g2,hle2⟩
   obtain ⟨q1,c1,x1⟩:=g1.opened
   obtain ⟨q2,c2,x2⟩:=g2.opened
   rw [List.length_map] at x1 x2
   subst x1 x2
   refine dc_nil ?_
   refine xC ?_
   refine cSlice [.slice q1 t.es.length c1,.slice q2 t.ds.length c2] (fun Z=>?_)
   refine dc_nil ?_
   refine xApp (c:=[.slice q1 t.es.length c1,.slice q2 t.ds.length c2]) (hp':=⟨Z,#[.slice q1 t.es.length c1,.slice q2 t.ds.length c2],77⟩::(hn++(⟨X,#[t.ev,t.dv],77⟩::Blk.mk M (mci (.slice wp ws.length wc) (.slice none 0 0) ((.slice oq ts'.length oc)) cpu two S0) 82::(hs++hw1++Blk.mk B7 (obC 0 (.slice none 0 0) noPS) 46::Blk.mk B6 ((rgV noRg).toArray) 30::Blk.mk B5 (#[.slice none 0 0]) 24::Blk.mk B4 (pkV pk).toArray 51::Blk.mk B3 (rtV two).toArray 33::Blk.mk B2 (rgV r).toArray 30::Blk.mk B1 #[.slice p ws.length cap] 24::[])))) hA (news_own (m:=2) mh rfl) (by rw [List.length_map];omega) (by (refine perm_cnt fun a=>?_;simp only [cntB_app,cntB_cons,cntB_nil]<;>omega)) (by (refine hpLe_cnt fun a=>?_;simp only [cntB_app,cntB_cons,cntB_nil]<;>omega)) (fun v' ha' hA2=>?_)
   obtain ⟨q9,c9,e9⟩:=hA2.own.opened
   subst e9
   refine xC ?_
   refine cCell (b:=M) (tb:=82) (cs:=mci (.slice wp ws.length wc) (.slice none 0 0) (.slice oq ts'.length oc) cpu two S0) (mci (.slice wp ws.length wc) (.slice none 0 0) (.slice q9 (ts'.map tlV++[[Value.slice q1 t.es.length c1,Value.slice q2 t.ds.length c2]]).length c9) cpu two S0) (hp':=ha'++(⟨Z,#[.slice q1 t.es.length c1,.slice q2 t.ds.length c2],77⟩::(hn++(⟨X,#[t.ev,t.dv],77⟩::(hs++hw1++Blk.mk B7 (obC 0 (.slice none 0 0) noPS) 46::Blk.mk B6 ((rgV noRg).toArray) 30::Blk.mk B5 (#[.slice none 0 0]) 24::Blk.mk B4 (pkV pk).toArray 51::Blk.mk B3 (rtV two).toArray 33::Blk.mk B2 (rgV r).toArray 30::Blk.mk B1 #[.slice p ws.length cap] 24::[]))))) ?_ (hperm:=by (refine perm_cnt fun a=>?_;simp only [cntB_app,cntB_cons,cntB_nil]<;>omega))
   refine dc_nil ?_
   refine xNil ?_
   refine opsC ?_
   refine run ?_
   have hcp1:t.es.length≤c1:=by
    obtain ⟨q8,c8,e8,h8⟩:=g1.cap
    injection e8 with _ _ e8
    omega
   have hb:=tlb_may hok
   refine nextS ⟨k + 1,_,ha',(h1++h2)++hs,ts'++[⟨t.es,t.ds,q1,c1,q2,c2⟩]⟩ ⟨hlt,by dsimp only;rw [List.map_append];exact hA2,?_,?_⟩ (hm:=by dsimp only;omega) (h2:=by (refine hpLe_cnt fun a=>?_;have:=HpLe.cnt hle2 a;simp only [cntB_app,cntB_cons,cntB_nil] at *;omega))
   ·exact TlsW.snoc (y:=⟨t.es,t.ds,q1,c1,q2,c2⟩) ⟨g1,g2,hb.2.1,hb.2.2⟩ hO
   ·dsimp only
    rw [htn,List.map_append,List.map_append,hE]
    rfl
  ·have hge:k=ts.length:=by simp at hc2;omega
   subst hge
   rw [List.take_length] at hE
   obtain ⟨C,rfl⟩:∃ C:Nat,cpu=(C:Int):=⟨cpu.toNat,by
    have h2:=hmay
    simp only [mayS,Bool.and_eq_true,decide_eq_true_eq] at h2
    omega⟩
   have hPs:PsOk S0 C two:=by
    have h2:=hmay
    simp only [mayS,Bool.and_eq_true,decide_eq_true_eq] at h2
    obtain ⟨⟨⟨⟨⟨m1,m2⟩,m3⟩,m4⟩,m5⟩,m6⟩:=h2
    rw [hS0]
    refine ⟨hw,m1,by show C<(ts.map TlD.p).length;omega,by show (ts.map TlD.p).length<_;rw [List.length_map];exact hl,fun t ht=>?_,⟨m4,m5⟩,hr⟩
    have h3:=List.all_eq_true.1 m6 t ht
    simp only [Bool.and_eq_true] at h3
    exact es_ok h3.1 h3.2
   have hov:S0.over=false:=by rw [hS0];rfl
   have hsn:S0.seen.length=0:=by rw [hS0];rfl
   simp only [mci_nat]
   have hML:MOk ⟨.slice wp ws.length wc,.slice none 0 0,.slice oq ts'.length oc,ts',hw1,[],ha,hs⟩ S0:=by
    rw [hS0]
    exact ⟨hW,Own.nil _ _,hA.own,hO,hE⟩
   rw [Int.toNat_natCast]
   refine run ?_
   refine callM (Blk.mk M (mc (.slice wp ws.length wc) (.slice none 0 0) (.slice oq ts'.length oc) C two S0) 82::(ha++[]++(hw1++hs))) (Blk.mk B7 (obC 0 (.slice none 0 0) noPS) 46::Blk.mk B6 ((rgV noRg).toArray) 30::Blk.mk B5 (#[.slice none 0 0]) 24::Blk.mk B4 (pkV pk).toArray 51::Blk.mk B3 (rtV two).toArray 33::Blk.mk B2 (rgV r).toArray 30::Blk.mk B1 #[.slice p ws.length cap] 24::[]) (fun wc' hG=>sFetch_e _ M C two S0 hML hPs (by omega) hov hG.hereN) (fun v hn2 hv=>?_) (by (refine perm_cnt fun a=>?_;simp only [cntB_app,cntB_cons,cntB_nil]<;>omega))
   obtain ⟨rfl,L2,hL2,hle2⟩:=hv
   obtain ⟨f1,f2,f3⟩:=fetch_ok hPs
   generalize hF:fetchP S0 C two=F at hL2 hle2 f1 f2 f3
   unfold ML.hp at hle2
   refine ops_le (Blk.mk M (mc L2.wv L2.sv L2.lv C two F) 82::((L2.hl++L2.hs++(L2.hw++L2.ht))++Blk.mk B7 (obC 0 (.slice none 0 0) noPS) 46::Blk.mk B6 ((rgV noRg).toArray) 30::Blk.mk B5 (#[.slice none 0 0]) 24::Blk.mk B4 (pkV pk).toArray 51::Blk.mk B3 (rtV two).toArray 33::Blk.mk B2 (rgV r).toArray 30::Blk.mk B1 #[.slice p ws.length cap] 24::[])) (by (refine hpLe_cnt fun a=>?_;have:=HpLe.cnt hle2 a;simp only [cntB_app,cntB_cons,cntB_nil] at *;omega)) ?_
   refine run ?_
   have hZ:stepP S0 C two=(bif F.over then F else nextP (doP F C two F.insn)):=by rw [← hF];rfl
   generalize stepP S0 C two=Z at hZ ⊢
   refine st_cutD (σ:=ML) (fun _=>[]) (fun L=>Blk.mk M (mc L.wv L.sv L.lv C two Z) 82::((L.hl++L.hs++(L.hw++L.ht))++Blk.mk B7 (obC 0 (.slice none 0 0) noPS) 46::Blk.mk B6 ((rgV noRg).toArray) 30::Blk.mk B5 (#[.slice none 0 0]) 24::Blk.mk B4 (pkV pk).toArray 51::Blk.mk B3 (rtV two).toArray 33::Blk.mk B2 (rgV r).toArray 30::Blk.mk B1 #[.slice p ws.length cap] 24::[])) (fun L=>MOk L Z) ?_ ?_
   ·refine st_cond _ rfl (fun hc3=>?_) (fun hc3=>?_)
    ·have ho:F.over=false:=by simpa using hc3
     rw [ho,cond_false] at hZ
     obtain ⟨d1,d2⟩:=do_ok f1 (f3 ho).1
     refine run ?_
     rw [show (List.take 5 (List.drop 3 (mc L2.wv L2.sv L2.lv C two F).toList)).toArray=(isV F.insn).toArray from rfl]
     refine callM (Blk.mk M (mc L2.wv L2.sv L2.lv C two F) 82::(L2.hl++L2.hs++(L2.hw++L2.ht))) (Blk.mk B7 (obC 0 (.slice none 0 0) noPS) 46::Blk.mk B6 ((rgV noRg).toArray) 30::Blk.mk B5 (#[.slice none 0 0]) 24::Blk.mk B4 (pkV pk).toArray 51::Blk.mk B3 (rtV two).toArray 33::Blk.mk B2 (rgV r).toArray 30::Blk.mk B1 #[.slice p ws.length cap] 24::[]) (fun wc' hG=>sDoI_e L2 M C two F hL2 f1 (by omega) ho F.insn (f3 ho).1 hG.hereN) (fun v hn3 hv=>?_) (by (refine perm_cnt fun a=>?_;simp only [cntB_app,cntB_cons,cntB_nil]<;>omega))
     obtain ⟨av,ah,L4,rfl,hA4,hL4,hle4⟩:=hv
     have hxl:=do_len F C two F.insn
     generalize doP F C two F.insn=D at hZ d1 d2 hA4 hL4 hle4 hxl ⊢
     unfold ML.hp at hle4
     obtain ⟨aq,ac,ea⟩:=hA4.opened
     rw [List.length_map] at ea
     subst ea
     refine ops_le (Blk.mk M (mc L4.wv L4.sv L4.lv C two D.1) 82::((L4.hl++L4.hs++(L4.hw++L4.ht))++ah++Blk.mk B7 (obC 0 (.slice none 0 0) noPS) 46::Blk.mk B6 ((rgV noRg).toArray) 30::Blk.mk B5 (#[.slice none 0 0]) 24::Blk.mk B4 (pkV pk).toArray 51::Blk.mk B3 (rtV two).toArray 33::Blk.mk B2 (rgV r).toArray 30::Blk.mk B1 #[.slice p ws.length cap] 24::[])) (by (refine hpLe_cnt fun a=>?_;have:=HpLe.cnt hle4 a;simp only [cntB_app,cntB_cons,cntB_nil] at *;omega)) ?_
     refine runG ?_
     refine st_cond _ rfl (fun hc4=>?_) (fun hc4=>?_)
     ·rw [Bool.and_eq_true,Bool.not_eq_true',Bool.not_eq_true'] at hc4
      obtain ⟨x,hx⟩:∃ x,D.2=some x:=by
       have h2:=hc4.2
       cases hD2:D.2 with
       | none=>rw [hD2] at h2;cases h2
       | some x=>exact ⟨x,rfl⟩
      have hz2:Z={ D.1 with r:=D.1.r.next x }:=by rw [hZ];unfold nextP;rw [hc4.1,hx];rfl
      rw [hx] at hA4 ⊢
      refine run ?_
      rw [show (List.take 15 (List.drop 15 (mc L4.wv L4.sv L4.lv C two D.1).toList)).toArray=(rgV D.1.r).toArray from rfl]
      refine callE (fun wc' hG=>rNext_e D.1.r x (hA4.lie (fun e he=>hG.here e (by simp [he])) (by rw [List.length_map];exact hxl x hx))) ?_
      refine run ?_
      refine zCell (mc L4.wv L4.sv L4.lv C two Z) ?_ (hput:=by rw [hz2];kernel_rfl)
      refine run ?_
      exact meetS L4 (by rw [hz2];exact ⟨hL4.w,hL4.q,hL4.l,hL4.t,hL4.p⟩) (h2:=by (refine hpLe_cnt fun a=>?_;simp only [cntB_app,cntB_cons,cntB_nil]<;>omega))
     ·have hz2:Z=D.1:=by
       rw [hZ]
       unfold nextP
       cases ho2:D.1.over with
       | true=>rfl
       | false=>
        rw [ho2] at hc4
        cases hD2:D.2 with
        | none=>rfl
        | some x=>rw [hD2] at hc4;cases hc4
      rw [hz2]
      refine run ?_
      exact meetS L4 hL4 (h2:=by (refine hpLe_cnt fun a=>?_;simp only [cntB_app,cntB_cons,cntB_nil]<;>omega))
    ·have ho:F.over=true:=by simpa using hc3
     rw [ho,cond_true] at hZ
     rw [hZ]
     refine run ?_
     exact meetS L2 hL2
   intro L3 hL3
   refine run ?_
   obtain ⟨wv3,sv3,lv3,ts3,hw3,hs3,hl3,ht3⟩:=L3
   obtain ⟨wp3,wc3,ew,hwc3⟩:=hL3.mem
   obtain ⟨sp3,sc3,es⟩:=hL3.q.opened
   obtain ⟨lp3,lc3,el⟩:=hL3.l.opened
   dsimp only at ew es el ⊢
   subst ew es el
   refine dropS 14 ?_
   refine dropS 16 ?_
   refine drawC 22 17 [0,1,2,3,4,5,6,7,8,9,10,11,12,13,14,15,16] [17,18,19,20,21] [Blk.mk M (mc (.slice wp3 Z.ws.length wc3) (.slice sp3 (Z.seen.map inV).length sc3) (.slice lp3 (ts3.map tlV).length lc3) C two Z) 82] ?_
   refine runZ ?_
   rw [show (List.take 29 (List.drop 1 (mc (.slice wp3 Z.ws.length wc3) (.slice sp3 (Z.seen.map inV).length sc3) (.slice lp3 (ts3.map tlV).length lc3) C two Z).toList)).toArray=obC C (.slice sp3 (Z.seen.map inV).length sc3) Z from rfl,show (List.take 15 (List.drop 15 (mc (.slice wp3 Z.ws.length wc3) (.slice sp3 (Z.seen.map inV).length sc3) (.slice lp3 (ts3.map tlV).length lc3) C two Z).toList)).toArray=(rgV Z.r).toArray from rfl,show (List.take 1 (mc (.slice wp3 Z.ws.length wc3) (.slice sp3 (Z.seen.map inV).length sc3) (.slice lp3 (ts3.map tlV).length lc3) C two Z).toList).toArray=#[.slice wp3 Z.ws.length wc3] from rfl]
   refine cPut (b:=B5) (tb:=24) (cs:=#[.slice none 0 0]) (cs':=#[.slice wp3 Z.ws.length wc3]) (hp':=Blk.mk M (mc (.slice wp3 Z.ws.length wc3) (.slice sp3 (Z.seen.map inV).length sc3) (.slice lp3 (ts3.map tlV).length lc3) C two Z) 82::(Blk.mk B7 (obC 0 (.slice none 0 0) noPS) 46::Blk.mk B6 (rgV noRg).toArray 30::[]++((hl3++hs3++(hw3++ht3))++[Blk.mk B4 (pkV pk).toArray 51,Blk.mk B3 (rtV two).toArray 33,Blk.mk B2 (rgV r).toArray 30,Blk.mk B1 #[.slice p ws.length cap] 24]))) ?_ (hperm:=by (refine perm_cnt fun a=>?_;simp only [cntB_app,cntB_cons,cntB_nil]<;>omega))
   refine cPut (b:=B6) (tb:=30) (cs:=(rgV noRg).toArray) (cs':=(rgV Z.r).toArray) (hp':=Blk.mk M (mc (.slice wp3 Z.ws.length wc3) (.slice sp3 (Z.seen.map inV).length sc3) (.slice lp3 (ts3.map tlV).length lc3) C two Z) 82::(Blk.mk B7 (obC 0 (.slice none 0 0) noPS) 46::Blk.mk B5 #[.slice wp3 Z.ws.length wc3] 24::[]++((hl3++hs3++(hw3++ht3))++[Blk.mk B4 (pkV pk).toArray 51,Blk.mk B3 (rtV two).toArray 33,Blk.mk B2 (rgV r).toArray 30,Blk.mk B1 #[.slice p ws.length cap] 24]))) ?_ (hperm:=by (refine perm_cnt fun a=>?_;simp only [cntB_app,cntB_cons,cntB_nil]<;>omega))
   refine cVal (fun hx=>x_assign rfl) ?_
   refine cCell (b:=B7) (tb:=46) (cs:=obC 0 (.slice none 0 0) noPS) (obC C (.slice sp3 (Z.seen.map inV).length sc3) Z) (hp':=Blk.mk M (mc (.slice wp3 Z.ws.length wc3) (.slice sp3 (Z.seen.map inV).length sc3) (.slice lp3 (ts3.map tlV).length lc3) C two Z) 82::(Blk.mk B6 (rgV Z.r).toArray 30::Blk.mk B5 #[.slice wp3 Z.ws.length wc3] 24::[]++((hl3++hs3++(hw3++ht3))++[Blk.mk B4 (pkV pk).toArray 51,Blk.mk B3 (rtV two).toArray 33,Blk.mk B2 (rgV r).toArray 30,Blk.mk B1 #[.slice p ws.length cap] 24]))) ?_ (hperm:=by (refine perm_cnt fun a=>?_;simp only [cntB_app,cntB_cons,cntB_nil]<;>omega))
   refine cVal (fun hx=>x_assign rfl) ?_
   refine dc_nil ?_
   refine opsC ?_
   refine ops_le (Blk.mk B7 (obC C (.slice sp3 (Z.seen.map inV).length sc3) Z) 46::Blk.mk B6 (rgV Z.r).toArray 30::Blk.mk B5 #[.slice wp3 Z.ws.length wc3] 24::(hl3++hs3++(hw3++ht3))) (by (refine hpLe_cnt fun a=>?_;simp only [cntB_app,cntB_cons,cntB_nil]<;>omega)) ?_
   refine run ?_
   refine finAATAT (cs:=#[.slice wp3 Z.ws.length wc3]) (cs2:=(rgV Z.r).toArray) (cs3:=obC C (.slice sp3 (Z.seen.map inV).length sc3) Z) ?_
   exact ⟨_,hL3,rfl,by (refine hpLe_cnt fun a=>?_;simp only [cntB_app,cntB_cons,cntB_nil]<;>omega)⟩
end Go.Proofs.YtndklbjnofdgeaaGreat
namespace Go.Proofs.YtndklbjnofdgeaaGreat
open Go.RowKit
set_option linter.unusedVariables false
set_option linter.unusedSimpArgs false
set_option maxRecDepth 20000
attribute [local irreducible] Hy St Ops DH DHF DE1 DE2 DE3 DS DCh DWF
structure RMOk (wv:Value) (ws:List Nat) (L:ML) (s:PS):Prop where
 w:(L.wv=wv∧s.ws=ws)∨Own 25 1 L.wv L.hw (s.ws.map uV)
 c:∃ p c,L.wv=.slice p s.ws.length c∧s.ws.length≤c
 q:Own 3 1 L.sv L.hs (s.seen.map inV)
 l:Own 77 2 L.lv L.hl (L.ts.map tlV)
 t:TlsI L.ht L.ts
 p:L.ts.map TlD.p=s.ls
theorem RMOk.tl {wv:Value} {ws:List Nat} {L:ML} {s:PS} (h:RMOk wv ws L s) (cpu:Nat):(L.ts.getD cpu default).p=s.tl cpu:=by
 unfold PS.tl
 rw [← h.p,List.getD_eq_getElem?_getD,List.getD_eq_getElem?_getD,List.getElem?_map]
 cases L.ts[cpu]?<;>rfl
theorem RMOk.row {wv:Value} {ws:List Nat} {L:ML} {s:PS} {cpu:Nat} {two:RtD} (h:RMOk wv ws L s) (hs:PsOk s cpu two):∃ g lc lcur,∃ tc:TlD,L.lv=.slice (some ⟨g,0,none⟩) L.ts.length lc∧L.hl=[⟨g,lcur,77⟩]∧List.take 2 (List.drop (cpu * 2) lcur.toList)=[tc.ev,tc.dv]∧tc.p=s.tl cpu∧TlI L.ht tc∧cpu<L.ts.length∧cpu * 2 + 2≤lcur.size ∧
  (∀ (j:Nat) (c:Value),[tc.ev,tc.dv][j]?=some c→nth lcur.toList (cpu * 2 + j)=some c) ∧
  (∀ (y:TlD) (hy:Hp),TlI hy y→Own 77 2 (.slice (some ⟨g,0,none⟩) L.ts.length lc) [⟨g,putAt lcur (cpu * 2) [y.ev,y.dv],77⟩] ((L.ts.set cpu y).map tlV)∧TlsI (hy++L.ht) (L.ts.set cpu y)∧(L.ts.set cpu y).map TlD.p=s.ls.set cpu y.p) ∧
  (∀ (y:TlD) (hy:Hp),tc.ev=y.ev→TlI hy y→Own 77 2 (.slice (some ⟨g,0,none⟩) L.ts.length lc) [⟨g,putAt lcur (cpu * 2 + 1) [y.dv],77⟩] ((L.ts.set cpu y).map tlV)∧TlsI (hy++L.ht) (L.ts.set cpu y)∧(L.ts.set cpu y).map TlD.p=s.ls.set cpu y.p):=by
 have hlen:L.ts.length=s.ls.length:=by rw [← h.p,List.length_map]
 have hcl:cpu<L.ts.length:=by rw [hlen];exact hs.cpu
 obtain ⟨g,lc,lcur,e1,e2,hsz,hnth,hput⟩:=h.l.putR hcl
 refine ⟨g,lc,lcur,L.ts.getD cpu default,e1,e2,nth_two (hnth 0 _ rfl) (hnth 1 _ rfl),h.tl cpu,h.t _ (getD_mem hcl),hcl,hsz,hnth,fun y hy hty=>⟨hput 0 [y.ev,y.dv] y (by simp) rfl ⟨rfl,rfl⟩,tlsI_set hty h.t,by rw [List.map_set,h.p]⟩,fun y hy he hty=>⟨hput 1 [y.dv] y (by simp) (by show [_,_]=[_,_];rw [he]) ⟨rfl,rfl⟩,tlsI_set hty h.t,by rw [List.map_set,h.p]⟩⟩
theorem RMOk.fault {wv:Value} {ws:List Nat} {L:ML} {s:PS} (h:RMOk wv ws L s) (f:FtD) (addr:Nat):RMOk wv ws L (faultP s f addr):=by
 unfold faultP
 cases decide (f.stage=2) with
 | true=>exact ⟨h.w,h.c,h.q,h.l,h.t,h.p⟩
 | false=>exact ⟨h.w,h.c,h.q,h.l,h.t,h.p⟩
end Go.Proofs.YtndklbjnofdgeaaGreat
namespace Go.Proofs.YtndklbjnofdgeaaGreat
open Go.RowKit
set_option linter.unusedVariables false
set_option linter.unusedSimpArgs false
set_option maxRecDepth 20000
attribute [local irreducible] Hy St Ops DH DHF DE1 DE2 DE3 DS DCh DWF
theorem RMOk.trap {wv:Value} {ws:List Nat} {L:ML} {s:PS} (h:RMOk wv ws L s) (a b:Nat):RMOk wv ws L (trapP s a b):=⟨h.w,h.c,h.q,h.l,h.t,h.p⟩
end Go.Proofs.YtndklbjnofdgeaaGreat
namespace Go.Proofs.YtndklbjnofdgeaaGreat
open Go.RowKit
set_option linter.unusedVariables false
set_option linter.unusedSimpArgs false
set_option maxRecDepth 20000
attribute [local irreducible] Hy St Ops DH DHF DE1 DE2 DE3 DS DCh DWF
theorem RMOk.tls {wv:Value} {ws:List Nat} {L:ML} {s:PS} {cpu:Nat} {two:RtD} (h:RMOk wv ws L s) (hs:PsOk s cpu two) {w:World} (h1:Here L.hl w) (h2:Here L.ht w):TlAt w L.lv L.ts:=by
 have hlen:L.ts.length=s.ls.length:=by rw [← h.p,List.length_map]
 have:=hs.len
 exact ⟨h.l.lie h1 (by rw [List.length_map];omega),fun t ht=>((h.t t ht).1 w h2).1,fun t ht=>((h.t t ht).1 w h2).2⟩
theorem RMOk.tlbs {wv:Value} {ws:List Nat} {L:ML} {s:PS} {cpu:Nat} {two:RtD} (h:RMOk wv ws L s) (hs:PsOk s cpu two):(∀ t∈L.ts,t.es.length≤t.ec)∧(∀ t∈L.ts,tlbOk t.es t.ds=true):=by
 refine ⟨fun t ht=>(h.t t ht).2,fun t ht=>?_⟩
 have hm:t.p∈s.ls:=by rw [← h.p];exact List.mem_map.2 ⟨t,ht,rfl⟩
 exact (hs.es _ hm).tlb
section
variable {n : Nat} {w0 : World} {mu : List Nat} {l : Fm} {h0 hp hc : Hp} {all : Array Oper} {ds : List (Nat × Nat)} {t0 : Nat} {ivS ivE : Fm} {Y : Fm → Fm → Hp → Prop} {i d : Nat} {r : List (Nat × Bool)} {ty : TypeId} {pos : String} {af : Array Edge}
end
end Go.Proofs.YtndklbjnofdgeaaGreat
namespace Go.Proofs.YtndklbjnofdgeaaGreat
open Go.RowKit
set_option linter.unusedVariables false
set_option linter.unusedSimpArgs false
set_option maxRecDepth 20000
attribute [local irreducible] Hy St Ops DH DHF DE1 DE2 DE3 DS DCh DWF
structure Ak14 (w:World) (wv gv ev dv pv:Value) (ws:List Nat) (pgs:List Int) (es:List EnD) (ds:List IvD) (ps:List PkD):Prop where
 w64:W64 ws
 sw:SlAt w wv 1 (ws.map uV)
 wcap:∃ q c,wv=.slice q ws.length c∧ws.length≤c
 sg:SlAt w gv 1 (pgs.map inV)
 se:SlAt w ev 14 (es.map enV)
 cap:∃ q c,ev=.slice q es.length c∧es.length≤c
 sd:SlAt w dv 4 (ds.map ivV)
 sp:SlAt w pv 6 (ps.map pkV)
 wl:ws.length≤281474976710656
 gl:pgs.length≤281474976710656
 el:es.length≤281474976710656
 dl:ds.length≤281474976710656
 pl:ps.length≤281474976710656
theorem Ak14.good {w w':World} {hp:Hp} {wv gv ev dv pv:Value} {ws:List Nat} {pgs:List Int} {es:List EnD} {ds:List IvD} {ps:List PkD} (h:Ak14 w wv gv ev dv pv ws pgs es ds ps) (hG:Good w [] hp w'):Ak14 w' wv gv ev dv pv ws pgs es ds ps:=⟨h.w64,h.sw.good hG,h.wcap,h.sg.good hG,h.se.good hG,h.cap,h.sd.good hG,h.sp.good hG,h.wl,h.gl,h.el,h.dl,h.pl⟩
section
variable {w : World} {wv gv ev dv pv : Value} {ws : List Nat} {pgs : List Int} {es : List EnD} {ds : List IvD} {ps : List PkD} {one two : RtD} {fr ac : Int}
end
end Go.Proofs.YtndklbjnofdgeaaGreat
namespace Go.Proofs.YtndklbjnofdgeaaGreat
open Go.RowKit
set_option linter.unusedVariables false
set_option linter.unusedSimpArgs false
set_option maxRecDepth 20000
attribute [local irreducible] Hy St Ops DH DHF DE1 DE2 DE3 DS DCh DWF
theorem TlsW.get:∀ {ts:List TlD} {h:Hp} {k:Nat},TlsW (ts.drop k) h→k<ts.length→∃ he hd hr,TlOw (ts.getD k default) he hd∧TlsW (ts.drop (k + 1)) hr∧HpLe (he++hd++hr) h
 | [],_,_,_,hk=>absurd hk (by simp)
 | t::ts,h,0,hw,_=>hw
 | t::ts,h,k + 1,hw,hk=>TlsW.get (ts:=ts) (k:=k) hw (by simpa using hk)
structure Sk15 (w:World) (wv lv pv:Value) (ws:List Nat) (ts:List TlD) (ps:List PkD) (r:RgD):Prop where
 w64:W64 ws
 r:r.Ok
 sw:SlAt w wv 1 (ws.map uV)
 wcap:∃ q c,wv=.slice q ws.length c∧ws.length≤c
 tl:TlAt w lv ts
 tcap:∀ t∈ts,t.es.length≤t.ec
 sp:SlAt w pv 6 (ps.map pkV)
 wl:ws.length≤281474976710656
 ll:ts.length≤281474976710656
 el:∀ t∈ts,t.es.length≤281474976710656∧t.ds.length≤281474976710656
 pl:ps.length≤281474976710656
theorem Sk15.good {w w':World} {hp:Hp} {wv lv pv:Value} {ws:List Nat} {ts:List TlD} {ps:List PkD} {r:RgD} (h:Sk15 w wv lv pv ws ts ps r) (hG:Good w [] hp w'):Sk15 w' wv lv pv ws ts ps r:=⟨h.w64,h.r,h.sw.good hG,h.wcap,h.tl.good hG,h.tcap,h.sp.good hG,h.wl,h.ll,h.el,h.pl⟩
def scV (wv lv pv:Value) (r:RgD) (cpu:Int) (two:RtD):Array Value:=#[wv,.int .u64 (r.x0:Nat),.int .u64 (r.x1:Nat),.int .u64 (r.x2:Nat),.int .u64 (r.x3:Nat),.int .u64 (r.x4:Nat),.int .u64 (r.x5:Nat),.int .u64 (r.x6:Nat),.int .u64 (r.x7:Nat),.int .u64 (r.pc:Nat),.int .u64 (r.ttbr:Nat),.int .u64 (r.sctlr:Nat),.int .u64 (r.vbar:Nat),.int .u64 (r.elr:Nat),.int .u64 (r.esr:Nat),.int .u64 (r.far:Nat),lv,.int .i64 cpu,.bool two.on,.int .i64 two.frame,.int .i64 two.tag,pv]
theorem num15_e (n:Int) (w:World):Fn Tryz.prog 18 [.int .i64 n].toArray w [] (fun u _=>u=.int .i64 n):=by
 refine enter Tryz.func18 ?_
 refine run ?_
 exact fin1 rfl
end Go.Proofs.YtndklbjnofdgeaaGreat
namespace Go.Proofs.YtndklbjnofdgeaaGreat
open Go.ChangeShapes Go.WideShapes Go.ChangeAt Go.RowKit
set_option linter.unusedVariables false
set_option linter.unusedSimpArgs false
set_option maxRecDepth 20000
theorem okW_u {v:Value} (h:okW (.i .u64) v=true):∃ a:Nat,v=.int .u64 (a:Int)∧a<18446744073709551616:=by
 cases v<;>simp only [okW,Bool.and_eq_true,decide_eq_true_eq,Bool.false_eq_true] at h
 obtain ⟨rfl,h⟩:=h
 rename_i n
 simp only [Lit.wf,Bool.and_eq_true,decide_eq_true_eq] at h
 have h0:0≤n:=Int.le_trans (by decide) h.1
 have h1:n≤18446744073709551615:=Int.le_trans h.2 (by decide)
 exact ⟨n.toNat,by rw [Int.toNat_of_nonneg h0],by omega⟩
theorem entry_of {cs:List Value} (h:okLvW [.i .i64,.i .i64,.i .i64,.b,.i .i64,.i .i64,.i .i64,.i .i64,.b,.b,.b,.b,.b,.i .i64] cs=true):∃ e:EnD,cs=enV e∧True:=by
 obtain ⟨_,_,rfl,h0,r0⟩:=okLvW_cons h
 obtain ⟨_,_,rfl,h1,r1⟩:=okLvW_cons r0
 obtain ⟨_,_,rfl,h2,r2⟩:=okLvW_cons r1
 obtain ⟨_,_,rfl,h3,r3⟩:=okLvW_cons r2
 obtain ⟨_,_,rfl,h4,r4⟩:=okLvW_cons r3
 obtain ⟨_,_,rfl,h5,r5⟩:=okLvW_cons r4
 obtain ⟨_,_,rfl,h6,r6⟩:=okLvW_cons r5
 obtain ⟨_,_,rfl,h7,r7⟩:=okLvW_cons r6
 obtain ⟨_,_,rfl,h8,r8⟩:=okLvW_cons r7
 obtain ⟨_,_,rfl,h9,r9⟩:=okLvW_cons r8
 obtain ⟨_,_,rfl,h10,r10⟩:=okLvW_cons r9
 obtain ⟨_,_,rfl,h11,r11⟩:=okLvW_cons r10
 obtain ⟨_,_,rfl,h12,r12⟩:=okLvW_cons r11
 obtain ⟨_,_,rfl,h13,r13⟩:=okLvW_cons r12
 obtain ⟨a0,rfl,_⟩:=okW_i h0
 obtain ⟨a1,rfl,_⟩:=okW_i h1
 obtain ⟨a2,rfl,_⟩:=okW_i h2
 obtain ⟨a3,rfl⟩:=okW_b h3
 obtain ⟨a4,rfl,_⟩:=okW_i h4
 obtain ⟨a5,rfl,_⟩:=okW_i h5
 obtain ⟨a6,rfl,_⟩:=okW_i h6
 obtain ⟨a7,rfl,_⟩:=okW_i h7
 obtain ⟨a8,rfl⟩:=okW_b h8
 obtain ⟨a9,rfl⟩:=okW_b h9
 obtain ⟨a10,rfl⟩:=okW_b h10
 obtain ⟨a11,rfl⟩:=okW_b h11
 obtain ⟨a12,rfl⟩:=okW_b h12
 obtain ⟨a13,rfl,_⟩:=okW_i h13
 obtain rfl:=okLvW_nil r13
 exact ⟨⟨a0,a1,a2,a3,a4,a5,a6,a7,a8,a9,a10,a11,a12,a13⟩,rfl,trivial⟩
theorem inval_of {cs:List Value} (h:okLvW [.i .i64,.i .i64,.i .i64,.i .i64] cs=true):∃ e:IvD,cs=ivV e∧True:=by
 obtain ⟨_,_,rfl,h0,r0⟩:=okLvW_cons h
 obtain ⟨_,_,rfl,h1,r1⟩:=okLvW_cons r0
 obtain ⟨_,_,rfl,h2,r2⟩:=okLvW_cons r1
 obtain ⟨_,_,rfl,h3,r3⟩:=okLvW_cons r2
 obtain ⟨a0,rfl,_⟩:=okW_i h0
 obtain ⟨a1,rfl,_⟩:=okW_i h1
 obtain ⟨a2,rfl,_⟩:=okW_i h2
 obtain ⟨a3,rfl,_⟩:=okW_i h3
 obtain rfl:=okLvW_nil r3
 exact ⟨⟨a0,a1,a2,a3⟩,rfl,trivial⟩
def RgD.Fits (r:RgD):Prop:=r.x0<18446744073709551616∧r.x1<18446744073709551616∧r.x2<18446744073709551616∧r.x3<18446744073709551616∧r.x4<18446744073709551616∧r.x5<18446744073709551616∧r.x6<18446744073709551616∧r.x7<18446744073709551616∧r.pc<18446744073709551616∧r.ttbr<18446744073709551616∧r.sctlr<18446744073709551616∧r.vbar<18446744073709551616∧r.elr<18446744073709551616∧r.esr<18446744073709551616∧r.far<18446744073709551616
theorem regs_of {cs:List Value} (h:okLvW [.i .u64,.i .u64,.i .u64,.i .u64,.i .u64,.i .u64,.i .u64,.i .u64,.i .u64,.i .u64,.i .u64,.i .u64,.i .u64,.i .u64,.i .u64] cs=true):∃ r:RgD,cs=rgV r∧r.Fits:=by
 obtain ⟨_,_,rfl,h0,r0⟩:=okLvW_cons h
 obtain ⟨_,_,rfl,h1,r1⟩:=okLvW_cons r0
 obtain ⟨_,_,rfl,h2,r2⟩:=okLvW_cons r1
 obtain ⟨_,_,rfl,h3,r3⟩:=okLvW_cons r2
 obtain ⟨_,_,rfl,h4,r4⟩:=okLvW_cons r3
 obtain ⟨_,_,rfl,h5,r5⟩:=okLvW_cons r4
 obtain ⟨_,_,rfl,h6,r6⟩:=okLvW_cons r5
 obtain ⟨_,_,rfl,h7,r7⟩:=okLvW_cons r6
 obtain ⟨_,_,rfl,h8,r8⟩:=okLvW_cons r7
 obtain ⟨_,_,rfl,h9,r9⟩:=okLvW_cons r8
 obtain ⟨_,_,rfl,h10,r10⟩:=okLvW_cons r9
 obtain ⟨_,_,rfl,h11,r11⟩:=okLvW_cons r10
 obtain ⟨_,_,rfl,h12,r12⟩:=okLvW_cons r11
 obtain ⟨_,_,rfl,h13,r13⟩:=okLvW_cons r12
 obtain ⟨_,_,rfl,h14,r14⟩:=okLvW_cons r13
 obtain ⟨a0,rfl,b0⟩:=okW_u h0
 obtain ⟨a1,rfl,b1⟩:=okW_u h1
 obtain ⟨a2,rfl,b2⟩:=okW_u h2
 obtain ⟨a3,rfl,b3⟩:=okW_u h3
 obtain ⟨a4,rfl,b4⟩:=okW_u h4
 obtain ⟨a5,rfl,b5⟩:=okW_u h5
 obtain ⟨a6,rfl,b6⟩:=okW_u h6
 obtain ⟨a7,rfl,b7⟩:=okW_u h7
 obtain ⟨a8,rfl,b8⟩:=okW_u h8
 obtain ⟨a9,rfl,b9⟩:=okW_u h9
 obtain ⟨a10,rfl,b10⟩:=okW_u h10
 obtain ⟨a11,rfl,b11⟩:=okW_u h11
 obtain ⟨a12,rfl,b12⟩:=okW_u h12
 obtain ⟨a13,rfl,b13⟩:=okW_u h13
 obtain ⟨a14,rfl,b14⟩:=okW_u h14
 obtain rfl:=okLvW_nil r14
 exact ⟨⟨a0,a1,a2,a3,a4,a5,a6,a7,a8,a9,a10,a11,a12,a13,a14⟩,rfl,b0,b1,b2,b3,b4,b5,b6,b7,b8,b9,b10,b11,b12,b13,b14⟩
section
variable {H : Type} {enc : TypeId × Value → H} {w : World} {base : Nat} {spare : Nat → Bool} {held : Bool}
theorem open_words {fuel:Nat} {cs:List Value} {x:DataW H × List MemPlace} (h:DataW.trod enc Tryz.prog w base spare held fuel 22 cs=some x) (hz:Szd Tryz.prog 22 x.1):∃ v,∃ xs:List Nat,cs=[v]∧SlAt w v 1 (xs.map uV)∧(∀ a∈xs,a<18446744073709551616)∧xs.length≤reachBytes:=
 open_flatL (ks:=[.i .u64]) Tryz.underlying22 (by kernel_rfl) (by kernel_rfl) (by decide) (by kernel_rfl) (fun cs h=>by
  obtain ⟨_,_,rfl,h1,h⟩:=okLvW_cons h
  obtain rfl:=okLvW_nil h
  obtain ⟨a,rfl,ha⟩:=okW_u h1
  exact ⟨a,rfl,ha⟩) h hz
theorem trod_cap {fuel:Nat} {t e:TypeId} {p:Option Addr} {n c:Nat} {x:DataW H × List MemPlace} (ht:Tryz.prog.underlying t=some (.slice e)) (h:DataW.trod enc Tryz.prog w base spare held fuel t [.slice p n c]=some x):n≤c:=by
 rcases Go.Deep.open_slice ht h with ⟨hc,_⟩ | ⟨a,len,cap,m,k,D,Pl,hc,hb,hl,hm,hmm,hxx,hx⟩
 ·injection hc with hc
  injection hc with _ h1 h2
  omega
 ·injection hc with hc
  injection hc with _ h1 h2
  omega
theorem open_entries {fuel:Nat} {cs:List Value} {x:DataW H × List MemPlace} (h:DataW.trod enc Tryz.prog w base spare held fuel 74 cs=some x) (hz:Szd Tryz.prog 74 x.1):∃ v,∃ xs:List EnD,cs=[v]∧SlAt w v 14 (xs.map enV)∧(∀ a∈xs,True)∧xs.length≤reachBytes:=
 open_flatL (f:=enV) (q:=fun _=>True) (ks:=[.i .i64,.i .i64,.i .i64,.b,.i .i64,.i .i64,.i .i64,.i .i64,.b,.b,.b,.b,.b,.i .i64]) Tryz.underlying74 (by kernel_rfl) (tb_ok.gsz (t:=114) (s:=14) rfl) (by decide) (by kernel_rfl) (fun cs hc=>entry_of hc) h hz
theorem open_invals {fuel:Nat} {cs:List Value} {x:DataW H × List MemPlace} (h:DataW.trod enc Tryz.prog w base spare held fuel 75 cs=some x) (hz:Szd Tryz.prog 75 x.1):∃ v,∃ xs:List IvD,cs=[v]∧SlAt w v 4 (xs.map ivV)∧(∀ a∈xs,True)∧xs.length≤reachBytes:=
 open_flatL (f:=ivV) (q:=fun _=>True) (ks:=[.i .i64,.i .i64,.i .i64,.i .i64]) Tryz.underlying75 (by kernel_rfl) (tb_ok.gsz (t:=121) (s:=4) rfl) (by decide) (by kernel_rfl) (fun cs hc=>inval_of hc) h hz
theorem open_tlb {fuel:Nat} {cs:List Value} {x:DataW H × List MemPlace} (h:DataW.trod enc Tryz.prog w base spare held fuel 77 cs=some x) (hz:Szd Tryz.prog 77 x.1):∃ t:TlD,cs=tlV t∧(SlAt w t.ev 14 (t.es.map enV)∧SlAt w t.dv 4 (t.ds.map ivV)∧t.es.length≤t.ec∧t.es.length≤reachBytes∧t.ds.length≤reachBytes):=by
 obtain ⟨hl,n,hf⟩:=trod_fields Tryz.underlying77 h hz
 rw [cellsOf_sz (show szOf Tryz.prog 77=some 2 from tb_ok.gsz rfl)] at hl
 match cs,hl with
 | [c0,c1],_=>
  have c1s:Tryz.prog.cellsOf 74=1:=by kernel_rfl
  have c2s:Tryz.prog.cellsOf 75=1:=by kernel_rfl
  obtain ⟨_,h0,z0⟩:=hf 0 _ rfl
  obtain ⟨_,h1,z1⟩:=hf 1 _ rfl
  simp only [List.getElem_toArray,List.getElem_cons_zero,List.getElem_cons_succ,c1s,c2s,List.drop_zero,List.drop_succ_cons,List.take_succ_cons,List.take_zero] at h0 h1 z0 z1
  obtain ⟨v0,es,e0,s0,_,l0⟩:=open_entries h0 z0
  obtain ⟨v1,ds,e1,s1,_,l1⟩:=open_invals h1 z1
  cases e0;cases e1
  obtain ⟨p0,k0,rfl,_,_⟩:=s0.opened
  obtain ⟨p1,k1,rfl,_,_⟩:=s1.opened
  exact ⟨⟨es,ds,p0,k0,p1,k1⟩,rfl,s0,s1,trod_cap Tryz.underlying74 h0,l0,l1⟩
end
end Go.Proofs.YtndklbjnofdgeaaGreat
namespace Go.Proofs.YtndklbjnofdgeaaGreat
open Go.ChangeShapes Go.WideShapes Go.ChangeAt Go.RowKit
set_option linter.unusedVariables false
set_option linter.unusedSimpArgs false
set_option maxRecDepth 20000
theorem pick_of {cs:List Value} (h:okLvW [.i .i64,.b,.b,.b,.i .i64,.b] cs=true):∃ e:PkD,cs=pkV e∧True:=by
 obtain ⟨_,_,rfl,h0,r0⟩:=okLvW_cons h
 obtain ⟨_,_,rfl,h1,r1⟩:=okLvW_cons r0
 obtain ⟨_,_,rfl,h2,r2⟩:=okLvW_cons r1
 obtain ⟨_,_,rfl,h3,r3⟩:=okLvW_cons r2
 obtain ⟨_,_,rfl,h4,r4⟩:=okLvW_cons r3
 obtain ⟨_,_,rfl,h5,r5⟩:=okLvW_cons r4
 obtain ⟨a0,rfl,_⟩:=okW_i h0
 obtain ⟨a1,rfl⟩:=okW_b h1
 obtain ⟨a2,rfl⟩:=okW_b h2
 obtain ⟨a3,rfl⟩:=okW_b h3
 obtain ⟨a4,rfl,_⟩:=okW_i h4
 obtain ⟨a5,rfl⟩:=okW_b h5
 obtain rfl:=okLvW_nil r5
 exact ⟨⟨a0,a1,a2,a3,a4,a5⟩,rfl,trivial⟩
theorem root_of {cs:List Value} (h:okLvW [.b,.i .i64,.i .i64] cs=true):∃ e:RtD,cs=rtV e:=by
 obtain ⟨_,_,rfl,h0,r0⟩:=okLvW_cons h
 obtain ⟨_,_,rfl,h1,r1⟩:=okLvW_cons r0
 obtain ⟨_,_,rfl,h2,r2⟩:=okLvW_cons r1
 obtain ⟨a0,rfl⟩:=okW_b h0
 obtain ⟨a1,rfl,_⟩:=okW_i h1
 obtain ⟨a2,rfl,_⟩:=okW_i h2
 obtain rfl:=okLvW_nil r2
 exact ⟨⟨a0,a1,a2⟩,rfl⟩
section
variable {H : Type} {enc : TypeId × Value → H} {w : World} {base : Nat} {spare : Nat → Bool} {held : Bool}
theorem open_picks {fuel:Nat} {cs:List Value} {x:DataW H × List MemPlace} (h:DataW.trod enc Tryz.prog w base spare held fuel 34 cs=some x) (hz:Szd Tryz.prog 34 x.1):∃ v,∃ xs:List PkD,cs=[v]∧SlAt w v 6 (xs.map pkV)∧(∀ a∈xs,True)∧xs.length≤reachBytes:=
 open_flatL (f:=pkV) (q:=fun _=>True) (ks:=[.i .i64,.b,.b,.b,.i .i64,.b]) Tryz.underlying34 (by kernel_rfl) (tb_ok.gsz (t:=51) (s:=6) rfl) (by decide) (by kernel_rfl) (fun cs hc=>pick_of hc) h hz
theorem open_memW {fuel:Nat} {cs:List Value} {x:DataW H × List MemPlace} (h:DataW.trod enc Tryz.prog w base spare held fuel 24 cs=some x) (hz:Szd Tryz.prog 24 x.1):∃ v,∃ ws:List Nat,cs=[v]∧W64 ws∧SlAt w v 1 (ws.map uV)∧(∃ q c,v=.slice q ws.length c∧ws.length≤c)∧ws.length≤reachBytes:=by
 obtain ⟨hl,n,hf⟩:=trod_fields Tryz.underlying24 h hz
 rw [cellsOf_sz (show szOf Tryz.prog 24=some 1 from tb_ok.gsz rfl)] at hl
 match cs,hl with
 | [c0],_=>
  have s0:Tryz.prog.cellsOf 22=1:=by kernel_rfl
  obtain ⟨_,h0,z0⟩:=hf 0 _ rfl
  simp only [List.getElem_toArray,List.getElem_cons_zero,List.getElem_cons_succ,s0,List.drop_zero,List.drop_succ_cons,List.take_succ_cons,List.take_zero] at h0 z0
  obtain ⟨v,ws,e0,s0,w0,l0⟩:=open_words h0 z0
  cases e0
  obtain ⟨p0,k0,rfl,_,_⟩:=s0.opened
  exact ⟨_,ws,rfl,w0,s0,⟨_,_,rfl,trod_cap Tryz.underlying22 h0⟩,l0⟩
theorem open_tlbs {fuel:Nat} {cs:List Value} {x:DataW H × List MemPlace} (h:DataW.trod enc Tryz.prog w base spare held fuel 31 cs=some x) (hz:Szd Tryz.prog 31 x.1):∃ v,∃ ts:List TlD,cs=[v]∧TlAt w v ts∧(∀ t∈ts,t.es.length≤t.ec∧t.es.length≤reachBytes∧t.ds.length≤reachBytes)∧ts.length≤reachBytes:=by
 obtain ⟨p,xs,cap,rfl,hl,hr⟩:=open_each (α:=TlD) (R:=fun cs t=>cs=tlV t∧(SlAt w t.ev 14 (t.es.map enV)∧SlAt w t.dv 4 (t.ds.map ivV)∧t.es.length≤t.ec∧t.es.length≤reachBytes∧t.ds.length≤reachBytes)) Tryz.underlying31 (tb_ok.gsz (t:=77) (s:=2) rfl) (by decide) (by kernel_rfl) (fun n cs x hx hz=>open_tlb hx hz) h hz
 obtain ⟨h1,h2⟩:=slAt_each (f:=tlV) (q:=fun t=>SlAt w t.ev 14 (t.es.map enV)∧SlAt w t.dv 4 (t.ds.map ivV)∧t.es.length≤t.ec∧t.es.length≤reachBytes∧t.ds.length≤reachBytes) hl hr
 exact ⟨_,xs,rfl,⟨h1,fun t ht=>(h2 t ht).1,fun t ht=>(h2 t ht).2.1⟩,fun t ht=>(h2 t ht).2.2,hl⟩
theorem RgD.Fits.ok {r:RgD} (h:r.Fits):r.Ok:=by
 obtain ⟨h0,h1,h2,h3,h4,h5,h6,h7,h8,h9,h10,h11,h12,h13,h14⟩:=h
 exact ⟨h0,h1,h2,h3,h4,h5,h6,h7,h8,h9,h10,h11,h12,h13,h14⟩
theorem open_script15 {fuel:Nat} {cs:List Value} {x:DataW H × List MemPlace} (h:DataW.trod enc Tryz.prog w base spare held fuel 36 cs=some x) (hz:Szd Tryz.prog 36 x.1):∃ wv lv pv ws ts ps r cpu two,cs=(scV wv lv pv r cpu two).toList∧Sk15 w wv lv pv ws ts ps r:=by
 obtain ⟨hl,n,hf⟩:=trod_fields Tryz.underlying36 h hz
 rw [cellsOf_sz (show szOf Tryz.prog 36=some 22 from tb_ok.gsz rfl)] at hl
 match cs,hl with
 | [c0,c1,c2,c3,c4,c5,c6,c7,c8,c9,c10,c11,c12,c13,c14,c15,c16,c17,c18,c19,c20,c21],_=>
  have s0:Tryz.prog.cellsOf 24=1:=by kernel_rfl
  have s1:Tryz.prog.cellsOf 30=15:=by kernel_rfl
  have s2:Tryz.prog.cellsOf 31=1:=by kernel_rfl
  have s3:Tryz.prog.cellsOf 3=1:=by kernel_rfl
  have s4:Tryz.prog.cellsOf 33=3:=by kernel_rfl
  have s5:Tryz.prog.cellsOf 34=1:=by kernel_rfl
  obtain ⟨_,h0,z0⟩:=hf 0 _ rfl
  obtain ⟨_,h1,z1⟩:=hf 1 _ rfl
  obtain ⟨_,h2,z2⟩:=hf 2 _ rfl
  obtain ⟨_,h3,z3⟩:=hf 3 _ rfl
  obtain ⟨_,h4,z4⟩:=hf 4 _ rfl
  obtain ⟨_,h5,z5⟩:=hf 5 _ rfl
  simp only [List.getElem_toArray,List.getElem_cons_zero,List.getElem_cons_succ,s0,s1,s2,s3,s4,s5,List.drop_zero,List.drop_succ_cons,List.take_succ_cons,List.take_zero] at h0 z0 h1 z1 h2 z2 h3 z3 h4 z4 h5 z5
  obtain ⟨wv,ws,e0,w0,m0,k0,l0⟩:=open_memW h0 z0
  obtain ⟨r,e1,r1⟩:=regs_of (trod_leaves 8 30 [.i .u64,.i .u64,.i .u64,.i .u64,.i .u64,.i .u64,.i .u64,.i .u64,.i .u64,.i .u64,.i .u64,.i .u64,.i .u64,.i .u64,.i .u64] (by kernel_rfl) (by kernel_rfl) _ _ _ h1)
  obtain ⟨lv,ts,e2,t2,b2,l2⟩:=open_tlbs h2 z2
  obtain ⟨k3,e3,_⟩:=DataW.trod_int Tryz.underlying3 h3
  obtain ⟨two,e4⟩:=root_of (trod_leaves 8 33 [.b,.i .i64,.i .i64] (by kernel_rfl) (by kernel_rfl) _ _ _ h4)
  obtain ⟨pv,ps,e5,m5,_,l5⟩:=open_picks h5 z5
  cases e0;cases e1;cases e2;cases e3;cases e4;cases e5
  exact ⟨_,_,_,ws,ts,ps,r,k3,two,rfl,w0,r1.ok,m0,k0,t2,fun t ht=>(b2 t ht).1,m5,Nat.le_trans l0 (by decide),Nat.le_trans l2 (by decide),fun t ht=>⟨Nat.le_trans (b2 t ht).2.1 (by decide),Nat.le_trans (b2 t ht).2.2 (by decide)⟩,Nat.le_trans l5 (by decide)⟩
end
end Go.Proofs.YtndklbjnofdgeaaGreat
namespace Go.Proofs.YtndklbjnofdgeaaGreat
open Go.RowKit
set_option linter.unusedVariables false
set_option linter.unusedSimpArgs false
set_option maxRecDepth 20000
attribute [local irreducible] Hy St Ops DH DHF DE1 DE2 DE3 DS DCh DWF
def inLf (ws:List Nat) (i:Nat):Nat→List Nat
 | 0=>ws
 | k + 1=>(inLf ws i k).set ((3 + i) * 8 + k) (((8 * i + k) <<< 12) ||| 1219)
def outLf (ws:List Nat):Nat→List Nat
 | 0=>ws
 | i + 1=>inLf ((outLf ws i).set (16 + i) (((3 + i) <<< 12) ||| 3)) i 8
def leafsL (n:Nat):List Nat:=outLf ((((List.replicate (n * 8) 0).set 0 4099).set 8 8195).set 16 12291) 8
theorem inLf_len (ws:List Nat) (i:Nat):∀ k,(inLf ws i k).length=ws.length
 | 0=>rfl
 | k + 1=>by rw [inLf,List.length_set,inLf_len ws i k]
theorem outLf_len (ws:List Nat):∀ i,(outLf ws i).length=ws.length
 | 0=>rfl
 | i + 1=>by rw [outLf,inLf_len,List.length_set,outLf_len ws i]
theorem own_made15 (b m:Nat) (hm:m≤65536):Own 25 1 (.slice (some ⟨b,0,none⟩) m m) [⟨b,madeCells (Value.int .u64 0).cells (m * 1),25⟩] ((List.replicate m 0).map uV):=by
 rw [show madeCells (Value.int .u64 0).cells (m * 1)=((List.replicate m [Value.int .u64 0]).flatten).toArray from made_rows [.int .u64 0] m 1 rfl (by decide)]
 exact own_row b m _ (by rw [List.map_replicate];rfl) rfl (u_all _) (by simp) (by simp) (by unfold maxLen;omega)
theorem leafs_e (n:Nat) (h1:11≤n) (h2:n≤64) (w:World):Fn Tryz.prog 30 [.int .i64 (n:Nat)].toArray w [] (fun u hn=>∃ v h,u=.agg #[v]∧Own 25 1 v h ((leafsL n).map uV)∧HpLe h hn):=by
 refine enter Tryz.func30 ?_
 refine run ?_
 intro B
 refine run ?_
 rw [show (n:Int) * 8=((n * 8:Nat):Int) by omega]
 refine make (m:=n * 8) (fun M=>?_) (by omega)
 have hO0:=own_made15 M (n * 8) (by omega)
 obtain ⟨cur0,hc0⟩:∃ c,c=madeCells (Value.int .u64 0).cells (n * 8 * 1):=⟨_,rfl⟩
 rw [← hc0] at hO0 ⊢
 refine run ?_
 intro X
 obtain ⟨s1,_,_,hO1⟩:=hO0.setG (k:=0) (by rw [List.length_replicate];omega)
 have hO1:=hO1 4099
 obtain ⟨s2,_,_,hO2⟩:=hO1.setG (k:=8) (by rw [List.length_set,List.length_replicate];omega)
 have hO2:=hO2 8195
 obtain ⟨s3,_,_,hO3⟩:=hO2.setG (k:=16) (by rw [List.length_set,List.length_set,List.length_replicate];omega)
 have hO3:=hO3 12291
 refine drawC 12 7 [0,1,2,3,4,5,6,8,10] [7,9,11] [⟨X,#[.slice (some ⟨M,0,none⟩) (n * 8) (n * 8)],24⟩] ?_
 refine runZ ?_
 refine cPut (b:=M) (tb:=25) (cs:=cur0) (cs':=cur0.setIfInBounds 0 (.int .u64 (4099:Nat))) (hp':=[⟨X,#[.slice (some ⟨M,0,none⟩) (n * 8) (n * 8)],24⟩,⟨B,#[.slice none 0 0],24⟩]) ?_ (hput:=rfl) (hperm:=p1)
 refine cPut (b:=M) (tb:=25) (cs:=cur0.setIfInBounds 0 (.int .u64 (4099:Nat))) (cs':=(cur0.setIfInBounds 0 (.int .u64 (4099:Nat))).setIfInBounds 8 (.int .u64 (8195:Nat))) (hp':=[⟨X,#[.slice (some ⟨M,0,none⟩) (n * 8) (n * 8)],24⟩,⟨B,#[.slice none 0 0],24⟩]) ?_ (hput:=rfl) (hperm:=p0)
 refine cPut (b:=M) (tb:=25) (cs:=(cur0.setIfInBounds 0 (.int .u64 (4099:Nat))).setIfInBounds 8 (.int .u64 (8195:Nat))) (cs':=((cur0.setIfInBounds 0 (.int .u64 (4099:Nat))).setIfInBounds 8 (.int .u64 (8195:Nat))).setIfInBounds 16 (.int .u64 (12291:Nat))) (hp':=[⟨X,#[.slice (some ⟨M,0,none⟩) (n * 8) (n * 8)],24⟩,⟨B,#[.slice none 0 0],24⟩]) ?_ (hput:=rfl) (hperm:=p0)
 refine dc_nil ?_
 refine opsC ?_
 have hl0:((((List.replicate (n * 8) 0).set 0 4099).set 8 8195).set 16 12291).length=n * 8:=by rw [List.length_set,List.length_set,List.length_set,List.length_replicate]
 obtain ⟨W0,hW0⟩:∃ W0,W0=(((List.replicate (n * 8) 0).set 0 4099).set 8 8195).set 16 12291:=⟨_,rfl⟩
 unfold leafsL
 rw [← hW0] at hO3 hl0 ⊢
 generalize ((cur0.setIfInBounds 0 (.int .u64 (4099:Nat))).setIfInBounds 8 (.int .u64 (8195:Nat))).setIfInBounds 16 (.int .u64 (12291:Nat))=cur1 at hO3 ⊢
 clear hO0 hO1 hO2 s1 s2 s3 hc0
 refine run ?_
 refine loopS (σ:=Nat × Array Value) (fun s=>[(4,.int .i64 (s.1:Int))]) (fun s=>⟨M,s.2,25⟩::[⟨X,#[.slice (some ⟨M,0,none⟩) (n * 8) (n * 8)],24⟩,⟨B,#[.slice none 0 0],24⟩]) (fun s=>s.1≤8∧Own 25 1 (.slice (some ⟨M,0,none⟩) (n * 8) (n * 8)) [⟨M,s.2,25⟩] ((outLf W0 s.1).map uV)) (fun s=>8 - s.1) (0,cur1) ⟨Nat.zero_le _,hO3⟩ ?_
 rintro ⟨i,cur⟩ m hm ⟨hi,hO⟩
 dsimp only at hm hi hO ⊢
 refine run ?_
 refine st_cond _ rfl (fun hc=>?_) (fun hc=>?_)
 ·have hlt:i<8:=by simp at hc;omega
  have hlW:=outLf_len W0 i
  refine run ?_
  rw [show (3:Int) + (i:Int)=((3 + i:Nat):Int) by omega,show (16:Int) + (i:Int)=((16 + i:Nat):Int) by omega]
  refine op1 (by rfl) (x_shlN rfl rfl (3 + i) 12 rfl rfl (by decide)) ?_
  rw [show (3 + i) <<< 12 % 18446744073709551616=(3 + i) <<< 12 from Nat.mod_eq_of_lt (by rw [Nat.shiftLeft_eq];omega)]
  refine run ?_
  refine op1 (by rfl) (x_orN rfl rfl ((3 + i) <<< 12) 3 rfl rfl (by rw [Nat.shiftLeft_eq];omega) (by decide)) ?_
  obtain ⟨s1,_,_,hO1⟩:=hO.setG (k:=16 + i) (by rw [hlW,hl0];omega)
  have hO1:=hO1 (((3 + i) <<< 12) ||| 3)
  refine run ?_
  obtain ⟨Wi,hWi⟩:∃ Wi,Wi=(outLf W0 i).set (16 + i) (((3 + i) <<< 12) ||| 3):=⟨_,rfl⟩
  rw [← hWi] at hO1
  have hlWi:Wi.length=n * 8:=by rw [hWi,List.length_set,hlW,hl0]
  refine loopS (σ:=Nat × Array Value) (fun s=>[(5,.int .i64 (s.1:Int))]) (fun s=>⟨M,s.2,25⟩::[⟨X,#[.slice (some ⟨M,0,none⟩) (n * 8) (n * 8)],24⟩,⟨B,#[.slice none 0 0],24⟩]) (fun s=>s.1≤8∧Own 25 1 (.slice (some ⟨M,0,none⟩) (n * 8) (n * 8)) [⟨M,s.2,25⟩] ((inLf Wi i s.1).map uV)) (fun s=>8 - s.1) (0,_) ⟨Nat.zero_le _,hO1⟩ ?_
  rintro ⟨k,cur2⟩ m2 hm2 ⟨hk,hO2⟩
  dsimp only at hm2 hk hO2 ⊢
  have hl2:=inLf_len Wi i k
  refine run ?_
  refine st_cond _ rfl (fun hc2=>?_) (fun hc2=>?_)
  ·have hlt2:k<8:=by simp at hc2;omega
   obtain ⟨s2,_,_,hO3⟩:=hO2.setG (k:=(3 + i) * 8 + k) (by rw [hl2,hlWi];omega)
   have hO3:=hO3 (((8 * i + k) <<< 12) ||| 1219)
   refine run ?_
   rw [show (8:Int) * (i:Int) + (k:Int)=((8 * i + k:Nat):Int) by omega,show ((3:Int) + (i:Int)) * 8 + (k:Int)=(((3 + i) * 8 + k:Nat):Int) by omega]
   refine op1 (by rfl) (x_shlN rfl rfl (8 * i + k) 12 rfl rfl (by decide)) ?_
   rw [show (8 * i + k) <<< 12 % 18446744073709551616=(8 * i + k) <<< 12 from Nat.mod_eq_of_lt (by rw [Nat.shiftLeft_eq];omega)]
   refine run ?_
   refine op1 (by rfl) (x_orN rfl rfl ((8 * i + k) <<< 12) 1219 rfl rfl (by rw [Nat.shiftLeft_eq];omega) (by decide)) ?_
   refine run ?_
   exact nextS (k + 1,_) ⟨hlt2,hO3⟩
  ·have hge:k=8:=by simp at hc2;omega
   subst hge
   refine run ?_
   exact nextS (i + 1,cur2) ⟨hlt,by rw [outLf,← hWi];exact hO2⟩
 ·have hge:i=8:=by simp at hc;omega
  subst hge
  refine run ?_
  exact finA (cs:=#[.slice (some ⟨M,0,none⟩) (n * 8) (n * 8)]) ⟨_,_,rfl,hO,by (refine hpLe_cnt fun a=>?_;simp only [cntB_app,cntB_cons,cntB_nil]<;>omega)⟩
end Go.Proofs.YtndklbjnofdgeaaGreat
namespace Go.Proofs.YtndklbjnofdgeaaGreat
open Go.RowKit
set_option linter.unusedVariables false
set_option linter.unusedSimpArgs false
set_option maxRecDepth 20000
attribute [local irreducible] Hy St Ops DH DHF DE1 DE2 DE3 DS DCh DWF
theorem rMay1_e (ws:List Nat) (at_ size:Nat) (h:PlOk ws at_ size) (p:Option Addr) (cap:Nat) (w:World):Fn Tryz.prog 53 [.agg #[.slice p ws.length cap],.int .i64 (at_:Nat),.int .i64 (size:Nat)].toArray w [] (fun u _=>u=.int .i64 0):=by
 obtain ⟨h1,h2,h3,h4,h5,h6⟩:=h
 have hg:(!decide ((size:Int)=1) && !decide ((size:Int)=2) && !decide ((size:Int)=4) && !decide ((size:Int)=8))=false:=by
  rcases h5 with rfl | rfl | rfl | rfl<;>rfl
 refine enter Tryz.func53 ?_
 refine run ?_
 intro B
 refine runG ?_
 rw [hg]
 refine runC ?_
 refine st_cond _ rfl (fun hc=>absurd hc (by simp;omega)) (fun _=>?_)
 refine run ?_
 refine op1 (by rfl) (x_remN rfl rfl at_ size rfl rfl (by omega)) ?_
 rw [h6]
 refine runC ?_
 exact fin1 rfl
def codeK (ws:List Nat) (f:Nat) (l:List InD):Nat→List Nat
 | 0=>ws
 | k + 1=>writeL (codeK ws f l k) (f * 64 + 4 * k) 4 (l.getD k default).wd
theorem codeK_len (ws:List Nat) (f:Nat) (l:List InD):∀ k,(codeK ws f l k).length=ws.length
 | 0=>rfl
 | k + 1=>by rw [codeK,writeL,List.length_set,codeK_len ws f l k]
theorem codeK_ok {ws:List Nat} (h:W64 ws) (f:Nat) (l:List InD):∀ k,W64 (codeK ws f l k)
 | 0=>h
 | k + 1=>writeL_ok (codeK_ok h f l k)
theorem code_e (ws:List Nat) (hw:W64 ws) (hm:memOk ws.length=true) (f:Nat) (l:List InD) (h0:0<l.length) (h200:l.length≤200) (hmay:∀ x∈l,x.may=true) (hin:f * 64 + 4 * l.length≤8 * ws.length) {p:Option Addr} {cap:Nat} {iv:Value} {w:World} (hs:SlAt w (.slice p ws.length cap) 1 (ws.map uV)) (hl:SlAt w iv 5 (l.map isV)):
  Fn Tryz.prog 29 [.agg #[.slice p ws.length cap],.int .i64 (f:Nat),iv].toArray w [] (fun u hn=>∃ v h,u=.agg #[v]∧Own 25 1 v h ((codeK ws f l l.length).map uV)∧HpLe h hn):=by
 obtain ⟨q,c,rfl,hne,_⟩:=id hl.opened
 have hmi:=memOk_iff hm
 refine enter Tryz.func29 ?_
 refine run ?_
 intro B
 refine run ?_
 intro R
 refine run ?_
 refine loopS (σ:=Nat × Value × Hp) (fun s=>[(7,.int .i64 (s.1:Int))]) (fun s=>⟨R,#[.slice none 0 0],24⟩::⟨B,#[s.2.1],24⟩::s.2.2) (fun s=>s.1≤l.length∧((s.1=0∧s.2.1=.slice p ws.length cap)∨Own 25 1 s.2.1 s.2.2 ((codeK ws f l s.1).map uV))) (fun s=>l.length - s.1) (0,.slice p ws.length cap,[]) ⟨Nat.zero_le _,.inl ⟨rfl,rfl⟩⟩ ?_
 rintro ⟨k,v,h⟩ m hm2 ⟨hk,hO⟩
 dsimp only at hm2 hk hO ⊢
 have hlk:=codeK_len ws f l k
 have hwk:=codeK_ok hw f l k
 obtain ⟨q2,c2,hv⟩:∃ q2 c2,v=.slice q2 (codeK ws f l k).length c2:=by
  rcases hO with ⟨rfl,rfl⟩ | hO
  ·exact ⟨_,_,rfl⟩
  ·obtain ⟨q2,c2,e⟩:=hO.opened
   rw [List.length_map] at e
   exact ⟨q2,c2,e⟩
 subst hv
 have hrd:∀ wc hp,Good w [] hp wc→(∀ e∈h,e∈hp)→SlAt wc (.slice q2 (codeK ws f l k).length c2) 1 ((codeK ws f l k).map uV):=fun wc hp hG hin=>by
  rcases hO with ⟨rfl,e⟩ | hO
  ·rw [e];exact hs.good hG
  ·exact hO.lie (fun e he=>hG.here e (hin e he)) (by rw [List.length_map];omega)
 refine runG ?_
 refine st_cond _ rfl (fun hc=>?_) (fun hc=>?_)
 ·have hlt:k<l.length:=by simp at hc;omega
  obtain ⟨b,o,rfl⟩:=hne (by intro e;rw [e] at hlt;simp at hlt)
  have hr2:=hl.row hlt
  have hx:=hmay _ (getD_mem hlt)
  have hpl:PlOk (codeK ws f l k) (f * 64 + 4 * k) 4:=⟨hwk,by rw [hlk];simp only [memOk,Bool.and_eq_true,decide_eq_true_eq] at hm;omega,by rw [hlk];omega,by rw [hlk];omega,.inr (.inr (.inl rfl)),by omega⟩
  have hck:codeK ws f l (k + 1)=writeL (codeK ws f l k) (f * 64 + 4 * k) 4 (l.getD k default).wd:=rfl
  generalize l.getD k default=x at hr2 hx hck
  have hF:=InD.may_fit hx
  have hwl:=InD.wd_lt hF
  refine runG ?_
  refine callE (fun wc hG=>rInsn_e x wc) ?_
  rw [hx]
  refine runG ?_
  have e64:((f:Int) * 64 + 4 * (k:Int))=((f * 64 + 4 * k:Nat):Int):=by omega
  rw [e64]
  refine callEG (fun _ wc hG=>rMay1_e (codeK ws f l k) (f * 64 + 4 * k) 4 hpl _ _ wc) ?_
  refine runG ?_
  refine st_cond _ rfl (fun _=>?_) (fun hc=>absurd hc (by simp))
  refine run ?_
  refine drawED 13 [0,1,2,3,4,5,6,7,8,9,10,11] [12] [] [] [13] ?_
  refine runS ?_
  refine sCallE (fun wc hx hG=>nWord11_e x hF wc) ?_
  refine de1_s (by rfl) (fun hx=>x_convU (p:=((x.wd:Nat):Int)) tb_ok rfl rfl rfl (by omega) (by omega)) ?_
  refine runS ?_
  rw [e64]
  refine eCall (fun wc hG=>rWrite_e (codeK ws f l k) (f * 64 + 4 * k) 4 x.wd hpl (by unfold W64n;omega) (hrd wc _ hG (fun e he=>by simp [he]))) ?_ ?_
  ·obtain ⟨a1,b1,o1⟩:=own_some (e:=25) (xs:=(writeL (codeK ws f l k) (f * 64 + 4 * k) 4 x.wd).map uV) (u_all _) (by rw [List.length_map,writeL,List.length_set,hlk];omega)
   exact ⟨_,_,a1,b1,rfl,o1,HpLe.refl _⟩
  refine eNil ?_
  rintro u hn ⟨v',h',rfl,g1,hle3⟩
  refine dNil ?_
  refine dNil ?_
  simp only [DN,List.cons_append,List.nil_append,List.append_nil]
  obtain ⟨q1,c1,e1⟩:=g1.opened
  rw [List.length_map] at e1
  subst e1
  refine cPut (b:=B) (tb:=24) (cs:=#[.slice q2 (codeK ws f l k).length c2]) (cs':=#[.slice q1 (writeL (codeK ws f l k) (f * 64 + 4 * k) 4 x.wd).length c1]) (hp':=hn++(⟨R,#[.slice none 0 0],24⟩::h)) ?_ (hput:=rfl) (hperm:=by (refine perm_cnt fun a=>?_;simp only [cntB_app,cntB_cons,cntB_nil]<;>omega))
  refine dc_nil ?_
  refine opsC ?_
  refine ops_le (⟨R,#[.slice none 0 0],24⟩::⟨B,#[.slice q1 (writeL (codeK ws f l k) (f * 64 + 4 * k) 4 x.wd).length c1],24⟩::h') (by (refine hpLe_cnt fun a=>?_;have:=HpLe.cnt hle3 a;simp only [cntB_app,cntB_cons,cntB_nil] at *;omega)) ?_
  refine run ?_
  rw [← hck]
  exact nextS (k + 1,.slice q1 (codeK ws f l (k + 1)).length c1,h') ⟨hlt,.inr (by rw [hck];exact g1)⟩ (h2:=by (refine hpLe_cnt fun a=>?_;simp only [cntB_app,cntB_cons,cntB_nil]<;>omega))
 ·have hge:k=l.length:=by simp at hc;omega
  subst hge
  have hO':=hO.resolve_left (by omega)
  refine run ?_
  exact finA (cs:=#[.slice q2 (codeK ws f l l.length).length c2]) ⟨_,h,rfl,hO',by (refine hpLe_cnt fun a=>?_;simp only [cntB_app,cntB_cons,cntB_nil]<;>omega)⟩
end Go.Proofs.YtndklbjnofdgeaaGreat
namespace Go.Proofs.YtndklbjnofdgeaaGreat
open Go.RowKit
set_option linter.unusedVariables false
set_option linter.unusedSimpArgs false
def EoD (P:Program) (n:Nat) (w0:World) (mu:List Nat) (all:Array Oper) (ds:List (Nat × Nat)) (l:Fm) (hp:Hp) (iv':Fm) (kd:Nat→Kd) (val:Ch→Nat→Value) (k i:Nat) (o:Oper) (R:RT):Prop:=
 EoR P n w0 mu all (depFm ds iv' o.after.toList++l) hp o R∨∃ m Rm,m<k∧kd m=.e Rm∧(∀ c,val c m=(c m).1)∧Region.waitsFor .any all i m=true∧∀ v hn,Rm v hn→EoR P n w0 mu all (depFm ds ((m,v)::iv') o.after.toList++l) (hn++hp) o R
def DE2D (P:Program) (n:Nat) (w0:World) (mu:List Nat) (all:Array Oper) (ds:List (Nat × Nat)) (l:Fm) (hp:Hp) (iv:Fm) (X:List (Nat × RT)→Prop):List Nat→List (Nat × RT)→Prop
 | [],Rs=>X Rs
 | i::E,Rs=>∃ o R,all[i]?=some o∧(EoR P n w0 mu all (depFm ds iv o.after.toList++l) hp o R∨∃ m Rm,lk Rs m=some Rm∧Region.waitsFor .any all i m=true∧∀ v hn,Rm v hn→EoR P n w0 mu all (depFm ds ((m,v)::iv) o.after.toList++l) (hn++hp) o R)∧(∃ v hn,R v hn)∧DE2D P n w0 mu all ds l hp iv X E ((i,R)::Rs)
theorem blks_has {kd:Nat→Kd} {c:Ch} {listed:Array Bool} {m:Nat} (he:isE (kd m)=true) (hl:listed.getD m false=true):∀ k,m<k→∃ hx,(blks kd c listed k).Perm (hx++(c m).2):=by
 intro k
 induction k with
 | zero=>intro h;omega
 | succ k ih=>
  intro h
  simp only [blks]
  by_cases hmk:m=k
  ·subst hmk
   refine ⟨blks kd c listed m,?_⟩
   rw [show blkAt kd c listed m=(c m).2 by unfold blkAt;rw [he,hl];rfl]
   exact List.perm_append_comm
  ·obtain ⟨hx,hp⟩:=ih (by omega)
   exact ⟨blkAt kd c listed k++hx,by rw [List.append_assoc];exact hp.append_left _⟩
section
variable {P : Program} {n : Nat} {w0 : World} {mu : List Nat} {l : Fm} {hp : Hp} {all : Array Oper} {ds : List (Nat × Nat)}
theorem de2d_get {iv:Fm} {X:List (Nat × RT)→Prop}:∀ (E:List Nat) (Rs:List (Nat × RT)),E.Nodup→(∀ i∈E,lk Rs i=none)→DE2D P n w0 mu all ds l hp iv X E Rs →
  (∀ i R,(i,R)∈Rs→lk Rs i=some R∧∃ o,all[i]?=some o∧(EoR P n w0 mu all (depFm ds iv o.after.toList++l) hp o R∨∃ m Rm,lk Rs m=some Rm∧Region.waitsFor .any all i m=true∧∀ v hn,Rm v hn→EoR P n w0 mu all (depFm ds ((m,v)::iv) o.after.toList++l) (hn++hp) o R)∧∃ v hn,R v hn) →
  ∃ RE,X RE∧(∀ i,(∃ R,lk RE i=some R)↔i∈E∨∃ R,lk Rs i=some R)∧∀ i R,(i,R)∈RE→lk RE i=some R∧∃ o,all[i]?=some o∧(EoR P n w0 mu all (depFm ds iv o.after.toList++l) hp o R∨∃ m Rm,lk RE m=some Rm∧Region.waitsFor .any all i m=true∧∀ v hn,Rm v hn→EoR P n w0 mu all (depFm ds ((m,v)::iv) o.after.toList++l) (hn++hp) o R)∧∃ v hn,R v hn:=by
 intro E
 induction E with
 | nil=>intro Rs _ _ h hs;exact ⟨Rs,h,fun i=>by simp,hs⟩
 | cons i E ih=>
  rintro Rs hnd hno ⟨o,R,ho,hy,hinh,h⟩ hs
  rw [List.nodup_cons] at hnd
  have hi:=hno i (List.mem_cons_self ..)
  have hmo:∀ m Rm,lk Rs m=some Rm→lk ((i,R)::Rs) m=some Rm:=fun m Rm hm=>by
   rw [lk_cons,if_neg (by rintro rfl;rw [hi] at hm;cases hm)];exact hm
  obtain ⟨RE,hX,hk,hs2⟩:=ih ((i,R)::Rs) hnd.2 (fun j hj=>by rw [lk_cons,if_neg (by rintro rfl;exact hnd.1 hj)];exact hno j (List.mem_cons_of_mem _ hj)) h (fun j R' hj=>by
   rcases List.mem_cons.1 hj with hj | hj
   ·cases hj
    refine ⟨by rw [lk_cons,if_pos rfl],o,ho,?_,hinh⟩
    rcases hy with hy | ⟨m,Rm,h1,h2⟩
    ·exact .inl hy
    ·exact .inr ⟨m,Rm,hmo m Rm h1,h2⟩
   ·obtain ⟨h1,o',h2,hy',h3⟩:=hs j R' hj
    refine ⟨hmo j R' h1,o',h2,?_,h3⟩
    rcases hy' with hy | ⟨m,Rm,h1,h2⟩
    ·exact .inl hy
    ·exact .inr ⟨m,Rm,hmo m Rm h1,h2⟩)
  refine ⟨RE,hX,fun j=>?_,hs2⟩
  rw [hk,List.mem_cons,lk_cons]
  by_cases hij:i=j
  ·subst hij;simp
  ·rw [if_neg hij]
   constructor
   ·rintro (h | h)
    ·exact .inl (.inr h)
    ·exact .inr h
   ·rintro ((h | h) | h)
    ·exact absurd h.symm hij
    ·exact .inl h
    ·exact .inr h
theorem de2d_mono {iv:Fm} {X Y:List (Nat × RT)→Prop}:∀ (E:List Nat) (Rs:List (Nat × RT)) (hXY:∀ Rs',Rs'.map (·.1)=E.reverse++Rs.map (·.1)→X Rs'→Y Rs'),DE2D P n w0 mu all ds l hp iv X E Rs→DE2D P n w0 mu all ds l hp iv Y E Rs:=by
 intro E
 induction E with
 | nil=>intro Rs hXY h;exact hXY Rs (by simp) h
 | cons i E ih=>
  rintro Rs hXY ⟨o,R,h1,h2,h3,h4⟩
  exact ⟨o,R,h1,h2,h3,ih _ (fun Rs' e=>hXY Rs' (by rw [e];simp)) h4⟩
end
section
variable {P : Program} {n : Nat} {w0 : World} {mu : List Nat} {l : Fm} {hp : Hp} {Q : Exit → Fm → Hp → Prop} {all : Array Oper} {kd : Nat → Kd} {val : Ch → Nat → Value} {k : Nat}
theorem headE_run3 {ds:List (Nat × Nat)} (hds:∀ k d,lk ds k=some d→dstAt all k=some d) {g:Nat} {Q':Exit→Act→World→Prop} (hk:k≤all.size) (hd:dstB all k n=true) (hf:freshB l (dstsOf all k)=true) (hback:backB all=true)
  (hS:∀ i o v,i<k→all[i]?=some o→kd i=.s v→(∀ c,val c i=v)∧∃ iv',(∀ j u,look iv' j=some u→j<k∧∀ c,val c j=u)∧∀ hx,HyG P n w0 mu all (depFm ds iv' o.after.toList++l) (hx++hp) o v)
  (hE:∀ i o R,i<k→all[i]?=some o→kd i=.e R→(∀ c,val c i=(c i).1)∧∃ iv',(∀ j u,look iv' j=some u→j<k∧∀ c,val c j=u)∧EoD P n w0 mu all ds l hp iv' kd val k i o R)
  (hD:∀ c,Valid kd k c→∀ i o,i<k→all[i]?=some o→kd i=.d→∃ iv',(∀ j u,look iv' j=some u→j<k∧val c j=u)∧HyR P n w0 mu (depFm ds iv' o.after.toList++l) hp o (val c i))
  (htail:∀ f c listed,leftOf k listed=f→HeadInv .any all k listed→(∀ i,i<k→isE (kd i)=true→listed.getD i true=true)→∀ a w,MidE n w0 mu all l hp kd val k c listed a w→wpAny P .any all Q' (f + g) listed a w)
  (hwait:∀ listed,HeadInv .any all k listed→∀ i,i<k→isE (kd i)=true→listed.getD i true=false→∀ t,k≤t→t ∉ Region.ready .any all listed):
  ∀ f c listed a w,leftOf k listed=f→HeadInv .any all k listed→MidE n w0 mu all l hp kd val k c listed a w→wpAny P .any all Q' (f + g) listed a w:=by
 intro f
 induction f with
 | zero=>
  intro c listed a w hlf inv hm
  refine htail 0 c listed hlf inv (fun i hi _=>?_) a w hm
  cases hc:listed.getD i true with
  | true=>rfl
  | false=>
   exfalso
   have:i∈(List.range k).filter fun i=>!listed.getD i true:=List.mem_filter.2 ⟨List.mem_range.2 hi,by simp only [hc,Bool.not_false]⟩
   have h2:=List.length_pos_of_mem this
   unfold leftOf at hlf
   omega
 | succ f ih=>
  intro c listed a w hlf inv hm
  by_cases hallE:∀ i,i<k→isE (kd i)=true→listed.getD i true=true
  ·exact htail (f + 1) c listed hlf inv hallE a w hm
  obtain ⟨i0,hi0k,hi0e,hi0⟩:∃ i,i<k∧isE (kd i)=true∧listed.getD i true=false:=by
   refine Classical.byContradiction fun hno=>hallE fun i hi he=>?_
   cases hc:listed.getD i true with
   | true=>rfl
   | false=>exact absurd ⟨i,hi,he,hc⟩ hno
  rw [show f + 1 + g=(f + g) + 1 by omega]
  refine ⟨fun hnil=>?_,fun i hi=>?_⟩
  ·exfalso
   obtain ⟨i,⟨hik,hil⟩,hmin⟩:=exists_least (p:=fun i=>i<k∧listed.getD i true=false) ⟨i0,hi0k,hi0⟩
   have hr:i∈Region.ready .any all listed:=by
    rw [mem_ready]
    have hs:i<all.size:=by omega
    refine ⟨hil,all[i],by simp [hs],fun e he hb=>?_⟩
    have hb2:=List.all_eq_true.1 hback i (List.mem_range.2 hs)
    simp only [Array.getElem?_eq_getElem hs] at hb2
    have hb3:=(Array.all_eq_true_iff_forall_mem.1 hb2) e he
    simp only [hb,Bool.not_true,Bool.false_or,Nat.blt_eq] at hb3
    cases hc:listed.getD e.on false with
    | true=>rfl
    | false=>
     have h5:=hmin e.on ⟨by omega,getD_in (by rw [inv.size];omega) hc⟩
     omega
   rw [hnil] at hr;cases hr
  ·have hik:i<k:=by
    rcases Nat.lt_or_ge i k with h | h
    ·exact h
    ·exact absurd hi (hwait listed inv i0 hi0k hi0e hi0 i h)
   obtain ⟨hun,o,ho,hall⟩:=mem_ready.1 hi
   have hsz:i<listed.size:=by rw [inv.size];omega
   have hself:∀ j,j<k→listed.getD j false=true→isE (kd j)=true→c j=c j:=fun _ _ _ _=>rfl
   have hgo:∀ c2 a' w',MidE n w0 mu all l hp kd val k c2 (listed.setIfInBounds i true) a' w'→wpAny P .any all Q' (f + g) (listed.setIfInBounds i true) a' w':=fun c2 a' w' h=>
    ih c2 _ _ _ (by have:=left_set hik (by rw [inv.size];omega) hun;omega) (inv.set hi hik) h
   have hweak:Good w0 mu hp w:=hm.good.sub (List.sublist_append_right _ _)
   unfold wpOp
   simp only [ho]
   cases hkd:kd i with
   | s v=>
    obtain ⟨hvc,iv',hiv,hy⟩:=hS i o v hik ho hkd
    have hkn:=depFm_lookE (i:=i) hds hm hm.valid hself (fun j u hu=>⟨(hiv j u hu).1,(hiv j u hu).2 c⟩) hall
    have hE0:isE (kd i)=false:=by rw [hkd];rfl
    have hnext:∀ w',Good w0 mu (blks kd c listed k++hp) w'→wpAny P .any all Q' (f + g) (listed.setIfInBounds i true) (a.put o.dst v) w':=fun w' hG'=>
     hgo c _ _ (mide_step hm ho hik hun hsz hd hf hm.valid (fun _ _=>rfl) (by rw [blks_same hE0];exact hG') (fun c' _ _=>hvc c'))
    have h3:=hy (blks kd c listed k)
    unfold HyG at h3
    cases hg:o.guard with
    | none=>
     rw [hg] at h3
     rw [if_pos (by simp [Region.wanted,hg])]
     exact .inl (h3 a w hkn hm.good _ _ hnext)
    | some jw=>
     obtain ⟨j,want⟩:=jw
     rw [hg] at h3
     obtain ⟨dj,c0,b,u,hj,hb,hdj,hy,hvv⟩:=h3
     have hw:=wanted_of hkn hg hj hb hdj
     cases hc:(c0 && wnt b want) with
     | true=>
      rw [hc] at hw hvv
      rw [if_pos hw]
      rw [Bool.and_eq_true] at hc
      rw [show v=u from hvv] at hnext
      exact .inl (hy hc.1 hc.2 a w hkn hm.good _ _ hnext)
     | false=>
      rw [hc] at hw hvv
      rw [if_neg (by rw [hw];decide)]
      rw [show v=undef from hvv] at hnext
      exact hnext w hm.good
   | e R=>
    obtain ⟨hvc,iv',hiv,hed⟩:=hE i o R hik ho hkd
    have hwl:∀ t,Region.waitsFor .any all i t=true→listed.getD t false=true:=fun t ht=>by
     obtain ⟨oj,h6,e,he,hb,heq⟩:=Region.waitsFor_spec ht
     rw [ho] at h6;cases h6
     rw [← heq]
     exact hall e he hb
    obtain ⟨hg,hy⟩:Region.wanted o (yielded all a.tmps)=true∧∀ (K:Act→World→Prop) (Q:Exit→Act→World→Prop),(∀ v hn w',R v hn→Good w0 mu (hn++(blks kd c listed k++hp)) w'→K (a.put o.dst v) w')→o.wp P a w K Q:=by
     rcases hed with ⟨hg,hy⟩ | ⟨m,Rm,hmk,hkm,hvm,hwm,hy⟩
     ·have hkn:=depFm_lookE (i:=i) hds hm hm.valid hself (fun j u hu=>⟨(hiv j u hu).1,(hiv j u hu).2 c⟩) hall
      exact ⟨hg _ hkn,fun K Q h=>hy a w _ hkn hm.good K Q h⟩
     ·have hRm:=hm.valid m hmk Rm hkm
      obtain ⟨hg,hy⟩:=hy _ _ hRm
      have hkn:=depFm_lookE (iv':=(m,(c m).1)::iv') (i:=i) hds hm hm.valid hself (fun j u hu=>by
       rw [look_lk,lk_cons] at hu
       by_cases hmj:m=j
       ·subst hmj
        rw [if_pos rfl] at hu
        cases hu
        exact ⟨hmk,hvm c⟩
       ·rw [if_neg hmj,← look_lk] at hu
        exact ⟨(hiv j u hu).1,(hiv j u hu).2 c⟩) hall
      obtain ⟨hx,hpx⟩:=blks_has (kd:=kd) (c:=c) (listed:=listed) (m:=m) (by rw [hkm];rfl) (hwl m hwm) k hmk
      refine ⟨hg _ hkn,fun K Q h=>hy a w hx hkn (hm.good.perm (by rw [← List.append_assoc];exact (hpx.append_right _).symm)) K Q fun v hn w' hR hG'=>h v hn w' hR (hG'.perm (List.Perm.append_left _ (by rw [← List.append_assoc];exact hpx.append_right _)))⟩
    rw [if_pos hg]
    refine .inl (hy _ _ fun v hn w' hR hG'=>?_)
    refine hgo (fun t=>if t=i then (v,hn) else c t) _ _ (mide_step hm ho hik hun hsz hd hf ?_ (fun j hj=>by simp [hj]) ?_ ?_)
    ·intro j hj R' hR'
     by_cases hji:j=i
     ·subst hji
      rw [hkd] at hR'
      cases hR'
      simpa using hR
     ·simp only [hji,if_false]
      exact hm.valid j hj R' hR'
    ·refine hG'.perm ?_
     rw [← List.append_assoc]
     exact (blks_set (by rw [hkd];rfl) hun hsz k hik).symm.append_right _
    ·intro c' hc' hag
     rw [hvc c',hag i hik (by simp [hsz]) (by rw [hkd];rfl)]
     simp
   | d=>
    obtain ⟨iv',hiv,hg,hy⟩:=hD c hm.valid i o hik ho hkd
    have hE0:isE (kd i)=false:=by rw [hkd];rfl
    have hkn:=depFm_lookE (i:=i) hds hm hm.valid hself hiv hall
    have hrun:=hy a w hkn hweak
    rw [if_pos (by simp [Region.wanted,hg])]
    refine .inl ?_
    unfold Oper.wp
    rw [hrun]
    refine hgo c _ _ (mide_step hm ho hik hun hsz hd hf hm.valid (fun _ _=>rfl) (by rw [blks_same hE0];exact hm.good) (fun c' hc' hag=>?_))
    obtain ⟨iv2,hiv2,hg2,hy2⟩:=hD c' hc' i o hik ho hkd
    have hag':∀ j,j<k→listed.getD j false=true→isE (kd j)=true→c' j=c j:=fun j hj hl he=>hag j hj (getD_set_true hl) he
    have hrun2:=hy2 a w (depFm_lookE (i:=i) hds hm hc' hag' hiv2 hall) hweak
    rw [hrun] at hrun2
    simp only [Result.ok.injEq,Next.value.injEq,and_true] at hrun2
    exact hrun2.symm
end
section
variable {P : Program} {n : Nat} {w0 : World} {mu : List Nat} {l : Fm} {hp : Hp} {Q : Exit → Fm → Hp → Prop} {ds : List (Nat × Nat)}
theorem st_drawEE0 {ops:List Oper} (k:Nat) (S E D D2 C:List Nat) (hB:drawEDB ops.toArray n k S E D D2 C=true) (hf:freshB l (dstsOf ops.toArray ops.toArray.size)=true) (hf1:freshB l (dstsOf ops.toArray k)=true) (hsp:splitB k S E D=true) (hds:dstTab ops 0=ds)
  (h:DE1 P n w0 mu ops.toArray ds l hp (fun ivS=>DE2D P n w0 mu ops.toArray ds l hp ivS (fun Rs=>∀ c,AllR c Rs→DE3 P n w0 mu ops.toArray ds l [] (fun iv1=>DE3 P n w0 mu ops.toArray ds l [] (fun iv2=>DCh P n w0 mu ops.toArray ds l [] iv2 (fun ivE hc=>Ops P n w0 mu ops.toArray [] (headFm ds (ivE++iv2)++l) hc Q) C [] (blE E c k++hp)) D2 iv1) D (chs c Rs++ivS)) E []) S []):StAny P n w0 mu ops.toArray l hp Q:=by
 intro a w hk hG
 simp only [splitB,Bool.and_eq_true,decide_eq_true_eq] at hsp
 obtain ⟨⟨⟨_,hnd⟩,hlt⟩,hcov⟩:=hsp
 have hlt':∀ i∈S++E++D,i<k:=fun i hi=>by have:=List.all_eq_true.1 hlt i hi;simpa using this
 have hcov':∀ i,i<k→i∈S∨i∈E∨i∈D:=fun i hi=>by
  have:=mem_mem (List.all_eq_true.1 hcov i (List.mem_range.2 hi))
  simpa [or_assoc] using this
 rw [List.append_assoc,List.nodup_append] at hnd
 obtain ⟨hndS,hndED,hSx⟩:=hnd
 rw [List.nodup_append] at hndED
 obtain ⟨hndE,hndD,hEx⟩:=hndED
 obtain ⟨ivS,h2,huS,hkS,hsS⟩:=de1_get S [] hndS (fun _ _=>rfl) (fun _ _ h=>by cases h) h (fun i v hv=>by cases hv)
 obtain ⟨Rs,h3,hkE,hsE⟩:=de2d_get E [] hndE (fun _ _=>rfl) h2 (fun i R hR=>by cases hR)
 simp only [lk,reduceCtorEq,exists_false,or_false] at hkS hkE
 have hES:∀ i R,lk Rs i=some R→lk ivS i=none:=fun i R hR=>by
  cases hv:lk ivS i with
  | none=>rfl
  | some v=>exact absurd rfl (hSx i ((hkS i).1 ⟨v,hv⟩) i (List.mem_append_left _ ((hkE i).1 ⟨R,hR⟩)))
 let kd:Nat→Kd:=fun i=>match lk Rs i with | some R=>.e R | none=>match lk ivS i with | some v=>.s v | none=>.d
 have hkdE:∀ i R,kd i=.e R↔lk Rs i=some R:=fun i R=>by
  show (match lk Rs i with | some R=>Kd.e R | none=>match lk ivS i with | some v=>.s v | none=>.d)=_↔_
  cases lk Rs i with
  | some R'=>simp
  | none=>cases lk ivS i<;>simp
 have hkdS:∀ i v,kd i=.s v→lk Rs i=none∧lk ivS i=some v:=fun i v=>by
  show (match lk Rs i with | some R=>Kd.e R | none=>match lk ivS i with | some v=>.s v | none=>.d)=_→_
  cases lk Rs i with
  | some R'=>simp
  | none=>cases lk ivS i<;>simp
 have hkdD:∀ i,kd i=.d→lk Rs i=none∧lk ivS i=none:=fun i=>by
  show (match lk Rs i with | some R=>Kd.e R | none=>match lk ivS i with | some v=>.s v | none=>.d)=_→_
  cases lk Rs i with
  | some R'=>simp
  | none=>cases lk ivS i<;>simp
 have hlkm:∀ i R,lk Rs i=some R→(i,R)∈Rs:=fun i R h=>lk_mem h
 have hvalid:∀ c,Valid kd k c→AllR c Rs:=fun c hc=>allR_of Rs fun p hp=>by
  obtain ⟨i,R⟩:=p
  have h1:=(hsE i R hp).1
  exact hc i (hlt' i (List.mem_append_left _ (List.mem_append_right _ ((hkE i).1 ⟨R,h1⟩)))) R ((hkdE i R).2 h1)
 have hex:∀ c,Valid kd k c→∃ ivD,DE3 P n w0 mu ops.toArray ds l [] (fun iv2=>DCh P n w0 mu ops.toArray ds l [] iv2 (fun ivE hc=>Ops P n w0 mu ops.toArray [] (headFm ds (ivE++iv2)++l) hc Q) C [] (blE E c k++hp)) D2 ivD∧Uq ivD∧Mono (chs c Rs++ivS) ivD∧(∀ i,(∃ v,lk ivD i=some v)↔i∈D∨∃ v,lk (chs c Rs++ivS) i=some v)∧∀ i v,lk ivD i=some v→lk (chs c Rs++ivS) i=some v∨∃ o iv',ops.toArray[i]?=some o∧Mono iv' ivD∧HyR P n w0 mu (depFm ds iv' o.after.toList++l) [] o v:=fun c hc=>
  de3_get D (chs c Rs++ivS) hndD (fun i hi=>by
   rw [chs_lk]
   have e1:lk Rs i=none:=by
    cases hR:lk Rs i with
    | none=>rfl
    | some R=>exact absurd rfl (hEx i ((hkE i).1 ⟨R,hR⟩) i hi)
   rw [e1]
   cases hv:lk ivS i with
   | none=>rfl
   | some v=>exact absurd rfl (hSx i ((hkS i).1 ⟨v,hv⟩) i (List.mem_append_right _ hi))) (fun i v hv=>by
   rw [chs_lk]
   rcases List.mem_append.1 hv with hv | hv
   ·obtain ⟨rfl,R,hR⟩:=chs_mem Rs hv
    rw [(hsE i R hR).1]
   ·have h1:=huS i v hv
    cases hR:lk Rs i with
    | none=>exact h1
    | some R=>rw [hES i R hR] at h1;cases h1) (fun _ _ h=>h) (h3 c (hvalid c hc)) (fun i v hv=>.inl hv)
 have hch:∃ F:Ch→Fm,∀ c,Valid kd k c→DE3 P n w0 mu ops.toArray ds l [] (fun iv2=>DCh P n w0 mu ops.toArray ds l [] iv2 (fun ivE hc=>Ops P n w0 mu ops.toArray [] (headFm ds (ivE++iv2)++l) hc Q) C [] (blE E c k++hp)) D2 (F c)∧Uq (F c)∧Mono (chs c Rs++ivS) (F c)∧(∀ i,(∃ v,lk (F c) i=some v)↔i∈D∨∃ v,lk (chs c Rs++ivS) i=some v)∧∀ i v,lk (F c) i=some v→lk (chs c Rs++ivS) i=some v∨∃ o iv',ops.toArray[i]?=some o∧Mono iv' (F c)∧HyR P n w0 mu (depFm ds iv' o.after.toList++l) [] o v:=by
  classical
  refine ⟨fun c=>if hc:Valid kd k c then Classical.choose (hex c hc) else [],fun c hc=>?_⟩
  simp only [hc,dif_pos]
  exact Classical.choose_spec (hex c hc)
 obtain ⟨F,hF⟩:=hch
 let val:Ch→Nat→Value:=fun c i=>match kd i with | .s v=>v | .e _=>(c i).1 | .d=>(lk (F c) i).getD undef
 have hvalF:∀ c,Valid kd k c→∀ i v,lk (F c) i=some v→val c i=v:=fun c hc i v hv=>by
  obtain ⟨_,_,hmo,_,_⟩:=hF c hc
  show (match kd i with | .s v=>v | .e _=>(c i).1 | .d=>(lk (F c) i).getD undef)=v
  cases hkd:kd i with
  | s u=>
   obtain ⟨e1,e2⟩:=hkdS i u hkd
   have:=hmo i u (by rw [chs_lk,e1];exact e2)
   rw [hv] at this;cases this;rfl
  | e R=>
   have e1:=(hkdE i R).1 hkd
   have:=hmo i (c i).1 (by rw [chs_lk,e1])
   rw [hv] at this;cases this;rfl
  | d=>rw [hv];rfl
 have hFall:∀ c,Valid kd k c→∀ i,i<k→∃ v,lk (F c) i=some v:=fun c hc i hi=>by
  obtain ⟨_,_,_,hkk,_⟩:=hF c hc
  rw [hkk i]
  rcases hcov' i hi with h | h | h
  ·obtain ⟨v,hv⟩:=(hkS i).2 h
   right
   rw [chs_lk]
   cases lk Rs i with
   | some R=>exact ⟨_,rfl⟩
   | none=>exact ⟨v,hv⟩
  ·obtain ⟨R,hR⟩:=(hkE i).2 h
   right
   rw [chs_lk,hR]
   exact ⟨_,rfl⟩
  ·exact .inl h
 have hvalS:∀ i v,lk ivS i=some v→i<k∧∀ c,val c i=v:=fun i v hv=>by
  refine ⟨hlt' i (List.mem_append_left _ (List.mem_append_left _ ((hkS i).1 ⟨v,hv⟩))),fun c=>?_⟩
  show (match kd i with | .s v=>v | .e _=>(c i).1 | .d=>(lk (F c) i).getD undef)=v
  have:kd i=.s v:=by
   show (match lk Rs i with | some R=>Kd.e R | none=>match lk ivS i with | some v=>.s v | none=>.d)=_
   cases hR:lk Rs i with
   | some R=>rw [hES i R hR] at hv;cases hv
   | none=>rw [hv]
  rw [this]
 cases C with
 | nil=>simp [drawEDB] at hB
 | cons t0 C'=>
 simp only [drawEDB,Bool.and_eq_true,decide_eq_true_eq] at hB
 obtain ⟨⟨⟨⟨⟨⟨⟨⟨⟨⟨hks,hd⟩,hdK⟩,hback⟩,hcoverK⟩,hlink⟩,hSt⟩,hEt⟩,hge⟩,hstb⟩,hwt⟩:=hB
 simp only [coverB,Bool.and_eq_true,decide_eq_true_eq] at hcoverK
 obtain ⟨⟨hndK,hltK⟩,hcovK⟩:=hcoverK
 have hgeK:∀ j,j∈D2++t0::C'→k≤j:=fun j hj=>by have:=List.all_eq_true.1 hge j hj;simpa using this
 have hdsl:∀ i d,lk ds i=some d→dstAt ops.toArray i=some d:=fun i d h=>by rw [← hds] at h;have:=(dstTab_ok ops 0 i d h).2;simpa [dstAt] using this
 have hinh:∃ c0:Ch,Valid kd k c0:=by
  have h1:∀ i,∃ x:Value × Hp,∀ R,kd i=.e R→R x.1 x.2:=fun i=>by
   cases hR:lk Rs i with
   | none=>exact ⟨(undef,[]),fun R h=>by rw [(hkdE i R).1 h] at hR;cases hR⟩
   | some R=>
    obtain ⟨_,o,_,_,v,hn,hv⟩:=hsE i R (hlkm i R hR)
    exact ⟨(v,hn),fun R' h=>by rw [(hkdE i R').1 h] at hR;cases hR;exact hv⟩
  exact ⟨fun i=>Classical.choose (h1 i),fun i hi R hR=>Classical.choose_spec (h1 i) R hR⟩
 obtain ⟨c0,hc0⟩:=hinh
 have inv0:HeadInv .any ops.toArray k (Array.replicate ops.toArray.size false):=
  ⟨by simp,fun j oj _ hl=>(by rw [getD_replicate_false] at hl;cases hl),fun t _ ht=>getD_in (by simpa using ht) (getD_replicate_false _ _)⟩
 have hleft:leftOf k (Array.replicate ops.toArray.size false)=k:=by
  unfold leftOf
  rw [List.filter_eq_self.2]
  ·simp
  ·intro i hi
   have hi':i<k:=by simpa using hi
   have:(Array.replicate ops.toArray.size false).getD i true=false:=getD_in (by simp at hks ⊢;omega) (getD_replicate_false _ _)
   simp only [this,Bool.not_false]
 have hbl0:∀ m,blks kd c0 (Array.replicate ops.toArray.size false) m=[]:=by
  intro m
  induction m with
  | zero=>rfl
  | succ m ih=>simp only [blks,ih,blkAt,getD_replicate_false,Bool.and_false,cond_false,List.append_nil]
 have hisE:∀ i,i<k→isE (kd i)=mem E i:=fun i hi=>by
  cases hkd:kd i with
  | e R=>rw [mem_of ((hkE i).1 ⟨R,(hkdE i R).1 hkd⟩)];rfl
  | s v=>
   cases hmm:mem E i with
   | false=>rfl
   | true=>obtain ⟨R,hR⟩:=(hkE i).2 (mem_mem hmm);rw [(hkdE i R).2 hR] at hkd;cases hkd
  | d=>
   cases hmm:mem E i with
   | false=>rfl
   | true=>obtain ⟨R,hR⟩:=(hkE i).2 (mem_mem hmm);rw [(hkdE i R).2 hR] at hkd;cases hkd
 have key:=headE_run3 hdsl (P:=P) (n:=n) (w0:=w0) (mu:=mu) (l:=l) (hp:=hp) (all:=ops.toArray) (kd:=kd) (val:=val) (k:=k) (g:=ops.toArray.size - k) (Q':=QQ n w0 mu Q) hks hd hf1 hback
  (fun i o v hi ho hkd=>by
   obtain ⟨e1,e2⟩:=hkdS i v hkd
   obtain ⟨o',iv',h1,h2,h3⟩:=hsS i v e2
   rw [ho] at h1;cases h1
   exact ⟨(hvalS i v e2).2,iv',fun j u hu=>hvalS j u (h2 j u (by rw [← look_lk];exact hu)),h3⟩)
  (fun i o R hi ho hkd=>by
   have e1:=(hkdE i R).1 hkd
   obtain ⟨_,o',h1,h2,_⟩:=hsE i R (hlkm i R e1)
   rw [ho] at h1;cases h1
   have hve:∀ i R,kd i=.e R→∀ c,val c i=(c i).1:=fun i R hkd c=>by
    show (match kd i with | .s v=>v | .e _=>(c i).1 | .d=>(lk (F c) i).getD undef)=_
    rw [hkd]
   refine ⟨hve i R hkd,ivS,fun j u hu=>hvalS j u (by rw [← look_lk];exact hu),?_⟩
   rcases h2 with h2 | ⟨m,Rm,hlm,hwm,h2⟩
   ·exact .inl h2
   ·exact .inr ⟨m,Rm,hlt' m (List.mem_append_left _ (List.mem_append_right _ ((hkE m).1 ⟨Rm,hlm⟩))),(hkdE m Rm).2 hlm,hve m Rm ((hkdE m Rm).2 hlm),hwm,h2⟩)
  (fun c hcv i o hi ho hkd=>by
   obtain ⟨e1,e2⟩:=hkdD i hkd
   obtain ⟨v,hv⟩:=hFall c hcv i hi
   obtain ⟨_,_,_,_,hsp⟩:=hF c hcv
   rw [hvalF c hcv i v hv]
   rcases hsp i v hv with h0 | ⟨o',iv',h1,h2,h3⟩
   ·rw [chs_lk,e1] at h0;rw [e2] at h0;cases h0
   ·rw [ho] at h1;cases h1
    refine ⟨iv',fun j u hu=>?_,hyr_lift h3⟩
    have hj:=h2 j u (by rw [← look_lk];exact hu)
    refine ⟨?_,hvalF c hcv j u hj⟩
    obtain ⟨_,_,_,hkk,_⟩:=hF c hcv
    rcases (hkk j).1 ⟨u,hj⟩ with h | ⟨v',h⟩
    ·exact hlt' j (List.mem_append_right _ h)
    ·rw [chs_lk] at h
     cases hR:lk Rs j with
     | some R=>exact hlt' j (List.mem_append_left _ (List.mem_append_right _ ((hkE j).1 ⟨R,hR⟩)))
     | none=>rw [hR] at h;exact (hvalS j v' h).1)
  (fun f c listed hlf inv hallE a w hmid=>?_)
  (fun listed inv i hi hie hun t ht=>?_)
  k c0 _ a { w with drawn:=w.drawn + 1 } hleft inv0 ⟨hk.size,hk.defers,hk.has,hc0,by rw [hbl0];exact hG.drawn _,fun i _ hl=>(by rw [getD_replicate_false] at hl;cases hl)⟩
 ·have e:k + (ops.toArray.size - k)=ops.toArray.size:=by omega
  rw [e] at key
  exact key
 ·obtain ⟨hX,huq,hmo,hkk,hsp1⟩:=hF c hmid.valid
  have hFk:∀ i v,lk (F c) i=some v→i<k:=fun i v hv=>by
   rcases (hkk i).1 ⟨v,hv⟩ with h | ⟨v',h⟩
   ·exact hlt' i (List.mem_append_right _ h)
   ·rw [chs_lk] at h
    cases hR:lk Rs i with
    | some R=>exact hlt' i (List.mem_append_left _ (List.mem_append_right _ ((hkE i).1 ⟨R,hR⟩)))
    | none=>rw [hR] at h;exact (hvalS i v' h).1
  have hndK':=hndK
  rw [List.nodup_append,List.nodup_append] at hndK'
  obtain ⟨⟨_,hndD2,hD2x⟩,hndC,hCx⟩:=hndK'
  obtain ⟨iv2,hY,hu2,hmo2,hkk2,hsp2⟩:=de3_get (base:=F c) D2 (F c) hndD2 (fun i hi=>by
   cases hv:lk (F c) i with
   | none=>rfl
   | some v=>
    have h1:=hFk i v hv
    have h2:=hgeK i (List.mem_append_left _ hi)
    omega) huq (fun _ _ h=>h) hX (fun i v hv=>.inl hv)
  have hgetK:∀ j,k≤j→j<ops.toArray.size→listed.getD j true=false:=fun j h1 h2=>inv.tail j h1 h2
  have hltK':∀ i∈(S++E++D++D2)++t0::C',i<ops.toArray.size:=fun i hi=>by have:=List.all_eq_true.1 hltK i hi;simpa using this
  have hiv2:∀ i v,lk iv2 i=some v→i<ops.toArray.size:=fun i v hv=>by
   rcases (hkk2 i).1 ⟨v,hv⟩ with h | ⟨v',h⟩
   ·exact hltK' i (List.mem_append_left _ (List.mem_append_right _ h))
   ·have:=hFk i v' h;omega
  have invK:HeadInv .any ops.toArray ops.toArray.size listed:=⟨inv.size,inv.closed,fun t h1 h2=>by omega⟩
  have hlfK:leftOf ops.toArray.size listed=f + (ops.toArray.size - k):=by rw [leftOf_more hks hgetK,hlf]
  have hbe:∀ m,m≤k→blks kd c listed m=blE E c m:=by
   intro m
   induction m with
   | zero=>intro _;rfl
   | succ m ih=>
    intro hm
    simp only [blks,blE,blkAt]
    rw [ih (by omega),hisE m (by omega)]
    cases hme:mem E m with
    | false=>rfl
    | true=>
     have h1:=hallE m (by omega) (by rw [hisE m (by omega)];exact hme)
     have h2:listed.getD m false=true:=by
      cases hcc:listed.getD m false with
      | true=>rfl
      | false=>rw [getD_in (by rw [inv.size];omega) hcc] at h1;cases h1
     rw [h2];rfl
  have hgood:Good w0 mu (blE E c k++hp) w:=by rw [← hbe k (Nat.le_refl _)];exact hmid.good
  have hmidC:MidC n w0 mu ops.toArray l iv2 [] (blE E c k++hp) listed a w:=by
   refine ⟨hmid.size,hmid.defers,hmid.has,hgood,fun i v hv hl d hdd=>?_,fun i v hv=>by cases hv⟩
   have hik:i<k:=by
    rcases Nat.lt_or_ge i k with h | h
    ·exact h
    ·have h1:=hgetK i h (hiv2 i v hv)
     rw [getD_both h1] at hl;cases hl
   obtain ⟨v',hv'⟩:=hFall c hmid.valid i hik
   have h1:=hmo2 i v' hv'
   rw [hv] at h1;cases h1
   rw [hmid.done i hik hl c hmid.valid (fun _ _ _ _=>rfl) d hdd]
   exact hvalF c hmid.valid i v hv'
  have key2:=chain_run2 hdsl (P:=P) (n:=n) (w0:=w0) (mu:=mu) (l:=l) (hp:=hp) (h0:=[]) (all:=ops.toArray) (ivS:=iv2) (k:=ops.toArray.size) (t0:=t0) (g:=0) (Q':=QQ n w0 mu Q) (X:=fun ivE hc=>Ops P n w0 mu ops.toArray [] (headFm ds (ivE++iv2)++l) hc Q) (dn:=mem E) (Nat.le_refl _) hdK hf hback (hpLe_cnt fun b=>by simp [cntB])
   (fun i hi hdn=>by
    have:=List.all_eq_true.1 hstb i (List.mem_range.2 hi)
    rw [hdn] at this
    simp only [Option.isSome_none,Bool.false_or,Bool.or_eq_true] at this
    rcases this with h | h
    ·exact .inl (Nat.eq_of_beq_eq_true h)
    ·exact .inr h)
   (fun i v hv=>⟨hiv2 i v hv,fun hne=>?_⟩)
   (fun ivE h listed inv hall hX a w hmid hEk=>?_)
   (fun listed inv i hi hun t ht hr=>by
    obtain ⟨_,o,ho,_⟩:=mem_ready.1 hr
    have:=(Array.getElem?_eq_some_iff.1 ho).1
    omega)
   (f + (ops.toArray.size - k)) (t0::C') [] (blE E c k++hp) listed a w hlfK invK (fun i hi=>hallE i (hlt' i (List.mem_append_left _ (List.mem_append_right _ (mem_mem hi)))) (by rw [hisE i (hlt' i (List.mem_append_left _ (List.mem_append_right _ (mem_mem hi))))];exact hi)) hmidC (fun i v hv=>by cases hv)
   (fun i hi=>⟨hltK' i (List.mem_append_right _ hi),hgetK i (hgeK i (List.mem_append_right _ hi)) (hltK' i (List.mem_append_right _ hi)),?_⟩) hndC hlink (fun i hi hl=>?_) (hpLe_cnt fun b=>by simp [cntB]) (fun _=>HpLe.right _ _) hY
  ·exact key2
  ·rcases hsp2 i v hv with h0 | ⟨o,iv',h1,h2,h3⟩
   ·rcases hsp1 i v h0 with h0 | ⟨o,iv',h1,h2,h3⟩
    ·rw [chs_lk] at h0
     cases hR:lk Rs i with
     | some R=>
      rw [mem_of ((hkE i).1 ⟨R,hR⟩)] at hne;cases hne
     | none=>
      rw [hR] at h0
      obtain ⟨o,iv',h1,h2,h3⟩:=hsS i v h0
      refine ⟨o,iv',h1,fun j u hu=>?_,fun hx=>?_⟩
      ·refine hmo2 j u (hmo j u ?_)
       have h4:=h2 j u hu
       rw [chs_lk]
       cases hR2:lk Rs j with
       | some R2=>rw [hES j R2 hR2] at h4;cases h4
       | none=>exact h4
      ·rw [List.all_eq_true.1 hSt i ((hkS i).1 ⟨v,h0⟩)]
       exact h3 hx
    ·exact ⟨o,iv',h1,fun j u hu=>hmo2 j u (h2 j u hu),fun hx=>hyr_g h3⟩
   ·exact ⟨o,iv',h1,h2,fun hx=>hyr_g h3⟩
  ·have hknows:Knows n (headFm ds (ivE++iv2)++l) a:=by
    refine ⟨hmid.size,hmid.defers,fun t v ht=>?_⟩
    rcases look_append ht with ht | ⟨_,ht⟩
    ·obtain ⟨j,h1,h2⟩:=headFm_mem (look_mem ht)
     rcases List.mem_append.1 h1 with h1 | h1
     ·exact (hmid.doneE j v h1).2 t (hdsl _ _ h2)
     ·have hj:=hu2 j v h1
      have hjk:=hiv2 j v hj
      refine hmid.doneS j v hj ?_ t (hdsl _ _ h2)
      have h5:=hall j hjk
      cases hcc:listed.getD j false with
      | true=>rfl
      | false=>rw [getD_in (by rw [inv.size];omega) hcc] at h5;cases h5
    ·exact hmid.has t v ht
   refine ⟨?_,hX a w hknows hmid.good⟩
   rw [List.eq_nil_iff_forall_not_mem]
   intro i hi
   obtain ⟨hun,o,ho,_⟩:=mem_ready.1 hi
   rw [hall i (Array.getElem?_eq_some_iff.1 ho).1] at hun;cases hun
  ·cases hv:lk iv2 i with
   | none=>rfl
   | some v=>
    exfalso
    have h2:=hgeK i (List.mem_append_right _ hi)
    rcases (hkk2 i).1 ⟨v,hv⟩ with h | ⟨v',h⟩
    ·exact hCx i (List.mem_append_right _ h) i hi rfl
    ·have:=hFk i v' h;omega
  ·have h1:=mem_mem (List.all_eq_true.1 hcovK i (List.mem_range.2 hi))
   rcases List.mem_append.1 h1 with h1 | h1
   ·left
    rcases List.mem_append.1 h1 with h1 | h1
    ·obtain ⟨v,hv⟩:=hFall c hmid.valid i (hlt' i h1)
     exact ⟨v,hmo2 i v hv⟩
    ·exact (hkk2 i).2 (.inl h1)
   ·exact .inr h1
 ·intro hr
  obtain ⟨_,o,ho,hall⟩:=mem_ready.1 hr
  have hts:t<ops.toArray.size:=(Array.getElem?_eq_some_iff.1 ho).1
  have hwl:∀ j,Region.waitsFor .any ops.toArray t j=true→listed.getD j false=true:=fun j hj=>by
   obtain ⟨oj,h6,e,he,hb,heq⟩:=Region.waitsFor_spec hj
   rw [ho] at h6;cases h6
   rw [← heq];exact hall e he hb
  have h1:=List.all_eq_true.1 hwt t (List.mem_range.2 hts)
  simp only [Bool.or_eq_true] at h1
  rcases h1 with (h1 | h1) | h1
  ·have:t<k:=by simpa using h1
   omega
  ·have h2:=hwl i (List.all_eq_true.1 h1 i (mem_mem (by rw [← hisE i hi];exact hie)))
   rw [getD_both hun] at h2;cases h2
  ·obtain ⟨j,hj,h2⟩:=List.any_eq_true.1 h1
   rw [Bool.and_eq_true] at h2
   have h3:=hwl j h2.2
   rw [getD_both (inv.tail j (by simpa using h2.1) (List.mem_range.1 hj))] at h3;cases h3
theorem st_drawEE {ops:List Oper} (k:Nat) (S E D D2 C:List Nat) (hB:drawEDB ops.toArray n k S E D D2 C=true) (hf:freshB l (dstsOf ops.toArray ops.toArray.size)=true) (hf1:freshB l (dstsOf ops.toArray k)=true) (hsp:splitB k S E D=true) (hds:dstTab ops 0=ds)
  (h:DE1 P n w0 mu ops.toArray ds l hp (fun ivS=>DE2D P n w0 mu ops.toArray ds l hp ivS (fun Rs=>DN (fun iv bl=>DE3 P n w0 mu ops.toArray ds l [] (fun iv1=>DE3 P n w0 mu ops.toArray ds l [] (fun iv2=>DCh P n w0 mu ops.toArray ds l [] iv2 (fun ivE hc=>Ops P n w0 mu ops.toArray [] (headFm ds (ivE++iv2)++l) hc Q) C [] (bl++hp)) D2 iv1) D (iv++ivS)) Rs) E []) S []):StAny P n w0 mu ops.toArray l hp Q:=by
 refine st_drawEE0 k S E D D2 C hB hf hf1 hsp hds (de1_mono (fun ivS h2=>de2d_mono E [] (fun Rs e h3 c hc=>?_) h2) S [] h)
 have:=dn_c Rs _ c h3 hc
 have he:blE E c k=hpK c (Rs.map (·.1)):=by
  simp only [splitB,Bool.and_eq_true,decide_eq_true_eq] at hsp
  rw [blE_hpK,← hsp.1.1.1,e];simp
 rw [he]
 exact this
end
set_option maxRecDepth 20000
section
variable {n : Nat} {w0 : World} {mu : List Nat} {l : Fm} {hp : Hp} {Q : Exit → Fm → Hp → Prop} {ds : List (Nat × Nat)}
theorem drawEE {id:Nat} {ops:List Oper} (k:Nat) (S E D D2 C:List Nat) (h:DE1 Tryz.prog n w0 mu ops.toArray ds l hp (fun ivS=>DE2D Tryz.prog n w0 mu ops.toArray ds l hp ivS (fun Rs=>DN (fun iv bl=>DE3 Tryz.prog n w0 mu ops.toArray ds l [] (fun iv1=>DE3 Tryz.prog n w0 mu ops.toArray ds l [] (fun iv2=>DCh Tryz.prog n w0 mu ops.toArray ds l [] iv2 (fun ivE hc=>Ops Tryz.prog n w0 mu ops.toArray [] (headFm ds (ivE++iv2)++l) hc Q) C [] (bl++hp)) D2 iv1) D (iv++ivS)) Rs) E []) S [])
  (hds:dstTab ops 0=ds:=by (simp only [dstTab,Nat.reduceAdd,Nat.zero_add];rfl)) (hm:Tryz.prog.follows .mixedOrders=true:=by kernel_rfl) (hB:drawEDB ops.toArray n k S E D D2 C=true:=by decide +kernel) (hf:freshB l (dstsOf ops.toArray ops.toArray.size)=true:=by rfl) (hf1:freshB l (dstsOf ops.toArray k)=true:=by rfl) (hsp:splitB k S E D=true:=by decide +kernel):St Tryz.prog n w0 mu (.region id ops.toArray true) l hp Q:=
 st_any hm (st_drawEE k S E D D2 C hB hf hf1 hsp hds h)
end
section
variable {n : Nat} {w0 : World} {mu : List Nat} {l : Fm} {hp : Hp} {all : Array Oper} {iv : Fm} {i : Nat} {ds : List (Nat × Nat)} {Z : List (Nat × RT) → Prop} {E : List Nat} {Rs : List (Nat × RT)}
theorem mE (h:DE2 Tryz.prog n w0 mu all ds l hp iv (fun Rs'=>DE2D Tryz.prog n w0 mu all ds l hp iv Z E Rs') [i] Rs):DE2D Tryz.prog n w0 mu all ds l hp iv Z (i::E) Rs:=by
 obtain ⟨o,R,h1,h2,h3,h4⟩:=h
 exact ⟨o,R,h1,.inl h2,h3,h4⟩
theorem mOn (m:Nat) {Rm R:RT} (he:∀ v hn,Rm v hn→DE2 Tryz.prog n w0 mu all ds l (hn++hp) ((m,v)::iv) (fun Rs'=>Rs'=[(i,R)]) [i] []) (hex:∃ v hn,Rm v hn) (h:DE2D Tryz.prog n w0 mu all ds l hp iv Z E ((i,R)::Rs)) (hm:lk Rs m=some Rm:=by rfl) (hw:Region.waitsFor .any all i m=true:=by decide +kernel):DE2D Tryz.prog n w0 mu all ds l hp iv Z (i::E) Rs:=by
 obtain ⟨v,hn,hv⟩:=hex
 obtain ⟨o,R',h1,h2,h3,h4⟩:=he v hn hv
 cases h4
 refine ⟨o,R,h1,.inr ⟨m,Rm,hm,hw,fun v hn hv=>?_⟩,h3,h⟩
 obtain ⟨o2,R2,g1,g2,g3,g4⟩:=he v hn hv
 cases g4
 rw [h1] at g1
 cases g1
 exact g2
theorem mNil (h:Z Rs):DE2D Tryz.prog n w0 mu all ds l hp iv Z [] Rs:=h
end
end Go.Proofs.YtndklbjnofdgeaaGreat
namespace Go.Proofs.YtndklbjnofdgeaaGreat
open Go.RowKit
set_option linter.unusedVariables false
set_option linter.unusedSimpArgs false
set_option maxRecDepth 200000
def wkIn:InD:=⟨1,3,0,0,-7⟩
def wkW:List Nat:=codeK (leafsL 24) 20 [wkIn] 1
def wkR:RgD:=⟨0,0,0,0,0,0,0,0,1280,0,0,0,0,0,0⟩
def wkS:PS:=stepP (s0P wkW [([],[])] wkR ⟨0,false,false,false,-1,false⟩) 0 ⟨true,0,0⟩
theorem wk15_may:mayS wkW.length [([],[])] 0 ⟨true,0,0⟩=true:=by decide +kernel
theorem wk15:(wkS.r.x3,wkS.r.pc,wkS.ls.length,wkS.kind)=(18446744073709551609,1284,1,0):=by decide +kernel
attribute [local irreducible] Hy St Ops DH DHF DE1 DE2 DE3 DS DCh DWF
theorem wk15_w64:W64 (leafsL 24):=by unfold W64;decide +kernel
theorem wk15_len:(leafsL 24).length=192:=by decide +kernel
theorem wk15_len2:wkW.length=192:=by decide +kernel
theorem wk15S:∃ S:PS,stepP (s0P wkW [([],[])] wkR ⟨0,false,false,false,-1,false⟩) 0 ⟨true,0,0⟩=S∧S.r.x3=18446744073709551609∧S.r.pc=1284∧S.ls.length=1∧S.kind=0:=by
 have h:=wk15
 simp only [Prod.mk.injEq] at h
 exact ⟨wkS,rfl,h.1,h.2.1,h.2.2.1,h.2.2.2⟩
def SKeep (cpu:Int) (s:PS) (u:Value):Prop:=∃ p n c q k p2 n2 c2,u=.tuple #[.agg #[.slice p n c],.agg (rgV s.r).toArray,.slice q s.ls.length k,.agg (obC cpu (.slice p2 n2 c2) s),.int .i64 0]
theorem SRet.keep {cpu:Int} {s:PS} {u:Value} {hn:Hp} (h:SRet cpu s u hn):SKeep cpu s u:=by
 obtain ⟨L,h1,rfl,_⟩:=h
 obtain ⟨a,b,e1⟩:=h1.w.opened
 obtain ⟨a2,b2,e2⟩:=h1.l.opened
 obtain ⟨a3,b3,e3⟩:=h1.q.opened
 unfold SKeep
 rw [e1,e2,e3,show s.ls.length=L.ts.length by rw [← h1.p,List.length_map],List.length_map,List.length_map,List.length_map]
 exact ⟨a,_,b,a2,b2,a3,_,b3,rfl⟩
theorem wkR_ok:wkR.Ok:=by constructor<;>(unfold W64n;decide)
theorem wkStep_e {S:PS} (hS:stepP (s0P wkW [([],[])] wkR ⟨0,false,false,false,-1,false⟩) 0 ⟨true,0,0⟩=S) {c:Nat} (hcc:wkW.length≤c) {p:Option Addr} {lv:Value} {w:World} (hm:SlAt w (.slice p wkW.length c) 1 (wkW.map uV)) (hl:SlAt w lv 2 [tlV default]):
  Fn Tryz.prog 16 [.agg #[.slice p wkW.length c],.agg (rgV wkR).toArray,lv,.int .i64 0,.agg (rtV ⟨true,0,0⟩).toArray,.agg (pkV ⟨0,false,false,false,-1,false⟩).toArray].toArray w [] (fun u _=>SKeep 0 S u):=by
 have hno:∀ sz e,SlAt w (.slice none 0 0) sz []:=fun sz e=>(Own.nil e sz).lie (fun b hb=>by cases hb) (by decide)
 refine (sStep_e wkW (codeK_ok wk15_w64 20 [wkIn] 1) (by rw [wk15_len2];decide) c hcc [default] wkR wkR_ok 0 ⟨true,0,0⟩ ⟨0,false,false,false,-1,false⟩ hm ⟨hl,fun t ht=>?_,fun t ht=>?_⟩ (fun t ht=>?_) (by decide)).mono (fun u hn hu=>?_)
 ·obtain rfl:=List.mem_singleton.1 ht;exact hno 14 0
 ·obtain rfl:=List.mem_singleton.1 ht;exact hno 4 0
 ·obtain rfl:=List.mem_singleton.1 ht;exact Nat.le_refl 0
 ·rw [show mayS wkW.length ([default].map TlD.p) 0 ⟨true,0,0⟩=true from wk15_may,cond_true] at hu
  have:=hu.keep
  rw [show stepP (s0P wkW ([default].map TlD.p) wkR ⟨0,false,false,false,-1,false⟩) (0:Int).toNat ⟨true,0,0⟩=S from hS] at this
  exact this
def obZ:List Value:=[.int .i64 0,.int .i64 0,.int .i64 0,.int .i64 0,.int .i64 0,.int .i64 0,.int .i64 0,.int .i64 0,.int .i64 0,.int .i64 0,.bool false,.int .i64 0,.int .i64 0,.slice none 0 0,.int .u64 0,.int .u64 0,.int .u64 0,.int .u64 0,.int .u64 0,.int .u64 0,.int .u64 0,.int .u64 0,.int .u64 0,.int .u64 0,.int .u64 0,.int .u64 0,.int .u64 0,.int .u64 0,.int .u64 0]
def rgZ:List Value:=[.int .u64 0,.int .u64 0,.int .u64 0,.int .u64 0,.int .u64 0,.int .u64 0,.int .u64 0,.int .u64 0,.int .u64 0,.int .u64 0,.int .u64 0,.int .u64 0,.int .u64 0,.int .u64 0,.int .u64 0]
theorem wakes15_e (w:World):Fn Tryz.prog 25 [].toArray w [] (fun u _=>u=.bool true):=by
 refine enter Tryz.func25 ?_
 refine run ?_
 refine callB (fun wc hG=>leafs_e 24 (by decide) (by decide) wc) ?_
 rintro _ hn1 ⟨v1,h1,rfl,hA1,hle1⟩
 obtain ⟨q1,c1,x1⟩:=hA1.opened
 rw [List.length_map] at x1
 subst x1
 refine ops_le h1 (by (refine hpLe_cnt fun a=>?_;have:=HpLe.cnt hle1 a;simp only [cntB_app,cntB_cons,cntB_nil] at *;omega)) ?_
 refine run ?_
 intro I
 refine callB (fun wc hG=>code_e (leafsL 24) wk15_w64 (by decide +kernel) 20 [wkIn] (by decide) (by decide) (by decide) (by rw [wk15_len];decide) (hA1.lie (fun e he=>hG.here e (by simp [he])) (by rw [List.length_map,wk15_len];decide)) (lie_rows (xs:=[isV wkIn]) (hG.here _ mh) (fun c hc=>by simp at hc;rcases hc with rfl | rfl<;>rfl) (by simp))) ?_
 rintro _ hn2 ⟨v2,h2,rfl,hA2,hle2⟩
 replace hA2:Own 25 1 v2 h2 (wkW.map uV):=hA2
 obtain ⟨q2,c2,x2⟩:=hA2.openedC
 rw [List.length_map] at x2
 obtain ⟨x2,hcc⟩:=x2
 subst x2
 refine ops_le h2 (by (refine hpLe_cnt fun a=>?_;have:=HpLe.cnt hle2 a;simp only [cntB_app,cntB_cons,cntB_nil] at *;omega)) ?_
 refine run ?_
 intro M
 obtain ⟨S,hS,hS3,hSp,hSl,hSk⟩:=wk15S
 refine drawEE 15 [0,1,3,4] [2,5,12,13,14] [6,7,8,9,10,11] [17,19] [15,16,18] ?_
 refine runS ?_
 refine mE ?_
 refine eMake (m:=1) (sz:=2) (z:=.agg #[.slice none 0 0,.slice none 0 0]) ?_ (by omega) (hcs:=by exact made_rows [.slice none 0 0,.slice none 0 0] 1 2 rfl (by omega))
 refine eNil ?_
 refine mOn 2 (R:=fun u _=>SKeep 0 S u) ?_ ?_ ?_
 ·rintro v hn ⟨b,rfl,rfl⟩
  refine eCall (R:=fun u _=>SKeep 0 S u) (fun wc hG=>wkStep_e hS hcc (hA2.lie (fun e he=>hG.here e (by simp [he])) (by rw [List.length_map,wk15_len2];decide)) (lie_rows (xs:=[tlV default]) (hG.here _ mh) (fun c hc=>by simp at hc;rcases hc with rfl | rfl<;>rfl) (by simp))) ⟨_,[],none,0,0,none,0,none,0,0,rfl⟩ ?_
  exact eNil rfl
 ·exact ⟨_,_,0,rfl,rfl⟩
 refine mE ?_
 refine eAlloc ?_
 refine eNil ?_
 refine mE ?_
 refine eAlloc (cs:=rgZ) ?_
 refine eNil ?_
 refine mE ?_
 refine eAlloc (cs:=obZ) ?_
 refine eNil ?_
 refine mNil ?_
 rintro _ _ ⟨b5,rfl,rfl⟩ _ _ ⟨b3,rfl,rfl⟩ _ _ ⟨b2,rfl,rfl⟩ u hn3 ⟨p3,n3,c3,q4,k4,p5,n5,c5,rfl⟩ _ hnb ⟨b,rfl,_⟩
 rw [hSl]
 refine dMove ?_
 refine dExtract ?_
 refine dExtract ?_
 refine dExtract ?_
 refine dExtract ?_
 refine dExtract ?_
 refine dNil ?_
 refine dAssign ?_
 refine dAssign ?_
 refine dNil ?_
 simp only [DN,List.cons_append,List.nil_append,List.append_nil]
 refine cPut (b:=b2) (tb:=24) (cs:=#[.slice none 0 0]) (cs':=#[.slice p3 n3 c3]) (hp':=⟨b5,obZ.toArray,46⟩::⟨b3,rgZ.toArray,30⟩::(hn3++(hnb++(⟨M,#[.slice q2 wkW.length c2],24⟩::h2)))) ?_ (hput:=rfl) (hperm:=by (refine perm_cnt fun a=>?_;simp only [cntB_app,cntB_cons,cntB_nil]<;>omega))
 refine cCell (b:=b3) (tb:=30) (cs:=rgZ.toArray) (vs:=rgV S.r) (hvc:=rfl) (rgV S.r).toArray (hp':=⟨b5,obZ.toArray,46⟩::⟨b2,#[.slice p3 n3 c3],24⟩::(hn3++(hnb++(⟨M,#[.slice q2 wkW.length c2],24⟩::h2)))) ?_ (hperm:=by (refine perm_cnt fun a=>?_;simp only [cntB_app,cntB_cons,cntB_nil]<;>omega))
 refine cCell (b:=b5) (tb:=46) (cs:=obZ.toArray) (vs:=(obC 0 (.slice p5 n5 c5) S).toList) (hvc:=rfl) (obC 0 (.slice p5 n5 c5) S) (hp':=⟨b3,(rgV S.r).toArray,30⟩::⟨b2,#[.slice p3 n3 c3],24⟩::(hn3++(hnb++(⟨M,#[.slice q2 wkW.length c2],24⟩::h2)))) ?_ (hperm:=by (refine perm_cnt fun a=>?_;simp only [cntB_app,cntB_cons,cntB_nil]<;>omega))
 refine dc_nil ?_
 refine opsC ?_
 refine run ?_
 refine callE (fun wc hG=>num15_e 0 wc) ?_
 refine runG ?_
 rw [hS3]
 refine runG ?_
 rw [hSp]
 refine runG ?_
 rw [hSk]
 exact fin1 rfl
end Go.Proofs.YtndklbjnofdgeaaGreat
