/- Texts of one's own, merged: the engine, what the functions do, plain laws. -/
import Derived.Test.YtiaelhhmlbfkmaaGreatPh1
namespace Go.Proofs.YtiaelhhmlbfkmaaGreat
open Go.RowKit
set_option linter.unusedVariables false
set_option linter.unusedSimpArgs false
set_option maxRecDepth 20000
section
attribute [local irreducible] Hy St Ops DH dG je iI gJ
structure xI (p:Prop):Prop where
 get:p
theorem OA {p:Prop} (h:p:=by (first | ((simp only [putAt,Value.cells,List.toList_toArray,List.setIfInBounds_toArray,List.set_cons_zero,List.set_cons_succ,List.drop_succ_cons,List.drop_zero,List.take_succ_cons,List.take_zero,List.cons_append,List.nil_append,List.append_nil])<;>rfl) | rfl)):p:=h
theorem OB {p:Prop} (h:p:=by (first | ((simp only [putAt,rep,Value.cells,Nat.reduceMul,Nat.zero_mul,Nat.one_mul,Nat.mul_one,List.toList_toArray,List.setIfInBounds_toArray,List.set_cons_zero,List.set_cons_succ,List.drop_succ_cons,List.drop_zero,List.take_succ_cons,List.take_zero,List.cons_append,List.nil_append,List.append_nil])<;>rfl) | rfl)):p:=h
theorem vZ {p:Prop} (h:p:=by (first | ((simp only [putAt,List.toList_toArray,List.setIfInBounds_toArray,List.set_cons_zero,List.set_cons_succ,List.drop_succ_cons,List.drop_zero,List.take_succ_cons,List.take_zero,List.cons_append,List.nil_append,List.append_nil])<;>rfl) | rfl)):p:=h
theorem Gt {p:Prop} (h:p:=by (first | (with_reducible apply mh) | (focus ((repeat (first | (with_reducible apply mh) | (with_reducible apply mt) | (with_reducible apply List.mem_append_right)));done)))):p:=h
theorem vJ {p:Prop} (h:p:=by (first | ((simp only [Nat.reduceAdd,Nat.reduceMul,Nat.zero_add,Nat.add_zero,Nat.mul_one,Nat.zero_mul,Int.toNat_zero,Int.toNat_one,Int.reduceToNat])<;>rfl) | rfl)):p:=h
theorem kW {p:Prop} (h:p:=by (first | ((simp only [Value.cells])<;>rfl) | rfl)):p:=h
theorem Ci {p:Prop} (h:p:=by (first | (with_reducible apply p0) | (with_reducible apply p1) | (with_reducible apply p2) | (with_reducible apply p3) | (with_reducible apply p4) | (with_reducible apply p5))):p:=h
theorem mQ {p:Prop} (h:p:=by (first | omega | ((try simp only [iH,cond_true,cond_false,decide_eq_true_eq,Bool.not_eq_true',decide_eq_false_iff_not,Bool.and_eq_true,Bool.or_eq_true] at *);omega))):p:=h
theorem Ux {p:Prop} (h:p:=by (first | rfl | (focus (simp;done)))):p:=h
theorem Uy {p:Prop} (h:p:=by (first | omega | (focus (simp;done)) | (focus (simp;omega)))):p:=h
theorem Yo {p:Prop} (h:p:=by (first | exact List.not_mem_nil | assumption)):p:=h
theorem Uz {G:Prop} (h:G:=by (first | ((with_reducible apply FZ);rfl) | ((with_reducible apply IJ);rfl) | ((with_reducible apply Om ay);rfl;rfl;rfl;(exact vJ)) | ((with_reducible apply TS ay);rfl;rfl;(exact Gt);(first | rfl | assumption)) | ((with_reducible apply F7 ay);rfl;rfl;assumption;(exact Yo)) | ((with_reducible apply Oo ay);rfl;rfl;rfl;(exact Gt);(first | assumption | (exact vZ));rfl) | ((with_reducible apply IM ay);rfl;rfl;rfl;assumption;rfl;(exact Yo)) | ((with_reducible apply IK ay);rfl;rfl;rfl;omega;(exact vJ)) | ((with_reducible apply EK ay);rfl;rfl;rfl;omega;(exact vJ)) | ((with_reducible apply F6 ay);rfl;rfl;rfl;omega;omega;(exact vJ)) | ((with_reducible apply IL ay);rfl;rfl;rfl;omega;omega;(exact vJ)) | ((with_reducible apply x_len ay);rfl;rfl) | ((with_reducible apply Z9);rfl;rfl) | ((with_reducible apply TW);rfl;rfl) | ((with_reducible apply aq1);rfl;rfl) | ((with_reducible apply ZR);rfl;rfl) | ((with_reducible apply TK);rfl;rfl;rfl) | ((with_reducible apply ZT);rfl) | ((with_reducible apply EJ);rfl;rfl) | ((with_reducible apply BL);rfl) | ((with_reducible apply ZU);rfl;rfl) | ((with_reducible apply ZV);rfl;rfl) | ((with_reducible apply ZW);rfl;rfl) | ((with_reducible apply ZX);rfl;rfl) | ((with_reducible apply TL);rfl;rfl) | ((with_reducible apply ZY);rfl;rfl) | ((with_reducible apply TM ay);rfl;rfl;rfl) | ((with_reducible apply TN ay);rfl;rfl;rfl) | ((with_reducible apply TT Oz);rfl;rfl;rfl;rfl;rfl) | ((with_reducible apply TU Oz);rfl;rfl;rfl;rfl;rfl) | ((with_reducible apply ZZ);rfl;rfl;omega) | ((with_reducible apply Z4);rfl;rfl;omega;omega) | ((with_reducible apply Z5);rfl;rfl;omega;omega) | ((with_reducible apply Z7);rfl;rfl;omega;omega) | ((with_reducible apply F5 ay);rfl;rfl;rfl;omega;omega) | ((with_reducible apply Ol ay);rfl;rfl;rfl;omega;omega) | ((with_reducible apply F8 ay);rfl;(exact kW);rfl;rfl;rfl;(exact OA)) | ((with_reducible apply BM);rfl;rfl) | ((with_reducible apply TP);rfl;rfl) | ((with_reducible apply TQ);rfl;rfl))):G:=h
theorem hyG {G:Prop} (h:G:=by (first | ((with_reducible apply FZ);rfl) | ((with_reducible apply IJ);rfl) | ((with_reducible apply Om ay);rfl;rfl;rfl;(exact vJ)) | ((with_reducible apply TS ay);rfl;rfl;(exact Gt);(first | rfl | assumption)) | ((with_reducible apply F7 ay);rfl;rfl;assumption;(exact Yo)) | ((with_reducible apply Oo ay);rfl;rfl;rfl;(exact Gt);(first | assumption | (exact vZ));rfl) | ((with_reducible apply IM ay);rfl;rfl;rfl;assumption;rfl;(exact Yo)) | ((with_reducible apply IK ay);rfl;rfl;rfl;(exact mQ);(exact vJ)) | ((with_reducible apply EK ay);rfl;rfl;rfl;(exact mQ);(exact vJ)) | ((with_reducible apply F6 ay);rfl;rfl;rfl;(exact mQ);(exact mQ);(exact vJ)) | ((with_reducible apply IL ay);rfl;rfl;rfl;(exact mQ);(exact mQ);(exact vJ)) | ((with_reducible apply x_len ay);rfl;rfl) | ((with_reducible apply Z9);rfl;rfl) | ((with_reducible apply TW);rfl;rfl) | ((with_reducible apply aq1);rfl;rfl) | ((with_reducible apply ZR);rfl;rfl) | ((with_reducible apply TK);rfl;rfl;rfl) | ((with_reducible apply ZT);rfl) | ((with_reducible apply EJ);rfl;rfl) | ((with_reducible apply BL);rfl) | ((with_reducible apply ZU);rfl;rfl) | ((with_reducible apply ZV);rfl;rfl) | ((with_reducible apply ZW);rfl;rfl) | ((with_reducible apply ZX);rfl;rfl) | ((with_reducible apply TL);rfl;rfl) | ((with_reducible apply ZY);rfl;rfl) | ((with_reducible apply TM ay);rfl;rfl;rfl) | ((with_reducible apply TN ay);rfl;rfl;rfl) | ((with_reducible apply TT Oz);rfl;rfl;rfl;rfl;rfl) | ((with_reducible apply TU Oz);rfl;rfl;rfl;rfl;rfl) | ((with_reducible apply ZZ);rfl;rfl;(exact mQ)) | ((with_reducible apply Z4);rfl;rfl;(exact mQ);(exact mQ)) | ((with_reducible apply Z5);rfl;rfl;(exact mQ);(exact mQ)) | ((with_reducible apply Z7);rfl;rfl;(exact mQ);(exact mQ)) | ((with_reducible apply F5 ay);rfl;rfl;rfl;(exact mQ);(exact mQ)) | ((with_reducible apply Ol ay);rfl;rfl;rfl;(exact mQ);(exact mQ)) | ((with_reducible apply F8 ay);rfl;(exact kW);rfl;rfl;rfl;(exact OA)) | ((with_reducible apply BM);rfl;rfl) | ((with_reducible apply TP);rfl;rfl) | ((with_reducible apply TQ);rfl;rfl))):G:=h
theorem run {G R:Prop} (k:R) (h:xI R→G:=by (intro mV;(repeat (first | (with_reducible apply FU) | (with_reducible apply BF) | (with_reducible apply uM) | (with_reducible apply uN) | (with_reducible apply FY) | (with_reducible apply AL) | (with_reducible apply uP) | (with_reducible apply qL) | (with_reducible apply AO) | (with_reducible apply wZ) | (with_reducible apply AA) | (with_reducible apply FV) | (with_reducible apply Aw) | (with_reducible apply Az) | ((with_reducible apply xe);rfl) | ((with_reducible apply ja);rfl;(first | exact Uz)) | ((with_reducible apply Oq);rfl;rfl;(exact kW);intro blk) | ((with_reducible apply AP ay);rfl;rfl;(exact kW);intro blk) | ((with_reducible apply xk ay);rfl;rfl;(exact kW);rfl;rfl;(exact Ci);(exact Ux);(exact Uy);(exact vZ)) | ((with_reducible apply xm ay);rfl;rfl;rfl;(exact kW);rfl;rfl;rfl;rfl;(exact OB);intro blk)));(repeat revert blk);exact mV.get)):G:=h ⟨k⟩
theorem aI {G R:Prop} (k:R) (h:xI R→G:=by (intro mV;(repeat (first | (with_reducible apply FU) | (with_reducible apply BF) | (with_reducible apply uM) | (with_reducible apply uN) | (with_reducible apply FY) | (with_reducible apply AL) | (with_reducible apply uP) | (with_reducible apply qL) | (with_reducible apply AO) | (with_reducible apply wZ) | (with_reducible apply AA) | (with_reducible apply FV) | (with_reducible apply Aw) | (with_reducible apply Az) | ((with_reducible apply xe);rfl) | ((with_reducible apply ja);rfl;(first | exact Uz)) | ((with_reducible apply Oq);rfl;rfl;(exact kW);intro blk) | ((with_reducible apply AP ay);rfl;rfl;(exact kW);intro blk) | ((with_reducible apply xk ay);rfl;rfl;(exact kW);rfl;rfl;(exact Ci);(exact Ux);(exact Uy);(exact vZ)) | ((with_reducible apply xm ay);rfl;rfl;rfl;(exact kW);rfl;rfl;rfl;rfl;(exact OB);intro blk) | ((with_reducible apply P6);rfl;rfl;rfl;rfl;(intro hg1;(try simp only [hg1,bG,Bool.true_and]);(first | exact hyG | exact zH hg1 rfl))) | ((with_reducible apply BJ);rfl;rfl;rfl;rfl;(intro hg0 hg1;have hgC:=hg0;(try simp only [Bool.and_eq_true] at hg0);(try simp only [hg0,hg1,bG,Bool.true_and,Bool.and_true,Bool.and_self]);(first | exact hyG | exact zH hg1 rfl | exact Gh hgC rfl))) | ((with_reducible apply TY);rfl;rfl;rfl;rfl)));(repeat revert blk);exact mV.get)):G:=h ⟨k⟩
theorem az {G R:Prop} (k:R) (h:xI R→G:=by (intro mV;(repeat (first | (with_reducible apply FU) | (with_reducible apply BF) | (with_reducible apply uM) | (with_reducible apply uN) | (with_reducible apply FY) | (with_reducible apply AL) | (with_reducible apply uP) | (with_reducible apply qL) | (with_reducible apply AO) | (with_reducible apply wZ) | (with_reducible apply AA) | (with_reducible apply FV) | (with_reducible apply Aw) | (with_reducible apply Az) | ((with_reducible apply xe);rfl) | ((with_reducible apply Uo);rfl;(focus decide)) | ((with_reducible apply Ur);rfl;(focus decide)) | ((with_reducible apply ja);rfl;(first | exact Uz)) | ((with_reducible apply Oq);rfl;rfl;(exact kW);intro blk) | ((with_reducible apply AP ay);rfl;rfl;(exact kW);intro blk) | ((with_reducible apply xk ay);rfl;rfl;(exact kW);rfl;rfl;(exact Ci);(exact Ux);(exact Uy);(exact vZ)) | ((with_reducible apply xm ay);rfl;rfl;rfl;(exact kW);rfl;rfl;rfl;rfl;(exact OB);intro blk) | ((with_reducible apply P6);rfl;rfl;rfl;rfl;(intro hg1;(try simp only [hg1,bG,Bool.true_and]);(first | exact hyG | exact zH hg1 rfl))) | ((with_reducible apply BJ);rfl;rfl;rfl;rfl;(intro hg0 hg1;have hgC:=hg0;(try simp only [Bool.and_eq_true] at hg0);(try simp only [hg0,hg1,bG,Bool.true_and,Bool.and_true,Bool.and_self]);(first | exact hyG | exact zH hg1 rfl | exact Gh hgC rfl))) | ((with_reducible apply TY);rfl;rfl;rfl;rfl)));(repeat revert blk);exact mV.get)):G:=h ⟨k⟩
theorem bZ {G R:Prop} (k:R) (h:xI R→G:=by (intro mV;(repeat (first | (with_reducible apply Ov) | ((with_reducible apply X9);rfl;(first | exact Uz))));exact mV.get)):G:=h ⟨k⟩
theorem fU {G R:Prop} (k:R) (h:xI R→G:=by (intro mV;(repeat (first | (with_reducible apply Ye) | ((with_reducible apply jA);rfl;(intro hxS;(first | exact Uz)))));exact mV.get)):G:=h ⟨k⟩
theorem UA {G R:Prop} (k:R) (h:xI R→G:=by (intro mV;(repeat (first | (with_reducible apply Yn) | ((with_reducible apply Uw);rfl;decide +kernel;(first | exact Uz)) | ((with_reducible apply aa2);rfl;decide +kernel;(intro hxS;(first | exact Uz))) | ((with_reducible apply ar4 ay);rfl;rfl;(exact kW);rfl;rfl;(exact Ci);(exact Ux);(exact Uy);(exact vZ);(refine bu fun a=>?_;simp only [bV,aV,gQ];omega))));exact mV.get)):G:=h ⟨k⟩
theorem bP {G R:Prop} (k:R) (h:xI R→G:=by (intro mV;(repeat (first | (with_reducible apply Ov) | ((with_reducible apply X9);rfl;(first | exact Uz)) | ((with_reducible apply TZ);rfl;rfl;rfl;rfl;(intro hg1;(try simp only [hg1,bG,Bool.true_and]);(first | exact hyG | exact zH hg1 rfl))) | ((with_reducible apply Ua);rfl;rfl;rfl;rfl;(intro hg0 hg1;have hgC:=hg0;(try simp only [Bool.and_eq_true] at hg0);(try simp only [hg0,hg1,bG,Bool.true_and,Bool.and_true,Bool.and_self]);(first | exact hyG | exact zH hg1 rfl | exact Gh hgC rfl))) | ((with_reducible apply ae');rfl;rfl;rfl;rfl)));exact mV.get)):G:=h ⟨k⟩
theorem fin1 {P:Program} {fn:Func} {R:Value→Hp→Prop} {l:Fm} {hp:Hp} {t:Nat} {v:Value} (h:R v hp) (hr:fn.results=#[.tmp t]:=by rfl) (hv:look l t=some v:=by rfl):Fin P fn R .ret l hp:=
 ⟨.inl rfl,[v],by rw [hr];exact ⟨hv,trivial⟩,h⟩
theorem fin2 {P:Program} {fn:Func} {R:Value→Hp→Prop} {l:Fm} {hp:Hp} {t s:Nat} {v u:Value} (h:R (.tuple #[v,u]) hp) (hr:fn.results=#[.tmp t,.tmp s]:=by rfl) (hv:look l t=some v:=by rfl) (hu:look l s=some u:=by rfl):Fin P fn R .ret l hp:=
 ⟨.inl rfl,[v,u],by rw [hr];exact ⟨hv,hu,trivial⟩,h⟩
theorem Yp {P:Program} {fn:Func} {R:Value→Hp→Prop} {l:Fm} {hp:Hp} {t s r:Nat} {v u x:Value} (h:R (.tuple #[v,u,x]) hp) (hr:fn.results=#[.tmp t,.tmp s,.tmp r]:=by rfl) (hv:look l t=some v:=by rfl) (hu:look l s=some u:=by rfl) (hx:look l r=some x:=by rfl):Fin P fn R .ret l hp:=
 ⟨.inl rfl,[v,u,x],by rw [hr];exact ⟨hv,hu,hx,trivial⟩,h⟩
theorem fin0 {P:Program} {fn:Func} {R:Value→Hp→Prop} {l:Fm} {hp:Hp} {e:Exit} (h:R (.tuple #[]) hp) (hr:fn.results=#[]:=by rfl) (he:e=.ret∨e=.normal:=by first | exact .inl rfl | exact .inr rfl):Fin P fn R e l hp:=
 ⟨he,[],by rw [hr];trivial,h⟩
theorem eF {fn:Func} {R:Value→Hp→Prop} {l:Fm} {hp:Hp} {a t b:Nat} {cs:Array Value} {tb:TypeId} (h:R (.agg cs) hp) (hr:fn.results=#[.cell a t]:=by rfl) (hv:look l a=some (.pointer (some ⟨b,0,none⟩)):=by rfl) (hag:mem Tb.ag t=true:=by rfl) (hm:(⟨b,cs,tb⟩:o8)∈hp:=by (first | (with_reducible apply mh) | (focus ((repeat (first | (with_reducible apply mh) | (with_reducible apply mt) | (with_reducible apply List.mem_append_right)));done)))) (hz:lk Tb.sz t=some cs.size:=by rfl):Fin Tryz.prog fn R .ret l hp:=
 ⟨.inl rfl,[.agg cs],by rw [hr];exact ⟨⟨⟨b,cs,tb⟩,hm,hv,.inr ⟨ay.ZP hag,ay.BG hz,rfl⟩⟩,trivial⟩,h⟩
theorem jl {fn:Func} {R:Value→Hp→Prop} {l:Fm} {hp:Hp} {a t b s:Nat} {cs:Array Value} {tb:TypeId} {v:Value} (h:R (.tuple #[.agg cs,v]) hp) (hr:fn.results=#[.cell a t,.tmp s]:=by rfl) (hv:look l a=some (.pointer (some ⟨b,0,none⟩)):=by rfl) (hw:look l s=some v:=by rfl) (hag:mem Tb.ag t=true:=by rfl) (hm:(⟨b,cs,tb⟩:o8)∈hp:=by (first | (with_reducible apply mh) | (focus ((repeat (first | (with_reducible apply mh) | (with_reducible apply mt) | (with_reducible apply List.mem_append_right)));done)))) (hz:lk Tb.sz t=some cs.size:=by rfl):Fin Tryz.prog fn R .ret l hp:=
 ⟨.inl rfl,[.agg cs,v],by rw [hr];exact ⟨⟨⟨b,cs,tb⟩,hm,hv,.inr ⟨ay.ZP hag,ay.BG hz,rfl⟩⟩,hw,trivial⟩,h⟩
section
variable {n : Nat} {w0 : World} {mu : List Nat} {l : Fm} {hp : Hp} {Q : Exit → Fm → Hp → Prop} {all : Array Oper} {rest : List Oper} {ty : TypeId} {pos : String} {af : Array Edge}
theorem aK {σ:Type} {A B C D:σ→Prop} (s':σ) (hI:B s') (hm:A s':=by omega) (h1:C s':=by (repeat (first | exact True.intro | (refine And.intro bf3 ?_)))) (h2:D s':=by (repeat (first | exact True.intro | exact aC.refl _ | (with_reducible exact aC.left _ _) | (with_reducible exact aC.right _ _) | (refine Exists.intro _ (And.intro bf7 ?_)) | (with_reducible apply aC.app) | (with_reducible apply aC.skip)))):∃ s',A s'∧B s'∧C s'∧D s':=⟨s',hm,hI,h1,h2⟩
theorem Cj {σ:Type} {B C D:σ→Prop} (s':σ) (hI:B s') (h1:C s':=by (repeat (first | exact True.intro | (refine And.intro bf3 ?_)))) (h2:D s':=by (repeat (first | exact True.intro | exact aC.refl _ | (with_reducible exact aC.left _ _) | (with_reducible exact aC.right _ _) | (refine Exists.intro _ (And.intro bf7 ?_)) | (with_reducible apply aC.app) | (with_reducible apply aC.skip)))):∃ s',B s'∧C s'∧D s':=⟨s',hI,h1,h2⟩
theorem aX {c:Code} {σ:Type} (V:σ→Fm) (H:σ→Hp) (I:σ→Prop) (μ:σ→Nat) (s0:σ) (hI:I s0)
  (round:∀ s m,μ s=m→I s→St Tryz.prog n w0 mu c (V s++l) (H s) (nx (fun l' hp'=>∃ s',μ s'<m∧I s'∧Gf [] (V s'++l) l'∧aC (H s') hp') Q)) (hl:Gf [] (V s0++l) l:=by (repeat (first | exact True.intro | (refine And.intro bf3 ?_)))) (hh:aC (H s0) hp:=by (repeat (first | exact True.intro | exact aC.refl _ | (with_reducible exact aC.left _ _) | (with_reducible exact aC.right _ _) | (refine Exists.intro _ (And.intro bf7 ?_)) | (with_reducible apply aC.app) | (with_reducible apply aC.skip)))):St Tryz.prog n w0 mu (.loop c) l hp Q:=TV V H I μ s0 hI hl hh round
theorem ak {f d:Nat} {xs:List Operand} {vs:List Value} {tys:Array TypeId} {v:Value} (hc:∀ w,Good w0 mu hp w→Fn Tryz.prog f vs.toArray w [] (fun u _=>u=v)) (h:Ops Tryz.prog n w0 mu all rest ((d,v)::l) hp Q)
  (bH:mem iF f=true:=by rfl) (hd:Nat.blt d n=true:=by rfl) (hv:evs l xs=some vs:=by rfl):Ops Tryz.prog n w0 mu all (⟨some d,.call { callee:=.value (.func f),args:=xs.toArray,argTypes:=tys },ty,pos,af,none⟩::rest) l hp Q:=
 ja hd (fF (fC f bH) hv hc) h
theorem dJ {f d:Nat} {xs:List Operand} {vs:List Value} {tys:Array TypeId} {R:Value→Hp→Prop} (hc:∀ w,Good w0 mu hp w→Fn Tryz.prog f vs.toArray w [] R) (h:∀ v hn,R v hn→Ops Tryz.prog n w0 mu all rest ((d,v)::l) (hn++hp) Q)
  (bH:mem iF f=true:=by rfl) (hd:Nat.blt d n=true:=by rfl) (hv:evs l xs=some vs:=by rfl):Ops Tryz.prog n w0 mu all (⟨some d,.call { callee:=.value (.func f),args:=xs.toArray,argTypes:=tys },ty,pos,af,none⟩::rest) l hp Q:=
 ae7 (fC f bH) hd hv hc h
theorem gB {f d:Nat} {xs:List Operand} {vs:List Value} {tys:Array TypeId} {R:Value→Hp→Prop} (hi hp':Hp) (hc:∀ w,Good w0 mu (hi++hp') w→Fn Tryz.prog f vs.toArray w (hi.map (·.b)) R) (h:∀ v hn,R v hn→Ops Tryz.prog n w0 mu all rest ((d,v)::l) (hn++hp') Q)
  (hperm:(hi++hp').Perm hp) (bH:mem iF f=true:=by rfl) (hd:Nat.blt d n=true:=by rfl) (hv:evs l xs=some vs:=by rfl):Ops Tryz.prog n w0 mu all (⟨some d,.call { callee:=.value (.func f),args:=xs.toArray,argTypes:=tys },ty,pos,af,none⟩::rest) l hp Q:=
 X6 (fC f bH) hi hp' hd hv hperm hc h
theorem jM {f d:Nat} {x:Operand} {xs:List Operand} {vs fs us:List Value} {tys:Array TypeId} {v:Value} (hc:∀ w,Good w0 mu hp w→Fn Tryz.prog f (fs++vs++us).toArray w [] (fun u _=>u=v)) (h:Ops Tryz.prog n w0 mu all rest ((d,v)::l) hp Q)
  (hx:ev l x=some (.func (.func f) fs.toArray us.toArray):=by rfl) (bH:mem iF f=true:=by rfl) (hd:Nat.blt d n=true:=by rfl) (hv:evs l xs=some vs:=by rfl):Ops Tryz.prog n w0 mu all (⟨some d,.call { callee:=.value x,args:=xs.toArray,argTypes:=tys },ty,pos,af,none⟩::rest) l hp Q:=
 ja hd (xw (fC f bH) hx hv hc) h
theorem UB {f d:Nat} {x:Operand} {xs:List Operand} {vs fs us:List Value} {tys:Array TypeId} {R:Value→Hp→Prop} (hi hp':Hp) (hc:∀ w,Good w0 mu (hi++hp') w→Fn Tryz.prog f (fs++vs++us).toArray w (hi.map (·.b)) R) (h:∀ v hn,R v hn→Ops Tryz.prog n w0 mu all rest ((d,v)::l) (hn++hp') Q)
  (hperm:(hi++hp').Perm hp) (hx:ev l x=some (.func (.func f) fs.toArray us.toArray):=by rfl) (bH:mem iF f=true:=by rfl) (hd:Nat.blt d n=true:=by rfl) (hv:evs l xs=some vs:=by rfl):Ops Tryz.prog n w0 mu all (⟨some d,.call { callee:=.value x,args:=xs.toArray,argTypes:=tys },ty,pos,af,none⟩::rest) l hp Q:=
 Us (fC f bH) hi hp' hd hx hv hperm hc h
theorem dO {f d j dj:Nat} {want b:Bool} {xs:List Operand} {vs:List Value} {tys:Array TypeId} {v:Value} (hc:iH b want=true→∀ w,Good w0 mu hp w→Fn Tryz.prog f vs.toArray w [] (fun u _=>u=v)) (h:Ops Tryz.prog n w0 mu all rest ((d,gv (iH b want) v)::l) hp Q)
  (hj:(all[j]?).bind (·.dst)=some dj:=by rfl) (hb:look l dj=some (.bool b):=by rfl) (hdj:Nat.blt dj n=true:=by rfl) (bH:mem iF f=true:=by rfl) (hd:Nat.blt d n=true:=by rfl) (hv:iH b want=true→evs l xs=some vs:=by (intro hg1;(try simp only [hg1,bG,Bool.true_and]);rfl)):Ops Tryz.prog n w0 mu all (⟨some d,.call { callee:=.value (.func f),args:=xs.toArray,argTypes:=tys },ty,pos,af,some (j,want)⟩::rest) l hp Q:=
 P6 hd hj hb hdj (fun hg=>fF (fC f bH) (hv hg) (hc hg)) h
theorem OD {f d j dj:Nat} {want c0 b:Bool} {xs:List Operand} {vs:List Value} {tys:Array TypeId} {v:Value} (hc:c0=true→iH b want=true→∀ w,Good w0 mu hp w→Fn Tryz.prog f vs.toArray w [] (fun u _=>u=v)) (h:Ops Tryz.prog n w0 mu all rest ((d,gv (c0 && iH b want) v)::l) hp Q)
  (hj:(all[j]?).bind (·.dst)=some dj:=by rfl) (hb:look l dj=some (gv c0 (.bool b)):=by rfl) (hdj:Nat.blt dj n=true:=by rfl) (bH:mem iF f=true:=by rfl) (hd:Nat.blt d n=true:=by rfl) (hv:c0=true→iH b want=true→evs l xs=some vs:=by (intro hg0 hg1;(try simp only [Bool.and_eq_true] at hg0);(try simp only [hg0,hg1,bG,Bool.true_and,Bool.and_true,Bool.and_self]);rfl)):Ops Tryz.prog n w0 mu all (⟨some d,.call { callee:=.value (.func f),args:=xs.toArray,argTypes:=tys },ty,pos,af,some (j,want)⟩::rest) l hp Q:=
 BJ hd hj hb hdj (fun hg0 hg=>fF (fC f bH) (hv hg0 hg) (hc hg0 hg)) h
theorem kC {id:Nat} {ops:List Oper} {ds:List (Nat × Nat)} (h:dG Tryz.prog n w0 mu ops.toArray ds [] l hp Q 0 ops [] []) (hds:bY ops 0=ds:=by (simp only [bY,Nat.reduceAdd,Nat.zero_add];rfl)) (hm:Tryz.prog.follows .mixedOrders=true:=by kernel_rfl) (hB:BK ops.toArray n=true:=by kernel_rfl) (hf:bI l (dstsOf ops.toArray ops.length)=true:=by rfl):St Tryz.prog n w0 mu (.region id ops.toArray true) l hp Q:=
 Le hm hB hf (by rw [hds];exact EN h)
theorem dL {id:Nat} {ops hd tl:List Oper} {ds:List (Nat × Nat)} (k:Nat) (h:dG Tryz.prog n w0 mu ops.toArray ds tl l hp Q 0 hd [] []) (hds:bY ops 0=ds:=by (simp only [bY,Nat.reduceAdd,Nat.zero_add];rfl)) (htl:ops.drop k=tl:=by (simp only [List.drop_succ_cons,List.drop_zero];rfl)) (hhd:ops.take k=hd:=by (simp only [List.take_succ_cons,List.take_zero];rfl)) (hm:Tryz.prog.follows .mixedOrders=true:=by kernel_rfl) (hB:xh ops.toArray k n=true:=by kernel_rfl) (hf:bI l (dstsOf ops.toArray k)=true:=by rfl):St Tryz.prog n w0 mu (.region id ops.toArray true) l hp Q:=
 X5 k hm hB hf (by rw [hds,htl,hhd];exact EN h)
theorem aa4 {id:Nat} {ops:List Oper} {ds:List (Nat × Nat)} (t0:Nat) (h0:Hp) (h:mP Tryz.prog n w0 mu ops.toArray ds l h0 hp t0 Q 0 ops [] [] hp) (hle:aC h0 hp:=by (exact aj)) (hds:bY ops 0=ds:=by (simp only [bY,Nat.reduceAdd,Nat.zero_add];rfl)) (hm:Tryz.prog.follows .mixedOrders=true:=by kernel_rfl) (hB:Lp ops.toArray n t0=true:=by kernel_rfl) (hf:bI l (dstsOf ops.toArray ops.length)=true:=by rfl):St Tryz.prog n w0 mu (.region id ops.toArray true) l hp Q:=
 Uu t0 h0 hm hB hf hle (by rw [hds];exact Qe h)
section
variable {ds : List (Nat × Nat)} {tail : List Oper} {i : Nat} {iv fr : Fm}
theorem af9 {f d t0:Nat} {h0 hc:Hp} {xs:List Operand} {vs:List Value} {tys:Array TypeId} {v:Value} (hc':∀ w,Good w0 mu hp w→Fn Tryz.prog f vs.toArray w [] (fun u _=>u=v)) (h:mP Tryz.prog n w0 mu all ds l h0 hp t0 Q (i + 1) rest ((i,v)::iv) ((d,v)::fr) hc)
  (hlk:lk ds i=some d:=by rfl) (hwt:Region.waitsFor .any all t0 i=true:=by decide +kernel) (bH:mem iF f=true:=by rfl) (hv:evs (aG ds iv af.toList++l) xs=some vs:=by rfl):mP Tryz.prog n w0 mu all ds l h0 hp t0 Q i (⟨some d,.call { callee:=.value (.func f),args:=xs.toArray,argTypes:=tys },ty,pos,af,none⟩::rest) iv fr hc:=
 Uw hlk hwt (fF (fC f bH) hv hc') h
theorem dM {f d:Nat} {xs:List Operand} {vs:List Value} {tys:Array TypeId} {v:Value} (hc:∀ w,Good w0 mu hp w→Fn Tryz.prog f vs.toArray w [] (fun u _=>u=v)) (h:dG Tryz.prog n w0 mu all ds tail l hp Q (i + 1) rest ((i,v)::iv) ((d,v)::fr))
  (hlk:lk ds i=some d:=by rfl) (bH:mem iF f=true:=by rfl) (hv:evs (aG ds iv af.toList++l) xs=some vs:=by rfl):dG Tryz.prog n w0 mu all ds tail l hp Q i (⟨some d,.call { callee:=.value (.func f),args:=xs.toArray,argTypes:=tys },ty,pos,af,none⟩::rest) iv fr:=
 X9 hlk (fF (fC f bH) hv hc) h
theorem ig {f d j dj:Nat} {want b:Bool} {xs:List Operand} {vs:List Value} {tys:Array TypeId} {v:Value} (hc:iH b want=true→∀ w,Good w0 mu hp w→Fn Tryz.prog f vs.toArray w [] (fun u _=>u=v)) (h:dG Tryz.prog n w0 mu all ds tail l hp Q (i + 1) rest ((i,gv (iH b want) v)::iv) ((d,gv (iH b want) v)::fr))
  (hj:(all[j]?).bind (·.dst)=some dj:=by rfl) (hb:look (aG ds iv af.toList++l) dj=some (.bool b):=by rfl) (hdj:Nat.blt dj n=true:=by rfl) (hlk:lk ds i=some d:=by rfl) (bH:mem iF f=true:=by rfl) (hv:iH b want=true→evs (aG ds iv af.toList++l) xs=some vs:=by (intro hg1;(try simp only [hg1,bG,Bool.true_and]);rfl)):dG Tryz.prog n w0 mu all ds tail l hp Q i (⟨some d,.call { callee:=.value (.func f),args:=xs.toArray,argTypes:=tys },ty,pos,af,some (j,want)⟩::rest) iv fr:=
 TZ hlk hj hb hdj (fun hg=>fF (fC f bH) (hv hg) (hc hg)) h
theorem OE {f d j dj:Nat} {want c0 b:Bool} {xs:List Operand} {vs:List Value} {tys:Array TypeId} {v:Value} (hc:c0=true→iH b want=true→∀ w,Good w0 mu hp w→Fn Tryz.prog f vs.toArray w [] (fun u _=>u=v)) (h:dG Tryz.prog n w0 mu all ds tail l hp Q (i + 1) rest ((i,gv (c0 && iH b want) v)::iv) ((d,gv (c0 && iH b want) v)::fr))
  (hj:(all[j]?).bind (·.dst)=some dj:=by rfl) (hb:look (aG ds iv af.toList++l) dj=some (gv c0 (.bool b)):=by rfl) (hdj:Nat.blt dj n=true:=by rfl) (hlk:lk ds i=some d:=by rfl) (bH:mem iF f=true:=by rfl) (hv:c0=true→iH b want=true→evs (aG ds iv af.toList++l) xs=some vs:=by (intro hg0 hg1;(try simp only [Bool.and_eq_true] at hg0);(try simp only [hg0,hg1,bG,Bool.true_and,Bool.and_true,Bool.and_self]);rfl)):dG Tryz.prog n w0 mu all ds tail l hp Q i (⟨some d,.call { callee:=.value (.func f),args:=xs.toArray,argTypes:=tys },ty,pos,af,some (j,want)⟩::rest) iv fr:=
 Ua hlk hj hb hdj (fun hg0 hg=>fF (fC f bH) (hv hg0 hg) (hc hg0 hg)) h
end
theorem drawM {id:Nat} {ops tl:List Oper} {ds:List (Nat × Nat)} (k:Nat) (S E D:List Nat) (h:je Tryz.prog n w0 mu ops.toArray ds l hp (fun aH=>iI Tryz.prog n w0 mu ops.toArray ds l hp aH (fun Rs=>DN (fun iv bl=>gJ Tryz.prog n w0 mu ops.toArray ds l hp (fun lJ=>Ops Tryz.prog n w0 mu ops.toArray tl (bC ds lJ++l) (bl++hp) Q) D (iv++aH)) Rs) E []) S [])
  (hds:bY ops 0=ds:=by (simp only [bY,Nat.reduceAdd,Nat.zero_add];rfl)) (htl:ops.drop k=tl:=by (simp only [List.drop_succ_cons,List.drop_zero];rfl)) (hm:Tryz.prog.follows .mixedOrders=true:=by kernel_rfl) (hB:xh ops.toArray k n=true:=by kernel_rfl) (hf:bI l (dstsOf ops.toArray k)=true:=by rfl) (hsp:splitB k S E D=true:=by decide):St Tryz.prog n w0 mu (.region id ops.toArray true) l hp Q:=
 Ug k S E D hm hB hf hsp hds bj6
theorem yT {ops tl:List Oper} {ds:List (Nat × Nat)} (k:Nat) (S E D:List Nat) (h:je Tryz.prog n w0 mu ops.toArray ds l hp (fun aH=>iI Tryz.prog n w0 mu ops.toArray ds l hp aH (fun Rs=>DN (fun iv bl=>gJ Tryz.prog n w0 mu ops.toArray ds l hp (fun lJ=>Ops Tryz.prog n w0 mu ops.toArray tl (bC ds lJ++l) (bl++hp) Q) D (iv++aH)) Rs) E []) S [])
  (hds:bY ops 0=ds:=by (simp only [bY,Nat.reduceAdd,Nat.zero_add];rfl)) (htl:ops.drop k=tl:=by (simp only [List.drop_succ_cons,List.drop_zero];rfl)) (hB:xh ops.toArray k n=true:=by kernel_rfl) (hf:bI l (dstsOf ops.toArray k)=true:=by rfl) (hsp:splitB k S E D=true:=by decide):jV Tryz.prog n w0 mu ops.toArray l hp Q:=
 EP k S E D hB hf hsp hds bj6
theorem late {id:Nat} {ops ops':List Oper} (k i:Nat) (h:jV Tryz.prog n w0 mu ops'.toArray l hp (Uj Q)) (he:addEdge ops.toArray k i=ops'.toArray:=by (simp only [addEdge,List.modify_toArray,List.modify_succ_cons,List.modify_zero_cons,List.push_toArray,List.cons_append,List.nil_append];rfl)) (hB:I5 ops.toArray k i=true:=by kernel_rfl) (hm:Tryz.prog.follows .mixedOrders=true:=by kernel_rfl):St Tryz.prog n w0 mu (.region id ops.toArray true) l hp Q:=af6 hm (Oy k i hB he h)
theorem UC {ops ops':List Oper} (k i:Nat) (h:jV Tryz.prog n w0 mu ops'.toArray l hp (Uj Q)) (he:addEdge ops.toArray k i=ops'.toArray:=by (simp only [addEdge,List.modify_toArray,List.modify_succ_cons,List.modify_zero_cons,List.push_toArray,List.cons_append,List.nil_append];rfl)) (hB:I5 ops.toArray k i=true:=by kernel_rfl):jV Tryz.prog n w0 mu ops.toArray l hp (Uj Q):=Oy k i hB he h
section
variable {ds : List (Nat × Nat)} {iv : Fm} {S E D : List Nat} {Rs : List (Nat × RT)} {Z : List (Nat × RT) → Prop} {Y : Fm → Prop} {i d : Nat}
theorem I7 {t e sz iE:Nat} {x y:Operand} {z:Value} {k k':IntKind} {m:Nat} {cs:Array Value} (h:iI Tryz.prog n w0 mu all ds l hp iv Z E ((i,fun v hn=>∃ b,v=.slice (some ⟨b,0,none⟩) m m∧hn=[⟨b,cs,e⟩])::Rs)) (hm:m≤65536) (ho:all[i]?=some ⟨some d,.makeSlice t x y,ty,pos,af,none⟩:=by rfl) (hx:ev (aG ds iv af.toList++l) x=some (.int k (m:Int)):=by rfl) (hy:ev (aG ds iv af.toList++l) y=some (.int k' (m:Int)):=by rfl) (ht:lk Tb.sl t=some (e,sz):=by rfl) (hz:lk Tb.zs e=some z:=by rfl) (hb:lk Tb.eb e=some iE:=by rfl)
  (hs:Nat.ble sz 64=true:=by rfl) (hby:Nat.ble iE 4096=true:=by rfl) (hcs:madeCells z.cells (m * sz)=cs:=by rfl):iI Tryz.prog n w0 mu all ds l hp iv Z (i::E) Rs:=by
 subst hcs
 have hs':sz≤64:=Nat.le_of_ble_eq_true hs
 have sD:iE≤4096:=Nat.le_of_ble_eq_true hby
 refine IY ho (Yh ay hx hy ht hz hb ?_ ?_ be5) ⟨_,_,0,rfl,rfl⟩ h
 ·calc m * sz≤65536 * 64:=Nat.mul_le_mul hm hs'
   _≤_:=by decide
 ·calc iE * m≤4096 * 65536:=Nat.mul_le_mul sD hm
   _≤_:=by decide
theorem qR {t:TypeId} {z:Value} {cs:List Value} (h:iI Tryz.prog n w0 mu all ds l hp iv Z E ((i,fun v hn=>∃ b,v=.pointer (some ⟨b,0,none⟩)∧hn=[⟨b,cs.toArray,t⟩])::Rs)) (ho:all[i]?=some ⟨some d,.alloc t,ty,pos,af,none⟩:=by rfl) (hz:lk Tb.zs t=some z:=by rfl) (hc:z.cells=cs.toArray:=by (first | ((simp only [Value.cells])<;>rfl) | rfl)):iI Tryz.prog n w0 mu all ds l hp iv Z (i::E) Rs:=
 IY ho (Uh ay hz hc) ⟨_,_,0,rfl,rfl⟩ h
theorem jB {f:FuncId} {xs:List Operand} {vs:List Value} {tys:Array TypeId} {R:RT} (hc:∀ w,Good w0 mu hp w→Fn Tryz.prog f vs.toArray w [] R) (hi:∃ v hn,R v hn) (h:iI Tryz.prog n w0 mu all ds l hp iv Z E ((i,R)::Rs)) (ho:all[i]?=some ⟨some d,.call { callee:=.value (.func f),args:=xs.toArray,argTypes:=tys },ty,pos,af,none⟩:=by rfl) (bH:mem iF f=true:=by rfl) (hv:evs (aG ds iv af.toList++l) xs=some vs:=by rfl):iI Tryz.prog n w0 mu all ds l hp iv Z (i::E) Rs:=
 IY ho (Ox (fC f bH) hv hc) hi h
theorem tN {t:TypeId} {ps:List (Nat × Operand)} {vs:List (Nat × Value)} {z:Value} {pl:List (Nat × Nat)} {zc out out':Array Value} (h:gJ Tryz.prog n w0 mu all ds l hp Y D ((i,.agg out')::iv)) (ho:all[i]?=some ⟨some d,.build t ps.toArray,ty,pos,af,none⟩:=by rfl) (hz:lk Tb.zs t=some z:=by rfl) (hzc:z.cells=zc:=by (first | ((simp only [Value.cells])<;>rfl) | rfl)) (hpl:lk Tb.pl t=some pl:=by rfl) (hv:Ee (aG ds iv af.toList++l) ps=some vs:=by rfl) (hf:fl pl zc vs=some out:=by rfl) (hn:out=out':=by (first | ((simp only [putAt,Value.cells,List.toList_toArray,List.setIfInBounds_toArray,List.set_cons_zero,List.set_cons_succ,List.drop_succ_cons,List.drop_zero,List.take_succ_cons,List.take_zero,List.cons_append,List.nil_append,List.append_nil])<;>rfl) | rfl)):gJ Tryz.prog n w0 mu all ds l hp Y (i::D) iv:=
 BX ho (Yi ay hz hzc hpl hv hf hn) h
theorem xJ {x:Operand} {v:Value} (h:gJ Tryz.prog n w0 mu all ds l hp Y D ((i,v)::iv)) (ho:all[i]?=some ⟨some d,.move x,ty,pos,af,none⟩:=by rfl) (hx:ev (aG ds iv af.toList++l) x=some v:=by rfl):gJ Tryz.prog n w0 mu all ds l hp Y (i::D) iv:=BX ho (af1 hx) h
theorem dY {x:Operand} {j:Nat} {vs:Array Value} {v:Value} (h:gJ Tryz.prog n w0 mu all ds l hp Y D ((i,v)::iv)) (ho:all[i]?=some ⟨some d,.extract x j,ty,pos,af,none⟩:=by rfl) (hx:ev (aG ds iv af.toList++l) x=some (.tuple vs):=by rfl) (hj:nth vs.toList j=some v:=by rfl):gJ Tryz.prog n w0 mu all ds l hp Y (i::D) iv:=BX ho (Qb hx hj) h
theorem iW (h:Y iv):gJ Tryz.prog n w0 mu all ds l hp Y [] iv:=Yg h
theorem jS (h:Z Rs):iI Tryz.prog n w0 mu all ds l hp iv Z [] Rs:=Yf h
end
theorem qU {ops:List Oper} {ds:List (Nat × Nat)} {iv fr:Fm} {bl:Hp} (h:Ops Tryz.prog n w0 mu all ops (fr++l) (bl++hp) Q) (hfr:bC ds iv=fr:=by (simp only [bC,bT,List.cons_append,List.nil_append,reduceIte,Nat.reduceEqDiff];rfl)):Ops Tryz.prog n w0 mu all ops (bC ds iv++l) (bl++hp) Q:=by rw [hfr];exact h
theorem Ls {ds:List (Nat × Nat)} {tail:List Oper} {i d:Nat} {iv fr:Fm} {op:Op} {v:Value} (hy:Hy Tryz.prog n w0 mu (aG ds iv af.toList++l) hp ⟨some d,op,ty,pos,af,none⟩ v) (h:dG Tryz.prog n w0 mu all ds tail l hp Q (i + 1) rest ((i,v)::iv) ((d,v)::fr)) (hlk:lk ds i=some d:=by rfl):dG Tryz.prog n w0 mu all ds tail l hp Q i (⟨some d,op,ty,pos,af,none⟩::rest) iv fr:=X9 hlk hy h
theorem kX {t d e sz iE cc a:Nat} {x y:Operand} {z v:Value} {c:List Value} {ha hp':Hp} {xs:List (List Value)} (hA:Acc e sz v ha xs) (h:∀ v' ha',Acc e sz v' ha' (xs++[c])→Ops Tryz.prog n w0 mu all rest ((d,v')::l) (ha'++hp') Q) (h63:xs.length<1000000) (hnews:jR w0 mu hp a 0 c)
  (hperm:(ha++hp').Perm hp:=by first | exact List.perm_middle | exact List.perm_append_singleton _ _ | exact .refl _) (hd:Nat.blt d n=true:=by rfl) (hx:ev l x=some v:=by rfl) (hy:ev l y=some (.slice (some ⟨a,0,none⟩) 1 cc):=by rfl) (ht:lk Tb.sl t=some (e,sz):=by rfl)
  (hz:lk Tb.zs e=some z:=by rfl) (hzs:z.cells.size=sz:=by rfl) (hb:lk Tb.eb e=some iE:=by rfl) (hby:Nat.ble iE 4096=true:=by rfl) (hl:c.length=sz:=by rfl) (h1:c.all (·.oneCell')=true:=by rfl):Ops Tryz.prog n w0 mu all (⟨some d,.call { callee:=.builtin .append,args:=#[x,y],argTypes:=#[t,t] },ty,pos,af,none⟩::rest) l hp Q:=
 EO ay hA hd hx hy ht hz hzs hb hby hperm hl hnews h1 h63 h
theorem OG {t d e sz iE cc a:Nat} {x y:Operand} {z v:Value} {c:List Value} {ha:Hp} {xs:List (List Value)} (pre:Hp) (hA:Acc e sz v ha xs) (h:∀ v' ha',Acc e sz v' ha' (xs++[c])→Ops Tryz.prog n w0 mu all rest ((d,v')::l) (pre++ha') Q) (h63:xs.length<1000000) (hnews:jR w0 mu hp a 0 c) (hpre:pre++ha=hp:=by rfl)
  (hd:Nat.blt d n=true:=by rfl) (hx:ev l x=some v:=by rfl) (hy:ev l y=some (.slice (some ⟨a,0,none⟩) 1 cc):=by rfl) (ht:lk Tb.sl t=some (e,sz):=by rfl)
  (hz:lk Tb.zs e=some z:=by rfl) (hzs:z.cells.size=sz:=by rfl) (hb:lk Tb.eb e=some iE:=by rfl) (hby:Nat.ble iE 4096=true:=by rfl) (hl:c.length=sz:=by rfl) (h1:c.all (·.oneCell')=true:=by rfl):Ops Tryz.prog n w0 mu all (⟨some d,.call { callee:=.builtin .append,args:=#[x,y],argTypes:=#[t,t] },ty,pos,af,none⟩::rest) l hp Q:=
 EO ay hA hd hx hy ht hz hzs hb hby (by rw [← hpre];exact List.perm_append_comm) hl hnews h1 h63 fun v' ha' hA'=>fJ _ List.perm_append_comm (h v' ha' hA')
theorem make {t d e sz iE:Nat} {x y:Operand} {z:Value} {k k':IntKind} {m:Nat} (h:∀ b,Ops Tryz.prog n w0 mu all rest ((d,.slice (some ⟨b,0,none⟩) m m)::l) (⟨b,madeCells z.cells (m * sz),e⟩::hp) Q) (hm:m≤65536) (hd:Nat.blt d n=true:=by rfl) (hx:ev l x=some (.int k (m:Int)):=by rfl) (hy:ev l y=some (.int k' (m:Int)):=by rfl) (ht:lk Tb.sl t=some (e,sz):=by rfl) (hz:lk Tb.zs e=some z:=by rfl) (hb:lk Tb.eb e=some iE:=by rfl)
  (hs:Nat.ble sz 64=true:=by rfl) (hby:Nat.ble iE 4096=true:=by rfl):Ops Tryz.prog n w0 mu all (⟨some d,.makeSlice t x y,ty,pos,af,none⟩::rest) l hp Q:=by
 have hs':sz≤64:=Nat.le_of_ble_eq_true hs
 have sD:iE≤4096:=Nat.le_of_ble_eq_true hby
 refine ae8 ay hd hx hy ht hz hb ?_ ?_ be5 h
 ·calc m * sz≤65536 * 64:=Nat.mul_le_mul hm hs'
   _≤_:=by decide
 ·calc iE * m≤4096 * 65536:=Nat.mul_le_mul sD hm
   _≤_:=by decide
theorem enter {f:FuncId} {fn:Func} {c:Code} {args:List Value} {w:World} {R:Value→Hp→Prop} (hf:Tryz.prog.funcs[f]?=some fn) (h:St Tryz.prog fn.ntmps w [] c (wY 0 args) [] (Fin Tryz.prog fn R)) (hb:fn.body=some c:=by rfl) (ha:Nat.ble args.length fn.ntmps=true:=by rfl):Fn Tryz.prog f args.toArray w [] R:=TD hf hb fn.ntmps rfl (Nat.le_of_ble_eq_true ha) h
structure dD (hi:Hp) (w:World):Prop where
 here:∀ e∈hi,w.heap[e.b]?=some (.cells e.cs e.t (0,0))
 nd:(hi.map (·.b)).Nodup
theorem Good.fV {w0 w:World} {mu:List Nat} {hi hp:Hp} (h:Good w0 mu (hi++hp) w):dD hi w:=
 ⟨fun e he=>h.here e (List.mem_append_left _ he),by have:=h.nodup;rw [List.map_append,List.nodup_append] at this;exact this.1⟩
theorem bU {f:FuncId} {fn:Func} {c:Code} {args:List Value} {w:World} {R:Value→Hp→Prop} (hi:Hp) (hN:dD hi w) (hf:Tryz.prog.funcs[f]?=some fn) (h:St Tryz.prog fn.ntmps w (hi.map (·.b)) c (wY 0 args) hi (Fin Tryz.prog fn R)) (hb:fn.body=some c:=by rfl) (ha:Nat.ble args.length fn.ntmps=true:=by rfl):Fn Tryz.prog f args.toArray w (hi.map (·.b)) R:=P5 hi hN.here hN.nd hf hb fn.ntmps rfl (Nat.le_of_ble_eq_true ha) h
end
end
section
open Go.ChangeShapes Go.WideShapes Go.ChangeAt Go.RowKit
def okW:jy→Value→Bool
 | .i k,.int k' n=>decide (k=k') && (Lit.int k n).wf
 | .b,.bool _=>true
 | _,_=>false
def kY:List jy→List Value→Bool
 | [],[]=>true
 | l::ls,v::vs=>okW l v && kY ls vs
 | _,_=>false
theorem ER:∀ {ks rs:List jy} {vs:List Value},ks.length≤vs.length→kY ks (vs.take ks.length)=true→kY rs (vs.drop ks.length)=true→kY (ks++rs) vs=true:=by
 intro ks
 induction ks with
 | nil=>intro rs vs _ _ h;simpa using h
 | cons k r ih=>
  intro rs vs hl h1 h2
  cases vs with
  | nil=>simp at hl
  | cons v vs=>
   simp only [List.length_cons,List.take_succ_cons,List.drop_succ_cons,kY,Bool.and_eq_true] at h1 h2
   simp only [List.cons_append,kY,Bool.and_eq_true]
   exact ⟨h1.1,ih (by simp at hl;omega) h1.2 h2⟩
section
variable {H : Type} {enc : TypeId × Value → H} {P : Program} {w : World} {base : Nat} {spare : Nat → Bool} {held : Bool}
theorem lV {t:TypeId} {n:Nat} (h:fP P t=some n):P.cellsOf t=n:=by
 unfold fP at h;unfold Program.cellsOf;rw [h];rfl
theorem Eg {F:TypeId→Option (List jy)} {n:Nat} (hF:∀ u ks,F u=some ks→fP P u=some ks.length∧∀ cs x,DataW.trod enc P w base spare held n u cs=some x→kY ks cs=true) (cs:List Value):
  ∀ (fs:List Field) (off:Nat) (ks:List jy),jU F off fs=some ks→cs.length=off + ks.length →
   (∀ f∈fs,∃ x,DataW.trod enc P w base spare held n f.type ((cs.drop f.offset).take (P.cellsOf f.type))=some x)→kY ks (cs.drop off)=true:=by
 intro fs
 induction fs with
 | nil=>
  intro off ks h hl hx
  simp only [jU,Option.some.injEq] at h
  subst h
  rw [List.drop_eq_nil_of_le (by simp only [List.length_nil] at hl;omega)]
  rfl
 | cons f r ih=>
  intro off ks h hl hx
  simp only [jU] at h
  split at h
  ·rename_i hc
   obtain ⟨hname,hoff⟩:=hc
   cases hf:F f.type with
   | none=>simp [hf] at h
   | some k1=>
    rw [hf] at h
    simp only [Option.bind_some] at h
    cases hr:jU F (off + k1.length) r with
    | none=>simp [hr] at h
    | some k2=>
     rw [hr] at h
     simp only [Option.map_some,Option.some.injEq] at h
     subst h
     obtain ⟨hs,hE⟩:=hF _ _ hf
     obtain ⟨x,hx1⟩:=hx f (List.mem_cons_self ..)
     rw [hoff,lV hs] at hx1
     simp only [List.length_append] at hl
     refine ER bf2 (hE _ _ hx1) ?_
     rw [List.drop_drop]
     exact ih _ _ hr be5 fun f hf=>hx f (List.mem_cons_of_mem _ hf)
  ·cases h
theorem Gu {ks:List jy} {q:List Value→Prop} (hE:∀ cs,q cs→kY ks cs=true) (cs:List Value):∀ (n m:Nat),cs.length=(m + n) * ks.length→(∀ i,m≤i→i<m + n→q ((cs.drop (i * ks.length)).take ks.length))→kY (kU ks n) (cs.drop (m * ks.length))=true:=by
 intro n
 induction n with
 | zero=>intro m hl _;rw [List.drop_eq_nil_of_le (by rw [hl];simp)];rfl
 | succ n ih=>
  intro m hl hq
  have e:(m + (n + 1)) * ks.length=m * ks.length + (ks.length + n * ks.length):=by rw [Nat.add_mul,Nat.succ_mul];omega
  refine ER bf2 (hE _ (hq m (Nat.le_refl _) be5)) ?_
  rw [List.drop_drop,← Nat.succ_mul]
  exact ih (m + 1) (by rw [hl];congr 1;omega) fun i h1 h2=>hq i be5 be5
theorem I8:∀ (d:Nat) (t:TypeId) (ks:List jy),tu P d t=some ks→fP P t=some ks.length→∀ fuel cs x,DataW.trod enc P w base spare held fuel t cs=some x→kY ks cs=true:=by
 intro d
 induction d with
 | zero=>intro t ks h;cases h
 | succ d ih=>
  intro t ks h hsz fuel cs x hx
  simp only [tu] at h
  split at h
  ·rename_i k hu
   simp only [Option.some.injEq] at h
   subst h
   obtain ⟨n,rfl,_,hw⟩:=DataW.trod_int hu hx
   simp [kY,okW,hw]
  ·rename_i hu
   simp only [Option.some.injEq] at h
   subst h
   obtain ⟨n,rfl,_⟩:=DataW.trod_bool hu hx
   simp [kY,okW]
  ·rename_i fs hu
   split at h
   ·obtain ⟨xs,n,_,_,hl,hn,hf⟩:=DataW.trod_struct hu hx
    have:=Eg (enc:=enc) (P:=P) (w:=w) (base:=base) (spare:=spare) (held:=held) (n:=n) (F:=fun u=>(tu P d u).bind fun ks=>if fP P u=some ks.length∧0<ks.length then some ks else none) (fun u ks' hF=>by
     cases hl:tu P d u with
     | none=>rw [hl] at hF;cases hF
     | some k1=>
      rw [hl] at hF
      simp only [Option.bind_some] at hF
      split at hF
      ·rename_i hz
       simp only [Option.some.injEq] at hF
       subst hF
       exact ⟨hz.1,fun cs x=>ih u k1 hl hz.1 n cs x⟩
      ·cases hF) cs fs.toList 0 ks h (by rw [hl,lV hsz];omega) (fun f hm=>by
       obtain ⟨i,hi,rfl⟩:=List.mem_iff_getElem.1 hm
       simp only [Array.length_toList] at hi
       have:=hf i fs[i] (by simp [hi])
       rw [Array.getElem_toList,this]
       exact ⟨xs[i],by rw [List.getElem?_eq_getElem be5]⟩)
    simpa using this
   ·cases h
  ·rename_i n e hu
   cases hl:tu P d e with
   | none=>rw [hl] at h;cases h
   | some k1=>
    rw [hl] at h
    simp only [Option.bind_some] at h
    split at h
    ·rename_i hz
     simp only [Option.some.injEq] at h
     subst h
     obtain ⟨xs,m,_,_,hlen,hn,hf⟩:=DataW.trod_array hu hx
     have hk:∀ (n:Nat),(kU k1 n).length=n * k1.length:=by
      intro n
      induction n with
      | zero=>simp [kU]
      | succ n ih=>simp [kU,ih,Nat.succ_mul];omega
     have:=Gu (ks:=k1) (q:=fun cs=>∃ x,DataW.trod enc P w base spare held m e cs=some x) (fun cs ⟨x,h⟩=>ih e k1 hl hz.1 m cs x h) cs n 0 (by rw [hlen,lV hsz,hk];simp) (fun i _ hi=>by
      have:=hf i be5
      rw [lV hz.1] at this
      rw [this]
      exact ⟨xs[i]' be5,by rw [List.getElem?_eq_getElem be5]⟩)
     simpa using this
    ·cases h
  ·cases h
end
end
section
open Go.ChangeShapes Go.WideShapes Go.ChangeAt Go.RowKit
section
variable {H : Type} {enc : TypeId × Value → H} {P : Program} {w : World} {base : Nat} {spare : Nat → Bool} {held : Bool}
def Yq (P:Program) (t:TypeId) (d:DataW H):Prop:=∀ n∈d.weights P t,n≤reachBytes
theorem weightsAll_mem {P:Program} {e:TypeId}:∀ {ds:List (DataW H)} {d:DataW H},d∈ds→∀ n∈d.weights P e,n∈DataW.weightsAll P e ds:=by
 intro ds
 induction ds with
 | nil=>intro d h;cases h
 | cons x r ih=>
  intro d h n hn
  simp only [DataW.weightsAll,List.mem_append]
  rcases List.mem_cons.1 h with rfl | h
  ·exact .inl hn
  ·exact .inr (ih h n hn)
theorem Qg {α:Type} [Inhabited α] {t e s fuel:Nat} {R:List Value→α→Prop} {cs:List Value} {x:DataW H × List MemPlace} (ht:P.underlying t=some (.slice e)) (hs:fP P e=some s) (hpos:0<s) (hby:Nat.ble 1 (P.bytesOf e)=true)
  (hE:∀ n cs x,DataW.trod enc P w base spare held n e cs=some x→Yq P e x.1→∃ a:α,R cs a) (h:DataW.trod enc P w base spare held fuel t cs=some x) (hz:Yq P t x.1):
  ∃ (p:Option Addr) (xs:List α) (cap:Nat),cs=[.slice p xs.length cap]∧xs.length≤reachBytes∧((xs=[])∨∃ b off,p=some ⟨b,off,none⟩∧∀ i,i<xs.length→∃ cs,w.rangeAt b (off + i * s) cs∧cs.length=s∧R cs (xs.getD i default)):=by
 rcases Go.Deep.open_slice ht h with ⟨hc,_⟩ | ⟨a,len,cap,m,n,D,Pl,hc,hb,hl,hm,hmm,hxx,hx⟩
 ·exact ⟨none,[],0,hc,by simp,.inl rfl⟩
 ·have hnm:len≤m:=by rw [hmm];split<;>omega
  rw [hxx] at hz
  have hlen:len≤reachBytes:=by
   have h1:=hz ((((List.range len).map D).length + ((List.range (m - len)).map fun j=>D (len + j)).length) * P.bytesOf e) (by simp [DataW.weights,ht])
   have h2:1≤P.bytesOf e:=Nat.le_of_ble_eq_true hby
   simp only [List.length_map,List.length_range] at h1
   calc len≤len + (m - len):=by omega
    _=(len + (m - len)) * 1:=by omega
    _≤(len + (m - len)) * P.bytesOf e:=Nat.mul_le_mul_left _ h2
    _≤_:=h1
  have hzE:∀ i,i<len→Yq P e (D i):=fun i hi n hn=>hz n (by
   simp only [DataW.weights,ht,List.mem_cons,List.mem_append]
   exact .inr (.inl (weightsAll_mem (List.mem_map.2 ⟨i,List.mem_range.2 hi,rfl⟩) n hn)))
  rw [lV hs] at hx
  have key:∀ i,i<len→∃ y:α,∃ cs,(∀ j v,cs[j]?=some v→w.cell? ((a.add (i * s)).add j)=some v)∧cs.length=s∧R cs y:=by
   intro i hi
   obtain ⟨cs,h1,h2⟩:=hx i be5
   obtain ⟨_,hlen,hc⟩:=World.cells?_some h1
   obtain ⟨y,hy⟩:=hE _ _ _ h2 (hzE i hi)
   refine ⟨y,cs,fun j v hj=>?_,hlen,hy⟩
   have:j<cs.length:=(List.getElem?_eq_some_iff.1 hj).1
   rw [hc j be5,hj]
  obtain ⟨Y,hY⟩:=Go.Deep.choose_lt (α:=α) (n:=len) (p:=fun i y=>∃ cs,(∀ j v,cs[j]?=some v→w.cell? ((a.add (i * s)).add j)=some v)∧cs.length=s∧R cs y) key
  refine ⟨some a,(List.range len).map Y,cap,by simpa using hc,by simpa using hlen,?_⟩
  by_cases h0:len=0
  ·left;subst h0;rfl
  right
  have hspot:a.spot=none:=by
   obtain ⟨cs,h1,h3,_⟩:=hY 0 be5
   have:=World.cell?_spot (h1 0 (cs[0]' be5) (List.getElem?_eq_getElem _))
   simpa [Addr.add] using this
  obtain ⟨b,off,sp⟩:=a
  simp only at hspot
  subst hspot
  refine ⟨b,off,rfl,fun i hi=>?_⟩
  simp only [List.length_map,List.length_range] at hi
  obtain ⟨cs,h1,h2,h3⟩:=hY i hi
  refine ⟨cs,fun j v hj=>?_,h2,by simpa [hi] using h3⟩
  have:=h1 j v hj
  rwa [Go.Deep.add_add,Addr.add_mid,← Nat.add_assoc] at this
theorem tZ {t fuel:Nat} {fs:Array Go.Field} {cs:List Value} {x:DataW H × List MemPlace} (ht:P.underlying t=some (.struct fs)) (h:DataW.trod enc P w base spare held fuel t cs=some x) (hz:Yq P t x.1):
  cs.length=P.cellsOf t∧∃ n:Nat,∀ (i:Nat) (f:Go.Field),fs[i]?=some f→∃ y,DataW.trod enc P w base spare held n f.type ((cs.drop f.offset).take (P.cellsOf f.type))=some y∧Yq P f.type y.1:=by
 obtain ⟨xs,n,_,rfl,hl,hlen,hf⟩:=DataW.trod_struct ht h
 refine ⟨hl,n,fun i f hi=>?_⟩
 have h1:=hf i f hi
 have hlt:i<fs.size:=(Array.getElem?_eq_some_iff.1 hi).1
 rw [List.getElem?_eq_getElem be5] at h1
 refine ⟨_,h1,fun n hn=>hz n ?_⟩
 simp only [DataW.weights,ht]
 exact DataW.weights_mem_each (j:=i) (t:=f.type) (d:=(xs[i]' be5).1) (by simp [hi]) (by simp [List.getElem?_eq_getElem (show i<xs.length by omega)]) n hn
end
end
section
structure sF where
 own:Int
 wit:Int
deriving Inhabited
structure jv where
 mid:Int
 gU:Int
deriving Inhabited
structure Yr where
 live:Bool
 dying:Bool
 first:Int
 aN:List Int
 maps:List jv
deriving Inhabited
structure OH where
 vm:Int
 cpu:Int
deriving Inhabited
structure PtD where
 pages:List sF
 aA:List Yr
 on:List OH
def allB (n:Nat) (p:Nat→Bool):Bool:=(List.range n).all p
theorem bM {n:Nat} {p:Nat→Bool}:allB n p=true↔∀ i,i<n→p i=true:=by
 simp [allB,List.all_eq_true]
namespace PtD
variable (P : PtD)
def pg (f:Nat):sF:=P.pages.getD f default
def gs (i:Nat):Yr:=P.aA.getD i default
def st (c:Nat):OH:=P.on.getD c default
def di (n a b:Int):Bool:=decide (a≤n) && decide (n≤b)
def lives (n:Int):Bool:=di n 1 4 && (P.gs (n - 1).toNat).live
def owns (who:Int):Bool:=P.pages.any fun x=>decide (x.own=who)
def uses (who:Int) (f:Nat):Bool:=decide ((P.pg f).own=who) || decide ((P.pg f).wit=who)
def nS (taken:List Int) (f:Nat):Bool:=
 bif decide (f<16) || decide ((P.pg f).own=-1) then (decide ((P.pg f).own=-1) && decide ((P.pg f).wit=-2)) && (decide (f<16) || taken.any fun t=>decide (t=(f:Int)))
 else bif decide ((P.pg f).own=0) then decide ((P.pg f).wit=-2) || decide ((P.pg f).wit=-1) || P.lives (P.pg f).wit
 else bif di (P.pg f).own 1 4 then decide ((P.pg f).wit=-2) || (decide ((P.pg f).wit=0) && P.lives (P.pg f).own) else false
def uf (l:List jv) (N:Nat) (i:Nat):Bool:=
 di (l.getD i default).mid 0 15 && (decide (i=0) || decide ((l.getD (i - 1) default).mid<(l.getD i default).mid)) && di (l.getD i default).gU 0 ((N:Int) - 1) && !((l.take i).any fun m=>decide (m.gU=(l.getD i default).gU))
def mapped (i:Nat):Bool:=allB (P.gs i).maps.length (uf (P.gs i).maps P.pages.length) && allB P.pages.length fun f=>((P.gs i).maps.any fun m=>decide (m.gU=(f:Int))) == P.uses ((i:Int) + 1) f
def ug (i:Nat) (v:Nat):Bool:=
 decide ((P.gs i).aN.getD v 0=-1) || (di ((P.gs i).aN.getD v 0) 0 ((P.on.length:Int) - 1) && (decide ((P.st ((P.gs i).aN.getD v 0).toNat).vm=(i:Int) + 1) && decide ((P.st ((P.gs i).aN.getD v 0).toNat).cpu=(v:Int))))
def kD (i:Nat):Bool:=
 bif (P.gs i).live then
  !(P.gs i).dying && di (P.gs i).first 16 ((P.pages.length:Int) - 5) && decide ((P.gs i).aN.length≤2) && P.mapped i &&
  allB 5 (fun k=>decide ((P.pg ((P.gs i).first.toNat + k)).own=-1) && decide ((P.pg ((P.gs i).first.toNat + k)).wit=-2)) && allB (P.gs i).aN.length (P.ug i)
 else decide ((P.gs i).aN.length=0) && decide ((P.gs i).maps.length=0) && decide ((P.gs i).first=0) && ((P.gs i).dying == P.owns ((i:Int) + 1))
def seated (c:Nat):Bool:=
 bif decide ((P.st c).vm=0) then decide ((P.st c).cpu=0)
 else P.lives (P.st c).vm && di (P.st c).cpu 0 (((P.gs ((P.st c).vm - 1).toNat).aN.length:Int) - 1) && decide ((P.gs ((P.st c).vm - 1).toNat).aN.getD (P.st c).cpu.toNat 0=(c:Int))
def rows (i:Nat):List Int:=bif (P.gs i).live then [(P.gs i).first,(P.gs i).first + 1,(P.gs i).first + 2,(P.gs i).first + 3,(P.gs i).first + 4] else []
def taken (k:Nat):List Int:=(List.range k).flatMap P.rows
def round (i:Nat):Bool:=P.kD i && (!(P.gs i).live || allB 5 fun k=>!((P.taken i).any fun t=>decide (t=(P.gs i).first + (k:Int))))
def may:Bool:=
 (decide (24≤P.pages.length) && decide (P.pages.length≤64)) && decide (P.aA.length=4) && (decide (1≤P.on.length) && decide (P.on.length≤3)) &&
 allB 4 P.round && allB P.pages.length (P.nS (P.taken 4)) && allB P.on.length P.seated
def who (n:Int):Bool:=decide (-1≤n) && decide (n≤4)
def idx {α:Type} (p:α→Bool):List α→Nat→Option Nat
 | [],_=>none
 | x::r,i=>bif p x then some i else idx p r (i + 1)
end PtD
end
section
namespace PtD
variable {P : PtD}
theorem xK {α:Type} [Inhabited α] {p:α→Bool}:∀ {l:List α} {i k:Nat},idx p l i=some k→i≤k∧k - i<l.length∧p (l.getD (k - i) default)=true∧∀ j,j<k - i→p (l.getD j default)=false:=by
 intro l
 induction l with
 | nil=>intro i k h;cases h
 | cons x r ih=>
  intro i k h
  simp only [idx] at h
  cases hp:p x with
  | true=>
   rw [hp] at h
   simp only [cond_true,Option.some.injEq] at h
   subst h
   refine ⟨Nat.le_refl _,by simp,by simpa using hp,fun j hj=>by omega⟩
  | false=>
   rw [hp] at h
   obtain ⟨h1,h2,h3,h4⟩:=ih h
   have e:k - i=(k - (i + 1)) + 1:=by omega
   refine ⟨by omega,by simp;omega,by rw [e];simpa using h3,fun j hj=>?_⟩
   cases j with
   | zero=>simpa using hp
   | succ j=>have:=h4 j be5;simpa using this
theorem I9 {α:Type} [Inhabited α] {p:α→Bool}:∀ {l:List α} {i:Nat},idx p l i=none→∀ j,j<l.length→p (l.getD j default)=false:=by
 intro l
 induction l with
 | nil=>intro i h j hj;simp at hj
 | cons x r ih=>
  intro i h j hj
  simp only [idx] at h
  cases hp:p x with
  | true=>rw [hp] at h;cases h
  | false=>
   rw [hp] at h
   cases j with
   | zero=>simpa using hp
   | succ j=>have:=ih h j (by simp at hj;omega);simpa using this
theorem af' {α:Type} [Inhabited α] {p:α→Bool} {l:List α} {k:Nat} (hk:k<l.length) (h:p (l.getD k default)=true):idx p l 0=some k↔∀ j,j<k→p (l.getD j default)=false:=by
 constructor
 ·intro e;have:=xK e;simpa using this.2.2.2
 ·intro hj
  cases e:idx p l 0 with
  | none=>have:=I9 e k hk;rw [h] at this;cases this
  | some m=>
   obtain ⟨_,h2,h3,h4⟩:=xK e
   simp only [Nat.sub_zero] at h2 h3 h4
   rcases Nat.lt_trichotomy m k with hlt | rfl | hgt
   ·have:=hj m hlt;rw [h3] at this;cases this
   ·rfl
   ·have:=h4 k hgt;rw [h] at this;cases this
theorem Yt {α:Type} [Inhabited α] {p:α→Bool} {l:List α}:(idx p l 0).isSome=l.any p:=by
 rw [Bool.eq_iff_iff,List.any_eq_true]
 constructor
 ·intro h
  obtain ⟨k,e⟩:=Option.isSome_iff_exists.1 h
  obtain ⟨_,h2,h3,_⟩:=xK e
  simp only [Nat.sub_zero] at h2 h3
  refine ⟨_,?_,h3⟩
  rw [List.getD_eq_getElem?_getD,List.getElem?_eq_getElem h2]
  simp
 ·rintro ⟨x,hx,hp⟩
  cases e:idx p l 0 with
  | some k=>rfl
  | none=>
   obtain ⟨j,hj,rfl⟩:=List.mem_iff_getElem.1 hx
   have:=I9 e j hj
   rw [List.getD_eq_getElem?_getD,List.getElem?_eq_getElem hj] at this
   simp [hp] at this
structure Ok (P:PtD):Prop where
 n0:24≤P.pages.length
 n1:P.pages.length≤64
 g4:P.aA.length=4
 o1:1≤P.on.length
 o3:P.on.length≤3
 dead:∀ i,i<4→(P.gs i).live=false→(P.gs i).aN.length=0∧(P.gs i).maps.length=0∧(P.gs i).first=0∧(P.gs i).dying=P.owns ((i:Int) + 1)
 liv:∀ i,i<4→(P.gs i).live=true→(P.gs i).dying=false∧16≤(P.gs i).first∧(P.gs i).first≤(P.pages.length:Int) - 5∧(P.gs i).aN.length≤2∧(∀ v,v<(P.gs i).aN.length→P.ug i v=true) ∧
  (∀ k,k<(P.gs i).maps.length→uf (P.gs i).maps P.pages.length k=true)∧(∀ f,f<P.pages.length→((P.gs i).maps.any fun m=>decide (m.gU=(f:Int)))=P.uses ((i:Int) + 1) f)
 apart:∀ i j,i<j→j<4→(P.gs i).live=true→(P.gs j).live=true→(P.gs i).first + 5≤(P.gs j).first∨(P.gs j).first + 5≤(P.gs i).first
 hyp:∀ f,f<P.pages.length→((P.pg f).own=-1↔(f<16∨∃ i,i<4∧(P.gs i).live=true∧(P.gs i).first≤f∧f<(P.gs i).first + 5))
 ar7:∀ f,f<P.pages.length→(P.pg f).own=-1→(P.pg f).wit=-2
 who:∀ f,f<P.pages.length→-1≤(P.pg f).own∧(P.pg f).own≤4
 host:∀ f,f<P.pages.length→(P.pg f).own=0→(P.pg f).wit=-2∨(P.pg f).wit=-1∨P.lives (P.pg f).wit=true
 ar8:∀ f,f<P.pages.length→0<(P.pg f).own→(P.pg f).wit=-2∨((P.pg f).wit=0∧P.lives (P.pg f).own=true)
 seat:∀ c,c<P.on.length→P.seated c=true
theorem uS {k:Nat} {x:Int}:((P.taken k).any fun t=>decide (t=x))=true↔∃ i,i<k∧(P.gs i).live=true∧(P.gs i).first≤x∧x<(P.gs i).first + 5:=by
 simp only [taken,List.any_eq_true,List.mem_flatMap,List.mem_range,decide_eq_true_eq]
 constructor
 ·rintro ⟨t,⟨i,hi,hm⟩,rfl⟩
  unfold rows at hm
  cases hl:(P.gs i).live with
  | false=>rw [hl] at hm;simp at hm
  | true=>
   rw [hl] at hm
   simp only [cond_true,List.mem_cons,List.not_mem_nil,or_false] at hm
   exact ⟨i,hi,hl,by omega,by omega⟩
 ·rintro ⟨i,hi,hl,h1,h2⟩
  refine ⟨x,⟨i,hi,?_⟩,rfl⟩
  unfold rows
  rw [hl]
  simp only [cond_true,List.mem_cons,List.not_mem_nil,or_false]
  omega
theorem uh:P.may=true↔Ok P:=by
 constructor
 ·intro h
  simp only [may,Bool.and_eq_true,decide_eq_true_eq,bM] at h
  obtain ⟨⟨⟨⟨⟨⟨h0,h1⟩,hg⟩,ho,ho'⟩,hr⟩,hp⟩,hs⟩:=h
  have UD:∀ i,i<4→P.kD i=true:=fun i hi=>by have:=hr i hi;simp only [round,Bool.and_eq_true] at this;exact this.1
  have hfresh:∀ i,i<4→(P.gs i).live=true→∀ k:Nat,k<5→¬ ∃ j,j<i∧(P.gs j).live=true∧(P.gs j).first≤(P.gs i).first + (k:Int)∧(P.gs i).first + (k:Int)<(P.gs j).first + 5:=by
   intro i hi hl k hk
   have:=hr i hi
   simp only [round,Bool.and_eq_true,hl,Bool.not_true,Bool.false_or,bM] at this
   have:=this.2 k hk
   rw [← uS]
   intro hc
   rw [hc] at this
   cases this
  have hlive:∀ i,i<4→(P.gs i).live=true→_:=fun i hi hl=>by
   have:=UD i hi
   simp only [kD,hl,cond_true,Bool.and_eq_true,decide_eq_true_eq,bM,di,Bool.not_eq_true',mapped,beq_iff_eq] at this
   exact this
  refine ⟨h0,h1,hg,ho,ho',?_,?_,?_,?_,?_,?_,?_,?_,hs⟩
  ·intro i hi hl
   have:=UD i hi
   simp only [kD,hl,cond_false,Bool.and_eq_true,decide_eq_true_eq,beq_iff_eq] at this
   exact ⟨this.1.1.1,this.1.1.2,this.1.2,this.2⟩
  ·intro i hi hl
   obtain ⟨⟨⟨⟨⟨a,b⟩,c⟩,d,d'⟩,e⟩,f⟩:=hlive i hi hl
   exact ⟨a,b.1,b.2,c,f,d,d'⟩
  ·intro i j hij hj hi' hj'
   have k0:=hfresh j hj hj' 0 be5
   have k4:=hfresh j hj hj' 4 be5
   rcases Int.lt_or_le (P.gs j).first ((P.gs i).first + 5) with hlt | hge
   ·right
    rcases Int.lt_or_le (P.gs i).first ((P.gs j).first + 5) with h2 | h2
    ·exfalso
     rcases Int.lt_or_le (P.gs j).first (P.gs i).first with h3 | h3
     ·exact k4 ⟨i,hij,hi',by omega,by omega⟩
     ·exact k0 ⟨i,hij,hi',by omega,by omega⟩
    ·omega
   ·exact .inl hge
  ·intro f hf
   have:=hp f hf
   simp only [nS] at this
   constructor
   ·intro ho1
    simp only [ho1,decide_true,Bool.or_true,cond_true,Bool.and_eq_true,decide_eq_true_eq,Bool.or_eq_true] at this
    rcases this.2 with h | h
    ·exact .inl h
    ·exact .inr ((uS (x:=(f:Int))).1 h)
   ·rintro (h16 | ⟨i,hi,hl,hf1,hf2⟩)
    ·simp only [h16,decide_true,Bool.true_or,cond_true,Bool.and_eq_true,decide_eq_true_eq] at this
     exact this.1.1
    ·obtain ⟨⟨⟨⟨⟨a,b⟩,c⟩,d,d'⟩,e⟩,f'⟩:=hlive i hi hl
     have:=e (f - (P.gs i).first.toNat) be5
     rw [show (P.gs i).first.toNat + (f - (P.gs i).first.toNat)=f by omega] at this
     exact this.1
  ·intro f hf ho1
   have:=hp f hf
   simp only [nS,ho1,decide_true,Bool.or_true,cond_true,Bool.and_eq_true,decide_eq_true_eq] at this
   exact this.1.2
  ·intro f hf
   have:=hp f hf
   simp only [nS] at this
   by_cases h16:f<16∨(P.pg f).own=-1
   ·have e:(decide (f<16) || decide ((P.pg f).own=-1))=true:=by simpa using h16
    rw [e] at this
    simp only [cond_true,Bool.and_eq_true,decide_eq_true_eq] at this
    omega
   ·have e:(decide (f<16) || decide ((P.pg f).own=-1))=false:=by simpa using h16
    rw [e] at this
    simp only [cond_false] at this
    by_cases h0:(P.pg f).own=0
    ·omega
    ·simp only [h0,decide_false,cond_false] at this
     cases hb:di (P.pg f).own 1 4 with
     | false=>rw [hb] at this;simp at this
     | true=>simp only [di,Bool.and_eq_true,decide_eq_true_eq] at hb;omega
  ·intro f hf ho0
   have:=hp f hf
   simp only [nS,ho0] at this
   cases h16:decide (f<16) with
   | true=>rw [h16] at this;simp at this
   | false=>rw [h16] at this;simpa [or_assoc] using this
  ·intro f hf ho0
   have:=hp f hf
   simp only [nS] at this
   cases h16:(decide (f<16) || decide ((P.pg f).own=-1)) with
   | true=>rw [h16] at this;simp only [cond_true,Bool.and_eq_true,decide_eq_true_eq] at this;omega
   | false=>
    rw [h16] at this
    simp only [cond_false,show ¬ (P.pg f).own=0 by omega,decide_false] at this
    cases hb:di (P.pg f).own 1 4 with
    | false=>rw [hb] at this;simp at this
    | true=>rw [hb] at this;simpa using this
 ·intro h
  simp only [may,Bool.and_eq_true,decide_eq_true_eq,bM]
  refine ⟨⟨⟨⟨⟨⟨h.n0,h.n1⟩,h.g4⟩,h.o1,h.o3⟩,?_⟩,?_⟩,h.seat⟩
  ·intro i hi
   simp only [round,Bool.and_eq_true]
   cases hl:(P.gs i).live with
   | false=>
    obtain ⟨a,b,c,d⟩:=h.dead i hi hl
    simp [kD,hl,a,b,c,d]
   | true=>
    obtain ⟨a,b,c,d,e,f,g⟩:=h.liv i hi hl
    simp only [kD,hl,cond_true,Bool.and_eq_true,decide_eq_true_eq,bM,di,Bool.not_eq_true',mapped,beq_iff_eq,Bool.not_true,Bool.false_or]
    refine ⟨⟨⟨⟨⟨⟨a,b,c⟩,d⟩,f,g⟩,?_⟩,e⟩,?_⟩
    ·intro k hk
     have hlt:(P.gs i).first.toNat + k<P.pages.length:=by omega
     have ho1:=(h.hyp _ hlt).2 (.inr ⟨i,hi,hl,by omega,by omega⟩)
     exact ⟨ho1,h.ar7 _ hlt ho1⟩
    ·intro k hk
     cases ht:((P.taken i).any fun t=>decide (t=(P.gs i).first + (k:Int))) with
     | false=>rfl
     | true=>
      exfalso
      obtain ⟨j,hj,hlj,h1,h2⟩:=uS.1 ht
      rcases h.apart j i hj hi hlj hl with h3 | h3<;>omega
  ·intro f hf
   simp only [nS]
   cases h16:(decide (f<16) || decide ((P.pg f).own=-1)) with
   | true=>
    simp only [cond_true,Bool.and_eq_true,decide_eq_true_eq,Bool.or_eq_true] at h16 ⊢
    have ho1:(P.pg f).own=-1:=by
     rcases h16 with h16 | h16
     ·exact (h.hyp f hf).2 (.inl h16)
     ·exact h16
    refine ⟨⟨ho1,h.ar7 f hf ho1⟩,?_⟩
    rcases (h.hyp f hf).1 ho1 with h2 | h2
    ·exact .inl h2
    ·exact .inr ((uS (x:=(f:Int))).2 h2)
   | false=>
    simp only [cond_false]
    by_cases h0:(P.pg f).own=0
    ·simp only [h0,decide_true,cond_true]
     have:=h.host f hf h0
     simpa [or_assoc] using this
    ·have hw:=h.who f hf
     simp only [Bool.or_eq_false_iff,decide_eq_false_iff_not] at h16
     have hb:di (P.pg f).own 1 4=true:=by simp only [di,Bool.and_eq_true,decide_eq_true_eq];omega
     simp only [h0,decide_false,cond_false,hb,cond_true]
     have:=h.ar8 f hf be5
     simpa using this
end PtD
end
section
namespace PtD
variable {P : PtD}
end PtD
end
section
theorem fH {w:World} {b o:Nat} {vs:List Value} (h:w.rangeAt b o vs) {k:Nat} {v:Value} (hv:nth vs k=some v):w.cell? ⟨b,o + k,none⟩=some v:=by
 rw [lS] at hv
 exact h k v (by simpa using hv)
theorem au {w:World} {b o:Nat} {v:Value} {r:List Value} (h:w.rangeAt b o (v::r)):w.cell? ⟨b,o,none⟩=some v:=by simpa using h 0 v rfl
theorem Good.range {w0 w:World} {mu:List Nat} {hp:Hp} (h:Good w0 mu hp w) {b o:Nat} {vs:List Value} (hr:w0.rangeAt b o vs) (hm:b ∉ mu):w.rangeAt b o vs:=fun j v hj=>h.cell (hr j v hj) hm
structure aF (w:World) (v:Value) (sz:Nat) (xs:List (List Value)):Prop where
 is:∃ p cap,v=.slice p xs.length cap∧(xs ≠ []→∃ b off,p=some ⟨b,off,none⟩∧∀ i c,xs[i]?=some c→w.rangeAt b (off + i * sz) c)
 le:xs.length≤281474976710656
theorem aF.good {w w':World} {hp:Hp} {v:Value} {sz:Nat} {xs:List (List Value)} (h:aF w v sz xs) (hG:Good w [] hp w'):aF w' v sz xs:=by
 obtain ⟨⟨p,cap,rfl,hp⟩,hl⟩:=h
 refine ⟨⟨p,cap,rfl,fun hne=>?_⟩,hl⟩
 obtain ⟨b,off,rfl,hr⟩:=hp hne
 exact ⟨b,off,rfl,fun i c hc=>hG.range (hr i c hc) be7⟩
theorem Acc.ar9 {w0 w:World} {mu:List Nat} {hp ha:Hp} {e sz:Nat} {v:Value} {xs:List (List Value)} (hA:Acc e sz v ha xs) (hG:Good w0 mu hp w) (hm:∀ b∈ha,b∈hp) (hle:xs.length≤281474976710656):aF w v sz xs:=⟨hA.rows hG hm,hle⟩
def qI (x:sF):List Value:=[.int .i64 x.own,.int .i64 x.wit]
def dS (x:jv):List Value:=[.int .i64 x.mid,.int .i64 x.gU]
def Eh (x:OH):List Value:=[.int .i64 x.vm,.int .i64 x.cpu]
def dA (x:Int):List Value:=[.int .i64 x]
structure Iw where
 pb:Nat
 po:Nat
 pc:Nat
 gb:Nat
 go:Nat
 gc:Nat
 ob:Nat
 oo:Nat
 oc:Nat
 vv:Nat→Value
 mv:Nat→Value
abbrev Iw.pv (L:Iw) (n:Nat):Value:=.slice (some ⟨L.pb,L.po,none⟩) n L.pc
abbrev Iw.gv (L:Iw) (n:Nat):Value:=.slice (some ⟨L.gb,L.go,none⟩) n L.gc
abbrev Iw.ov (L:Iw) (n:Nat):Value:=.slice (some ⟨L.ob,L.oo,none⟩) n L.oc
def I64 (v:Int):Prop:=-9223372036854775808≤v∧v≤9223372036854775807
structure PtD.Wf (P:PtD):Prop where
 pg:∀ f,f<P.pages.length→I64 (P.pg f).own∧I64 (P.pg f).wit
 gs:∀ i,i<P.aA.length→I64 (P.gs i).first∧(∀ x∈(P.gs i).aN,I64 x)∧(∀ x∈(P.gs i).maps,I64 x.mid∧I64 x.gU)
 st:∀ c,c<P.on.length→I64 (P.st c).vm∧I64 (P.st c).cpu
structure jm (w:World) (L:Iw) (P:PtD):Prop where
 pg:∀ i,i<P.pages.length→w.rangeAt L.pb (L.po + i * 2) [.int .i64 (P.pg i).own,.int .i64 (P.pg i).wit]
 gs:∀ i,i<P.aA.length→w.rangeAt L.gb (L.go + i * 5) [.bool (P.gs i).live,.bool (P.gs i).dying,.int .i64 (P.gs i).first,L.vv i,L.mv i]
 vc:∀ i,i<P.aA.length→aF w (L.vv i) 1 ((P.gs i).aN.map dA)
 mp:∀ i,i<P.aA.length→aF w (L.mv i) 2 ((P.gs i).maps.map dS)
 st:∀ i,i<P.on.length→w.rangeAt L.ob (L.oo + i * 2) [.int .i64 (P.st i).vm,.int .i64 (P.st i).cpu]
 wf:P.Wf
theorem jm.good {w w':World} {hp:Hp} {L:Iw} {P:PtD} (h:jm w L P) (hG:Good w [] hp w'):jm w' L P:=
 ⟨fun i hi=>hG.range (h.pg i hi) be7,fun i hi=>hG.range (h.gs i hi) be7,fun i hi=>(h.vc i hi).good hG,fun i hi=>(h.mp i hi).good hG,fun i hi=>hG.range (h.st i hi) be7,h.wf⟩
structure PtD.Len (P:PtD):Prop where
 p0:24≤P.pages.length
 p1:P.pages.length≤64
 g4:P.aA.length=4
 o0:1≤P.on.length
 o1:P.on.length≤3
structure qh (w:World) (bp:Nat) (L:Iw) (P:PtD):Prop where
 v:jm w L P
 n:P.Len
 cp:w.cell? ⟨bp,0,none⟩=some (L.pv P.pages.length)
 cg:w.cell? ⟨bp,1,none⟩=some (L.gv P.aA.length)
 co:w.cell? ⟨bp,2,none⟩=some (L.ov P.on.length)
theorem qh.good {w w':World} {hp:Hp} {bp:Nat} {L:Iw} {P:PtD} (h:qh w bp L P) (hG:Good w [] hp w'):qh w' bp L P:=
 ⟨h.v.good hG,h.n,hG.cell h.cp be7,hG.cell h.cg be7,hG.cell h.co be7⟩
section
variable {w : World} {L : Iw} {P : PtD}
theorem jm.pg0 (h:jm w L P) {i:Nat} (hi:i<P.pages.length):w.cell? ⟨L.pb,L.po + i * 2,none⟩=some (.int .i64 (P.pg i).own):=au (h.pg i hi)
theorem jm.pg1 (h:jm w L P) {i:Nat} (hi:i<P.pages.length):w.cell? ⟨L.pb,L.po + i * 2 + 1,none⟩=some (.int .i64 (P.pg i).wit):=fH (h.pg i hi) rfl
theorem jm.st0 (h:jm w L P) {i:Nat} (hi:i<P.on.length):w.cell? ⟨L.ob,L.oo + i * 2,none⟩=some (.int .i64 (P.st i).vm):=au (h.st i hi)
theorem jm.gs0 (h:jm w L P) {i:Nat} (hi:i<P.aA.length):w.cell? ⟨L.gb,L.go + i * 5,none⟩=some (.bool (P.gs i).live):=au (h.gs i hi)
theorem jm.gs1 (h:jm w L P) {i:Nat} (hi:i<P.aA.length):w.cell? ⟨L.gb,L.go + i * 5 + 1,none⟩=some (.bool (P.gs i).dying):=fH (h.gs i hi) rfl
theorem jm.gs2 (h:jm w L P) {i:Nat} (hi:i<P.aA.length):w.cell? ⟨L.gb,L.go + i * 5 + 2,none⟩=some (.int .i64 (P.gs i).first):=fH (h.gs i hi) rfl
theorem jm.gs3 (h:jm w L P) {i:Nat} (hi:i<P.aA.length):w.cell? ⟨L.gb,L.go + i * 5 + 3,none⟩=some (L.vv i):=fH (h.gs i hi) rfl
theorem jm.gs4 (h:jm w L P) {i:Nat} (hi:i<P.aA.length):w.cell? ⟨L.gb,L.go + i * 5 + 4,none⟩=some (L.mv i):=fH (h.gs i hi) rfl
end
end
namespace PtD
def jW (l:List jv) (mid:Int):Nat:=(l.takeWhile fun m=>decide (m.mid<mid)).length
def pO (l:List jv) (mid:Int):Bool:=decide (jW l mid<l.length) && decide ((l.getD (jW l mid) default).mid=mid)
def Sorted (l:List jv):Prop:=∀ i j,i<j→j<l.length→(l.getD i default).mid<(l.getD j default).mid
theorem AV (l:List jv) (mid:Int):jW l mid≤l.length:=by
 induction l with
 | nil=>exact Nat.le_refl _
 | cons x r ih=>
  unfold jW at *
  rw [List.takeWhile_cons]
  cases decide (x.mid<mid)<;>simp<;>omega
theorem Yu:∀ {l:List jv} {mid:Int} {k:Nat},k<jW l mid→(l.getD k default).mid<mid:=by
 intro l mid
 induction l with
 | nil=>intro k h;simp [jW] at h
 | cons x r ih=>
  intro k h
  unfold jW at h
  rw [List.takeWhile_cons] at h
  by_cases hx:x.mid<mid
  ·simp [hx] at h
   cases k with
   | zero=>simpa using hx
   | succ k=>simpa using ih (k:=k) (by unfold jW;omega)
  ·simp [hx] at h
theorem Yv:∀ {l:List jv} {mid:Int},jW l mid<l.length→mid≤(l.getD (jW l mid) default).mid:=by
 intro l mid
 induction l with
 | nil=>intro h;simp at h
 | cons x r ih=>
  intro h
  unfold jW at *
  rw [List.takeWhile_cons] at *
  by_cases hx:x.mid<mid
  ·simp [hx] at h ⊢
   simpa using ih h
  ·simp [hx];omega
theorem Yw {l:List jv} {mid:Int} (hs:Sorted l) {k:Nat} (h1:jW l mid≤k) (h2:k<l.length):mid≤(l.getD k default).mid:=by
 have h3:=Yv (l:=l) (mid:=mid) be5
 rcases Nat.lt_or_ge (jW l mid) k with h4 | h4
 ·have:=hs _ _ h4 h2;omega
 ·have:k=jW l mid:=by omega
  rw [this];exact h3
theorem Qh {l:List jv} {mid:Int} (hs:Sorted l) {k:Nat} (h0:k≤l.length) (h1:∀ j,j<k→(l.getD j default).mid<mid) (h2:∀ j,k≤j→j<l.length→mid≤(l.getD j default).mid):k=jW l mid:=by
 rcases Nat.lt_trichotomy k (jW l mid) with h | h | h
 ·have:=Yu h
  have:=h2 k (Nat.le_refl _) (by have:=AV l mid;omega)
  omega
 ·exact h
 ·have:=h1 _ h
  have:=Yw hs (Nat.le_refl (jW l mid)) be5
  omega
theorem Qi {l:List jv} (h:∀ k,k + 1<l.length→(l.getD k default).mid<(l.getD (k + 1) default).mid):Sorted l:=by
 intro i j hij hj
 induction j with
 | zero=>omega
 | succ j ih=>
  rcases Nat.lt_succ_iff_lt_or_eq.1 hij with h1 | rfl
  ·have:=ih h1 be5;have:=h j hj;omega
  ·exact h i hj
theorem wo {P:PtD} (hm:P.may=true) {i:Nat} (hi:i<4):Sorted (P.gs i).maps:=by
 have hok:=uh.1 hm
 cases hl:(P.gs i).live with
 | false=>
  have:=(hok.dead i hi hl).2.1
  intro a b _ hb
  omega
 | true=>
  refine Qi fun k hk=>?_
  have:=(hok.liv i hi hl).2.2.2.2.2.1 (k + 1) hk
  simp only [uf,Bool.and_eq_true,Bool.or_eq_true,decide_eq_true_eq,Nat.add_sub_cancel] at this
  rcases this.1.1.2 with h | h
  ·omega
  ·exact h
theorem qV {P:PtD} (hm:P.may=true) {i:Nat} (hi:i<4) {k:Nat} (hk:k<(P.gs i).maps.length):0≤((P.gs i).maps.getD k default).mid∧((P.gs i).maps.getD k default).mid≤15∧0≤((P.gs i).maps.getD k default).gU∧((P.gs i).maps.getD k default).gU.toNat<P.pages.length:=by
 have hok:=uh.1 hm
 cases hl:(P.gs i).live with
 | false=>
  have:=(hok.dead i hi hl).2.1
  omega
 | true=>
  have:=(hok.liv i hi hl).2.2.2.2.2.1 k hk
  simp only [uf,di,Bool.and_eq_true,Bool.or_eq_true,decide_eq_true_eq] at this
  obtain ⟨⟨⟨⟨a,b⟩,_⟩,c,d⟩,_⟩:=this
  exact ⟨a,b,c,by omega⟩
end PtD
section
open Go.ChangeShapes Go.WideShapes Go.ChangeAt Go.RowKit
theorem ag0 {n:Int} (h:(Lit.int .i64 n).wf=true):I64 n:=by
 simp only [Lit.wf,Bool.and_eq_true,decide_eq_true_eq] at h
 exact ⟨Int.le_trans be6 h.1,Int.le_trans h.2 be6⟩
theorem Cm {v:Value} (h:okW (.i .i64) v=true):∃ a,v=.int .i64 a∧I64 a:=by
 cases v<;>simp only [okW,Bool.and_eq_true,decide_eq_true_eq,Bool.false_eq_true] at h
 obtain ⟨rfl,h⟩:=h
 exact ⟨_,rfl,ag0 h⟩
theorem ar' {v:Value} (h:okW .b v=true):∃ a,v=.bool a:=by
 cases v<;>simp only [okW,Bool.false_eq_true] at h
 exact ⟨_,rfl⟩
theorem jC {k:jy} {ks:List jy} {cs:List Value} (h:kY (k::ks) cs=true):∃ v r,cs=v::r∧okW k v=true∧kY ks r=true:=by
 cases cs with
 | nil=>cases h
 | cons v r=>simp only [kY,Bool.and_eq_true] at h;exact ⟨v,r,rfl,h⟩
theorem Qj {cs:List Value} (h:kY [] cs=true):cs=[]:=by cases cs with | nil=>rfl | cons _ _=>cases h
theorem UE {n:Nat} (h:n≤reachBytes):n≤281474976710656:=Nat.le_trans h be6
section
variable {H : Type} {enc : TypeId × Value → H} {w : World} {base : Nat} {spare : Nat → Bool} {held : Bool}
theorem Qk {α:Type} [Inhabited α] {p:Option Addr} {xs:List α} {cap s:Nat} {f:α→List Value} {q:α→Prop} (hl:xs.length≤reachBytes) (h:(xs=[])∨∃ b off,p=some ⟨b,off,none⟩∧∀ i,i<xs.length→∃ cs,w.rangeAt b (off + i * s) cs∧cs.length=s∧(cs=f (xs.getD i default)∧q (xs.getD i default))):
  aF w (.slice p xs.length cap) s (xs.map f)∧∀ a∈xs,q a:=by
 refine ⟨⟨⟨p,cap,by rw [List.length_map],fun hne=>?_⟩,by rw [List.length_map];exact UE hl⟩,fun a ha=>?_⟩
 ·rcases h with rfl | ⟨b,off,rfl,h⟩
  ·exact absurd rfl hne
  ·refine ⟨b,off,rfl,fun i c hc=>?_⟩
   have hi:i<xs.length:=by
    have:=(List.getElem?_eq_some_iff.1 hc).1
    simpa using this
   obtain ⟨cs,h1,_,rfl,_⟩:=h i hi
   simp only [List.getElem?_map,List.getElem?_eq_getElem hi,Option.map_some,Option.some.injEq] at hc
   rw [List.getD_eq_getElem?_getD,List.getElem?_eq_getElem hi] at h1
   subst hc
   exact h1
 ·rcases h with rfl | ⟨b,off,rfl,h⟩
  ·cases ha
  ·obtain ⟨i,hi,rfl⟩:=List.mem_iff_getElem.1 ha
   obtain ⟨cs,_,_,_,h2⟩:=h i hi
   rw [List.getD_eq_getElem?_getD,List.getElem?_eq_getElem hi] at h2
   exact h2
theorem Ql {α:Type} [Inhabited α] {f:α→List Value} {q:α→Prop} {t e:TypeId} {ks:List jy} {fuel:Nat} {cs:List Value} {x:DataW H × List MemPlace} (ht:Tryz.prog.underlying t=some (.slice e)) (hlk:tu Tryz.prog 8 e=some ks) (hsz:fP Tryz.prog e=some ks.length) (hpos:0<ks.length) (hby:Nat.ble 1 (Tryz.prog.bytesOf e)=true)
  (hE:∀ cs,kY ks cs=true→∃ a,cs=f a∧q a) (h:DataW.trod enc Tryz.prog w base spare held fuel t cs=some x) (hz:Yq Tryz.prog t x.1):∃ v,∃ xs:List α,cs=[v]∧aF w v ks.length (xs.map f)∧∀ a∈xs,q a:=by
 obtain ⟨p,xs,cap,rfl,hl,hr⟩:=Qg (α:=α) (R:=fun cs a=>cs=f a∧q a) ht hsz hpos hby (fun n cs x hx _=>hE cs (I8 8 e ks hlk hsz n cs x hx)) h hz
 exact ⟨_,xs,rfl,Qk hl hr⟩
end
end
section
attribute [local irreducible] Hy St Ops DH dG
def jb {α:Type} (p:α→Bool) (xs:List α):Int:=match PtD.idx p xs 0 with | some i=>(i:Int) | none=>-1
theorem UF {α:Type} [Inhabited α] {p:α→Bool} {l:List α} (h:∀ j,j<l.length→p (l.getD j default)=false):PtD.idx p l 0=none:=by
 cases e:PtD.idx p l 0 with
 | none=>rfl
 | some k=>
  obtain ⟨_,h2,h3,_⟩:=PtD.xK e
  simp only [Nat.sub_zero] at h2 h3
  rw [h k h2] at h3;cases h3
theorem fB {α:Type} [Inhabited α] {p:α→Bool} {l:List α} {k:Nat} (hk:k<l.length) (h:p (l.getD k default)=true) (hn:∀ j,j<k→p (l.getD j default)=false):jb p l=k:=by
 unfold jb
 rw [(PtD.af' hk h).2 hn]
theorem dF {α:Type} [Inhabited α] {p:α→Bool} {l:List α} (h:∀ j,j<l.length→p (l.getD j default)=false):jb p l=-1:=by
 unfold jb
 rw [UF h]
theorem iY {α:Type} [Inhabited α] {p:α→Bool} {l:List α}:decide (0≤jb p l)=l.any p:=by
 rw [← PtD.Yt]
 unfold jb
 cases PtD.idx p l 0<;>simp
theorem aF.row {w:World} {α:Type} [Inhabited α] {f:α→List Value} {xs:List α} {b o cap sz n:Nat} (h:aF w (.slice (some ⟨b,o,none⟩) n cap) sz (xs.map f)) {k:Nat} (hk:k<xs.length):w.rangeAt b (o + k * sz) (f (xs.getD k default)):=by
 obtain ⟨⟨p,cap,e,hp⟩,hl⟩:=h
 cases e
 obtain ⟨b,off,e,hr⟩:=hp (by intro e;rw [List.map_eq_nil_iff] at e;subst e;simp at hk)
 cases e
 refine hr k _ ?_
 rw [List.getElem?_map,List.getD_eq_getElem?_getD,List.getElem?_eq_getElem hk]
 rfl
theorem aF.opened {w:World} {α:Type} {f:α→List Value} {xs:List α} {v:Value} {sz:Nat} (h:aF w v sz (xs.map f)):∃ p cap,v=.slice p xs.length cap∧(xs ≠ []→∃ b o,p=some ⟨b,o,none⟩)∧xs.length≤281474976710656:=by
 obtain ⟨⟨p,cap,rfl,hp⟩,hl⟩:=h
 rw [List.length_map] at *
 refine ⟨p,cap,rfl,fun hne=>?_,hl⟩
 obtain ⟨b,o,rfl,_⟩:=hp bk0
 exact ⟨b,o,rfl⟩
theorem iL {α:Type} [Inhabited α] (f:Nat→α) {n i:Nat} (hi:i<n):((List.range n).map f)[i]?=some (f i):=by simp [hi]
def Here (hn:Hp) (w:World):Prop:=∀ e∈hn,w.heap[e.b]?=some (.cells e.cs e.t (0,0))
theorem Good.lie {w0 w:World} {mu:List Nat} {hp hn:Hp} (hG:Good w0 mu hp w) (hm:∀ e∈hn,e∈hp):Here hn w:=fun e he=>hG.here e (hm e he)
theorem Here.sub {hn hm:Hp} {w:World} (h:Here hn w) (hs:∀ e∈hm,e∈hn):Here hm w:=fun e he=>h e (hs e he)
theorem Acc.lie {e sz:Nat} {v:Value} {ha:Hp} {xs:List (List Value)} {w:World} (hA:Acc e sz v ha xs) (h:Here ha w) (hle:xs.length≤281474976710656):aF w v sz xs:=by
 rcases hA.2 with ⟨rfl,rfl,rfl⟩ | ⟨hne,g,cap,cur,rfl,rfl,hrow⟩
 ·exact ⟨⟨none,0,rfl,fun h=>absurd rfl h⟩,hle⟩
 ·refine ⟨⟨_,_,rfl,fun _=>⟨g,0,rfl,fun i c hc j u hj=>?_⟩⟩,hle⟩
  have hb:=h _ (List.mem_singleton.2 rfl)
  rw [cell_of_block hb]
  have hcl:=(hA.1 c (List.mem_of_getElem? hc)).1
  have hi:i<xs.length:=(List.getElem?_eq_some_iff.1 hc).1
  have hjl:j<sz:=by rw [← hcl];exact (List.getElem?_eq_some_iff.1 hj).1
  have hf:=kN (fun c hc=>(hA.1 c hc).1) hc
  rw [← hrow.take] at hf
  have hle:i * sz + j<xs.length * sz:=by
   calc i * sz + j<i * sz + sz:=by omega
    _=(i + 1) * sz:=by rw [Nat.succ_mul]
    _≤_:=Nat.mul_le_mul_right _ hi
  rw [← hf,List.getElem?_take,if_pos hjl,List.getElem?_drop,List.getElem?_take,if_pos hle] at hj
  rw [Nat.zero_add]
  simpa using hj
theorem gV {w:World} {b t cap sz:Nat} {xs:List (List Value)} (h:w.heap[b]?=some (.cells xs.flatten.toArray t (0,0))) (hs:∀ c∈xs,c.length=sz) (hle:xs.length≤281474976710656):aF w (.slice (some ⟨b,0,none⟩) xs.length cap) sz xs:=by
 refine ⟨⟨_,_,rfl,fun _=>⟨b,0,rfl,fun i c hc j u hj=>?_⟩⟩,hle⟩
 rw [cell_of_block h]
 have hf:=kN hs hc
 have hcl:=hs c (List.mem_of_getElem? hc)
 have hjl:j<sz:=by rw [← hcl];exact (List.getElem?_eq_some_iff.1 hj).1
 rw [← hf,List.getElem?_take,if_pos hjl,List.getElem?_drop] at hj
 rw [Nat.zero_add]
 simpa using hj
theorem oM (zl:List Value) (n sz:Nat) (hs:zl.length=sz) (h0:0<sz):madeCells zl.toArray (n * sz)=((List.replicate n zl).flatten).toArray:=by
 have h:=Lh zl.toArray (by simpa [hs] using h0) n
 have e:∀ n,rep zl n=(List.replicate n zl).flatten:=by
  intro n
  induction n with
  | zero=>rfl
  | succ n ih=>rw [rep,ih,List.replicate_succ',List.flatten_append];simp
 rw [← e]
 simpa [madeCells,hs] using h
end
section
theorem dP:∀ (vs:List Value) (cs:Array Value) (o:Nat),(putAt cs o vs).size=cs.size:=by
 intro vs
 induction vs with
 | nil=>intro cs o;rfl
 | cons v r ih=>intro cs o;rw [putAt,ih];simp
theorem kG:∀ (vs:List Value) (cs:Array Value) (o:Nat),o + vs.length≤cs.size→(putAt cs o vs).toList=cs.toList.take o++vs++cs.toList.drop (o + vs.length):=by
 intro vs
 induction vs with
 | nil=>intro cs o h;simp [putAt]
 | cons v r ih=>
  intro cs o h
  simp only [List.length_cons] at h
  rw [putAt,ih _ _ bf2]
  simp only [Array.toList_setIfInBounds]
  have ho:o<cs.toList.length:=by simp;omega
  have h1:(cs.toList.take o).length=o:=by simp;omega
  rw [List.set_eq_take_append_cons_drop,if_pos ho,List.take_append,List.drop_append,h1]
  have e1:o + 1 - o=1:=by omega
  have e2:o + 1 + r.length - o=r.length + 1:=by omega
  rw [e1,e2,List.take_of_length_le (show (cs.toList.take o).length≤o + 1 by omega),List.drop_eq_nil_of_le (show (cs.toList.take o).length≤o + 1 + r.length by omega)]
  simp only [List.take_succ_cons,List.take_zero,List.nil_append,List.drop_succ_cons,List.drop_drop,List.append_assoc,List.cons_append,List.length_cons]
  rw [show o + 1 + r.length=o + (r.length + 1) by omega]
theorem dB {α:Type} {sz:Nat}:∀ (xs:List (List α)),(∀ c∈xs,c.length=sz)→xs.flatten.length=xs.length * sz:=by
 intro xs
 induction xs with
 | nil=>intro _;simp
 | cons x r ih=>
  intro h
  rw [List.flatten_cons,List.length_append,ih (fun c hc=>h c (List.mem_cons_of_mem _ hc)),h x (List.mem_cons_self ..),List.length_cons,Nat.succ_mul,Nat.add_comm]
theorem Row.nth {g cap sz n:Nat} {cur:Array Value} {xs:List (List Value)} (h:Row g cap cur sz n xs.flatten) (hall:∀ c∈xs,c.length=sz) {i k:Nat} {c:List Value} {u:Value} (hi:xs[i]?=some c) (hk:c[k]?=some u):Proofs.YtiaelhhmlbfkmaaGreat.nth cur.toList (i * sz + k)=some u:=by
 refine vW (n:=sz) (c:=c) ?_ hk
 have hf:=kN hall hi
 rw [← h.take] at hf
 have hlt:i<xs.length:=(List.getElem?_eq_some_iff.1 hi).1
 have hn:xs.length * sz=n * sz:=by rw [← dB xs hall,h.len]
 have hle:i * sz + sz≤n * sz:=by rw [← hn,← Nat.succ_mul];exact Nat.mul_le_mul_right _ hlt
 rw [List.drop_take,List.take_take,Nat.min_eq_left be5] at hf
 exact hf
theorem Row.put {g cap sz n:Nat} {cur:Array Value} {xs:List (List Value)} (h:Row g cap cur sz n xs.flatten) (hall:∀ c∈xs,c.length=sz) {i k:Nat} {c vs:List Value} (hi:xs[i]?=some c) (hk:k + vs.length≤sz):
  Row g cap (putAt cur (i * sz + k) vs) sz n (xs.set i (c.take k++vs++c.drop (k + vs.length))).flatten:=by
 have hlt:i<xs.length:=(List.getElem?_eq_some_iff.1 hi).1
 have hc:xs[i]=c:=(List.getElem?_eq_some_iff.1 hi).2
 have hcl:c.length=sz:=hall c (List.mem_of_getElem? hi)
 have hn:xs.length * sz=n * sz:=by rw [← dB xs hall,h.len]
 have hle:i * sz + sz≤n * sz:=by rw [← hn,← Nat.succ_mul];exact Nat.mul_le_mul_right _ hlt
 have hcap:n * sz≤cap * sz:=Nat.mul_le_mul_right _ h.le
 have hsz:=h.size
 have hxs:xs=xs.take i++c::xs.drop (i + 1):=by
  rw [← hc];simp
 have hset:xs.set i (c.take k++vs++c.drop (k + vs.length))=xs.take i++(c.take k++vs++c.drop (k + vs.length))::xs.drop (i + 1):=by
  rw [List.set_eq_take_append_cons_drop,if_pos hlt]
 have hA:((xs.take i).flatten).length=i * sz:=by
  rw [dB (xs.take i) (fun c hc=>hall c (List.mem_of_mem_take hc)),List.length_take,Nat.min_eq_left be5]
 have Ja:cur.toList=(xs.take i).flatten++(c++((xs.drop (i + 1)).flatten++cur.toList.drop (n * sz))):=by
  have h1:=List.take_append_drop (n * sz) cur.toList
  rw [h.take] at h1
  conv=>lhs;rw [← h1,hxs]
  rw [List.flatten_append,List.flatten_cons,List.append_assoc,List.append_assoc]
 have hfl:(xs.set i (c.take k++vs++c.drop (k + vs.length))).flatten=(xs.take i).flatten++((c.take k++vs++c.drop (k + vs.length))++(xs.drop (i + 1)).flatten):=by
  rw [hset,List.flatten_append,List.flatten_cons]
 have hdl:((xs.drop (i + 1)).flatten).length=n * sz - (i * sz + sz):=by
  rw [dB (xs.drop (i + 1)) (fun c hc=>hall c (List.mem_of_mem_drop hc)),List.length_drop,Nat.sub_mul,hn,Nat.succ_mul]
 refine ⟨?_,h.le,h.max,by rw [dP];exact hsz,?_⟩
 ·rw [hfl]
  simp only [List.length_append,hA,hdl,List.length_take,List.length_drop,hcl]
  omega
 ·rw [kG _ _ _ be5,hfl]
  conv=>lhs;rw [Ja]
  have hB:(c++((xs.drop (i + 1)).flatten++cur.toList.drop (n * sz))).take k=c.take k:=by rw [List.take_append,show k - c.length=0 by omega];simp
  have hC:(c++((xs.drop (i + 1)).flatten++cur.toList.drop (n * sz))).drop (k + vs.length)=c.drop (k + vs.length)++((xs.drop (i + 1)).flatten++cur.toList.drop (n * sz)):=by rw [List.drop_append,show k + vs.length - c.length=0 by omega];simp
  have hT:((xs.take i).flatten++(c++((xs.drop (i + 1)).flatten++cur.toList.drop (n * sz)))).take (i * sz + k)=(xs.take i).flatten++c.take k:=by
   rw [List.take_append,hA,List.take_of_length_le be5,show i * sz + k - i * sz=k by omega,hB]
  have hD:((xs.take i).flatten++(c++((xs.drop (i + 1)).flatten++cur.toList.drop (n * sz)))).drop (i * sz + k + vs.length)=c.drop (k + vs.length)++((xs.drop (i + 1)).flatten++cur.toList.drop (n * sz)):=by
   rw [List.drop_append,hA,List.drop_eq_nil_of_le be5,show i * sz + k + vs.length - i * sz=k + vs.length by omega,hC];simp
  rw [hT,hD]
  have:(xs.take i).flatten++c.take k++vs++(c.drop (k + vs.length)++((xs.drop (i + 1)).flatten++cur.toList.drop (n * sz)))=((xs.take i).flatten++(c.take k++vs++c.drop (k + vs.length)++(xs.drop (i + 1)).flatten))++cur.toList.drop (n * sz):=by simp
  rw [this]
  refine List.take_left' ?_
  simp only [List.length_append,hA,hdl,List.length_take,List.length_drop,hcl]
  omega
open Classical in
noncomputable def Qm (a e : o8) : Nat := if e = a then 1 else 0
noncomputable def lM (a : o8) : Hp → Nat
  | [] => 0
  | e :: r => Qm a e + lM a r
theorem gQ (a:o8):lM a []=0:=rfl
theorem aV (a e:o8) (r:Hp):lM a (e::r)=Qm a e + lM a r:=rfl
theorem bV (a:o8):∀ (h r:Hp),lM a (h++r)=lM a h + lM a r:=by
 intro h
 induction h with
 | nil=>intro r;simp [lM]
 | cons e h ih=>intro r;rw [List.cons_append,aV,aV,ih];omega
theorem yU (a:o8):Qm a a=1:=by simp [Qm]
theorem Jb {a:o8}:∀ {h:Hp},0<lM a h→a∈h:=by
 intro h
 induction h with
 | nil=>intro h;simp [lM] at h
 | cons e r ih=>
  intro h
  by_cases he:e=a
  ·subst he;exact List.mem_cons_self ..
  ·rw [aV,show Qm a e=0 by simp [Qm,he]] at h
   exact List.mem_cons_of_mem _ (ih be5)
theorem Jc {a:o8}:∀ {h:Hp},a∈h→∃ r,(a::r).Perm h:=by
 intro h hm
 obtain ⟨s,t,rfl⟩:=List.append_of_mem hm
 exact ⟨s++t,List.perm_middle.symm⟩
theorem uT {a:o8} {h r:Hp} (hp:h.Perm r):lM a h=lM a r:=by
 induction hp with
 | nil=>rfl
 | cons x _ ih=>rw [aV,aV,ih]
 | swap x y l=>rw [aV,aV,aV,aV];omega
 | trans _ _ h1 h2=>rw [h1,h2]
theorem bu:∀ {r h:Hp},(∀ a,lM a r≤lM a h)→aC r h:=by
 intro r
 induction r with
 | nil=>intros;trivial
 | cons e r ih=>
  intro h hc
  have h1:=hc e
  rw [aV,yU] at h1
  obtain ⟨h',hp⟩:=Jc (Jb (a:=e) (h:=h) be5)
  refine ⟨h',hp,ih fun a=>?_⟩
  have h2:=hc a
  rw [← uT hp,aV,aV] at h2
  omega
theorem aC.cnt {r h:Hp} (hl:aC r h) (a:o8):lM a r≤lM a h:=by
 obtain ⟨x,hx⟩:=hl.perm
 have:=uT (a:=a) hx
 rw [bV] at this
 omega
theorem UG:∀ {r h:Hp},(∀ a,lM a r=lM a h)→r.Perm h:=by
 intro r
 induction r with
 | nil=>
  intro h hc
  cases h with
  | nil=>exact .refl _
  | cons e h=>have:=hc e;rw [aV,yU,gQ] at this;omega
 | cons e r ih=>
  intro h hc
  have h1:=hc e
  rw [aV,yU] at h1
  obtain ⟨h',hp⟩:=Jc (Jb (a:=e) (h:=h) be5)
  refine ((ih fun a=>?_).cons e).trans hp
  have h2:=hc a
  rw [← uT hp,aV,aV] at h2
  omega
theorem aJ {p:Prop} (h:p:=by (refine UG fun a=>?_;simp only [bV,aV,gQ]<;>omega)):p:=h
theorem aj {p:Prop} (h:p:=by (refine bu fun a=>?_;simp only [bV,aV,gQ]<;>omega)):p:=h
theorem cnt1 {r h:Hp} {p:Prop} (hle:aC r h) (k:aC r h→p:=by (intro hle1;refine bu fun a=>?_;have:=aC.cnt hle1 a;simp only [bV,aV,gQ] at *;omega)):p:=k hle
def Own (e:TypeId) (sz:Nat) (v:Value) (h:Hp) (xs:List (List Value)):Prop:=
 (∀ c∈xs,c.length=sz∧c.all (·.oneCell')=true)∧((xs=[]∧v=.slice none 0 0∧h=[])∨∃ g cap cur,v=.slice (some ⟨g,0,none⟩) xs.length cap∧h=[⟨g,cur,e⟩]∧Row g cap cur sz xs.length xs.flatten)
theorem Acc.own {e sz:Nat} {v:Value} {h:Hp} {xs:List (List Value)} (hA:Acc e sz v h xs):Own e sz v h xs:=⟨hA.1,hA.2.imp id fun h=>h.2⟩
theorem Own.opened {e sz:Nat} {v:Value} {h:Hp} {xs:List (List Value)} (hA:Own e sz v h xs):∃ p cap,v=.slice p xs.length cap:=by
 rcases hA.2 with ⟨rfl,rfl,rfl⟩ | ⟨g,cap,cur,rfl,rfl,hrow⟩
 ·exact ⟨_,_,rfl⟩
 ·exact ⟨_,_,rfl⟩
theorem Row.range {g cap cur sz n t} {w:World} {xs:List (List Value)} (h:Row g cap cur sz n xs.flatten) (hall:∀ c∈xs,c.length=sz) (hb:w.heap[g]?=some (.cells cur t (0,0))) {i:Nat} {c:List Value} (hi:xs[i]?=some c):w.rangeAt g (0 + i * sz) c:=by
 intro j u hj
 rw [Nat.zero_add,cell_of_block hb]
 have:=h.nth hall hi hj
 rw [lS] at this
 simpa using this
theorem Own.lie {e sz:Nat} {v:Value} {h:Hp} {xs:List (List Value)} {w:World} (hA:Own e sz v h xs) (hh:Here h w) (hle:xs.length≤281474976710656):aF w v sz xs:=by
 rcases hA.2 with ⟨rfl,rfl,rfl⟩ | ⟨g,cap,cur,rfl,rfl,hrow⟩
 ·exact ⟨⟨none,0,rfl,fun h=>absurd rfl h⟩,hle⟩
 ·exact ⟨⟨_,_,rfl,fun _=>⟨g,0,rfl,fun i c hc=>hrow.range (fun c hc=>(hA.1 c hc).1) (hh _ (List.mem_singleton.2 rfl)) hc⟩⟩,hle⟩
theorem Ei {w:World} {b sz:Nat}:∀ (xs:List (List Value)) (o:Nat),(∀ c∈xs,c.length=sz)→(∀ i c,xs[i]?=some c→w.rangeAt b (o + i * sz) c)→w.rangeAt b o xs.flatten:=by
 intro xs
 induction xs with
 | nil=>intro o _ _ j v hj;simp at hj
 | cons x r ih=>
  intro o hs h j v hj
  have hx:=hs x (List.mem_cons_self ..)
  rw [List.flatten_cons] at hj
  rcases Nat.lt_or_ge j x.length with hlt | hge
  ·rw [List.getElem?_append_left hlt] at hj
   have:=h 0 x rfl j v hj
   simpa using this
  ·rw [List.getElem?_append_right hge] at hj
   have:=ih (o + sz) (fun c hc=>hs c (List.mem_cons_of_mem _ hc)) (fun i c hc=>by
    have:=h (i + 1) c (by simpa using hc)
    rwa [Nat.succ_mul,show o + (i * sz + sz)=o + sz + i * sz by omega] at this) (j - x.length) v hj
   rwa [show o + sz + (j - x.length)=o + j by omega] at this
section
variable {P : Program} {T : Tab} {n : Nat} {w0 : World} {mu : List Nat} {l : Fm} {hp : Hp} {dd : Option Tmp} {ty : TypeId} {pos : String} {af : Array Edge} {gg : Option (Nat × Bool)} {Q : Exit → Fm → Hp → Prop} {all : Array Oper} {rest : List Oper}
theorem gG (ok:aZ P T) {t e sz iE k cap c:Nat} {q:Addr} {p:Option Addr} {x y:Operand} (hx:ev l x=some (.slice (some q) k cap)) (hy:ev l y=some (.slice p 0 c)) (ht:lk T.sl t=some (e,sz)) (hk:k≤cap):
  Hy P n w0 mu l hp ⟨dd,.call { callee:=.builtin .append,args:=#[x,y],argTypes:=#[t,t] },ty,pos,af,gg⟩ (.slice (some q) k cap):=by
 obtain ⟨hu,hsz⟩:=ok.wW ht
 refine bF fun a w hk' _=>?_
 have hst:∀ q:Addr,(storeCells q []).run P w=.ok () w:=fun q=>by simp [storeCells]
 have hf:(Builtin.firstCells sz 0 (.slice p 0 c)).run P w=.ok #[] w:=by
  cases p with
  | none=>simp [Builtin.firstCells]
  | some b=>exact run_firstCells_some (P:=P) w sz 0 b 0 c [] be7 be7
 simp only [execOp,resolve,invoke,builtin,Sem.run_bind,Sem.run_pure,Result.andThen_ok,List.map_toArray,List.map_cons,List.map_nil,hk'.ev hx,hk'.ev hy]
 simp [Builtin.append_,run_underlying hu,run_sizeOf hsz w,Builtin.lenOf,hk,hf,hst]
theorem Qn (ok:aZ P T) {t d e sz iE cc a:Nat} {x y:Operand} {z v:Value} {c:List Value} {ha hp':Hp} {xs:List (List Value)} (hA:Own e sz v ha xs) (hd:Nat.blt d n=true) (hx:ev l x=some v) (hy:ev l y=some (.slice (some ⟨a,0,none⟩) 1 cc)) (ht:lk T.sl t=some (e,sz))
  (hz:lk T.zs e=some z) (hzs:z.cells.size=sz) (hb:lk T.eb e=some iE) (hby:Nat.ble iE 4096=true) (hperm:(ha++hp').Perm hp) (hl:c.length=sz) (hnews:jR w0 mu hp a 0 c) (h1:c.all (·.oneCell')=true) (h63:xs.length<1000000)
  (h:∀ v' ha',Own e sz v' ha' (xs++[c])→Ops P n w0 mu all rest ((d,v')::l) (ha'++hp') Q):Ops P n w0 mu all (⟨some d,.call { callee:=.builtin .append,args:=#[x,y],argTypes:=#[t,t] },ty,pos,af,none⟩::rest) l hp Q:=by
 have sD:iE≤4096:=Nat.le_of_ble_eq_true hby
 have hall:∀ c'∈xs++[c],c'.length=sz∧c'.all (·.oneCell')=true:=by
  intro c' hc'
  rcases List.mem_append.1 hc' with hc' | hc'
  ·exact hA.1 c' hc'
  ·obtain rfl:=List.mem_singleton.1 hc';exact ⟨hl,h1⟩
 rcases hA.2 with ⟨rfl,rfl,rfl⟩ | ⟨g,cap,cur,rfl,rfl,hrow⟩
 ·refine EL ok hd hx hy ht hz hzs hb be5 bg8 hnews be5 be5 fun g cap cur hr=>?_
  have:=h (.slice (some ⟨g,0,none⟩) 1 cap) [⟨g,cur,e⟩] ⟨hall,.inr ⟨g,cap,cur,rfl,rfl,by simpa using hr⟩⟩
  refine fJ _ ?_ this
  exact (hperm.cons _:(⟨g,cur,e⟩::([]++hp')).Perm (⟨g,cur,e⟩::hp))
 ·refine uO ok hd hx hy ht hz hzs hb hperm hrow bg8 hnews h1 be5 ?_ fun g cap cur hr=>?_
  ·have h2:(xs.length + 1 + (xs.length + 1) / 4 + 192)≤2000000:=by omega
   calc _≤2000000 * iE:=Nat.mul_le_mul_right _ h2
    _≤2000000 * 4096:=Nat.mul_le_mul_left _ sD
    _≤_:=by decide
  ·have:=h (.slice (some ⟨g,0,none⟩) (xs.length + 1) cap) [⟨g,cur,e⟩] ⟨hall,.inr ⟨g,cap,cur,by simp,rfl,by simpa using hr⟩⟩
   exact this
theorem dZ (ok:aZ P T) {t d e sz iE g cap a o m cc:Nat} {cur:Array Value} {x y:Operand} {z:Value} {hp':Hp} {xs:List (List Value)} (hd:Nat.blt d n=true) (hx:ev l x=some (.slice (some ⟨g,0,none⟩) 0 cap)) (hg:Row g cap cur sz 0 []) (hy:ev l y=some (.slice (some ⟨a,o,none⟩) m cc)) (ht:lk T.sl t=some (e,sz))
  (hz:lk T.zs e=some z) (hzs:z.cells.size=sz) (hb:lk T.eb e=some iE) (hby:Nat.ble iE 4096=true) (hperm:(⟨g,cur,e⟩::hp').Perm hp) (hm:m=xs.length) (hall:∀ c∈xs,c.length=sz∧c.all (·.oneCell')=true) (hr:∀ i c,xs[i]?=some c→w0.rangeAt a (o + i * sz) c) (hmu:a ∉ mu) (h63:xs.length<1000000)
  (h:∀ v' ha',Own e sz v' ha' xs→Ops P n w0 mu all rest ((d,v')::l) (ha'++hp') Q):Ops P n w0 mu all (⟨some d,.call { callee:=.builtin .append,args:=#[x,y],argTypes:=#[t,t] },ty,pos,af,none⟩::rest) l hp Q:=by
 have sD:iE≤4096:=Nat.le_of_ble_eq_true hby
 have hfl:=dB xs (fun c hc=>(hall c hc).1)
 refine uO ok hd hx hy ht hz hzs hb hperm hg (news:=xs.flatten) (by rw [hm,hfl]) (xu (Ei xs o (fun c hc=>(hall c hc).1) hr) hmu) ?_ be5 ?_ fun g cap cur hr=>?_
 ·rw [List.all_flatten,List.all_eq_true]
  exact fun c hc=>(hall c hc).2
 ·have h2:(0 + m + (0 + m) / 4 + 192)≤2000000:=by omega
  calc _≤2000000 * iE:=Nat.mul_le_mul_right _ h2
   _≤2000000 * 4096:=Nat.mul_le_mul_left _ sD
   _≤_:=by decide
 ·rw [Nat.zero_add,List.nil_append,hm] at hr
  have:=h (.slice (some ⟨g,0,none⟩) xs.length cap) [⟨g,cur,e⟩] ⟨hall,.inr ⟨g,cap,cur,rfl,rfl,hr⟩⟩
  rw [Nat.zero_add,hm]
  exact this
theorem gI (ok:aZ P T) {t d e sz:Nat} (hd:Nat.blt d n=true) (ht:lk T.sl t=some (e,sz)) (h:∀ b,Ops P n w0 mu all rest ((d,.slice (some ⟨b,0,none⟩) 0 0)::l) (⟨b,#[],e⟩::hp) Q):Ops P n w0 mu all (⟨some d,.buildSlice t 0 #[],ty,pos,af,none⟩::rest) l hp Q:=by
 refine AB (b:=0) rfl hd #[] e rfl (fun b=>.slice (some ⟨b,0,none⟩) 0 0) (fun a w hk _=>?_) h
 obtain ⟨hu,hs⟩:=ok.wW ht
 simp [execOp,Instr.buildSlice,run_underlying hu w,run_sizeOf hs w,Instr.fill,go_sem]
theorem lW (ok:aZ P T) {t u e sz m c:Nat} {p:Option Addr} {x:Operand} (hx:ev l x=some (.slice p m c)) (ht:lk T.sl t=some (e,sz)):Hy P n w0 mu l hp ⟨dd,.binOp .eql t x (.const (.slice none 0 0)) u,ty,pos,af,gg⟩ (.bool p.isNone):=by
 obtain ⟨hu,hsz⟩:=ok.wW ht
 refine bF fun a w hk' _=>?_
 have h1:=Lib.run_eql_slice_nil (P:=P) w t e p m c 0 0 hu
 have h2:=hk'.ev hx
 have h3:a.eval (.const (.slice none 0 0))=.slice none 0 0:=rfl
 simp only [execOp,h2,h3]
 cases p<;>simp [eqGuard,h1]
end
end
section
section
variable {P : Program} {T : Tab} {n : Nat} {w0 : World} {mu : List Nat} {l : Fm} {hp : Hp} {dd : Option Tmp} {ty : TypeId} {pos : String} {af : Array Edge} {gg : Option (Nat × Bool)} {Q : Exit → Fm → Hp → Prop} {all : Array Oper} {rest : List Oper}
theorem oh {t e:TypeId} (hu:P.underlying t=some (.slice e)):P.underlying t=some (.slice (P.elem t)):=by
 have:P.elem t=e:=by simp [Program.elem,hu]
 rw [this];exact hu
theorem uU {b off k:Nat}:(⟨b,off,none⟩:Addr).add k=⟨b,off + k,none⟩:=Addr.add_lit ..
theorem uX (ok:aZ P T) {t e sz b off m cap:Nat} {kl kh:IntKind} {x lo hi:Operand} {i j:Int} {o' m' c':Nat} (hx:ev l x=some (.slice (some ⟨b,off,none⟩) m cap)) (hlo:ev l lo=some (.int kl i)) (hhi:ev l hi=some (.int kh j)) (ht:lk T.sl t=some (e,sz))
  (h0:0≤i) (h1:i≤j) (h2:j≤cap) (h3:i<cap) (ho:off + i.toNat * sz=o') (hm:j.toNat - i.toNat=m') (hc:cap - i.toNat=c'):
  Hy P n w0 mu l hp ⟨dd,.slice t x (some lo) (some hi) none,ty,pos,af,gg⟩ (.slice (some ⟨b,o',none⟩) m' c'):=by
 obtain ⟨hu,hsz⟩:=ok.wW ht
 subst ho hm hc
 refine bF fun a w hk _=>?_
 have he:P.elem t=e:=by simp [Program.elem,hu]
 have hs:=run_sizeOf hsz w
 have hne:¬ (cap=i.toNat):=by omega
 simp only [execOp,Option.map_some,Option.map_none,hk.ev hx,hk.ev hlo,hk.ev hhi]
 simp only [Sem.run_bind]
 rw [run_sliceAt_slice (w:=w) t _ _ _ _ (oh hu),run_slice_lh (w:=w) t _ m cap (oh hu) kl kh i j h0 h1 h2,he,hs]
 simp [sliced,hne,uU]
theorem mW (ok:aZ P T) {t e sz m cap:Nat} {p:Option Addr} {kh:IntKind} {x hi:Operand} {j:Int} {m':Nat} (hx:ev l x=some (.slice p m cap)) (hhi:ev l hi=some (.int kh j)) (ht:lk T.sl t=some (e,sz))
  (h0:0≤j) (h2:j≤cap) (hm:j.toNat=m') (hp0:p=none∨∃ b off,p=some ⟨b,off,none⟩):
  Hy P n w0 mu l hp ⟨dd,.slice t x none (some hi) none,ty,pos,af,gg⟩ (.slice p m' cap):=by
 obtain ⟨hu,hsz⟩:=ok.wW ht
 subst hm
 refine bF fun a w hk _=>?_
 have he:P.elem t=e:=by simp [Program.elem,hu]
 have hs:=run_sizeOf hsz w
 simp only [execOp,Option.map_some,Option.map_none,hk.ev hx,hk.ev hhi]
 simp only [Sem.run_bind]
 rw [run_sliceAt_slice (w:=w) t _ _ _ _ (oh hu),run_slice_h (w:=w) t _ m cap (oh hu) kh j h0 h2,he,hs]
 rcases hp0 with rfl | ⟨b,off,rfl⟩
 ·simp [sliced]
 ·simp [sliced,uU]
theorem jX (ok:aZ P T) {t e sz b off m cap:Nat} {kl:IntKind} {x lo:Operand} {i:Int} {o' m' c':Nat} (hx:ev l x=some (.slice (some ⟨b,off,none⟩) m cap)) (hlo:ev l lo=some (.int kl i)) (ht:lk T.sl t=some (e,sz))
  (h0:0≤i) (h1:i≤m) (h3:i<cap) (ho:off + i.toNat * sz=o') (hm:m - i.toNat=m') (hc:cap - i.toNat=c'):
  Hy P n w0 mu l hp ⟨dd,.slice t x (some lo) none none,ty,pos,af,gg⟩ (.slice (some ⟨b,o',none⟩) m' c'):=by
 obtain ⟨hu,hsz⟩:=ok.wW ht
 subst ho hm hc
 refine bF fun a w hk _=>?_
 have he:P.elem t=e:=by simp [Program.elem,hu]
 have hs:=run_sizeOf hsz w
 have hne:¬ (cap=i.toNat):=by omega
 simp only [execOp,Option.map_some,Option.map_none,hk.ev hx,hk.ev hlo]
 simp only [Sem.run_bind]
 rw [run_sliceAt_slice (w:=w) t _ _ _ _ (oh hu),run_slice_l (w:=w) t _ m cap (oh hu) kl i h0 h1,he,hs]
 simp [sliced,hne,uU]
theorem yV (ok:aZ P T) {t e sz m cap:Nat} {p:Option Addr} {kl:IntKind} {x lo:Operand} {i:Int} (hx:ev l x=some (.slice p m cap)) (hlo:ev l lo=some (.int kl i)) (ht:lk T.sl t=some (e,sz))
  (h0:0≤i) (h1:i≤m):Hy P n w0 mu l hp ⟨dd,.slice t x (some lo) none none,ty,pos,af,gg⟩ (sliced p i.toNat m cap sz):=by
 obtain ⟨hu,hsz⟩:=ok.wW ht
 refine bF fun a w hk _=>?_
 have he:P.elem t=e:=by simp [Program.elem,hu]
 have hs:=run_sizeOf hsz w
 simp only [execOp,Option.map_some,Option.map_none,hk.ev hx,hk.ev hlo]
 simp only [Sem.run_bind]
 rw [run_sliceAt_slice (w:=w) t _ _ _ _ (oh hu),run_slice_l (w:=w) t _ m cap (oh hu) kl i h0 h1,he,hs]
 simp
theorem Qo {k d:Nat}:Nat.min k d=min k d:=rfl
theorem Gv (ok:aZ P T) {t t' e sz d b o dl dc a so sl sc:Nat} {cs:Array Value} {tb:TypeId} {x y:Operand} {news:List Value} {hp':Hp} (hd:Nat.blt d n=true) (hx:ev l x=some (.slice (some ⟨b,o,none⟩) dl dc)) (hy:ev l y=some (.slice (some ⟨a,so,none⟩) sl sc)) (ht:lk T.sl t=some (e,sz))
  (hperm:(⟨b,cs,tb⟩::hp').Perm hp) (hl:news.length=min sl dl * sz) (hnews:jR w0 mu hp a so news) (h1:news.all (·.oneCell')=true) (hfit:o + news.length≤cs.size)
  (h:Ops P n w0 mu all rest ((d,.int .i64 (min sl dl:Nat))::l) (⟨b,putAt cs o news,tb⟩::hp') Q):Ops P n w0 mu all (⟨some d,.call { callee:=.builtin .copy,args:=#[x,y],argTypes:=#[t,t'] },ty,pos,af,none⟩::rest) l hp Q:=by
 intro ac w hk hG
 have hput:∀ v,Knows n ((d,v)::l) (ac.put (some d) v):=fun v=>Knows.put (d:=some d) hk (fun t ht=>by cases ht;simpa using hd) v
 obtain ⟨hu,hsz⟩:=ok.wW ht
 have hG':=hG.perm hperm
 have hb:=hG'.here _ (List.mem_cons_self ..)
 have hsrc:∀ j u,news[j]?=some u→w.cell? ((⟨a,so,none⟩:Addr).add j)=some u:=fun j u hj=>by rw [Addr.add_mid];exact hnews w hG j u hj
 have hld:=run_loadCells_list (P:=P) w ⟨a,so,none⟩ news hsrc
 have hst:=run_storeCells_cells (P:=P) b o news 0 w
  (fun j hj=>by rw [cell_of_block hb];simp [show o + j<cs.size by omega])
  (fun j _=>eP hb) (fun u hu=>(List.all_eq_true.1 h1) u hu)
 simp only [Nat.add_zero] at hst
 refine wpList_plain rfl fun K hK=>?_
 unfold Oper.wp execOp
 have hs:=run_sizeOf hsz w
 have hr:(Builtin.copy_ #[t,t'] ty #[.slice (some ⟨b,o,none⟩) dl dc,.slice (some ⟨a,so,none⟩) sl sc]).run P w=.ok (goInt (min sl dl:Nat)) (w.setCells b o news):=by
  simp [Builtin.copy_,run_underlying hu,Builtin.lenOf,Builtin.firstCells,hs,Qo,← hl,hld,hst]
 simp only [resolve,invoke,builtin,Sem.run_bind,Sem.run_pure,Result.andThen_ok,List.map_toArray,List.map_cons,List.map_nil,hk.ev hx,hk.ev hy,hr]
 exact hK _ _ (h _ _ (hput _) (Good.sets (w:=w) news cs o w hG'))
theorem Qp (ok:aZ P T) {t tn e sz iE s k cap b off d:Nat} {kq kn:IntKind} {x y:Operand} {z:Value} {olds:List Value} (hd:Nat.blt d n=true) (hx:ev l x=some (.slice (some ⟨b,off,none⟩) s cap)) (hy:ev l y=some (.int kq (k:Int))) (ht:lk T.sl t=some (e,sz)) (htn:lk T.ik tn=some kn)
  (hz:lk T.zs e=some z) (hzs:z.cells.size=sz) (hb:lk T.eb e=some iE) (hby:Nat.ble iE 4096=true) (hl:olds.length=s * sz) (hnews:jR w0 mu hp b off olds) (hs0:0<sz) (hk0:0<k) (hroom:cap<s + k) (hsmall:s + k≤1000000)
  (h:∀ g cap' cur,cur.size=cap' * sz→s + k≤cap'→cap'≤maxLen→cur.toList.take (s * sz)=olds→Ops P n w0 mu all rest ((d,.slice (some ⟨g,0,none⟩) (s + k) cap')::l) (⟨g,cur,e⟩::hp) Q):Ops P n w0 mu all (⟨some d,.call { callee:=.builtin .append,args:=#[x,y],argTypes:=#[t,tn] },ty,pos,af,none⟩::rest) l hp Q:=by
 intro ac w hk hG
 have hput:∀ v,Knows n ((d,v)::l) (ac.put (some d) v):=fun v=>Knows.put (d:=some d) hk (fun t ht=>by cases ht;simpa using hd) v
 obtain ⟨hu,hsz⟩:=ok.wW ht
 have hun:=ok.gik htn
 have sD:iE≤4096:=Nat.le_of_ble_eq_true hby
 have hbb:=List.all_eq_true.1 ok.eb _ (iK hb)
 simp only [beq_iff_eq] at hbb
 obtain ⟨i,hi,hiz,his,hib⟩:=qM hsz hbb (ok.IE hz)
 subst his hib
 have hold:(Builtin.firstCells i.size s (.slice (some ⟨b,off,none⟩) s cap)).run P w.drew=.ok olds.toArray w.drew:=
  run_firstCells_some w.drew i.size s ⟨b,off,none⟩ s cap olds (by rw [hl]) (fun j u hj=>by rw [Addr.add_mid];exact hnews w hG j u hj)
 have h48:k * i.bytes≤281474976710656:=by
  calc k * i.bytes≤1000000 * 4096:=Nat.mul_le_mul be5 sD
   _≤_:=by decide
 have hfit:Builtin.nextslicecap (s + k) cap * i.bytes≤281474976710656:=by
  refine growslice_fits_wide be5 ?_
  have h2:(s + k + (s + k) / 4 + 192)≤2000000:=by omega
  calc _≤2000000 * i.bytes:=Nat.mul_le_mul_right _ h2
   _≤2000000 * 4096:=Nat.mul_le_mul_left _ sD
   _≤_:=by decide
 have hr:=Lib.run_append_grow_zeros (P:=P) w t tn ty e i z kq kn hu hun hi hiz (some ⟨b,off,none⟩) s cap olds hold k hk0 hs0 hroom be5 h48 hfit
 refine wpList_plain rfl fun K hK=>?_
 unfold Oper.wp execOp
 simp only [resolve,invoke,builtin,Sem.run_bind,Sem.run_pure,Result.andThen_ok,List.map_toArray,List.map_cons,List.map_nil,hk.ev hx,hk.ev hy,hr]
 have hge:=grownCap_ge w (s + k) cap e
 have hcm:grownCap w (s + k) cap e≤maxLen:=grownCap_le_maxLen w (s + k) cap e bh9
 have hG2:=(hG.drawn (w.drawn + 1)).alloc (olds.toArray++Builtin.zeroCells z.cells k++Builtin.zeroCells z.cells (grownCap w (s + k) cap e - (s + k))) e
 refine hK _ _ (h _ _ _ ?_ hge hcm ?_ _ _ (hput _) hG2)
 ·simp only [Array.size_append,List.size_toArray,size_zeroCells,hzs,hl,← Nat.add_mul]
  congr 1
  omega
 ·simp only [Array.toList_append,List.append_assoc]
  rw [← hl]
  exact List.take_left
theorem ag1 {t u:TypeId} {x y:Operand} {p:Int} {ky:IntKind} {c:Int} {q:Int} (hx:ev l x=some (.int .u64 p)) (hy:ev l y=some (.int ky c)) (h0:0≤c) (h1:c≤64) (hq:p / 2 ^ c.toNat=q):Hy P n w0 mu l hp ⟨dd,.binOp .shr t x y u,ty,pos,af,gg⟩ (.int .u64 q):=
 bF fun ac w hk _=>by
  subst hq
  simp only [execOp,hk.ev hx,hk.ev hy]
  simp [eqGuard_shr,binOp_shr,shift_shr_u64 (yk:=ky) (h₀:=h0) (h₁:=h1)]
theorem as1 {f:FuncId} {xs:List Operand} {vs:List Value} {tys:Array TypeId} {v:Value} (hv:evs l xs=some vs) (hr:∀ w,Good w0 mu hp w→(callFunc f vs.toArray).run P w=.ok (.value v) w):Hy P n w0 mu l hp ⟨dd,.call { callee:=.value (.func f),args:=xs.toArray,argTypes:=tys },ty,pos,af,gg⟩ v:=by
 refine bF fun a w hk hG=>?_
 have e:xs.toArray.map a.eval=vs.toArray:=by rw [← hk.evs hv];simp
 rw [Conc.execOp_call_func rfl,e]
 exact hr w hG
end
theorem Qq {cs:Array Value} {A c D:List Value} (hA:cs.toList.take A.length=A) (hs:A.length + c.length + D.length≤cs.size):
  (putAt (putAt cs (A.length + c.length) D) A.length c).toList.take (A.length + c.length + D.length)=A++c++D:=by
 have h1:(putAt cs (A.length + c.length) D).size=cs.size:=dP ..
 rw [kG _ _ _ be5,kG _ _ _ be5]
 have ht:cs.toList.length=cs.size:=Array.length_toList
 have e1:((cs.toList.take (A.length + c.length)++D++cs.toList.drop (A.length + c.length + D.length)).take A.length)=A:=by
  rw [List.append_assoc,List.take_append,List.take_take,List.length_take,show A.length - min (A.length + c.length) cs.toList.length=0 by omega,show min A.length (A.length + c.length)=A.length by omega,hA];simp
 have e2:((cs.toList.take (A.length + c.length)++D++cs.toList.drop (A.length + c.length + D.length)).drop (A.length + c.length))=D++cs.toList.drop (A.length + c.length + D.length):=by
  rw [List.append_assoc,List.drop_append,List.drop_eq_nil_of_le bi6,List.length_take,show A.length + c.length - min (A.length + c.length) cs.toList.length=0 by omega];simp
 rw [e1,e2]
 have:A++c++(D++cs.toList.drop (A.length + c.length + D.length))=(A++c++D)++cs.toList.drop (A.length + c.length + D.length):=by simp
 rw [this]
 exact List.take_left' bf2
theorem Lu {cs:Array Value} {A c D:List Value} (hA:cs.toList.take A.length=A) (hs:A.length + c.length + D.length≤cs.size):
  (putAt (putAt cs A.length c) (A.length + c.length) D).toList.take (A.length + c.length + D.length)=A++c++D:=by
 have h1:(putAt cs A.length c).size=cs.size:=dP ..
 rw [kG _ _ _ be5,kG _ _ _ be5,hA]
 have e1:((A++c++cs.toList.drop (A.length + c.length)).take (A.length + c.length))=A++c:=List.take_left' be7
 rw [e1]
 exact List.take_left' bf2
end
section
section
variable {P : Program} {T : Tab} {n : Nat} {w0 : World} {mu : List Nat} {l : Fm} {hp : Hp} {dd : Option Tmp} {ty : TypeId} {pos : String} {af : Array Edge} {gg : Option (Nat × Bool)} {Q : Exit → Fm → Hp → Prop} {all : Array Oper} {rest : List Oper}
theorem UH (ok:aZ P T) {t e sz b o m c:Nat} {cs:Array Value} {tb:TypeId} {x:Operand} {z:Value} {hp':Hp} (hx:ev l x=some (.slice (some ⟨b,o,none⟩) m c)) (ht:lk T.sl t=some (e,sz)) (hz:lk T.zs e=some z) (hzs:z.cells.size=sz) (hz1:z.cells.toList.all (·.oneCell')=true) (hm:0<m)
  (hperm:(⟨b,cs,tb⟩::hp').Perm hp) (hfit:o + m * sz≤cs.size)
  (h:∀ vs:List Value,vs.length=m * sz→Ops P n w0 mu all rest l (⟨b,putAt cs o vs,tb⟩::hp') Q):Ops P n w0 mu all (⟨none,.call { callee:=.builtin .clear,args:=#[x],argTypes:=#[t] },ty,pos,af,none⟩::rest) l hp Q:=by
 intro ac w hk hG
 obtain ⟨hu,hsz⟩:=ok.wW ht
 have hG':=hG.perm hperm
 have hb:=hG'.here _ (List.mem_cons_self ..)
 have hlen:(Builtin.zeroCells z.cells m).toList.length=m * sz:=by rw [Array.length_toList,size_zeroCells,hzs]
 have hst:=run_storeCells_cells (P:=P) b o (Builtin.zeroCells z.cells m).toList 0 w
  (fun j hj=>by rw [cell_of_block hb];simp [show o + j<cs.size by omega])
  (fun j _=>eP hb) (fun u hu=>by
   refine (List.all_eq_true.1 hz1) u ?_
   simp only [Builtin.zeroCells,Array.mem_toList_iff,Array.mem_map,Array.mem_range] at hu
   obtain ⟨i,hi,rfl⟩:=hu
   have hpos:0<z.cells.size:=by
    rcases Nat.eq_zero_or_pos z.cells.size with h0 | h0
    ·rw [h0] at hi;omega
    ·exact h0
   rw [getElem!_pos z.cells _ (Nat.mod_lt _ hpos)]
   simp)
 simp only [Nat.add_zero] at hst
 refine wpList_plain rfl fun K hK=>?_
 unfold Oper.wp execOp
 have hr:(Builtin.clear_ #[t] ty #[.slice (some ⟨b,o,none⟩) m c]).run P w=.ok (.tuple #[]) (w.setCells b o (Builtin.zeroCells z.cells m).toList):=by
  obtain ⟨m',rfl⟩:∃ m',m=m' + 1:=⟨m - 1,by omega⟩
  simp [Builtin.clear_,run_underlying hu,mM (ok.IE hz) w,hst]
 simp only [resolve,invoke,builtin,Sem.run_bind,Sem.run_pure,Result.andThen_ok,List.map_toArray,List.map_cons,List.map_nil,hk.ev hx,hr]
 exact hK _ _ (h _ hlen _ _ hk (Good.sets (w:=w) _ cs o w hG'))
theorem as2 (ok:aZ P T) {t e sz m c:Nat} {p:Option Addr} {x:Operand} (hx:ev l x=some (.slice p m c)) (ht:lk T.sl t=some (e,sz)):
  Hy P n w0 mu l hp ⟨dd,.call { callee:=.builtin .cap,args:=#[x],argTypes:=#[t] },ty,pos,af,gg⟩ (.int .i64 c):=by
 obtain ⟨hu,hsz⟩:=ok.wW ht
 refine bF fun a w hk _=>?_
 have hr:=run_cap_slice (P:=P) w t ty p m c (oh hu)
 simp only [execOp,resolve,invoke,builtin,Sem.run_bind,Sem.run_pure,Result.andThen_ok,List.map_toArray,List.map_cons,List.map_nil,hk.ev hx,hr]
 rfl
theorem yX (ok : aZ P T) {lf : Fm} {t len e sz : Nat} {z : Value} {ps : List (Nat × Operand)} {vs : List (Nat × Value)} {zl : List Value} {out : Array Value} {out' : List Value} (ht : lk T.sl t = some (e, sz)) (hz : lk T.zs e = some z) (hzc : z.cells = zl.toArray) (hzs : Nat.beq zl.length sz = true) (hpos : (Nat.blt 0 (len * sz) && Nat.ble (len * sz) 16777216) = true) (hv : Ee lf ps = some vs) (hf : Z8 sz (rep zl len).toArray vs = some out) (hn : out = out'.toArray) :
    zI P n w0 mu all lf hp ⟨dd, .buildSlice t len ps.toArray, ty, pos, af, none⟩ (fun v hn => ∃ b, v = .slice (some ⟨b, 0, none⟩) len len ∧ hn = [⟨b, out'.toArray, e⟩]) := by
  subst hn
  have hzs' : zl.length = sz := by simpa using hzs
  rw [Bool.and_eq_true] at hpos
  obtain ⟨hp1, hp2⟩ := hpos
  replace hp1 : 0 < len * sz := by simpa using hp1
  replace hp2 : len * sz ≤ 16777216 := Nat.le_of_ble_eq_true hp2
  have hsp : 0 < sz := by rcases Nat.eq_zero_or_pos sz with h | h; · rw [h] at hp1; simp at hp1
                          · exact h
  refine Gp (F := fun b => .slice (some ⟨b, 0, none⟩) len len) rfl _ _ fun a w hk => ?_
  have e1 : (ps.toArray.map fun x => (x.1, a.eval x.2)) = vs.toArray := by rw [← hk.Ee hv]; simp
  obtain ⟨hu, hs⟩ := ok.wW ht
  have hr := Lh z.cells (by rw [hzc]; simpa [hzs'] using hsp) len
  have hsz : z.cells.size = sz := by rw [hzc]; simpa using hzs'
  rw [hsz] at hr
  simp only [execOp, Instr.buildSlice, Sem.run_bind, run_underlying hu w, Result.andThen_ok, run_sizeOf hs w, e1]
  rw [if_neg be5]
  simp only [Sem.run_bind, Sem.run_pure, Result.andThen_ok, if_neg (show ¬ len * sz = 0 by omega), mM (ok.IE hz) w, hsz, hr]
  rw [show z.cells.toList = zl by rw [hzc]]
  simp only [List.toList_toArray, IP _ _ _ _ hf]
  simp [go_sem]
end
end
section
attribute [local irreducible] Hy St Ops DH dG
theorem Own.row {e sz n:Nat} {v:Value} {h:Hp} {xs:List (List Value)} (hA:Own e sz v h xs) (hn:xs.length=n) (h0:0<n):∃ g cap cur,v=.slice (some ⟨g,0,none⟩) n cap∧h=[⟨g,cur,e⟩]∧Row g cap cur sz n xs.flatten:=by
 rcases hA.2 with ⟨rfl,rfl,rfl⟩ | ⟨g,cap,cur,rfl,rfl,hrow⟩
 ·simp at hn;omega
 ·subst hn;exact ⟨g,cap,cur,rfl,rfl,hrow⟩
theorem dU {e sz:Nat} {xs:List (List Value)} (hall:∀ c∈xs,c.length=sz∧c.all (·.oneCell')=true) (hle:xs.length≤1000000):∃ v hn,Own e sz v hn xs:=by
 have hl:=dB xs (fun c hc=>(hall c hc).1)
 exact ⟨_,_,hall,.inr ⟨0,xs.length,xs.flatten.toArray,rfl,rfl,⟨hl,Nat.le_refl _,by unfold maxLen;omega,by rw [List.size_toArray];exact hl,by rw [← hl,List.take_length]⟩⟩⟩
theorem CB {xs:List Int}:∀ c∈xs.map dA,c.length=1∧c.all (·.oneCell')=true:=fun c hc=>by obtain ⟨x,_,rfl⟩:=List.mem_map.1 hc;exact ⟨rfl,rfl⟩
theorem aF.yY {α:Type} {w:World} {b cap sz:Nat} {f:Nat→List Value} {n:Nat} (hle:n≤281474976710656) (h:∀ i,i<n→w.rangeAt b (0 + i * sz) (f i)):aF w (.slice (some ⟨b,0,none⟩) n cap) sz ((List.range n).map f):=by
 refine ⟨⟨_,cap,by simp,fun _=>⟨b,0,rfl,fun i c hc=>?_⟩⟩,by simpa using hle⟩
 have hi:i<n:=by have:=(List.getElem?_eq_some_iff.1 hc).1;simpa using this
 rw [iL _ hi] at hc
 cases hc
 exact h i hi
theorem map_range {α β:Type} [Inhabited α] (xs:List α) (f:α→β):(List.range xs.length).map (fun i=>f (xs.getD i default))=xs.map f:=by
 apply List.ext_getElem?
 intro i
 by_cases hi:i<xs.length
 ·simp [hi]
 ·simp [hi]
theorem UI (A L R:Hp):(L++(R++A)).Perm (A++(L++R)):=by
 rw [← List.append_assoc]
 exact List.perm_append_comm
theorem Good.here' {w0 w:World} {mu:List Nat} {hp hi:Hp} (hG:Good w0 mu hp w) (hm:aC hi hp):Here hi w:=(hG.le hm).here
theorem Row.cut {g cap sz n:Nat} {cur:Array Value} {xs:List (List Value)} (h:Row g cap cur sz n xs.flatten) (hall:∀ c∈xs,c.length=sz) {i:Nat} {c:List Value} (hi:xs[i]?=some c):(cur.toList.drop (i * sz)).take sz=c:=by
 have hf:=kN hall hi
 rw [← h.take] at hf
 have hlt:i<xs.length:=(List.getElem?_eq_some_iff.1 hi).1
 have hn:xs.length * sz=n * sz:=by rw [← dB xs hall,h.len]
 have hle:i * sz + sz≤n * sz:=by rw [← hn,← Nat.succ_mul];exact Nat.mul_le_mul_right _ hlt
 rwa [List.drop_take,List.take_take,Nat.min_eq_left be5] at hf
theorem xM {n:Nat} {w0:World} {mu:List Nat} {l:Fm} {hp:Hp} {Q:Exit→Fm→Hp→Prop} {all:Array Oper} {rest:List Oper} {ty:TypeId} {pos:String} {af:Array Edge} {t d e sz iE cc a:Nat} {x y:Operand} {z v:Value} {c:List Value} {ha:Hp} {xs:List (List Value)} (hp':Hp) (hA:Own e sz v ha xs) (h:∀ v' ha',Own e sz v' ha' (xs++[c])→Ops Tryz.prog n w0 mu all rest ((d,v')::l) (ha'++hp') Q) (h63:xs.length<1000000) (hnews:jR w0 mu hp a 0 c)
  (hperm:(ha++hp').Perm hp) (hd:Nat.blt d n=true:=by rfl) (hx:ev l x=some v:=by rfl) (hy:ev l y=some (.slice (some ⟨a,0,none⟩) 1 cc):=by rfl) (ht:lk Tb.sl t=some (e,sz):=by rfl)
  (hz:lk Tb.zs e=some z:=by rfl) (hzs:z.cells.size=sz:=by rfl) (hb:lk Tb.eb e=some iE:=by rfl) (hby:Nat.ble iE 4096=true:=by rfl) (hl:c.length=sz:=by rfl) (h1:c.all (·.oneCell')=true:=by rfl):Ops Tryz.prog n w0 mu all (⟨some d,.call { callee:=.builtin .append,args:=#[x,y],argTypes:=#[t,t] },ty,pos,af,none⟩::rest) l hp Q:=
 Qn ay hA hd hx hy ht hz hzs hb hby hperm hl hnews h1 h63 h
theorem jY {α:Type} {l:List α} {i:Nat} {a:α} (h:l[i]?=some a):l.set i a=l:=by
 apply List.ext_getElem?
 intro j
 by_cases hj:i=j
 ·subst hj
  have hlt:=(List.getElem?_eq_some_iff.1 h).1
  rw [List.getElem?_set_self hlt,h]
 ·rw [List.getElem?_set_ne hj]
theorem Own.ag2 {e:Nat} {v:Value} {h:Hp} {xs:List Int} (hA:Own e 1 v h (xs.map dA)) {k:Nat} (hk:k<xs.length):∃ g cap cur,v=.slice (some ⟨g,0,none⟩) xs.length cap∧h=[⟨g,cur,e⟩]∧nth cur.toList k=some (.int .i64 (xs.getD k 0))∧k + 1≤cur.size ∧
  ∀ z,Own e 1 v [⟨g,cur.setIfInBounds k (.int .i64 z),e⟩] ((xs.set k z).map dA):=by
 obtain ⟨g,cap,cur,rfl,rfl,hr⟩:=hA.row (n:=xs.length) be7 be5
 have hall:∀ c∈xs.map dA,c.length=1:=fun c hc=>(CB c hc).1
 have hi:(xs.map dA)[k]?=some (dA (xs.getD k 0)):=by
  rw [List.getElem?_map,List.getD_eq_getElem?_getD,List.getElem?_eq_getElem hk];rfl
 have h1:=hr.nth hall hi (k:=0) rfl
 rw [Nat.mul_one,Nat.add_zero] at h1
 have hsz:=hr.size
 have hle:=hr.le
 refine ⟨g,cap,cur,rfl,rfl,h1,by omega,fun z=>⟨CB,.inr ⟨g,cap,_,by simp,rfl,?_⟩⟩⟩
 have h2:=hr.put hall hi (k:=0) (vs:=[.int .i64 z]) be7
 have e1:(dA (xs.getD k 0)).take 0++[Value.int .i64 z]++(dA (xs.getD k 0)).drop (0 + [Value.int .i64 z].length)=dA z:=rfl
 rw [e1,Nat.mul_one,Nat.add_zero] at h2
 have e2:((xs.set k z).map dA).length=xs.length:=by simp
 rw [e2,List.map_set]
 exact h2
theorem CE {a b c:Hp} (h:a=b) (h2:aC b c):aC a c:=h▸h2
theorem Own.oq {e sz:Nat} {v:Value} {h:Hp} {xs:List (List Value)} (hA:Own e sz v h xs):∃ p cap,v=.slice p xs.length cap∧xs.length≤cap:=by
 rcases hA.2 with ⟨rfl,rfl,rfl⟩ | ⟨g,cap,cur,rfl,rfl,hrow⟩
 ·exact ⟨_,_,rfl,Nat.le_refl _⟩
 ·exact ⟨_,_,rfl,hrow.le⟩
theorem bg {w:World} {b o k n:Nat} {vs us:List Value} (h:w.rangeAt b o vs) (hu:(vs.drop k).take n=us):w.rangeAt b (o + k) us:=by
 intro j u hj
 subst hu
 rw [List.getElem?_take] at hj
 split at hj
 ·rw [List.getElem?_drop] at hj
  rw [Nat.add_assoc]
  exact h (k + j) u hj
 ·cases hj
theorem iM {α:Type} [Inhabited α] {xs:List α} {k:Nat} (h:k<xs.length):xs.take (k + 1)=xs.take k++[xs.getD k default]:=by
 rw [List.take_succ_eq_append_getElem h,List.getD_eq_getElem?_getD,List.getElem?_eq_getElem h];rfl
end
section
attribute [local irreducible] Hy St Ops DH dG
theorem Fn.some {P:Program} {f:FuncId} {args:Array Value} {w:World} {mu:List Nat} {R:Value→Hp→Prop} (h:Fn P f args w mu R):∃ v hp,R v hp:=by
 obtain ⟨e,w',fr,⟨v,hp,_,_,hr⟩,_⟩:=h []
 exact ⟨v,hp,hr⟩
section
variable {P : Program} {T : Tab} {n : Nat} {w0 : World} {mu : List Nat} {l : Fm} {dd : Option Nat} {ty : TypeId} {pos : String} {af : Array Edge} {gg : Option (Nat × Bool)}
end
section
variable {n : Nat} {w0 : World} {mu : List Nat} {l : Fm} {hp : Hp} {Q : Exit → Fm → Hp → Prop} {all : Array Oper} {rest : List Oper} {ty : TypeId} {pos : String} {af : Array Edge}
theorem uY {t d e sz iE m cc a:Nat} {x y:Operand} {z v:Value} {ha:Hp} {xs:List (List Value)} (ys:List (List Value)) (hp':Hp) (hA:Own e sz v ha xs) (h0:0<xs.length) (h:∀ v' ha',Own e sz v' ha' (xs++ys)→Ops Tryz.prog n w0 mu all rest ((d,v')::l) (ha'++hp') Q) (h63:xs.length + m<1000000) (hm:ys.length=m) (hall:∀ c∈ys,c.length=sz∧c.all (·.oneCell')=true) (hnews:jR w0 mu hp a 0 ys.flatten)
  (hperm:(ha++hp').Perm hp) (hd:Nat.blt d n=true:=by rfl) (hx:ev l x=some v:=by rfl) (hy:ev l y=some (.slice (some ⟨a,0,none⟩) m cc):=by rfl) (ht:lk Tb.sl t=some (e,sz):=by rfl)
  (hz:lk Tb.zs e=some z:=by rfl) (hzs:z.cells.size=sz:=by rfl) (hb:lk Tb.eb e=some iE:=by rfl) (hby:Nat.ble iE 4096=true:=by rfl):Ops Tryz.prog n w0 mu all (⟨some d,.call { callee:=.builtin .append,args:=#[x,y],argTypes:=#[t,t] },ty,pos,af,none⟩::rest) l hp Q:=by
 have sD:iE≤4096:=Nat.le_of_ble_eq_true hby
 have hfl:=dB ys (fun c hc=>(hall c hc).1)
 rcases hA.2 with ⟨rfl,rfl,rfl⟩ | ⟨g,cap,cur,rfl,rfl,hrow⟩
 ·simp at h0
 ·refine uO ay hd hx hy ht hz hzs hb hperm hrow (news:=ys.flatten) (by rw [hfl,hm]) hnews ?_ be5 ?_ fun g cap cur hr=>?_
  ·rw [List.all_flatten,List.all_eq_true]
   exact fun c hc=>(hall c hc).2
  ·have h2:(xs.length + m + (xs.length + m) / 4 + 192)≤2000000:=by omega
   calc _≤2000000 * iE:=Nat.mul_le_mul_right _ h2
    _≤2000000 * 4096:=Nat.mul_le_mul_left _ sD
    _≤_:=by decide
  ·have:=h (.slice (some ⟨g,0,none⟩) (xs.length + m) cap) [⟨g,cur,e⟩] ⟨fun c hc=>?_,.inr ⟨g,cap,cur,by rw [List.length_append,hm],rfl,by rw [List.length_append,hm,List.flatten_append];exact hr⟩⟩
   ·exact this
   ·rcases List.mem_append.1 hc with hc | hc
    ·exact hA.1 c hc
    ·exact hall c hc
end
section
variable {P : Program} {T : Tab} {n : Nat} {w0 : World} {mu : List Nat} {l : Fm} {hp : Hp} {dd : Option Nat} {ty : TypeId} {pos : String} {af : Array Edge} {gg : Option (Nat × Bool)} {t u : TypeId} {x y : Operand}
theorem CG {pi qi:Int} (hx:ev l x=some (.int .u64 pi)) (hy:ev l y=some (.int .u64 qi)) (p q:Nat) (hpi:pi=(p:Int)) (hqi:qi=(q:Int))  (h1:p<18446744073709551616) (h2:q<18446744073709551616):Hy P n w0 mu l hp ⟨dd,.binOp .and t x y u,ty,pos,af,gg⟩ (.int .u64 ((p &&& q:Nat):Int)):=
 bF fun ac w hk _=>by
  subst hpi hqi
  have:=u64_and_nat p q h1 h2
  simp only [execOp,hk.ev hx,hk.ev hy]
  simp [eqGuard_and,binOp_and,intBits_and,this]
theorem OI {pi qi:Int} (hx:ev l x=some (.int .u64 pi)) (hy:ev l y=some (.int .u64 qi)) (p q:Nat) (hpi:pi=(p:Int)) (hqi:qi=(q:Int))  (h1:p<18446744073709551616) (h2:q<18446744073709551616):Hy P n w0 mu l hp ⟨dd,.binOp .or t x y u,ty,pos,af,gg⟩ (.int .u64 ((p ||| q:Nat):Int)):=
 bF fun ac w hk _=>by
  subst hpi hqi
  have:=u64_or_nat p q h1 h2
  simp only [execOp,hk.ev hx,hk.ev hy]
  simp [eqGuard_or,binOp_or,intBits_or,this]
theorem ES {pi qi:Int} (hx:ev l x=some (.int .u64 pi)) (hy:ev l y=some (.int .u64 qi)) (p q:Nat) (hpi:pi=(p:Int)) (hqi:qi=(q:Int))  (h1:p<18446744073709551616) (h2:q<18446744073709551616):Hy P n w0 mu l hp ⟨dd,.binOp .andNot t x y u,ty,pos,af,gg⟩ (.int .u64 ((p &&& (18446744073709551615 - q):Nat):Int)):=
 bF fun ac w hk _=>by
  subst hpi hqi
  have:=u64_andNot_nat p q h1 h2
  simp only [execOp,hk.ev hx,hk.ev hy]
  simp [eqGuard_andNot,binOp_andNot,intBits_andNot,this]
theorem Gw {ky:IntKind} {pi qi:Int} (hx:ev l x=some (.int .u64 pi)) (hy:ev l y=some (.int ky qi)) (p c:Nat) (hpi:pi=(p:Int)) (hqi:qi=(c:Int))  (h1:c≤64):Hy P n w0 mu l hp ⟨dd,.binOp .shr t x y u,ty,pos,af,gg⟩ (.int .u64 ((p >>> c:Nat):Int)):=
 bF fun ac w hk _=>by
  subst hpi hqi
  simp only [execOp,hk.ev hx,hk.ev hy]
  have e:(p:Int) / 2 ^ ((c:Int).toNat)=((p >>> c:Nat):Int):=by rw [Nat.shiftRight_eq_div_pow];simp
  simp [eqGuard_shr,binOp_shr,shift_shr_u64 (yk:=ky) (h₀:=Int.natCast_nonneg c) (h₁:=by omega)]
  simpa using e
theorem yZ {ky:IntKind} {pi qi:Int} (hx:ev l x=some (.int .u64 pi)) (hy:ev l y=some (.int ky qi)) (p c:Nat) (hpi:pi=(p:Int)) (hqi:qi=(c:Int))  (h1:c≤64):Hy P n w0 mu l hp ⟨dd,.binOp .shl t x y u,ty,pos,af,gg⟩ (.int .u64 (((p <<< c) % 18446744073709551616:Nat):Int)):=
 bF fun ac w hk _=>by
  subst hpi hqi
  simp only [execOp,hk.ev hx,hk.ev hy]
  have e:IntKind.u64.wrap ((p:Int) * 2 ^ ((c:Int).toNat))=(((p <<< c) % 18446744073709551616:Nat):Int):=by rw [IntKind.wrap_u64,Nat.shiftLeft_eq];simp
  simp [eqGuard_shl,binOp_shl,shift_shl_u64 (yk:=ky) (h₀:=Int.natCast_nonneg c) (h₁:=by omega)]
  simpa using e
theorem ag3 {ky:IntKind} {pi qi:Int} (hx:ev l x=some (.int .i64 pi)) (hy:ev l y=some (.int ky qi)) (p c:Nat) (hpi:pi=(p:Int)) (hqi:qi=(c:Int))  (h1:c≤64):Hy P n w0 mu l hp ⟨dd,.binOp .shr t x y u,ty,pos,af,gg⟩ (.int .i64 ((p >>> c:Nat):Int)):=
 bF fun ac w hk _=>by
  subst hpi hqi
  simp only [execOp,hk.ev hx,hk.ev hy]
  have e:(p:Int) / 2 ^ ((c:Int).toNat)=((p >>> c:Nat):Int):=by rw [Nat.shiftRight_eq_div_pow];simp
  have hs:=shift_shr .i64 ky (p:Int) (c:Int) (Int.natCast_nonneg c) (by show (c:Int)≤64;omega)
  simp only [eqGuard_shr,binOp_shr,hs,e]
  simp
theorem CJ {ky:IntKind} {pi qi:Int} (hx:ev l x=some (.int .i64 pi)) (hy:ev l y=some (.int ky qi)) (p c:Nat) (hpi:pi=(p:Int)) (hqi:qi=(c:Int))  (h1:c≤64) (hb:p <<< c<9223372036854775808):Hy P n w0 mu l hp ⟨dd,.binOp .shl t x y u,ty,pos,af,gg⟩ (.int .i64 ((p <<< c:Nat):Int)):=
 bF fun ac w hk _=>by
  subst hpi hqi
  simp only [execOp,hk.ev hx,hk.ev hy]
  have e:IntKind.i64.wrap ((p:Int) * 2 ^ ((c:Int).toNat))=((p <<< c:Nat):Int):=by
   have h2:(p:Int) * 2 ^ ((c:Int).toNat)=((p <<< c:Nat):Int):=by rw [Nat.shiftLeft_eq];simp
   rw [h2,IntKind.wrap_i64]
   generalize p <<< c=z at hb
   omega
  have hs:=shift_shl .i64 ky (p:Int) (c:Int) (Int.natCast_nonneg c) (by show (c:Int)≤64;omega)
  simp only [eqGuard_shl,binOp_shl,hs,e]
  simp
theorem wu {k:IntKind} {pi qi:Int} (hx:ev l x=some (.int k pi)) (hy:ev l y=some (.int k qi)) (p q:Nat) (hpi:pi=(p:Int)) (hqi:qi=(q:Int))  (hq:0<q):Hy P n w0 mu l hp ⟨dd,.binOp .rem t x y u,ty,pos,af,gg⟩ (.int k ((p % q:Nat):Int)):=
 bF fun ac w hk _=>by
  subst hpi hqi
  have h1:(p:Int).tmod q=((p % q:Nat):Int):=by rw [Int.tmod_eq_emod_of_nonneg be5];simp
  have h2:¬ (q=0):=by omega
  simp only [execOp,hk.ev hx,hk.ev hy]
  simp [eqGuard_rem,binOp_rem,Op.intDiv,h1,h2]
theorem uj {pi qi:Int} (hx:ev l x=some (.int .i64 pi)) (hy:ev l y=some (.int .i64 qi)) (p q:Nat) (hpi:pi=(p:Int)) (hqi:qi=(q:Int))  (hq:0<q) (hb:p<9223372036854775808):Hy P n w0 mu l hp ⟨dd,.binOp .quo t x y u,ty,pos,af,gg⟩ (.int .i64 ((p / q:Nat):Int)):=
 bF fun ac w hk _=>by
  subst hpi hqi
  have h1:(p:Int).tdiv q=((p / q:Nat):Int):=by rw [Int.tdiv_eq_ediv_of_nonneg be5];simp
  have h2:¬ (q=0):=by omega
  have h3:p / q≤p:=Nat.div_le_self _ _
  have h4:IntKind.i64.wrap ((p / q:Nat):Int)=((p / q:Nat):Int):=by
   generalize p / q=z at h3
   rw [IntKind.wrap_i64];omega
  simp only [execOp,hk.ev hx,hk.ev hy]
  rw [show ((p / q:Nat):Int)=(p:Int) / (q:Int) by simp] at h4
  simp [eqGuard_quo,binOp_quo,Op.intDiv,h1,h2,h4]
end
section
variable {n : Nat} {w0 : World} {mu : List Nat} {l : Fm} {hp : Hp} {Q : Exit → Fm → Hp → Prop} {all : Array Oper} {rest : List Oper} {ty : TypeId} {pos : String} {af : Array Edge} {ds : List (Nat × Nat)} {tail : List Oper} {i : Nat} {iv fr : Fm}
theorem Qr {d j dj:Nat} {want b:Bool} {op:Op} {v:Value} (hj:(all[j]?).bind (·.dst)=some dj:=by rfl) (hb:look (aG ds iv af.toList++l) dj=some (.bool b):=by rfl) (hdj:Nat.blt dj n=true:=by rfl) (hlk:lk ds i=some d:=by rfl)
  (hy:iH b want=true→Hy Tryz.prog n w0 mu (aG ds iv af.toList++l) hp ⟨some d,op,ty,pos,af,some (j,want)⟩ v) (h:dG Tryz.prog n w0 mu all ds tail l hp Q (i + 1) rest ((i,gv (iH b want) v)::iv) ((d,gv (iH b want) v)::fr)):dG Tryz.prog n w0 mu all ds tail l hp Q i (⟨some d,op,ty,pos,af,some (j,want)⟩::rest) iv fr:=
 TZ hlk hj hb hdj hy h
theorem Xy {d j dj:Nat} {want b:Bool} {op:Op} {v:Value} (hj:(all[j]?).bind (·.dst)=some dj:=by rfl) (hb:look l dj=some (.bool b):=by rfl) (hdj:Nat.blt dj n=true:=by rfl) (hd:Nat.blt d n=true:=by rfl)
  (hy:iH b want=true→Hy Tryz.prog n w0 mu l hp ⟨some d,op,ty,pos,af,some (j,want)⟩ v) (h:Ops Tryz.prog n w0 mu all rest ((d,gv (iH b want) v)::l) hp Q):Ops Tryz.prog n w0 mu all (⟨some d,op,ty,pos,af,some (j,want)⟩::rest) l hp Q:=
 P6 hd hj hb hdj hy h
theorem ag4 {d j dj:Nat} {want c0 b:Bool} {op:Op} {v:Value} (hj:(all[j]?).bind (·.dst)=some dj:=by rfl) (hb:look l dj=some (gv c0 (.bool b)):=by rfl) (hdj:Nat.blt dj n=true:=by rfl) (hd:Nat.blt d n=true:=by rfl)
  (hy:c0=true→iH b want=true→Hy Tryz.prog n w0 mu l hp ⟨some d,op,ty,pos,af,some (j,want)⟩ v) (h:Ops Tryz.prog n w0 mu all rest ((d,gv (c0 && iH b want) v)::l) hp Q):Ops Tryz.prog n w0 mu all (⟨some d,op,ty,pos,af,some (j,want)⟩::rest) l hp Q:=
 BJ hd hj hb hdj hy h
end
section
variable {n : Nat} {w0 : World} {mu : List Nat} {l : Fm} {hp : Hp} {all : Array Oper} {ty : TypeId} {pos : String} {af : Array Edge} {ds : List (Nat × Nat)} {S E : List Nat} {iv : Fm} {Rs : List (Nat × RT)} {X : Fm → Prop} {Z : List (Nat × RT) → Prop} {i d : Nat}
theorem ag5 {j dj:Nat} {want b:Bool} {op:Op} {v:Value} (hy:∀ hx,iH b want=true→Hy Tryz.prog n w0 mu (aG ds iv af.toList++l) (hx++hp) ⟨some d,op,ty,pos,af,some (j,want)⟩ v) (h:je Tryz.prog n w0 mu all ds l hp X S ((i,gv (iH b want) v)::iv))
  (ho:all[i]?=some ⟨some d,op,ty,pos,af,some (j,want)⟩:=by rfl) (hj:(all[j]?).bind (·.dst)=some dj:=by rfl) (hb:look (aG ds iv af.toList++l) dj=some (.bool b):=by rfl) (hdj:Nat.blt dj n=true:=by rfl):je Tryz.prog n w0 mu all ds l hp X (i::S) iv:=
 ⟨_,_,ho,fun hx=>⟨dj,true,b,v,hj,hb,hdj,fun _ hg=>hy hx hg,rfl⟩,h⟩
theorem eBS {t len e sz:Nat} {z:Value} {ps:List (Nat × Operand)} {vs:List (Nat × Value)} {zl:List Value} {out:Array Value} (out':List Value) (h:iI Tryz.prog n w0 mu all ds l hp iv Z E ((i,fun v hn=>∃ b,v=.slice (some ⟨b,0,none⟩) len len∧hn=[⟨b,out'.toArray,e⟩])::Rs)) (ho:all[i]?=some ⟨some d,.buildSlice t len ps.toArray,ty,pos,af,none⟩:=by rfl) (ht:lk Tb.sl t=some (e,sz):=by rfl) (hz:lk Tb.zs e=some z:=by rfl) (hzc:z.cells=zl.toArray:=by (first | ((simp only [Value.cells])<;>rfl) | rfl)) (hzs:Nat.beq zl.length sz=true:=by rfl) (hpos:(Nat.blt 0 (len * sz) && Nat.ble (len * sz) 16777216)=true:=by rfl) (hv:Ee (aG ds iv af.toList++l) ps=some vs:=by rfl) (hf:Z8 sz (rep zl len).toArray vs=some out:=by rfl) (hn:out=out'.toArray:=by rfl):iI Tryz.prog n w0 mu all ds l hp iv Z (i::E) Rs:=
 IY ho (yX ay ht hz hzc hzs hpos hv hf hn) ⟨_,_,0,rfl,rfl⟩ h
end
end
section
def isQ:Op→Bool
 | .assign _=>true
 | .move _=>true
 | _=>false
def Gx (ops:Array Oper) (k i:Nat):Bool:=
 match ops[k]?,ops[i]? with
 | some ok,some oi=>
  !Nat.beq i k && ok.guard.isNone && isQ ok.op && (oi.after.all fun e=>!Region.binds .any e || mem (BZ ops k (deps ops k)) e.on) &&
   (List.range ops.size).all fun t=>Nat.beq t k || mem (BZ ops k (deps ops k)) t || (Region.waitsFor .any ops t k && Region.waitsFor .any ops t i) ||
    (match ops[t]? with | some ot=>Uk ot.op && ok.apart ops ot && !Region.waitsFor .any ops t k | none=>false)
 | _,_=>false
section
variable {P : Program} {ops : Array Oper} {Q' : Exit → Act → World → Prop} {k i : Nat} {listed : Array Bool}
theorem Qs {j:Nat} {oi oj:Oper} {v:Value} (hj:ops[j]?=some oj) (hap:oi.apart ops oj=true) (hsi:∀ cs b,oi.op ≠ .select cs b) (hsj:∀ cs b,oj.op ≠ .select cs b)
  (hP:∀ c a w,¬ Q' (.panic c) a w) (hO:¬ LetsOut Q') {K K2:Act→World→Prop} {a:Act} {w:World}
  (hy:Yields P ops oi v a) (h:wpOp P ops Q' j K a w) (hK:∀ a' w',Yields P ops oi v a'→K a' w'→K2 (a'.put oi.dst v) w'):wpOp P ops Q' j K2 (a.put oi.dst v) w:=by
 obtain ⟨h1,h2,h3⟩:=Oper.apart_spec hap
 have keep:∀ (a:Act),Yields P ops oi v a→∀ u,Yields P ops oi v (a.put oj.dst u):=fun a hy u=>
  hy.of_same (execOp_put oi hsi a oj.dst u h3) (wanted_put oi a oj.dst u h3)
 have keepD:∀ d,Yields P ops oi v { a with defers:=d::a.defers }:=fun d=>hy.of_same rfl rfl
 unfold wpOp at *
 simp only [hj] at *
 rw [wanted_put oj a oi.dst v h1]
 split
 ·rename_i hw
  simp only [hw,if_true] at h
  rcases h with h | ⟨hasks,hlets⟩
  case inr=>exact absurd hlets hO
  refine .inl ?_
  unfold Oper.wp at *
  rw [execOp_put oj hsj a oi.dst v h1]
  generalize (execOp a.eval oj).run P w=r at *
  cases r with
  | ok n w'=>
   cases n<;>simp only [Oper.upon] at h ⊢
   case value u=>rw [Act.put_comm a v u h2];exact hK _ _ (keep a hy u) h
   case skip=>rw [Act.put_comm a v undef h2];exact hK _ _ (keep a hy _) h
   case defer d=>
    have:=hK _ _ (keep _ (keepD d) undef) h
    rw [← Act.put_comm _ v undef h2,← Act.put_defers] at this
    exact this
   case enter f args=>
    refine Calls.mono h fun e w'' he=>?_
    cases e with
    | returned u=>
     show K2 ((a.put oi.dst v).put oj.dst u) w''
     rw [Act.put_comm a v u h2];exact hK _ _ (keep a hy u) he
    | panicked c=>exact absurd he (hP _ _ _)
    | outgrown=>exact he
   case row row args=>exact Rows.mono h fun u w'' he=>by rw [Act.put_comm a v u h2];exact hK _ _ (keep a hy u) he
  | halt x w'=>
   cases x<;>simp only [Oper.upon] at h ⊢
   case panic u=>exact absurd h (hP _ _ _)
 ·rename_i hw
  simp only [hw] at h
  rw [Act.put_comm a v undef h2]
  exact hK _ _ (keep a hy _) h
def Unl (listed:Array Bool) (n:Nat):Prop:=∀ T:List Nat,T.Nodup→(∀ t∈T,listed.getD t true=false)→T.length≤n
theorem Unl.set {n j:Nat} (h:Unl listed (n + 1)) (hj:listed.getD j true=false) (hs:j<listed.size):Unl (listed.setIfInBounds j true) n:=by
 intro T hT hu
 have hjT:j ∉ T:=fun hm=>by have:=hu j hm;simp [hs] at this
 have:=h (j::T) (List.nodup_cons.2 ⟨hjT,hT⟩) (fun t ht=>by
  rcases List.mem_cons.1 ht with rfl | ht
  ·exact hj
  ·have h1:=hu t ht
   rwa [getD_set_ne true (show j ≠ t from fun e=>hjT (by rw [e];exact ht))] at h1)
 simpa using this
theorem UJ:∀ (n:Nat) (T:List Nat),T.Nodup→(∀ t∈T,t<n)→T.length≤n:=by
 intro n
 induction n with
 | zero=>
  intro T hT hl
  cases T with
  | nil=>exact Nat.le_refl _
  | cons a r=>exact absurd (hl a (List.mem_cons_self ..)) be5
 | succ n ih=>
  intro T hT hl
  by_cases hn:n∈T
  ·have h1:=ih (T.erase n) (hT.erase n) fun t ht=>by
    have h2:=(hT.mem_erase_iff).1 ht
    have h3:=hl t h2.2
    have h4:=h2.1
    omega
   rw [List.length_erase_of_mem hn] at h1
   omega
  ·have:=ih T hT fun t ht=>by
    have h3:=hl t ht
    have h4:t ≠ n:=fun e=>hn (by rw [← e];exact ht)
    omega
   omega
theorem Jd {t k:Nat} {o:Oper} {e:Edge} (ho:ops[t]?=some o) (he:e∈o.after) (hb:Region.binds .any e=true) (hek:e.on=k):Region.waitsFor .any ops t k=true:=by
 unfold Region.waitsFor
 rw [ho]
 exact Array.any_eq_true'.2 ⟨e,he,by simp [hb,hek]⟩
theorem LC {t k:Nat} (ht:t∈Region.ready .any ops (listed.setIfInBounds k true)) (hk:t ≠ k) (hw:Region.waitsFor .any ops t k=false):t∈Region.ready .any ops listed:=by
 obtain ⟨h0,o,ho,ha⟩:=mem_ready.1 ht
 refine mem_ready.2 ⟨by rwa [getD_set_ne true (Ne.symm hk)] at h0,o,ho,fun e he hb=>?_⟩
 have h1:=ha e he hb
 by_cases hek:e.on=k
 ·exfalso
  have:Region.waitsFor .any ops t k=true:=Jd ho he hb hek
  rw [hw] at this;cases this
 ·rwa [getD_set_ne false (Ne.symm hek)] at h1
theorem LD (hB:Gx ops k i=true) (hP:∀ c a w,¬ Q' (.panic c) a w) (hO:¬ LetsOut Q'):
  ∀ (fuel:Nat) (listed:Array Bool) (a:Act) (w:World),listed.size=ops.size→Closed ops listed→Unl listed fuel→wpAny P .any (addEdge ops k i) Q' fuel listed a w→wpAny P .any ops Q' fuel listed a w:=by
 unfold Gx at hB
 cases hok:ops[k]? with
 | none=>rw [hok] at hB;cases hB
 | some ok=>
  cases hoi:ops[i]? with
  | none=>rw [hok,hoi] at hB;cases hB
  | some oi=>
   rw [hok,hoi] at hB
   simp only [Bool.and_eq_true] at hB
   obtain ⟨⟨⟨⟨hne,hgu⟩,hq⟩,af4⟩,hall⟩:=hB
   have hik:i ≠ k:=fun e=>by rw [e] at hne;simp at hne
   have Yk:ok.guard=none:=by simpa using hgu
   have his:i<ops.size:=(Array.getElem?_eq_some_iff.1 hoi).1
   have hks:k<ops.size:=(Array.getElem?_eq_some_iff.1 hok).1
   have aC9:∀ cs b,ok.op ≠ .select cs b:=fun cs b e=>by rw [e] at hq;cases hq
   have hqy:∀ a:Act,∃ u,Yields P ops ok u a:=fun a=>by
    obtain ⟨d,op,ty,pos,af,gu⟩:=ok
    simp only at Yk
    subst Yk
    cases op<;>simp only [isQ,Bool.false_eq_true] at hq
    ·exact ⟨_,.inl ⟨by simp [Region.wanted],fun w=>by simp [execOp];rfl⟩⟩
    ·exact ⟨_,.inl ⟨by simp [Region.wanted],fun w=>by simp [execOp];rfl⟩⟩
   have hqk:∀ {u:Value} {a:Act} {w:World} {K:Act→World→Prop},Yields P ops ok u a→wpOp P ops Q' k K a w→K (a.put ok.dst u) w:=by
    intro u a w K hy h
    unfold wpOp at h
    simp only [hok] at h
    rcases hy with ⟨hw,hv⟩ | ⟨hw,rfl⟩
    ·simp only [hw,if_true] at h
     rcases h with h | ⟨_,h⟩
     ·simp only [Oper.wp,hv w,Oper.upon] at h;exact h
     ·exact absurd h hO
    ·simp only [hw,Bool.false_eq_true,if_false] at h;exact h
   have Gq:∀ listed:Array Bool,listed.size=ops.size→Closed ops listed→k∈Region.ready .any ops listed→listed.getD i true=false→i∈Region.ready .any ops listed:=by
    intro listed hsz hcl hr hi
    refine mem_ready.2 ⟨hi,oi,hoi,fun e he hb=>?_⟩
    have h1:=(Array.all_eq_true_iff_forall_mem.1 af4) e he
    rw [hb] at h1
    exact uQ hcl hr _ (by simpa using h1)
   have qg:∀ listed:Array Bool,listed.size=ops.size→k∈Region.ready .any ops listed→listed.getD i true=true→k∈Region.ready .any (addEdge ops k i) listed:=by
    intro listed hsz hk hi
    refine og hk ?_
    cases hc:listed.getD i false with
    | true=>rfl
    | false=>rw [getD_in be5 hc] at hi;cases hi
   have claim:∀ (m:Nat) (IH:∀ f,f≤m→∀ (listed:Array Bool) (a:Act) (w:World),listed.size=ops.size→Closed ops listed→Unl listed f→wpAny P .any (addEdge ops k i) Q' f listed a w→wpAny P .any ops Q' f listed a w)
     (listed:Array Bool) (a:Act) (w:World) (u:Value),listed.size=ops.size→Closed ops listed→Unl listed (m + 1)→k∈Region.ready .any ops listed→Yields P ops ok u a→wpAny P .any (addEdge ops k i) Q' (m + 1) listed a w→wpAny P .any ops Q' m (listed.setIfInBounds k true) (a.put ok.dst u) w:=by
    intro m
    induction m with
    | zero=>
     intro IH listed a w u hsz hcl hun hk hy h
     have hk0:=(mem_ready.1 hk).1
     cases hi:listed.getD i true with
     | true=>
      have h1:=hqk hy (lU (h.2 k (qg listed hsz hk hi)))
      exact IH 0 (Nat.le_refl _) _ _ _ bj' (hcl.set hk) (hun.set hk0 be5) h1
     | false=>
      have:=hun [k,i] (by simp [Ne.symm hik]) (by intro t ht;simp only [List.mem_cons,List.mem_nil_iff,or_false] at ht;rcases ht with rfl | rfl;exact hk0;exact hi)
      simp at this
    | succ m ih=>
     intro IH listed a w u hsz hcl hun hk hy h
     have hk0:=(mem_ready.1 hk).1
     have direct:listed.getD i true=true→wpAny P .any ops Q' (m + 1) (listed.setIfInBounds k true) (a.put ok.dst u) w:=fun hi=>by
      have h1:=hqk hy (lU (h.2 k (qg listed hsz hk hi)))
      exact IH (m + 1) (Nat.le_refl _) _ _ _ bj' (hcl.set hk) (hun.set hk0 be5) h1
     refine ⟨fun hnil=>?_,fun t ht=>?_⟩
     ·cases hi:listed.getD i true with
      | true=>exact (direct hi).1 hnil
      | false=>
       have:=ready_mono (Gq listed hsz hcl hk hi) hik
       rw [hnil] at this;cases this
     ·have ht0:=(mem_ready.1 ht)
      obtain ⟨hl0,ot,hot,hat⟩:=ht0
      have htk:t ≠ k:=fun e=>by subst e;simp [hsz,hks] at hl0
      have hts:t<ops.size:=(Array.getElem?_eq_some_iff.1 hot).1
      have h2:=List.all_eq_true.1 hall t (List.mem_range.2 hts)
      simp only [Bool.or_eq_true,Bool.and_eq_true,Nat.beq_eq] at h2
      rcases h2 with ((h2 | h2) | h2) | h2
      ·exact absurd h2 htk
      ·exfalso
       have h3:=uQ hcl hk t h2
       rw [getD_set_ne true (Ne.symm htk)] at hl0
       rw [qO hl0 be5 false] at h3
       cases h3
      ·have h3:=Um hot ht h2.2
       rw [getD_set_ne false (Ne.symm hik)] at h3
       have hi:listed.getD i true=true:=by
        cases hc:listed.getD i true with
        | true=>rfl
        | false=>rw [qO hc be5 false] at h3;cases h3
       exact (direct hi).2 t ht
      ·rw [hot] at h2
       simp only [Bool.and_eq_true,Bool.not_eq_true'] at h2
       obtain ⟨⟨hns,hap⟩,hnw⟩:=h2
       have htr:=LC ht htk hnw
       have h4:=lU (h.2 t (jf htk htr))
       refine Qs hot hap aC9 (I4 hns) hP hO hy h4 fun a' w' hy' h5=>?_
       have h6:=ih (fun f hf=>IH f be5) (listed.setIfInBounds t true) a' w' u bj' (hcl.set htr) (hun.set (mem_ready.1 htr).1 be5) (ready_mono hk (Ne.symm htk)) hy' h5
       rwa [Array.setIfInBounds_comm _ _ htk] at h6
   intro fuel
   induction fuel using Nat.strongRecOn with
   | ind fuel ih=>
   cases fuel with
   | zero=>
    intro listed a w hsz hcl hun h
    refine ⟨?_,h.2⟩
    rw [List.eq_nil_iff_forall_not_mem]
    intro j hj
    have:=hun [j] be7 (by intro t ht;rw [List.mem_singleton.1 ht];exact (mem_ready.1 hj).1)
    simp at this
   | succ fuel=>
    intro listed a w hsz hcl hun h
    refine ⟨fun hnil=>h.1 ?_,fun j hj=>?_⟩
    ·rw [List.eq_nil_iff_forall_not_mem]
     intro t ht
     have:=Cc ht
     rw [hnil] at this;cases this
    ·by_cases hin:j∈Region.ready .any (addEdge ops k i) listed
     ·exact wpOp_mono (fun a w h=>ih fuel be5 _ a w bj' (hcl.set hj) (hun.set (mem_ready.1 hj).1 (by rw [hsz];obtain ⟨_,o,ho,_⟩:=mem_ready.1 hj;exact (Array.getElem?_eq_some_iff.1 ho).1)) h) (lU (h.2 j hin))
     ·have hjk:j=k:=Classical.byContradiction fun hc=>hin (jf hc hj)
      subst hjk
      obtain ⟨u,hy⟩:=hqy a
      exact hy.wpOp hok (claim fuel (fun f hf=>ih f be5) listed a w u hsz hcl hun hj hy h)
theorem UK {P:Program} {n:Nat} {w0:World} {mu:List Nat} {l:Fm} {hp:Hp} {Q:Exit→Fm→Hp→Prop} {ops ops':Array Oper} (k i:Nat) (hB:Gx ops k i=true) (he:addEdge ops k i=ops') (h:jV P n w0 mu ops' l hp (Uj Q)):jV P n w0 mu ops l hp (Uj Q):=by
 subst he
 intro a w hk hG
 have:=h a w hk hG
 rw [xE] at this
 refine LD hB ?_ ?_ _ _ _ _ be7 (fun j oj _ hl=>by rw [getD_replicate_false] at hl;cases hl) ?_ this
 ·rintro c a w ⟨l,hp,_,_,h⟩;exact h
 ·rintro ⟨a,w,l,hp,_,_,h⟩;exact h
 ·intro T hT hu
  refine UJ _ T hT fun t ht=>?_
  have:=hu t ht
  rcases Nat.lt_or_ge t ops.size with h | h
  ·exact h
  ·rw [Array.getD_eq_getD_getElem?,Array.getElem?_eq_none (by simpa using h)] at this
   simp at this
end
section
variable {n : Nat} {w0 : World} {mu : List Nat} {l : Fm} {hp : Hp} {Q : Exit → Fm → Hp → Prop}
def drop1 (k:Nat):Fm→Fm
 | []=>[]
 | p::r=>if p.1=k then drop1 k r else p::drop1 k r
theorem LG (k:Nat):∀ (l:Fm) (t:Nat) (v:Value),look (drop1 k l) t=some v→look l t=some v:=by
 intro l
 induction l with
 | nil=>intro t v h;exact h
 | cons p r ih=>
  obtain ⟨j,u⟩:=p
  intro t v h
  have key:∀ t v,look (drop1 k r) t=some v→t ≠ k:=by
   intro t v
   clear h ih
   induction r with
   | nil=>intro h;cases h
   | cons p r ih=>
    obtain ⟨j,u⟩:=p
    intro h
    unfold drop1 at h
    by_cases hj:j=k
    ·rw [if_pos hj] at h;exact ih h
    ·rw [if_neg hj] at h
     simp only [look] at h
     cases hb:Nat.beq j t with
     | true=>have:=Nat.eq_of_beq_eq_true hb;omega
     | false=>rw [hb] at h;exact ih h
  unfold drop1 at h
  by_cases hj:j=k
  ·rw [if_pos hj] at h
   have hne:=key t v h
   simp only [look]
   have hb:Nat.beq j t=false:=by
    cases hb:Nat.beq j t with
    | true=>have:=Nat.eq_of_beq_eq_true hb;omega
    | false=>rfl
   rw [hb]
   exact ih t v h
  ·rw [if_neg hj] at h
   simp only [look] at h ⊢
   cases hb:Nat.beq j t with
   | true=>rw [hb] at h;exact h
   | false=>rw [hb] at h;exact ih t v h
theorem as3 {c:Code} (k:Nat) {l':Fm} (h:St Tryz.prog n w0 mu c l' hp Q) (hl:drop1 k l=l':=by (simp only [drop1,wY,List.cons_append,List.nil_append,Nat.reduceEqDiff,Nat.reduceAdd,Nat.zero_add,reduceIte,if_true,if_false];rfl)):St Tryz.prog n w0 mu c l hp Q:=by
 subst hl
 intro a w hk hG
 exact h a w ⟨hk.size,hk.defers,fun t v ht=>hk.has t v (LG k l t v ht)⟩ hG
theorem UL {ops ops':List Oper} (k i:Nat) (h:jV Tryz.prog n w0 mu ops'.toArray l hp (Uj Q)) (he:addEdge ops.toArray k i=ops'.toArray:=by (simp only [addEdge,List.modify_toArray,List.modify_succ_cons,List.modify_zero_cons,List.push_toArray,List.cons_append,List.nil_append];rfl)) (hB:Gx ops.toArray k i=true:=by kernel_rfl):jV Tryz.prog n w0 mu ops.toArray l hp (Uj Q):=UK k i hB he h
end
end
section
def gY (P:Program) (n:Nat) (w0:World) (mu:List Nat) (all:Array Oper) (ds:List (Nat × Nat)) (l:Fm) (h0:Hp) (aH:Fm) (X:Fm→Hp→Prop):List Nat→Fm→Hp→Prop
 | [],aS,h=>X aS h
 | i::r,aS,h=>∃ o,all[i]?=some o∧((o.dst.isSome=true∧∃ R:RT,zI P n w0 mu all (aG ds (aS++aH) o.after.toList++l) h o R∧∀ v hn,R v hn→gY P n w0 mu all ds l h0 aH X r ((i,v)::aS) (hn++h)) ∨
   (o.dst=none∧∃ h',HyS P n w0 mu (aG ds (aS++aH) o.after.toList++l) h o h'∧aC h0 h'∧gY P n w0 mu all ds l h0 aH X r aS h'))
def DS (P:Program) (n:Nat) (w0:World) (mu:List Nat) (all:Array Oper) (ds:List (Nat × Nat)) (l:Fm) (h0 hp:Hp) (t0:Nat) (X:Fm→Prop):List Nat→Fm→Prop
 | [],iv=>X iv
 | i::S,iv=>∃ o v,all[i]?=some o∧(∀ hx,sQ P n w0 mu all (aG ds iv o.after.toList++l) (bif Region.waitsFor .any all t0 i then hx++hp else hx++h0) o v)∧DS P n w0 mu all ds l h0 hp t0 X S ((i,v)::iv)
def rQ (all:Array Oper):List Nat→Bool
 | i::j::r=>Region.waitsFor .any all j i && rQ all (j::r)
 | _=>true
def uk (ops:Array Oper) (k n:Nat):Bool:=
 (List.range k).all fun i=>(match aY ops i with | some d=>Nat.blt d n | none=>true) && (List.range k).all fun j=>Nat.beq i j || (match aY ops i,aY ops j with | some a,some b=>!Nat.beq a b | _,_=>true)
def qW (k:Nat) (S C:List Nat):Bool:=decide ((S++C).Nodup) && (S++C).all (fun i=>Nat.blt i k) && (List.range k).all fun i=>mem (S++C) i
def rU (ops:Array Oper) (k:Nat):Bool:=
 decide (k=ops.size) || (decide (k<ops.size) && Region.sinkB .any ops k && Region.chainB .any ops k && Region.seqB .any ops (ops.size - k) k ((Array.replicate k true)++(Array.replicate (ops.size - k) false)))
def LH (ops:Array Oper) (n k t0:Nat) (S C:List Nat):Bool:=
 uk ops k n && nR ops && qW k S C && rQ ops C && rU ops k && (List.range k).all fun i=>(aY ops i).isSome || Nat.beq i t0 || Region.waitsFor .any ops i t0
structure qX (n:Nat) (w0:World) (mu:List Nat) (all:Array Oper) (l aH aS:Fm) (h:Hp) (listed:Array Bool) (a:Act) (w:World):Prop where
 size:a.tmps.size=n
 defers:a.defers=[]
 has:∀ t v,look l t=some v→a.tmps.getD t undef=v
 good:Good w0 mu h w
 rV:∀ i v,lk aH i=some v→listed.getD i false=true→∀ d,aY all i=some d→a.tmps.getD d undef=v
 mX:∀ i v,(i,v)∈aS→listed.getD i false=true∧∀ d,aY all i=some d→a.tmps.getD d undef=v
theorem wz {all:Array Oper}:∀ {c:Nat} {r:List Nat} {i:Nat},rQ all (c::r)=true→i∈r→∃ p,p∈c::r∧p ≠ i∧Region.waitsFor .any all i p=true∨i∈c::r∧False∨∃ p∈c::r,Region.waitsFor .any all i p=true:=by
 intro c r
 induction r generalizing c with
 | nil=>intro i _ h;cases h
 | cons j r ih=>
  intro i h hi
  simp only [rQ,Bool.and_eq_true] at h
  rcases List.mem_cons.1 hi with rfl | hi
  ·exact ⟨c,.inr (.inr ⟨c,List.mem_cons_self ..,h.1⟩)⟩
  ·obtain ⟨p,hp⟩:=ih h.2 hi
   rcases hp with ⟨_,_,h3⟩ | ⟨_,h3⟩ | ⟨p,h1,h2⟩
   ·exact ⟨p,.inr (.inr ⟨p,List.mem_cons_of_mem _ ‹_›,h3⟩)⟩
   ·exact h3.elim
   ·exact ⟨p,.inr (.inr ⟨p,List.mem_cons_of_mem _ h1,h2⟩)⟩
section
variable {P : Program} {n : Nat} {w0 : World} {mu : List Nat} {l : Fm} {h0 hp : Hp} {Q : Exit → Fm → Hp → Prop} {all : Array Oper} {aH : Fm} {k t0 : Nat} {ds : List (Nat × Nat)}
theorem Yx (hd:uk all k n=true) {i d:Nat} (hi:i<k) (h:aY all i=some d):d<n:=by
 have:=List.all_eq_true.1 hd i (List.mem_range.2 hi)
 rw [Bool.and_eq_true,h] at this
 simpa using this.1
theorem Yy (hd:uk all k n=true) {i j a b:Nat} (hi:i<k) (hj:j<k) (hij:i ≠ j) (h1:aY all i=some a) (h2:aY all j=some b):a ≠ b:=by
 have:=List.all_eq_true.1 hd i (List.mem_range.2 hi)
 rw [Bool.and_eq_true] at this
 have:=List.all_eq_true.1 this.2 j (List.mem_range.2 hj)
 rw [h1,h2,Bool.or_eq_true] at this
 rcases this with h | h
 ·exact absurd (Nat.eq_of_beq_eq_true h) hij
 ·intro e;subst e;simp at h
theorem kZ {aS Qu:Fm} {h h':Hp} {listed:Array Bool} {a:Act} {w w':World} {i:Nat} {o:Oper} {v:Value} (hm:qX n w0 mu all l aH aS h listed a w) (ho:all[i]?=some o) (hi:i<k) (hun:listed.getD i true=false) (hs:i<listed.size)
  (hd:uk all k n=true) (hf:bI l (dstsOf all k)=true) (hG:Good w0 mu h' w') (hSk:∀ j v,lk aH j=some v→j<k) (hEk:∀ j v,(j,v)∈aS→j<k)
  (hv:(lk aH i=some v∧Qu=aS)∨(lk aH i=none∧Qu=(i,v)::aS)):qX n w0 mu all l aH Qu h' (listed.setIfInBounds i true) (a.put o.dst v) w':=by
 have hod:aY all i=o.dst:=by simp [aY,ho]
 have hput:∀ t,(∀ d,o.dst=some d→t ≠ d)→(a.put o.dst v).tmps.getD t undef=a.tmps.getD t undef:=by
  intro t ht
  cases hdd:o.dst with
  | none=>rfl
  | some d=>simp [Act.put,Array.getElem?_setIfInBounds_ne (Ne.symm (ht d hdd))]
 have hself:∀ d,o.dst=some d→(a.put o.dst v).tmps.getD d undef=v:=by
  intro d hdd
  have:=Yx hd hi (hod.trans hdd)
  rw [hdd]
  simp [Act.put,hm.size,this]
 have hother:∀ j d,j<k→j ≠ i→aY all j=some d→(a.put o.dst v).tmps.getD d undef=a.tmps.getD d undef:=fun j d hj hji hdj=>hput d fun d' hd'=>Yy hd hj hi hji hdj (hod.trans hd')
 refine ⟨?_,?_,fun t u hu=>?_,hG,fun j u hj hl d hdj=>?_,fun j u hj=>?_⟩
 ·cases o.dst<;>simpa [Act.put] using hm.size
 ·cases o.dst<;>exact hm.defers
 ·rw [hput t fun d hdd e=>?_]
  ·exact hm.has t u hu
  ·subst e
   have:=BO _ hf (List.mem_map.2 ⟨i,List.mem_range.2 hi,hod.trans hdd⟩)
   rw [this] at hu;cases hu
 ·by_cases hji:j=i
  ·subst hji
   rcases hv with ⟨h1,_⟩ | ⟨h1,_⟩
   ·rw [h1] at hj;cases hj
    exact hself d (hod▸hdj)
   ·rw [h1] at hj;cases hj
  ·rw [hother j d (hSk j u hj) hji hdj]
   exact hm.rV j u hj (by rwa [getD_set_ne false (Ne.symm hji)] at hl) d hdj
 ·have hold:(j,u)∈aS→(listed.setIfInBounds i true).getD j false=true∧∀ d,aY all j=some d→(a.put o.dst v).tmps.getD d undef=u:=fun hj=>by
   have h1:=hm.mX j u hj
   have hji:j ≠ i:=fun e=>by subst e;rw [getD_both hun] at h1;cases h1.1
   exact ⟨getD_set_true h1.1,fun d hdj=>by rw [hother j d (hEk j u hj) hji hdj];exact h1.2 d hdj⟩
  rcases hv with ⟨_,rfl⟩ | ⟨_,rfl⟩
  ·exact hold hj
  ·rcases List.mem_cons.1 hj with hj | hj
   ·cases hj
    exact ⟨by simp [hs],fun d hdj=>hself d (hod▸hdj)⟩
   ·exact hold hj
theorem jD (hds:∀ k d,lk ds k=some d→aY all k=some d) {bK aS:Fm} {h:Hp} {listed:Array Bool} {a:Act} {w:World} {o:Oper} (hm:qX n w0 mu all l aH aS h listed a w) (hiv:∀ j u,look bK j=some u→lk aS j=some u∨lk aH j=some u)
  (hl:∀ e∈o.after,Region.binds .any e=true→listed.getD e.on false=true):Knows n (aG ds bK o.after.toList++l) a:=by
 refine ⟨hm.size,hm.defers,fun t v h=>?_⟩
 rcases eX h with h | ⟨_,h⟩
 ·obtain ⟨e,he,h1,h2,h3⟩:=yO (gK h)
  rcases hiv _ _ h3 with h4 | h4
  ·exact (hm.mX _ _ (iK h4)).2 t (hds _ _ h2)
  ·exact hm.rV _ _ h4 (hl e (by simpa using he) h1) t (hds _ _ h2)
 ·exact hm.has t v h
theorem Gy {α:Type}:∀ (a b:List (Nat × α)) (i:Nat),lk (a++b) i=match lk a i with | some v=>some v | none=>lk b i:=by
 intro a
 induction a with
 | nil=>intro b i;rfl
 | cons p r ih=>
  intro b i
  obtain ⟨j,v⟩:=p
  rw [List.cons_append,bT,bT,ih]
  by_cases h:j=i
  ·subst h;simp
  ·simp [h]
theorem ET (hds:∀ k d,lk ds k=some d→aY all k=some d) {g:Nat} {Q':Exit→Act→World→Prop} {X:Fm→Hp→Prop} (hk:k≤all.size) (hd:uk all k n=true) (hf:bI l (dstsOf all k)=true) (hback:nR all=true) (hle0:aC h0 hp)
  (wB:∀ i,i<k→aY all i=none→i=t0∨Region.waitsFor .any all i t0=true)
  (hS:∀ i v,lk aH i=some v→i<k∧∃ o bK,all[i]?=some o∧nH bK aH∧∀ hx,sQ P n w0 mu all (aG ds bK o.after.toList++l) (bif Region.waitsFor .any all t0 i then hx++hp else hx++h0) o v)
  (htail:∀ aS h listed,HeadInv .any all k listed→(∀ i,i<k→listed.getD i true=true)→X aS h→∀ a w,qX n w0 mu all l aH aS h listed a w→(∀ i v,(i,v)∈aS→i<k)→wpAny P .any all Q' g listed a w)
  (lQ:∀ listed,HeadInv .any all k listed→∀ i,i<k→listed.getD i true=false→∀ t,k≤t→t ∉ Region.ready .any all listed):
  ∀ f r aS h listed a w,leftOf k listed=f→HeadInv .any all k listed→qX n w0 mu all l aH aS h listed a w→(∀ i v,(i,v)∈aS→i<k)→(∀ i∈r,i<k∧listed.getD i true=false∧lk aH i=none)→r.Nodup→rQ all r=true→(∀ i,i<k→listed.getD i true=false→(∃ v,lk aH i=some v)∨i∈r) →
   aC h0 h→(listed.getD t0 false=false→aC hp h)→gY P n w0 mu all ds l h0 aH X r aS h→wpAny P .any all Q' (f + g) listed a w:=by
 intro f
 induction f with
 | zero=>
  intro r aS h listed a w hlf inv hm hEk hr hnd dH hcov hle pR hD
  have hall:∀ i,i<k→listed.getD i true=true:=by
   intro i hi
   cases hc:listed.getD i true with
   | true=>rfl
   | false=>
    exfalso
    have:i∈(List.range k).filter fun i=>!listed.getD i true:=List.mem_filter.2 ⟨List.mem_range.2 hi,by simp only [hc,Bool.not_false]⟩
    have h2:=List.length_pos_of_mem this
    unfold leftOf at hlf
    omega
  cases r with
  | nil=>
   rw [Nat.zero_add]
   exact htail aS h listed inv hall hD a w hm hEk
  | cons c r=>
   have h1:=hr c (List.mem_cons_self ..)
   rw [hall c h1.1] at h1
   exact absurd h1.2.1 be6
 | succ f ih=>
  intro r aS h listed a w hlf inv hm hEk hr hnd dH hcov hle pR hD
  rw [show f + 1 + g=(f + g) + 1 by omega]
  have hex:∃ i,i<k∧listed.getD i true=false:=by
   have h2:0<leftOf k listed:=by omega
   obtain ⟨i,hi⟩:=List.exists_mem_of_length_pos h2
   rw [List.mem_filter] at hi
   exact ⟨i,List.mem_range.1 hi.1,by simpa using hi.2⟩
  obtain ⟨i0,nG,hi0⟩:=hex
  refine ⟨fun hnil=>?_,fun i hi=>?_⟩
  ·exfalso
   obtain ⟨i,⟨hik,hil⟩,hmin⟩:=exists_least (p:=fun i=>i<k∧listed.getD i true=false) ⟨i0,nG,hi0⟩
   have hr:i∈Region.ready .any all listed:=by
    rw [mem_ready]
    have hs:i<all.size:=by omega
    refine ⟨hil,all[i],by simp [hs],fun e he hb=>?_⟩
    have hb2:=List.all_eq_true.1 hback i (List.mem_range.2 hs)
    simp only [Array.getElem?_eq_getElem hs] at hb2
    have hb3:=(Array.all_eq_true_iff_forall_mem.1 hb2) e he
    simp only [hb,Bool.not_true,Bool.false_or,Nat.blt_eq] at hb3
    cases hc:listed.getD e.on false with
    | true=>rfl
    | false=>
     have h5:=hmin e.on ⟨by omega,getD_in bf1 hc⟩
     omega
   rw [hnil] at hr;cases hr
  ·have hik:i<k:=by
    rcases Nat.lt_or_ge i k with h | h
    ·exact h
    ·exact absurd hi (lQ listed inv i0 nG hi0 i h)
   obtain ⟨hun,o,ho,hall⟩:=mem_ready.1 hi
   have hsz:i<listed.size:=by rw [inv.size];omega
   have pM:listed.getD i false=false:=getD_both hun
   have hleft:leftOf k (listed.setIfInBounds i true)=f:=by have:=kT hik bf1 hun;omega
   have hwl:∀ t,Region.waitsFor .any all i t=true→listed.getD t false=true:=fun t ht=>by
    obtain ⟨oj,h6,e,he,hb,heq⟩:=Region.waitsFor_spec ht
    rw [ho] at h6;cases h6
    rw [← heq];exact hall e he hb
   unfold wpOp
   simp only [ho]
   cases vK:lk aH i with
   | some v=>
    obtain ⟨_,o',bK,ho',hmo,hy⟩:=hS i v vK
    rw [ho] at ho';cases ho'
    have hkn:=jD (o:=o) hds hm (bK:=bK) (fun j u hu=>.inr (hmo j u bf9)) hall
    have hir:i ∉ r:=fun hm'=>by rw [(hr i hm').2.2] at vK;cases vK
    have hnext:∀ w',Good w0 mu h w'→wpAny P .any all Q' (f + g) (listed.setIfInBounds i true) (a.put o.dst v) w':=fun w' hG'=>by
     refine ih r aS h _ _ _ hleft (inv.set hi hik) (kZ hm ho hik hun hsz hd hf hG' (fun j u hu=>(hS j u hu).1) hEk (.inl ⟨vK,rfl⟩)) hEk (fun j hj=>?_) hnd dH (fun j hj hl=>?_) hle (fun ht=>?_) hD
     ·have hji:i ≠ j:=fun e=>hir (e▸hj)
      exact ⟨(hr j hj).1,by rw [getD_set_ne true hji];exact (hr j hj).2.1,(hr j hj).2.2⟩
     ·refine hcov j hj ?_
      by_cases hji:i=j
      ·subst hji;simp [hsz] at hl
      ·rwa [getD_set_ne true hji] at hl
     ·refine pR ?_
      by_cases hji:i=t0
      ·subst hji;exact pM
      ·rwa [getD_set_ne false hji] at ht
    obtain ⟨hx,h3,jh⟩:∃ hx,sQ P n w0 mu all (aG ds bK o.after.toList++l) hx o v∧hx.Perm h:=by
     cases hwt:Region.waitsFor .any all t0 i with
     | true=>
      have ht0:listed.getD t0 false=false:=by
       cases hc:listed.getD t0 false with
       | false=>rfl
       | true=>
        obtain ⟨oj,h6,e,he,hb,heq⟩:=Region.waitsFor_spec hwt
        have:=inv.closed t0 oj h6 hc e he hb
        rw [heq,pM] at this;cases this
      obtain ⟨x,hxp⟩:=(pR ht0).perm
      have h4:=hy x
      rw [hwt] at h4
      exact ⟨x++hp,h4,List.perm_append_comm.trans hxp⟩
     | false=>
      obtain ⟨x,hxp⟩:=hle.perm
      have h4:=hy x
      rw [hwt] at h4
      exact ⟨x++h0,h4,List.perm_append_comm.trans hxp⟩
    have hgd:Good w0 mu hx w:=hm.good.perm jh
    replace hnext:∀ w',Good w0 mu hx w'→wpAny P .any all Q' (f + g) (listed.setIfInBounds i true) (a.put o.dst v) w':=fun w' hG'=>hnext w' (hG'.perm jh.symm)
    unfold sQ at h3
    cases hg:o.guard with
    | none=>
     rw [hg] at h3
     rw [if_pos bf5]
     exact .inl (h3 a w hkn hgd _ _ hnext)
    | some jw=>
     obtain ⟨j,want⟩:=jw
     rw [hg] at h3
     obtain ⟨dj,c0,b,u,hj,hb,hdj,hy,hvv⟩:=h3
     have hw:=iJ hkn hg hj hb hdj
     cases hc:(c0 && iH b want) with
     | true=>
      rw [hc] at hw hvv
      rw [if_pos hw]
      rw [Bool.and_eq_true] at hc
      rw [show v=u from hvv] at hnext
      exact .inl (hy hc.1 hc.2 a w hkn hgd _ _ hnext)
     | false=>
      rw [hc] at hw hvv
      rw [if_neg bh2]
      rw [show v=undef from hvv] at hnext
      exact hnext w hgd
   | none=>
    have hir:i∈r:=by
     rcases hcov i hik hun with ⟨v,hv⟩ | h
     ·rw [vK] at hv;cases hv
     ·exact h
    cases r with
    | nil=>cases hir
    | cons c r=>
     have hic:i=c:=by
      rcases List.mem_cons.1 hir with h | h
      ·exact h
      ·exfalso
       obtain ⟨p,hp⟩:=wz dH h
       rcases hp with ⟨h1,_,h3⟩ | ⟨_,h3⟩ | ⟨p,h1,h3⟩
       ·have:=(hr p h1).2.1;have h5:=hwl p h3
        rw [getD_both this] at h5;cases h5
       ·exact h3
       ·have:=(hr p h1).2.1;have h5:=hwl p h3
        rw [getD_both this] at h5;cases h5
     subst hic
     rw [List.nodup_cons] at hnd
     have qY:rQ all r=true:=by
      cases r with
      | nil=>rfl
      | cons j r=>simp only [rQ,Bool.and_eq_true] at dH;exact dH.2
     have hr':∀ j∈r,j<k∧(listed.setIfInBounds i true).getD j true=false∧lk aH j=none:=fun j hj=>by
      have h1:=hr j (List.mem_cons_of_mem _ hj)
      have hji:i ≠ j:=fun e=>hnd.1 (e▸hj)
      exact ⟨h1.1,by rw [getD_set_ne true hji];exact h1.2.1,h1.2.2⟩
     have oQ:∀ j,j<k→(listed.setIfInBounds i true).getD j true=false→(∃ v,lk aH j=some v)∨j∈r:=fun j hj hl=>by
      by_cases hji:i=j
      ·subst hji;simp [hsz] at hl
      ·rw [getD_set_ne true hji] at hl
       rcases hcov j hj hl with h | h
       ·exact .inl h
       ·exact .inr ((List.mem_cons.1 h).resolve_left (Ne.symm hji))
     have hkn:=jD (o:=o) hds hm (bK:=aS++aH) (fun j u hu=>by
      rw [fM,Gy] at hu
      cases hE:lk aS j with
      | some v=>rw [hE] at hu;exact .inl hu
      | none=>rw [hE] at hu;exact .inr hu) hall
     unfold gY at hD
     obtain ⟨o',ho',hD⟩:=hD
     rw [ho] at ho';cases ho'
     rcases hD with ⟨hds',R,⟨hg,hE⟩,hD⟩ | ⟨hdn,h',⟨hg,_,hSt⟩,hle',hD⟩
     ·rw [if_pos (hg _ hkn)]
      refine .inl (hE a w [] hkn (by simpa using hm.good) _ _ fun v hn w' hR hG'=>?_)
      rw [List.nil_append] at hG'
      have hlen:∀ x:Hp,aC x h→aC x (hn++h):=fun x hx=>bu fun b=>by have:=hx.cnt b;rw [bV];omega
      refine ih r ((i,v)::aS) (hn++h) _ _ _ hleft (inv.set hi hik) (kZ hm ho hik hun hsz hd hf hG' (fun j u hu=>(hS j u hu).1) hEk (.inr ⟨vK,rfl⟩)) (fun j u hu=>?_) hr' hnd.2 qY oQ (hlen _ hle) (fun ht=>hlen _ (pR ?_)) (hD v hn hR)
      ·rcases List.mem_cons.1 hu with hu | hu
       ·cases hu;exact hik
       ·exact hEk j u hu
      ·by_cases hji:i=t0
       ·subst hji;exact pM
       ·rwa [getD_set_ne false hji] at ht
     ·rw [if_pos bf5]
      refine .inl (hSt a w hkn hm.good _ _ fun w' hG'=>?_)
      have hmc:qX n w0 mu all l aH aS h' (listed.setIfInBounds i true) a w':=by
       refine ⟨hm.size,hm.defers,hm.has,hG',fun j u hj hl d hdj=>?_,fun j u hj=>⟨getD_set_true (hm.mX j u hj).1,(hm.mX j u hj).2⟩⟩
       have hji:i ≠ j:=fun e=>by subst e;rw [vK] at hj;cases hj
       exact hm.rV j u hj bj2 d hdj
      refine ih r aS h' _ _ _ hleft (inv.set hi hik) hmc hEk hr' hnd.2 qY oQ hle' (fun ht=>?_) hD
      exfalso
      rcases wB i hik (by simp [aY,ho,hdn]) with e | e
      ·subst e
       rw [show (listed.setIfInBounds i true).getD i false=true by simp [hsz]] at ht;cases ht
      ·have:=getD_set_true (i:=i) (hwl t0 e)
       rw [this] at ht;cases ht
theorem LJ {X:Fm→Prop}:∀ (S:List Nat) (iv:Fm),S.Nodup→(∀ i∈S,lk iv i=none)→Uq iv→DS P n w0 mu all ds l h0 hp t0 X S iv →
  (∀ i v,lk iv i=some v→∃ o bK,all[i]?=some o∧nH bK iv∧∀ hx,sQ P n w0 mu all (aG ds bK o.after.toList++l) (bif Region.waitsFor .any all t0 i then hx++hp else hx++h0) o v) →
  ∃ aH,X aH∧Uq aH∧(∀ i,(∃ v,lk aH i=some v)↔i∈S∨∃ v,lk iv i=some v)∧∀ i v,lk aH i=some v→∃ o bK,all[i]?=some o∧nH bK aH∧∀ hx,sQ P n w0 mu all (aG ds bK o.after.toList++l) (bif Region.waitsFor .any all t0 i then hx++hp else hx++h0) o v:=by
 intro S
 induction S with
 | nil=>intro iv _ _ hu h hs;exact ⟨iv,h,hu,fun i=>by simp,hs⟩
 | cons i S ih=>
  rintro iv hnd hno hu ⟨o,v,ho,hy,h⟩ hs
  rw [List.nodup_cons] at hnd
  have hi:=hno i (List.mem_cons_self ..)
  obtain ⟨aH,hX,hu2,hk,hs2⟩:=ih ((i,v)::iv) hnd.2 (fun j hj=>by rw [bT,if_neg bh8];exact hno j (List.mem_cons_of_mem _ hj)) (Gi hi hu) h (fun j u hj=>by
   rw [bT] at hj
   by_cases hij:i=j
   ·subst hij
    rw [if_pos rfl] at hj
    cases hj
    exact ⟨o,iv,ho,lT hi,hy⟩
   ·rw [if_neg hij] at hj
    obtain ⟨o',bK,h1,h2,h3⟩:=hs j u hj
    exact ⟨o',bK,h1,fun a b hab=>lT hi a b (h2 a b hab),h3⟩)
  refine ⟨aH,hX,hu2,fun j=>?_,hs2⟩
  rw [hk,List.mem_cons,bT]
  by_cases hij:i=j
  ·subst hij;simp
  ·rw [if_neg hij];simp [Ne.symm hij]
theorem UM {ops:List Oper} (k t0:Nat) (S C:List Nat) (h0:Hp) (hB:LH ops.toArray n k t0 S C=true) (hf:bI l (dstsOf ops.toArray k)=true) (hle0:aC h0 hp) (hds:bY ops 0=ds)
  (h:DS P n w0 mu ops.toArray ds l h0 hp t0 (fun aH=>gY P n w0 mu ops.toArray ds l h0 aH (fun aS hc=>Ops P n w0 mu ops.toArray (ops.drop k) (bC ds (aS++aH)++l) hc Q) C [] hp) S []):jV P n w0 mu ops.toArray l hp Q:=by
 intro a w hk hG
 simp only [LH,Bool.and_eq_true] at hB
 obtain ⟨⟨⟨⟨⟨hd,hback⟩,um⟩,dH⟩,iO⟩,wB⟩:=hB
 simp only [qW,Bool.and_eq_true,decide_eq_true_eq] at um
 obtain ⟨⟨hnd,hlt⟩,hcov⟩:=um
 have hlt':∀ i∈S++C,i<k:=fun i hi=>by have:=List.all_eq_true.1 hlt i hi;simpa using this
 rw [List.nodup_append] at hnd
 obtain ⟨BP,Gz,hSC⟩:=hnd
 obtain ⟨aH,hX,Qa,sS,hsS⟩:=LJ S [] BP (fun _ _=>rfl) (fun _ _ h=>by cases h) h (fun i v hv=>by cases hv)
 simp only [lk,reduceCtorEq,exists_false,or_false] at sS
 have hks:k≤ops.toArray.size:=by
  simp only [rU,Bool.or_eq_true,Bool.and_eq_true,decide_eq_true_eq] at iO
  rcases iO with h | h<;>omega
 have nI:∀ i d,lk ds i=some d→aY ops.toArray i=some d:=fun i d h=>by rw [← hds] at h;have:=(jJ ops 0 i d h).2;simpa [aY] using this
 have inv0:HeadInv .any ops.toArray k (Array.replicate ops.toArray.size false):=
  ⟨by simp,fun j oj _ hl=>bf0,fun t _ ht=>getD_in bi4 (getD_replicate_false _ _)⟩
 have GG:∀ i,i<k→(Array.replicate ops.toArray.size false).getD i true=false:=fun i hi=>getD_in bj0 (getD_replicate_false _ _)
 have hleft:leftOf k (Array.replicate ops.toArray.size false)=k:=by
  unfold leftOf
  rw [List.filter_eq_self.2]
  ·simp
  ·intro i hi
   simp only [GG i bh7,Bool.not_false]
 have key:=ET nI (P:=P) (n:=n) (w0:=w0) (mu:=mu) (l:=l) (hp:=hp) (h0:=h0) (all:=ops.toArray) (aH:=aH) (k:=k) (t0:=t0) (g:=ops.toArray.size - k) (Q':=QQ n w0 mu Q) (X:=fun aS hc=>Ops P n w0 mu ops.toArray (ops.drop k) (bC ds (aS++aH)++l) hc Q) hks hd hf hback hle0
  (fun i hi hdn=>by
   have:=List.all_eq_true.1 wB i (List.mem_range.2 hi)
   rw [hdn] at this
   simp only [Option.isSome_none,Bool.false_or,Bool.or_eq_true] at this
   rcases this with h | h
   ·exact .inl (Nat.eq_of_beq_eq_true h)
   ·exact .inr h)
  (fun i v hv=>⟨hlt' i (List.mem_append_left _ ((sS i).1 ⟨v,hv⟩)),hsS i v hv⟩)
  (fun aS h listed inv hall hX a w hmid hEk=>by
   have qZ:Knows n (bC ds (aS++aH)++l) a:=by
    refine ⟨hmid.size,hmid.defers,fun t v ht=>?_⟩
    rcases eX ht with ht | ⟨_,ht⟩
    ·obtain ⟨j,h1,h2⟩:=iV (gK ht)
     rcases List.mem_append.1 h1 with h1 | h1
     ·exact (hmid.mX j v h1).2 t (nI _ _ h2)
     ·have hj:=Qa j v h1
      have hjk:=hlt' j (List.mem_append_left _ ((sS j).1 ⟨v,hj⟩))
      refine hmid.rV j v hj ?_ t (nI _ _ h2)
      have h5:=hall j hjk
      cases hcc:listed.getD j false with
      | true=>rfl
      | false=>rw [getD_in bf1 hcc] at h5;cases h5
    ·exact hmid.has t v ht
   have hfin:=hX a w qZ hmid.good
   simp only [rU,Bool.or_eq_true,Bool.and_eq_true,decide_eq_true_eq] at iO
   rcases iO with Je | ⟨⟨⟨vY,hs⟩,hc⟩,hseq⟩
   ·have e0:ops.drop k=[]:=List.drop_eq_nil_of_le (by simp at Je;omega)
    rw [e0] at hfin
    rw [show ops.toArray.size - k=0 by omega]
    refine ⟨?_,hfin⟩
    rw [List.eq_nil_iff_forall_not_mem]
    intro i hi
    obtain ⟨hun,o,ho,_⟩:=mem_ready.1 hi
    have hi':i<k:=by rw [Je];exact (Array.getElem?_eq_some_iff.1 ho).1
    rw [hall i hi'] at hun;cases hun
   ·have hl:listed=(Array.replicate k true)++(Array.replicate (ops.toArray.size - k) false):=by
     apply Array.ext
     ·simp [inv.size];simp at vY;omega
     ·intro i h1 h2
      by_cases hi:i<k
      ·have:=hall i hi
       simp [h1] at this
       rw [Array.getElem_append_left bh7]
       simpa using this
      ·have h3:=inv.tail i be5 bh4
       simp [h1] at h3
       rw [Array.getElem_append_right bf2]
       simpa using h3
    have hdl:(ops.drop k).length=ops.toArray.size - k:=by simp
    rw [← hdl]
    exact wpAny_of_seq (ops.drop k) k listed a w (fun j=>by simp) bi2 hfin)
  (fun listed inv i hi hun t ht=>by
   simp only [rU,Bool.or_eq_true,Bool.and_eq_true,decide_eq_true_eq] at iO
   rcases iO with h | ⟨⟨⟨vY,hs⟩,hc⟩,hseq⟩
   ·intro hr
    obtain ⟨_,o,ho,_⟩:=mem_ready.1 hr
    have:=(Array.getElem?_eq_some_iff.1 ho).1
    omega
   ·exact tail_waits hs hc vY inv _ i rfl hi hun t ht)
  k C [] hp _ a { w with drawn:=w.drawn + 1 } hleft inv0 ⟨hk.size,hk.defers,hk.has,hG.drawn _,fun i v _ hl=>bf0,fun i v hv=>by cases hv⟩ (fun i v hv=>by cases hv)
  (fun i hi=>⟨hlt' i (List.mem_append_right _ hi),GG i (hlt' i (List.mem_append_right _ hi)),by
   cases hv:lk aH i with
   | none=>rfl
   | some v=>exact absurd rfl (hSC i ((sS i).1 ⟨v,hv⟩) i hi)⟩) Gz dH
  (fun i hi _=>by
   have:=dQ (List.all_eq_true.1 hcov i (List.mem_range.2 hi))
   rcases List.mem_append.1 this with h | h
   ·exact .inl ((sS i).2 h)
   ·exact .inr h) hle0 (fun _=>aC.refl _) hX
 have e:k + (ops.toArray.size - k)=ops.toArray.size:=by omega
 rw [e] at key
 exact key
end
attribute [local irreducible] Hy St Ops DH dG je iI gJ
section
variable {P : Program} {n : Nat} {w0 : World} {mu : List Nat} {l lf : Fm} {h0 hp hc : Hp} {Q : Exit → Fm → Hp → Prop} {all : Array Oper} {aH iv aS : Fm} {k t0 i d : Nat} {ds : List (Nat × Nat)} {S r : List Nat} {X : Fm → Prop} {Y : Fm → Hp → Prop} {op : Op} {ty : TypeId} {pos : String} {af : Array Edge} {v : Value}
theorem ag6 (h:X iv):DS P n w0 mu all ds l h0 hp t0 X [] iv:=h
theorem Yz (ho:all[i]?=some ⟨some d,op,ty,pos,af,none⟩) (hwt:Region.waitsFor .any all t0 i=true) (hy:∀ hx,Hy P n w0 mu (aG ds iv af.toList++l) (hx++hp) ⟨some d,op,ty,pos,af,none⟩ v) (h:DS P n w0 mu all ds l h0 hp t0 X S ((i,v)::iv)):DS P n w0 mu all ds l h0 hp t0 X (i::S) iv:=⟨_,v,ho,fun hx=>by rw [hwt];exact hy hx,h⟩
theorem UN (ho:all[i]?=some ⟨some d,op,ty,pos,af,none⟩) (hwt:Region.waitsFor .any all t0 i=false) (hy:∀ hx,Hy P n w0 mu (aG ds iv af.toList++l) (hx++h0) ⟨some d,op,ty,pos,af,none⟩ v) (h:DS P n w0 mu all ds l h0 hp t0 X S ((i,v)::iv)):DS P n w0 mu all ds l h0 hp t0 X (i::S) iv:=⟨_,v,ho,fun hx=>by rw [hwt];exact hy hx,h⟩
theorem dw (h:Y aS hc):gY P n w0 mu all ds l h0 aH Y [] aS hc:=h
theorem YA {R:RT} {gg:Option (Nat × Bool)} (ho:all[i]?=some ⟨some d,op,ty,pos,af,gg⟩) (he:zI P n w0 mu all (aG ds (aS++aH) af.toList++l) hc ⟨some d,op,ty,pos,af,gg⟩ R) (h:∀ v hn,R v hn→gY P n w0 mu all ds l h0 aH Y r ((i,v)::aS) (hn++hc)):gY P n w0 mu all ds l h0 aH Y (i::r) aS hc:=⟨_,ho,.inl ⟨rfl,R,he,h⟩⟩
theorem ag7 {o:Oper} (hg:o.guard=none) (hy:∀ hx,Hy P n w0 mu lf (hx++hp) o v):zI P n w0 mu all lf hp o (fun u hn=>u=v∧hn=[]):=
 ⟨fun a _=>by simp [Region.wanted,hg],fun a w hx hk hG K Q hK=>by
  have:=hy hx
  unfold Hy at this
  exact this a w hk hG K Q fun w' hG'=>hK v [] w' ⟨rfl,rfl⟩ hG'⟩
theorem aD2 (ho:all[i]?=some ⟨some d,op,ty,pos,af,none⟩) (hy:∀ hx,Hy P n w0 mu (aG ds (aS++aH) af.toList++l) (hx++hc) ⟨some d,op,ty,pos,af,none⟩ v) (h:gY P n w0 mu all ds l h0 aH Y r ((i,v)::aS) hc):gY P n w0 mu all ds l h0 aH Y (i::r) aS hc:=
 YA ho (ag7 rfl hy) (by rintro _ _ ⟨rfl,rfl⟩;exact h)
theorem rq {T:Tab} (ok:aZ P T) {t:TypeId} {x y:Operand} {b off sz:Nat} {vs:List Value} {cs cs':Array Value} {tb:TypeId} {hp':Hp} (ho:all[i]?=some ⟨none,.store t x y,ty,pos,af,none⟩)
  (hx:ev (aG ds (aS++aH) af.toList++l) x=some (.pointer (some ⟨b,off,none⟩))) (hy:ev (aG ds (aS++aH) af.toList++l) y=some v) (nP:v.cells=vs.toArray) (hs:lk T.sz t=some sz) (hl:vs.length=sz) (hperm:(⟨b,cs,tb⟩::hp').Perm hc) (hv1:vs.all (·.oneCell')=true) (hlt:off + vs.length≤cs.size) (hput:putAt cs off vs=cs')
  (hle:aC h0 (⟨b,cs',tb⟩::hp')) (h:gY P n w0 mu all ds l h0 aH Y r aS (⟨b,cs',tb⟩::hp')):gY P n w0 mu all ds l h0 aH Y (i::r) aS hc:=by
 refine ⟨_,ho,.inr ⟨rfl,⟨b,cs',tb⟩::hp',⟨rfl,rfl,fun a w hk hG K Q' hK=>?_⟩,hle,h⟩⟩
 subst hput
 have hG':=hG.perm hperm
 have hb:=hG'.here _ (List.mem_cons_self ..)
 have hst:=run_storeCells_cells (P:=P) b off vs 0 w
  (fun j hj=>by rw [cell_of_block hb];simp [show off + j<cs.size by omega])
  (fun j _=>eP hb) (fun u hu=>(List.all_eq_true.1 hv1) u hu)
 unfold Oper.wp
 have hrun:(execOp a.eval ⟨none,.store t x y,ty,pos,af,none⟩).run P w=.ok .skip (w.setCells b off vs):=by
  simp only [execOp,hk.ev hx,hk.ev hy]
  simp only [Nat.add_zero] at hst
  simp [Instr.storeAt,Instr.sureAddr,storeVar,nP,run_sizeOf (show fP P t=some vs.length by rw [hl];exact ok.BG hs) w,hst]
 rw [hrun]
 exact hK _ (Good.sets (w:=w) vs cs off w hG')
end
section
variable {n : Nat} {w0 : World} {mu : List Nat} {l lf : Fm} {h0 hp hc : Hp} {Q : Exit → Fm → Hp → Prop} {all : Array Oper} {aH iv aS : Fm} {k t0 i d : Nat} {ds : List (Nat × Nat)} {S r : List Nat} {X : Fm → Prop} {Y : Fm → Hp → Prop} {op : Op} {ty : TypeId} {pos : String} {af : Array Edge} {v : Value}
theorem uo {id:Nat} {ops tl:List Oper} (k t0:Nat) (S C:List Nat) (h0:Hp) (h:DS Tryz.prog n w0 mu ops.toArray ds l h0 hp t0 (fun aH=>gY Tryz.prog n w0 mu ops.toArray ds l h0 aH (fun aS hc=>Ops Tryz.prog n w0 mu ops.toArray tl (bC ds (aS++aH)++l) hc Q) C [] hp) S [])
  (hle0:aC h0 hp:=by (exact aj)) (hds:bY ops 0=ds:=by (simp only [bY,Nat.reduceAdd,Nat.zero_add];rfl)) (htl:ops.drop k=tl:=by (simp only [List.drop_succ_cons,List.drop_zero,List.drop_nil];rfl)) (hm:Tryz.prog.follows .mixedOrders=true:=by kernel_rfl) (hB:LH ops.toArray n k t0 S C=true:=by decide +kernel) (hf:bI l (dstsOf ops.toArray k)=true:=by rfl):St Tryz.prog n w0 mu (.region id ops.toArray true) l hp Q:=
 vX hm (UM k t0 S C h0 hB hf hle0 hds bj6)
theorem jT {G R:Prop} (k:R) (h:xI R→G:=by (intro mV;(repeat (first | (with_reducible apply ag6) | ((with_reducible apply Yz);rfl;decide +kernel;(intro hxS;(first | exact Uz))) | ((with_reducible apply UN);rfl;decide +kernel;(intro hxS;(first | exact Uz)))));exact mV.get)):G:=h ⟨k⟩
theorem xN {f:FuncId} {xs:List Operand} {vs:List Value} {tys:Array TypeId} {R:RT} (hcl:∀ w,Good w0 mu hc w→Fn Tryz.prog f vs.toArray w [] R) (h:∀ v hn,R v hn→gY Tryz.prog n w0 mu all ds l h0 aH Y r ((i,v)::aS) (hn++hc)) (ho:all[i]?=some ⟨some d,.call { callee:=.value (.func f),args:=xs.toArray,argTypes:=tys },ty,pos,af,none⟩:=by rfl) (bH:mem iF f=true:=by rfl) (hv:evs (aG ds (aS++aH) af.toList++l) xs=some vs:=by rfl):gY Tryz.prog n w0 mu all ds l h0 aH Y (i::r) aS hc:=
 YA ho (Ox (fC f bH) hv hcl) h
theorem CO {t len e sz:Nat} {z:Value} {ps:List (Nat × Operand)} {vs:List (Nat × Value)} {zl:List Value} {out:Array Value} (out':List Value) (h:∀ b,gY Tryz.prog n w0 mu all ds l h0 aH Y r ((i,.slice (some ⟨b,0,none⟩) len len)::aS) (⟨b,out'.toArray,e⟩::hc)) (ho:all[i]?=some ⟨some d,.buildSlice t len ps.toArray,ty,pos,af,none⟩:=by rfl) (ht:lk Tb.sl t=some (e,sz):=by rfl) (hz:lk Tb.zs e=some z:=by rfl) (hzc:z.cells=zl.toArray:=by (first | ((simp only [Value.cells])<;>rfl) | rfl)) (hzs:Nat.beq zl.length sz=true:=by rfl) (hpos:(Nat.blt 0 (len * sz) && Nat.ble (len * sz) 16777216)=true:=by rfl) (hv:Ee (aG ds (aS++aH) af.toList++l) ps=some vs:=by rfl) (hf:Z8 sz (rep zl len).toArray vs=some out:=by rfl) (hn:out=out'.toArray:=by rfl):gY Tryz.prog n w0 mu all ds l h0 aH Y (i::r) aS hc:=
 YA ho (yX ay ht hz hzc hzs hpos hv hf hn) (by rintro _ _ ⟨b,rfl,rfl⟩;exact h b)
theorem nJ {t:TypeId} {x y:Operand} {b off sz:Nat} {vs:List Value} {cs cs':Array Value} {tb:TypeId} {hp':Hp} (h:gY Tryz.prog n w0 mu all ds l h0 aH Y r aS (⟨b,cs',tb⟩::hp')) (hperm:(⟨b,cs,tb⟩::hp').Perm hc) (ho:all[i]?=some ⟨none,.store t x y,ty,pos,af,none⟩:=by rfl)
  (hx:ev (aG ds (aS++aH) af.toList++l) x=some (.pointer (some ⟨b,off,none⟩)):=by rfl) (hy:ev (aG ds (aS++aH) af.toList++l) y=some v:=by rfl) (nP:v.cells=vs.toArray:=by (first | ((simp only [Value.cells])<;>rfl) | rfl)) (hs:lk Tb.sz t=some sz:=by rfl) (hl:vs.length=sz:=by rfl) (hv1:vs.all (·.oneCell')=true:=by first | rfl | (focus (simp;done))) (hlt:off + vs.length≤cs.size:=by first | omega | (focus (simp;done)) | (focus (simp;omega))) (hput:putAt cs off vs=cs':=by (first | ((simp only [putAt,Value.cells,List.toList_toArray,List.setIfInBounds_toArray,List.set_cons_zero,List.set_cons_succ,List.drop_succ_cons,List.drop_zero,List.take_succ_cons,List.take_zero,List.cons_append,List.nil_append,List.append_nil])<;>rfl) | rfl))
  (hle:aC h0 (⟨b,cs',tb⟩::hp'):=by (exact aj)):gY Tryz.prog n w0 mu all ds l h0 aH Y (i::r) aS hc:=rq ay ho hx hy nP hs hl hperm hv1 hlt hput hle h
theorem lg {rest:List Oper} {fr:Fm} (h:Ops Tryz.prog n w0 mu all rest (fr++l) hc Q) (hfr:bC ds iv=fr:=by (simp only [bC,bT,List.cons_append,List.nil_append,reduceIte,Nat.reduceEqDiff];rfl)):Ops Tryz.prog n w0 mu all rest (bC ds iv++l) hc Q:=by rw [hfr];exact h
end
end
section
def Qv:List (Nat × Value × Hp)→Hp
 | []=>[]
 | p::r=>p.2.2++Qv r
def fmD:List (Nat × Value × Hp)→Fm
 | []=>[]
 | p::r=>(p.1,p.2.1)::fmD r
theorem OJ:∀ {Dn:List (Nat × Value × Hp)} {i:Nat} {v:Value},(i,v)∈fmD Dn↔∃ hn,(i,v,hn)∈Dn:=by
 intro Dn
 induction Dn with
 | nil=>intro i v;simp [fmD]
 | cons p r ih=>
  intro i v
  obtain ⟨j,u,hu⟩:=p
  simp only [fmD,List.mem_cons,ih]
  constructor
  ·rintro (h | ⟨hn,h⟩)
   ·cases h;exact ⟨hu,.inl rfl⟩
   ·exact ⟨hn,.inr h⟩
  ·rintro ⟨hn,h | h⟩
   ·cases h;exact .inl rfl
   ·exact .inr ⟨hn,h⟩
theorem jE {listed:Array Bool} {i j:Nat} (h:listed.getD j true=true):(listed.setIfInBounds i true).getD j true=true:=by
 by_cases hij:i=j
 ·subst hij
  simp only [Array.getD_eq_getD_getElem?,Array.getElem?_setIfInBounds] at h ⊢
  simp
  split<;>simp
 ·rw [getD_set_ne true hij];exact h
section
variable {P : Program} {n : Nat} {w0 : World} {mu : List Nat} {l : Fm} {h0 hp : Hp} {Q : Exit → Fm → Hp → Prop} {all : Array Oper} {aH : Fm} {k t0 : Nat} {ds : List (Nat × Nat)}
theorem ag8 (hds:∀ k d,lk ds k=some d→aY all k=some d) {g:Nat} {Q':Exit→Act→World→Prop} (hk:k≤all.size) (hd:uk all k n=true) (hf:bI l (dstsOf all k)=true) (hback:nR all=true) (hle0:aC h0 hp)
  (hS:∀ i v,lk aH i=some v→i<k∧∃ o bK,all[i]?=some o∧nH bK aH∧∀ hx,sQ P n w0 mu all (aG ds bK o.after.toList++l) (bif Region.waitsFor .any all t0 i then hx++hp else hx++h0) o v)
  {E C:List Nat} {Rf:Nat→RT}
  (hE:∀ i∈E,i<k∧lk aH i=none∧∃ o,all[i]?=some o∧zI P n w0 mu all (aG ds aH o.after.toList++l) hp o (Rf i))
  (BQ:E.Nodup) (hCS:∀ i∈C,∀ {v:Value},lk aH i ≠ some v) (aD3:∀ i∈E,i ∉ C)
  (hcov:∀ i,i<k→(∃ v,lk aH i=some v)∨i∈E∨i∈C)
  (hCE:∀ i∈C,∀ listed,i∈Region.ready .any all listed→(∀ j∈C,listed.getD j true=false)→∀ j∈E,listed.getD j false=true)
  (lQ:∀ listed,HeadInv .any all k listed→∀ i,i<k→listed.getD i true=false→∀ t,k≤t→t ∉ Region.ready .any all listed)
  (cont:∀ f Dn listed a w,leftOf k listed=f→HeadInv .any all k listed→((Dn.map (·.1)).Perm E)→(∀ p∈Dn,Rf p.1 p.2.1 p.2.2)→qX n w0 mu all l aH (fmD Dn) (Qv Dn++hp) listed a w→(∀ i∈E,listed.getD i true=true)→(∀ i∈C,listed.getD i true=false)→wpAny P .any all Q' (f + g) listed a w):
  ∀ f E' Dn listed a w,leftOf k listed=f→HeadInv .any all k listed→((Dn.map (·.1))++E').Perm E→(∀ p∈Dn,Rf p.1 p.2.1 p.2.2)→qX n w0 mu all l aH (fmD Dn) (Qv Dn++hp) listed a w→(∀ p∈Dn,listed.getD p.1 true=true)→(∀ i∈E',listed.getD i true=false)→(∀ i∈C,listed.getD i true=false)→wpAny P .any all Q' (f + g) listed a w:=by
 intro f
 induction f with
 | zero=>
  intro E' Dn listed a w hlf inv jh hR hm hDl hEl UO
  cases E' with
  | nil=>
   rw [List.append_nil] at jh
   exact cont 0 Dn listed a w hlf inv jh hR hm (fun i hi=>by
    obtain ⟨p,hp1,rfl⟩:=List.mem_map.1 (jh.mem_iff.2 hi)
    exact hDl p hp1) UO
  | cons c r=>
   exfalso
   have hcE:c∈E:=jh.mem_iff.1 (List.mem_append_right _ (List.mem_cons_self ..))
   have h1:=(hE c hcE).1
   have:c∈(List.range k).filter fun i=>!listed.getD i true:=List.mem_filter.2 ⟨List.mem_range.2 h1,by simp only [hEl c (List.mem_cons_self ..),Bool.not_false]⟩
   have h2:=List.length_pos_of_mem this
   unfold leftOf at hlf
   omega
 | succ f ih=>
  intro E' Dn listed a w hlf inv jh hR hm hDl hEl UO
  cases E' with
  | nil=>
   rw [List.append_nil] at jh
   exact cont (f + 1) Dn listed a w hlf inv jh hR hm (fun i hi=>by
    obtain ⟨p,hp1,rfl⟩:=List.mem_map.1 (jh.mem_iff.2 hi)
    exact hDl p hp1) UO
  | cons c r=>
  generalize hEE:c::r=E' at jh hEl
  have hcE':c∈E':=by rw [← hEE];exact List.mem_cons_self ..
  have hcE:c∈E:=jh.mem_iff.1 (List.mem_append_right _ hcE')
  have hEk:∀ i v,(i,v)∈fmD Dn→i<k:=fun i v hiv=>by
   obtain ⟨hn,h1⟩:=OJ.1 hiv
   exact (hE i (jh.mem_iff.1 (List.mem_append_left _ (List.mem_map.2 ⟨_,h1,rfl⟩)))).1
  have aD5:aC hp (Qv Dn++hp):=aC.right _ _
  have as4:aC h0 (Qv Dn++hp):=bu fun b=>by have:=hle0.cnt b;rw [bV];omega
  rw [show f + 1 + g=(f + g) + 1 by omega]
  obtain ⟨i0,nG,hi0⟩:∃ i,i<k∧listed.getD i true=false:=⟨c,(hE c hcE).1,hEl c hcE'⟩
  refine ⟨fun hnil=>?_,fun i hi=>?_⟩
  ·exfalso
   obtain ⟨i,⟨hik,hil⟩,hmin⟩:=exists_least (p:=fun i=>i<k∧listed.getD i true=false) ⟨i0,nG,hi0⟩
   have hr:i∈Region.ready .any all listed:=by
    rw [mem_ready]
    have hs:i<all.size:=by omega
    refine ⟨hil,all[i],by simp [hs],fun e he hb=>?_⟩
    have hb2:=List.all_eq_true.1 hback i (List.mem_range.2 hs)
    simp only [Array.getElem?_eq_getElem hs] at hb2
    have hb3:=(Array.all_eq_true_iff_forall_mem.1 hb2) e he
    simp only [hb,Bool.not_true,Bool.false_or,Nat.blt_eq] at hb3
    cases hc:listed.getD e.on false with
    | true=>rfl
    | false=>
     have h5:=hmin e.on ⟨by omega,getD_in bf1 hc⟩
     omega
   rw [hnil] at hr;cases hr
  ·have hik:i<k:=by
    rcases Nat.lt_or_ge i k with h | h
    ·exact h
    ·exact absurd hi (lQ listed inv i0 nG hi0 i h)
   obtain ⟨hun,o,ho,hall⟩:=mem_ready.1 hi
   have hsz:i<listed.size:=by rw [inv.size];omega
   have pM:listed.getD i false=false:=getD_both hun
   have hleft:leftOf k (listed.setIfInBounds i true)=f:=by have:=kT hik bf1 hun;omega
   have hwl:∀ t,Region.waitsFor .any all i t=true→listed.getD t false=true:=fun t ht=>by
    obtain ⟨oj,h6,e,he,hb,heq⟩:=Region.waitsFor_spec ht
    rw [ho] at h6;cases h6
    rw [← heq];exact hall e he hb
   unfold wpOp
   simp only [ho]
   cases vK:lk aH i with
   | some v=>
    obtain ⟨_,o',bK,ho',hmo,hy⟩:=hS i v vK
    rw [ho] at ho';cases ho'
    have hkn:=jD (o:=o) hds hm (bK:=bK) (fun j u hu=>.inr (hmo j u bf9)) hall
    have hiE:i ∉ E:=fun hm'=>by rw [(hE i hm').2.1] at vK;cases vK
    have hnext:∀ w',Good w0 mu (Qv Dn++hp) w'→wpAny P .any all Q' (f + g) (listed.setIfInBounds i true) (a.put o.dst v) w':=fun w' hG'=>by
     refine ih E' Dn _ _ _ hleft (inv.set hi hik) jh hR (kZ hm ho hik hun hsz hd hf hG' (fun j u hu=>(hS j u hu).1) hEk (.inl ⟨vK,rfl⟩)) (fun p hp1=>jE (hDl p hp1)) (fun j hj=>?_) (fun j hj=>?_)
     ·have hji:i ≠ j:=fun e=>hiE (by rw [e];exact jh.mem_iff.1 (List.mem_append_right _ hj))
      rw [getD_set_ne true hji];exact hEl j hj
     ·have hji:i ≠ j:=fun e=>by subst e;exact hCS _ hj vK
      rw [getD_set_ne true hji];exact UO j hj
    obtain ⟨hx,h3,jh⟩:∃ hx,sQ P n w0 mu all (aG ds bK o.after.toList++l) hx o v∧hx.Perm (Qv Dn++hp):=by
     cases hwt:Region.waitsFor .any all t0 i with
     | true=>
      have ht0:listed.getD t0 false=false:=by
       cases hc:listed.getD t0 false with
       | false=>rfl
       | true=>
        obtain ⟨oj,h6,e,he,hb,heq⟩:=Region.waitsFor_spec hwt
        have:=inv.closed t0 oj h6 hc e he hb
        rw [heq,pM] at this;cases this
      obtain ⟨x,hxp⟩:=aD5.perm
      have h4:=hy x
      rw [hwt] at h4
      exact ⟨x++hp,h4,List.perm_append_comm.trans hxp⟩
     | false=>
      obtain ⟨x,hxp⟩:=as4.perm
      have h4:=hy x
      rw [hwt] at h4
      exact ⟨x++h0,h4,List.perm_append_comm.trans hxp⟩
    have hgd:Good w0 mu hx w:=hm.good.perm jh
    replace hnext:∀ w',Good w0 mu hx w'→wpAny P .any all Q' (f + g) (listed.setIfInBounds i true) (a.put o.dst v) w':=fun w' hG'=>hnext w' (hG'.perm jh.symm)
    unfold sQ at h3
    cases hg:o.guard with
    | none=>
     rw [hg] at h3
     rw [if_pos bf5]
     exact .inl (h3 a w hkn hgd _ _ hnext)
    | some jw=>
     obtain ⟨j,want⟩:=jw
     rw [hg] at h3
     obtain ⟨dj,c0,b,u,hj,hb,hdj,hy,hvv⟩:=h3
     have hw:=iJ hkn hg hj hb hdj
     cases hc:(c0 && iH b want) with
     | true=>
      rw [hc] at hw hvv
      rw [if_pos hw]
      rw [Bool.and_eq_true] at hc
      rw [show v=u from hvv] at hnext
      exact .inl (hy hc.1 hc.2 a w hkn hgd _ _ hnext)
     | false=>
      rw [hc] at hw hvv
      rw [if_neg bh2]
      rw [show v=undef from hvv] at hnext
      exact hnext w hgd
   | none=>
    rcases (hcov i hik).resolve_left (fun ⟨v,hv⟩=>by rw [vK] at hv;cases hv) with hiE | hiC
    ·have aD6:i∈E':=by
      rcases List.mem_append.1 (jh.mem_iff.2 hiE) with h | h
      ·obtain ⟨p,hp1,rfl⟩:=List.mem_map.1 h
       rw [hDl p hp1] at hun;cases hun
      ·exact h
     obtain ⟨_,_,o',ho',hg,hEo⟩:=hE i hiE
     rw [ho] at ho';cases ho'
     have hkn:=jD (o:=o) hds hm (bK:=aH) (fun j u hu=>.inr bf9) hall
     rw [if_pos (hg _ hkn)]
     refine .inl (hEo a w (Qv Dn) hkn hm.good _ _ fun v hn w' hRi hG'=>?_)
     obtain ⟨s,t,hst⟩:=List.append_of_mem aD6
     have as6:(((i,v,hn)::Dn).map (·.1)++(s++t)).Perm E:=by
      refine List.Perm.trans ?_ jh
      rw [hst,List.map_cons,List.cons_append,← List.append_assoc,← List.append_assoc]
      exact List.perm_middle.symm
     have hnd':i ∉ s++t:=fun hm'=>by
      have h5:=jh.nodup_iff.2 BQ
      rw [List.nodup_append] at h5
      have h6:=h5.2.1
      rw [hst] at h6
      have h7:=(List.perm_middle (a:=i) (l₁:=s) (l₂:=t)).nodup_iff.1 h6
      exact (List.nodup_cons.1 h7).1 hm'
     refine ih (s++t) ((i,v,hn)::Dn) _ _ _ hleft (inv.set hi hik) as6 (fun p hp1=>?_) (kZ (Qu:=(i,v)::fmD Dn) hm ho hik hun hsz hd hf (by rw [Qv,List.append_assoc];exact hG') (fun j u hu=>(hS j u hu).1) hEk (.inr ⟨vK,rfl⟩)) (fun p hp1=>?_) (fun j hj=>?_) (fun j hj=>?_)
     ·rcases List.mem_cons.1 hp1 with rfl | hp1
      ·exact hRi
      ·exact hR p hp1
     ·rcases List.mem_cons.1 hp1 with rfl | hp1
      ·simp [hsz]
      ·exact jE (hDl p hp1)
     ·have hji:i ≠ j:=fun e=>hnd' (e▸hj)
      rw [getD_set_ne true hji]
      refine hEl j ?_
      rw [hst]
      rcases List.mem_append.1 hj with h | h
      ·exact List.mem_append_left _ h
      ·exact List.mem_append_right _ (List.mem_cons_of_mem _ h)
     ·have hji:i ≠ j:=fun e=>by subst e;exact aD3 _ hiE hj
      rw [getD_set_ne true hji];exact UO j hj
    ·exfalso
     have h5:=hCE i hiC listed hi UO c hcE
     rw [getD_both (hEl c hcE')] at h5;cases h5
theorem YB:∀ (Dn:List (Nat × Value × Hp)) (c:Ch),(∀ p∈Dn,c p.1=p.2)→Qv Dn=Lm c (Dn.map (·.1)):=by
 intro Dn
 induction Dn with
 | nil=>intro c _;rfl
 | cons p r ih=>
  intro c h
  rw [Qv,List.map_cons,Lm,ih c (fun q hq=>h q (List.mem_cons_of_mem _ hq)),h p (List.mem_cons_self ..)]
theorem UQ {c:Ch} {L M:List Nat} (h:L.Perm M):(Lm c L).Perm (Lm c M):=by
 induction h with
 | nil=>exact .refl _
 | cons x _ ih=>exact List.Perm.append_left _ ih
 | swap x y l=>
  simp only [Lm]
  rw [← List.append_assoc,← List.append_assoc]
  exact List.Perm.append_right _ List.perm_append_comm
 | trans _ _ h1 h2=>exact h1.trans h2
def GH (ops:Array Oper) (n k t0:Nat) (S E C:List Nat):Bool:=
 uk ops k n && nR ops && qW k S (E++C) && rQ ops C && (match C with | []=>true | c::_=>E.all fun j=>Region.waitsFor .any ops c j) && rU ops k && (List.range k).all fun i=>(aY ops i).isSome || Nat.beq i t0 || Region.waitsFor .any ops i t0
def UR (Dn:List (Nat × Value × Hp)):Ch:=fun i=>match lk Dn i with | some x=>x | none=>(undef,[])
theorem YC:∀ {Dn:List (Nat × Value × Hp)},(Dn.map (·.1)).Nodup→∀ p∈Dn,UR Dn p.1=p.2:=by
 intro Dn
 induction Dn with
 | nil=>intro _ p h;cases h
 | cons q r ih=>
  intro hnd p hp
  rw [List.map_cons,List.nodup_cons] at hnd
  unfold UR
  obtain ⟨j,x⟩:=q
  rw [bT]
  rcases List.mem_cons.1 hp with rfl | hp
  ·simp
  ·have hne:j ≠ p.1:=fun e=>hnd.1 (by simp only at e ⊢;rw [e];exact List.mem_map.2 ⟨p,hp,rfl⟩)
   rw [if_neg hne]
   exact ih hnd.2 p hp
theorem Qw {ops:List Oper} (k t0:Nat) (S E C:List Nat) (h0:Hp) (hB:GH ops.toArray n k t0 S E C=true) (hf:bI l (dstsOf ops.toArray k)=true) (hle0:aC h0 hp) (hds:bY ops 0=ds)
  (h:DS P n w0 mu ops.toArray ds l h0 hp t0 (fun aH=>iI P n w0 mu ops.toArray ds l hp aH (fun Rs=>DN (fun iv bl=>gY P n w0 mu ops.toArray ds l h0 aH (fun aS hc=>Ops P n w0 mu ops.toArray (ops.drop k) (bC ds (aS++aH)++l) hc Q) C iv (bl++hp)) Rs) E []) S []):jV P n w0 mu ops.toArray l hp Q:=by
 intro a w hkn hG
 simp only [GH,Bool.and_eq_true] at hB
 obtain ⟨⟨⟨⟨⟨⟨hd,hback⟩,um⟩,dH⟩,hhead⟩,iO⟩,wB⟩:=hB
 simp only [qW,Bool.and_eq_true,decide_eq_true_eq] at um
 obtain ⟨⟨hnd,hlt⟩,hcov⟩:=um
 have hlt':∀ i∈S++(E++C),i<k:=fun i hi=>by have:=List.all_eq_true.1 hlt i hi;simpa using this
 rw [List.nodup_append,List.nodup_append] at hnd
 obtain ⟨BP,⟨BQ,Gz,hEC⟩,aD7⟩:=hnd
 obtain ⟨aH,hX,Qa,sS,hsS⟩:=LJ S [] BP (fun _ _=>rfl) (fun _ _ h=>by cases h) h (fun i v hv=>by cases hv)
 simp only [lk,reduceCtorEq,exists_false,or_false] at sS
 have hX2:=BV (Y:=fun Rs=>DN (fun iv bl=>gY P n w0 mu ops.toArray ds l h0 aH (fun aS hc=>Ops P n w0 mu ops.toArray (ops.drop k) (bC ds (aS++aH)++l) hc Q) C iv (bl++hp)) Rs∧Rs.map (·.1)=E.reverse) E [] (fun KU h1 h2=>⟨h2,by simpa using h1⟩) hX
 obtain ⟨RE,⟨hXE,aD8⟩,qg,hsE⟩:=Gl E [] BQ (fun _ _=>rfl) hX2 (fun i R hi=>by cases hi)
 simp only [lk,reduceCtorEq,exists_false,or_false] at qg
 have hks:k≤ops.toArray.size:=by
  simp only [rU,Bool.or_eq_true,Bool.and_eq_true,decide_eq_true_eq] at iO
  rcases iO with h | h<;>omega
 have nI:∀ i d,lk ds i=some d→aY ops.toArray i=some d:=fun i d h=>by rw [← hds] at h;have:=(jJ ops 0 i d h).2;simpa [aY] using this
 have inv0:HeadInv .any ops.toArray k (Array.replicate ops.toArray.size false):=
  ⟨by simp,fun j oj _ hl=>bf0,fun t _ ht=>getD_in bi4 (getD_replicate_false _ _)⟩
 have GG:∀ i,i<k→(Array.replicate ops.toArray.size false).getD i true=false:=fun i hi=>getD_in bj0 (getD_replicate_false _ _)
 have hleft:leftOf k (Array.replicate ops.toArray.size false)=k:=by
  unfold leftOf
  rw [List.filter_eq_self.2]
  ·simp
  ·intro i hi
   simp only [GG i bh7,Bool.not_false]
 have ag9:∀ i,i∈E++C→lk aH i=none:=fun i hi=>by
  cases hv:lk aH i with
  | none=>rfl
  | some v=>exact absurd rfl (aD7 i ((sS i).1 ⟨v,hv⟩) i hi)
 have hS':∀ i v,lk aH i=some v→i<k∧∃ o bK,ops.toArray[i]?=some o∧nH bK aH∧∀ hx,sQ P n w0 mu ops.toArray (aG ds bK o.after.toList++l) (bif Region.waitsFor .any ops.toArray t0 i then hx++hp else hx++h0) o v:=fun i v hv=>⟨hlt' i (List.mem_append_left _ ((sS i).1 ⟨v,hv⟩)),hsS i v hv⟩
 have lQ:∀ listed,HeadInv .any ops.toArray k listed→∀ i,i<k→listed.getD i true=false→∀ t,k≤t→t ∉ Region.ready .any ops.toArray listed:=fun listed inv i hi hun t ht=>by
  simp only [rU,Bool.or_eq_true,Bool.and_eq_true,decide_eq_true_eq] at iO
  rcases iO with h | ⟨⟨⟨vY,hs⟩,hc⟩,hseq⟩
  ·intro hr
   obtain ⟨_,o,ho,_⟩:=mem_ready.1 hr
   have:=(Array.getElem?_eq_some_iff.1 ho).1
   omega
  ·exact tail_waits hs hc vY inv _ i rfl hi hun t ht
 have ag':(RE.map (·.1)).Perm E:=by rw [aD8];exact List.reverse_perm E
 have hE':∀ i∈E,i<k∧lk aH i=none∧∃ o,ops.toArray[i]?=some o∧zI P n w0 mu ops.toArray (aG ds aH o.after.toList++l) hp o (match lk RE i with | some R=>R | none=>fun _ _=>False):=fun i hi=>by
  obtain ⟨R,hR⟩:=(qg i).2 hi
  obtain ⟨_,o,ho,he,_⟩:=hsE i R (iK hR)
  refine ⟨hlt' i (List.mem_append_right _ (List.mem_append_left _ hi)),ag9 i (List.mem_append_left _ hi),o,ho,?_⟩
  rw [hR];exact he
 have aa7:∀ i,i<k→(∃ v,lk aH i=some v)∨i∈E∨i∈C:=fun i hi=>by
  have:=dQ (List.all_eq_true.1 hcov i (List.mem_range.2 hi))
  rcases List.mem_append.1 this with h | h
  ·exact .inl ((sS i).2 h)
  ·exact .inr (List.mem_append.1 h)
 have hCE:∀ i∈C,∀ listed:Array Bool,i∈Region.ready .any ops.toArray listed→(∀ j∈C,listed.getD j true=false)→∀ j∈E,listed.getD j false=true:=fun i hi listed hr UO j hj=>by
  obtain ⟨hun,o,ho,hall⟩:=mem_ready.1 hr
  have hwl:∀ t,Region.waitsFor .any ops.toArray i t=true→listed.getD t false=true:=fun t ht=>by
   obtain ⟨oj,h6,e,he,hb,heq⟩:=Region.waitsFor_spec ht
   rw [ho] at h6;cases h6
   rw [← heq];exact hall e he hb
  cases C with
  | nil=>cases hi
  | cons c r=>
   rcases List.mem_cons.1 hi with rfl | hir
   ·exact hwl j (List.all_eq_true.1 hhead j hj)
   ·exfalso
    obtain ⟨p,hp⟩:=wz dH hir
    rcases hp with ⟨h1,_,h3⟩ | ⟨_,h3⟩ | ⟨p,h1,h3⟩
    ·have h5:=hwl p h3;rw [getD_both (UO p h1)] at h5;cases h5
    ·exact h3
    ·have h5:=hwl p h3;rw [getD_both (UO p h1)] at h5;cases h5
 have key:=ag8 (g:=ops.toArray.size - k) (Q':=QQ n w0 mu Q) nI hks hd hf hback hle0 hS' (C:=C) hE' BQ (fun i hi v hv=>by rw [ag9 i (List.mem_append_right _ hi)] at hv;cases hv) (fun i hi hc=>hEC i hi i hc rfl) aa7 hCE lQ ?_ k E [] (Array.replicate ops.toArray.size false) a { w with drawn:=w.drawn + 1 } hleft inv0 be7 (fun p hp=>by cases hp)
  ⟨hkn.size,hkn.defers,hkn.has,hG.drawn _,fun i v _ hl=>bf0,fun i v hv=>by cases hv⟩ (fun p hp=>by cases hp) (fun i hi=>GG i (hlt' i (List.mem_append_right _ (List.mem_append_left _ hi)))) (fun i hi=>GG i (hlt' i (List.mem_append_right _ (List.mem_append_right _ hi))))
 ·have e:k + (ops.toArray.size - k)=ops.toArray.size:=by omega
  rw [e] at key
  exact key
 intro f Dn listed a w hlf inv jh hR hm hEl UO
 have Ll:(Dn.map (·.1)).Nodup:=jh.nodup_iff.2 BQ
 have hch:=YC Ll
 have hbl:Qv Dn=Lm (UR Dn) (Dn.map (·.1)):=YB Dn _ hch
 have as7:(Lm (UR Dn) (RE.map (·.1))).Perm (Qv Dn):=by rw [hbl];exact UQ (ag'.trans jh.symm)
 have hval:∀ i R,(i,R)∈RE→∃ hn,(i,(UR Dn i).1,hn)∈Dn∧R (UR Dn i).1 (UR Dn i).2:=fun i R hi=>by
  have h1:i∈Dn.map (·.1):=jh.mem_iff.2 (ag'.mem_iff.1 (List.mem_map.2 ⟨_,hi,rfl⟩))
  obtain ⟨p,hp1,hp2⟩:=List.mem_map.1 h1
  subst hp2
  have h2:=hR p hp1
  rw [(hsE p.1 R hi).1] at h2
  rw [hch p hp1]
  exact ⟨p.2.2,hp1,h2⟩
 have aD9:Ef (UR Dn) RE:=AU RE fun p hp=>(hval p.1 p.2 hp).choose_spec.2
 have hD:=Yd RE _ (UR Dn) hXE aD9
 refine ET nI (P:=P) (n:=n) (w0:=w0) (mu:=mu) (l:=l) (hp:=hp) (h0:=h0) (all:=ops.toArray) (aH:=aH) (k:=k) (t0:=t0) (g:=ops.toArray.size - k) (Q':=QQ n w0 mu Q) (X:=fun aS hc=>Ops P n w0 mu ops.toArray (ops.drop k) (bC ds (aS++aH)++l) hc Q) hks hd hf hback hle0
  (fun i hi hdn=>by
   have:=List.all_eq_true.1 wB i (List.mem_range.2 hi)
   rw [hdn] at this
   simp only [Option.isSome_none,Bool.false_or,Bool.or_eq_true] at this
   rcases this with h | h
   ·exact .inl (Nat.eq_of_beq_eq_true h)
   ·exact .inr h)
  hS' (fun aS h listed inv hall hX a w hmid hEk=>?_) lQ f C (wO (UR Dn) RE) (Lm (UR Dn) (RE.map (·.1))++hp) listed a w hlf inv ⟨hm.size,hm.defers,hm.has,hm.good.perm (List.Perm.append_right _ as7),hm.rV,fun i v hv=>?_⟩ (fun i v hv=>?_) (fun i hi=>⟨hlt' i (List.mem_append_right _ (List.mem_append_right _ hi)),UO i hi,ag9 i (List.mem_append_right _ hi)⟩) Gz dH (fun i hi hl=>?_) (bu fun b=>by have:=hle0.cnt b;rw [bV];omega) (fun _=>aC.right _ _) hD
 ·have qZ:Knows n (bC ds (aS++aH)++l) a:=by
   refine ⟨hmid.size,hmid.defers,fun t v ht=>?_⟩
   rcases eX ht with ht | ⟨_,ht⟩
   ·obtain ⟨j,h1,h2⟩:=iV (gK ht)
    rcases List.mem_append.1 h1 with h1 | h1
    ·exact (hmid.mX j v h1).2 t (nI _ _ h2)
    ·have hj:=Qa j v h1
     have hjk:=hlt' j (List.mem_append_left _ ((sS j).1 ⟨v,hj⟩))
     refine hmid.rV j v hj ?_ t (nI _ _ h2)
     have h5:=hall j hjk
     cases hcc:listed.getD j false with
     | true=>rfl
     | false=>rw [getD_in bf1 hcc] at h5;cases h5
   ·exact hmid.has t v ht
  have hfin:=hX a w qZ hmid.good
  simp only [rU,Bool.or_eq_true,Bool.and_eq_true,decide_eq_true_eq] at iO
  rcases iO with Je | ⟨⟨⟨vY,hs⟩,hc⟩,hseq⟩
  ·have e0:ops.drop k=[]:=List.drop_eq_nil_of_le (by simp at Je;omega)
   rw [e0] at hfin
   rw [show ops.toArray.size - k=0 by omega]
   refine ⟨?_,hfin⟩
   rw [List.eq_nil_iff_forall_not_mem]
   intro i hi
   obtain ⟨hun,o,ho,_⟩:=mem_ready.1 hi
   have hi':i<k:=by rw [Je];exact (Array.getElem?_eq_some_iff.1 ho).1
   rw [hall i hi'] at hun;cases hun
  ·have hl:listed=(Array.replicate k true)++(Array.replicate (ops.toArray.size - k) false):=by
    apply Array.ext
    ·simp [inv.size];simp at vY;omega
    ·intro i h1 h2
     by_cases hi:i<k
     ·have:=hall i hi
      simp [h1] at this
      rw [Array.getElem_append_left bh7]
      simpa using this
     ·have h3:=inv.tail i be5 bh4
      simp [h1] at h3
      rw [Array.getElem_append_right bf2]
      simpa using h3
   have hdl:(ops.drop k).length=ops.toArray.size - k:=by simp
   rw [← hdl]
   exact wpAny_of_seq (ops.drop k) k listed a w (fun j=>by simp) bi2 hfin
 ·obtain ⟨h1,R,hR1⟩:=xA RE hv
  obtain ⟨hn,h2,_⟩:=hval i R hR1
  rw [h1]
  exact hm.mX i _ (OJ.2 ⟨hn,h2⟩)
 ·obtain ⟨h1,R,hR1⟩:=xA RE hv
  exact (hE' i (ag'.mem_iff.1 (List.mem_map.2 ⟨_,hR1,rfl⟩))).1
 ·rcases aa7 i hi with h | h | h
  ·exact .inl h
  ·rw [hEl i h] at hl;cases hl
  ·exact .inr h
end
attribute [local irreducible] Hy St Ops DH dG je iI gJ
section
variable {n : Nat} {w0 : World} {mu : List Nat} {l : Fm} {h0 hp : Hp} {Q : Exit → Fm → Hp → Prop} {ds : List (Nat × Nat)}
theorem GI {id:Nat} {ops tl:List Oper} (k t0:Nat) (S E C:List Nat) (h0:Hp) (h:DS Tryz.prog n w0 mu ops.toArray ds l h0 hp t0 (fun aH=>iI Tryz.prog n w0 mu ops.toArray ds l hp aH (fun Rs=>DN (fun iv bl=>gY Tryz.prog n w0 mu ops.toArray ds l h0 aH (fun aS hc=>Ops Tryz.prog n w0 mu ops.toArray tl (bC ds (aS++aH)++l) hc Q) C iv (bl++hp)) Rs) E []) S [])
  (hle0:aC h0 hp:=by (exact aj)) (hds:bY ops 0=ds:=by (simp only [bY,Nat.reduceAdd,Nat.zero_add];rfl)) (htl:ops.drop k=tl:=by (simp only [List.drop_succ_cons,List.drop_zero,List.drop_nil];rfl)) (hm:Tryz.prog.follows .mixedOrders=true:=by kernel_rfl) (hB:GH ops.toArray n k t0 S E C=true:=by decide +kernel) (hf:bI l (dstsOf ops.toArray k)=true:=by rfl):St Tryz.prog n w0 mu (.region id ops.toArray true) l hp Q:=
 vX hm (Qw k t0 S E C h0 hB hf hle0 hds bj6)
end
section
variable {n : Nat} {w0 : World} {mu : List Nat} {l : Fm} {h0 hp : Hp} {all : Array Oper} {iv : Fm} {t0 i d : Nat} {ds : List (Nat × Nat)} {S : List Nat} {X : Fm → Prop} {ty : TypeId} {pos : String} {af : Array Edge} {v : Value}
theorem CP {f:FuncId} {xs:List Operand} {vs:List Value} {tys:Array TypeId} (hc:∀ w hx,Good w0 mu (hx++hp) w→Fn Tryz.prog f vs.toArray w [] (fun u _=>u=v)) (h:DS Tryz.prog n w0 mu all ds l h0 hp t0 X S ((i,v)::iv)) (ho:all[i]?=some ⟨some d,.call { callee:=.value (.func f),args:=xs.toArray,argTypes:=tys },ty,pos,af,none⟩:=by rfl) (hwt:Region.waitsFor .any all t0 i=true:=by decide +kernel) (bH:mem iF f=true:=by rfl) (hv:evs (aG ds iv af.toList++l) xs=some vs:=by rfl):DS Tryz.prog n w0 mu all ds l h0 hp t0 X (i::S) iv:=
 Yz ho hwt (fun hx=>fF (fC f bH) hv (fun w hG=>hc w hx hG)) h
theorem UT {f:FuncId} {xs:List Operand} {vs:List Value} {tys:Array TypeId} (hc:∀ w hx,Good w0 mu (hx++h0) w→Fn Tryz.prog f vs.toArray w [] (fun u _=>u=v)) (h:DS Tryz.prog n w0 mu all ds l h0 hp t0 X S ((i,v)::iv)) (ho:all[i]?=some ⟨some d,.call { callee:=.value (.func f),args:=xs.toArray,argTypes:=tys },ty,pos,af,none⟩:=by rfl) (hwt:Region.waitsFor .any all t0 i=false:=by decide +kernel) (bH:mem iF f=true:=by rfl) (hv:evs (aG ds iv af.toList++l) xs=some vs:=by rfl):DS Tryz.prog n w0 mu all ds l h0 hp t0 X (i::S) iv:=
 UN ho hwt (fun hx=>fF (fC f bH) hv (fun w hG=>hc w hx hG)) h
end
section
variable {n : Nat} {w0 : World} {mu : List Nat} {l : Fm} {h0 hc : Hp} {all : Array Oper} {aH aS : Fm} {i d : Nat} {ds : List (Nat × Nat)} {r : List Nat} {Y : Fm → Hp → Prop} {ty : TypeId} {pos : String} {af : Array Edge}
theorem GK {t:TypeId} {ps:List (Nat × Operand)} {vs:List (Nat × Value)} {z:Value} {pl:List (Nat × Nat)} {zc out out':Array Value} (h:gY Tryz.prog n w0 mu all ds l h0 aH Y r ((i,.agg out')::aS) hc) (ho:all[i]?=some ⟨some d,.build t ps.toArray,ty,pos,af,none⟩:=by rfl) (hz:lk Tb.zs t=some z:=by rfl) (hzc:z.cells=zc:=by (first | ((simp only [Value.cells])<;>rfl) | rfl)) (hpl:lk Tb.pl t=some pl:=by rfl) (hv:Ee (aG ds (aS++aH) af.toList++l) ps=some vs:=by rfl) (hf:fl pl zc vs=some out:=by rfl) (hn:out=out':=by (first | ((simp only [putAt,Value.cells,List.toList_toArray,List.setIfInBounds_toArray,List.set_cons_zero,List.set_cons_succ,List.drop_succ_cons,List.drop_zero,List.take_succ_cons,List.take_zero,List.cons_append,List.nil_append,List.append_nil])<;>rfl) | rfl)):gY Tryz.prog n w0 mu all ds l h0 aH Y (i::r) aS hc:=
 aD2 ho (fun hx=>F8 ay hz hzc hpl hv hf hn) h
theorem cSame {t : TypeId} {x y : Operand} {b sz : Nat} {v : Value} {vs : List Value} {cs : Array Value} {tb : TypeId} (h : gY Tryz.prog n w0 mu all ds l h0 aH Y r aS hc) (ho : all[i]? = some ⟨none, .store t x y, ty, pos, af, none⟩ := by rfl)
    (hx : ev (aG ds (aS ++ aH) af.toList ++ l) x = some (.pointer (some ⟨b, 0, none⟩)) := by rfl) (hm : (⟨b, cs, tb⟩ : o8) ∈ hc := by (first | (with_reducible apply mh) | (focus ((repeat (first | (with_reducible apply mh) | (with_reducible apply mt) | (with_reducible apply List.mem_append_right))); done)))) (hy : ev (aG ds (aS ++ aH) af.toList ++ l) y = some v := by rfl) (nP : v.cells = vs.toArray := by (first | ((simp only [Value.cells]) <;> rfl) | rfl)) (hs : lk Tb.sz t = some sz := by rfl) (hl : vs.length = sz := by rfl) (hv1 : vs.all (·.oneCell') = true := by first | rfl | (focus (simp; done))) (hlt : 0 + vs.length ≤ cs.size := by first | omega | (focus (simp; done)) | (focus (simp; omega))) (hput : putAt cs 0 vs = cs := by (first | ((simp only [putAt, Value.cells, List.toList_toArray, List.setIfInBounds_toArray, List.set_cons_zero, List.set_cons_succ, List.drop_succ_cons, List.drop_zero, List.take_succ_cons, List.take_zero, List.cons_append, List.nil_append, List.append_nil]) <;> rfl) | rfl))
    (hle : aC h0 hc := by (exact aj)) : gY Tryz.prog n w0 mu all ds l h0 aH Y (i :: r) aS hc := by
  refine ⟨_, ho, .inr ⟨rfl, hc, ⟨rfl, rfl, fun a w hk hG K Q' hK => ?_⟩, hle, h⟩⟩
  obtain ⟨s, t', rfl⟩ := List.append_of_mem hm
  have hG' := hG.perm (hp' := ⟨b, cs, tb⟩ :: (s ++ t')) List.perm_middle.symm
  have hb := hG'.here _ (List.mem_cons_self ..)
  have hst := run_storeCells_cells (P := Tryz.prog) b 0 vs 0 w
    (fun j hj => by rw [cell_of_block hb]; have h3 : j < cs.size := by omega
                    simp [h3])
    (fun j _ => eP hb) (fun u hu => (List.all_eq_true.1 hv1) u hu)
  unfold Oper.wp
  have hrun : (execOp a.eval ⟨none, .store t x y, ty, pos, af, none⟩).run Tryz.prog w = .ok .skip (w.setCells b 0 vs) := by
    simp only [execOp, hk.ev hx, hk.ev hy]
    simp only [Nat.add_zero] at hst
    simp [Instr.storeAt, Instr.sureAddr, storeVar, nP, run_sizeOf (show fP Tryz.prog t = some vs.length by rw [hl]; exact ay.BG hs) w, hst]
  rw [hrun]
  have h2 := Good.sets (w := w) vs cs 0 w hG'
  rw [hput] at h2
  exact hK _ (h2.perm List.perm_middle)
end
section
variable {n : Nat} {w0 : World} {mu : List Nat} {l : Fm} {h0 hc : Hp} {all : Array Oper} {aH aS : Fm} {i d : Nat} {ds : List (Nat × Nat)} {r : List Nat} {Y : Fm → Hp → Prop} {ty : TypeId} {pos : String} {af : Array Edge}
theorem Qx {t:TypeId} {x y:Operand} {b off sz:Nat} {v:Value} {vs:List Value} {cs cs':Array Value} {tb:TypeId} {hp':Hp} (h:gY Tryz.prog n w0 mu all ds l h0 aH Y r aS (⟨b,cs',tb⟩::hp')) (ho:all[i]?=some ⟨none,.store t x y,ty,pos,af,none⟩:=by rfl)
  (hx:ev (aG ds (aS++aH) af.toList++l) x=some (.pointer (some ⟨b,off,none⟩)):=by rfl) (hy:ev (aG ds (aS++aH) af.toList++l) y=some v:=by rfl) (nP:v.cells=vs.toArray:=by (first | ((simp only [Value.cells])<;>rfl) | rfl)) (hs:lk Tb.sz t=some sz:=by rfl) (hl:vs.length=sz:=by rfl) (hperm:(⟨b,cs,tb⟩::hp').Perm hc:=by (first | (with_reducible apply p0) | (with_reducible apply p1) | (with_reducible apply p2) | (with_reducible apply p3) | (with_reducible apply p4) | (with_reducible apply p5))) (hv1:vs.all (·.oneCell')=true:=by first | rfl | (focus (simp;done))) (hlt:off + vs.length≤cs.size:=by first | omega | (focus (simp;done)) | (focus (simp;omega))) (hput:putAt cs off vs=cs':=by (first | ((simp only [putAt,Value.cells,List.toList_toArray,List.setIfInBounds_toArray,List.set_cons_zero,List.set_cons_succ,List.drop_succ_cons,List.drop_zero,List.take_succ_cons,List.take_zero,List.cons_append,List.nil_append,List.append_nil])<;>rfl) | rfl))
  (hle:aC h0 (⟨b,cs',tb⟩::hp'):=by (exact aj)):gY Tryz.prog n w0 mu all ds l h0 aH Y (i::r) aS hc:=rq ay ho hx hy nP hs hl hperm hv1 hlt hput hle h
end
section
variable {n : Nat} {w0 : World} {mu : List Nat} {l : Fm} {hp : Hp} {all : Array Oper} {iv : Fm} {i d : Nat} {ds : List (Nat × Nat)} {S : List Nat} {X : Fm → Prop} {ty : TypeId} {pos : String} {af : Array Edge} {v : Value}
end
end
section
section
variable {P : Program} {n : Nat} {w0 : World} {mu : List Nat} {l : Fm} {hp : Hp} {Q : Exit → Fm → Hp → Prop} {all : Array Oper} {kd : Nat → Kd} {val : Ch → Nat → Value} {k : Nat}
theorem LK {ds:List (Nat × Nat)} (hds:∀ k d,lk ds k=some d→aY all k=some d) {g:Nat} {Q':Exit→Act→World→Prop} (hk:k≤all.size) (hd:xg all k n=true) (hf:bI l (dstsOf all k)=true) (hback:nR all=true)
  (hS:∀ i o v,i<k→all[i]?=some o→kd i=.s v→(∀ c,val c i=v)∧∃ bK,(∀ j u,look bK j=some u→j<k∧∀ c,val c j=u)∧∀ hx,sQ P n w0 mu all (aG ds bK o.after.toList++l) (hx++hp) o v)
  (hE:∀ i o R,i<k→all[i]?=some o→kd i=.e R→(∀ c,val c i=(c i).1)∧∃ bK,(∀ j u,look bK j=some u→j<k∧∀ c,val c j=u)∧zI P n w0 mu all (aG ds bK o.after.toList++l) hp o R)
  (hD:∀ c,Valid kd k c→∀ i o,i<k→all[i]?=some o→kd i=.d→∃ bK,(∀ j u,look bK j=some u→j<k∧val c j=u)∧zY P n w0 mu (aG ds bK o.after.toList++l) hp o (val c i))
  (htail:∀ f c listed,leftOf k listed=f→HeadInv .any all k listed→(∀ i,i<k→wM (kd i)=true→listed.getD i true=true)→∀ a w,zZ n w0 mu all l hp kd val k c listed a w→wpAny P .any all Q' (f + g) listed a w)
  (lQ:∀ listed,HeadInv .any all k listed→∀ i,i<k→wM (kd i)=true→listed.getD i true=false→∀ t,k≤t→t ∉ Region.ready .any all listed):
  ∀ f c listed a w,leftOf k listed=f→HeadInv .any all k listed→zZ n w0 mu all l hp kd val k c listed a w→wpAny P .any all Q' (f + g) listed a w:=by
 intro f
 induction f with
 | zero=>
  intro c listed a w hlf inv hm
  refine htail 0 c listed hlf inv (fun i hi _=>?_) a w hm
  cases hc:listed.getD i true with
  | true=>rfl
  | false=>
   exfalso
   have:i∈(List.range k).filter fun i=>!listed.getD i true:=List.mem_filter.2 ⟨List.mem_range.2 hi,by simp only [hc,Bool.not_false]⟩
   have h2:=List.length_pos_of_mem this
   unfold leftOf at hlf
   omega
 | succ f ih=>
  intro c listed a w hlf inv hm
  by_cases uu:∀ i,i<k→wM (kd i)=true→listed.getD i true=true
  ·exact htail (f + 1) c listed hlf inv uu a w hm
  obtain ⟨i0,nG,ah0,hi0⟩:∃ i,i<k∧wM (kd i)=true∧listed.getD i true=false:=by
   refine Classical.byContradiction fun hno=>uu fun i hi he=>?_
   cases hc:listed.getD i true with
   | true=>rfl
   | false=>exact absurd ⟨i,hi,he,hc⟩ hno
  rw [show f + 1 + g=(f + g) + 1 by omega]
  refine ⟨fun hnil=>?_,fun i hi=>?_⟩
  ·exfalso
   obtain ⟨i,⟨hik,hil⟩,hmin⟩:=exists_least (p:=fun i=>i<k∧listed.getD i true=false) ⟨i0,nG,hi0⟩
   have hr:i∈Region.ready .any all listed:=by
    rw [mem_ready]
    have hs:i<all.size:=by omega
    refine ⟨hil,all[i],by simp [hs],fun e he hb=>?_⟩
    have hb2:=List.all_eq_true.1 hback i (List.mem_range.2 hs)
    simp only [Array.getElem?_eq_getElem hs] at hb2
    have hb3:=(Array.all_eq_true_iff_forall_mem.1 hb2) e he
    simp only [hb,Bool.not_true,Bool.false_or,Nat.blt_eq] at hb3
    cases hc:listed.getD e.on false with
    | true=>rfl
    | false=>
     have h5:=hmin e.on ⟨by omega,getD_in bf1 hc⟩
     omega
   rw [hnil] at hr;cases hr
  ·have hik:i<k:=by
    rcases Nat.lt_or_ge i k with h | h
    ·exact h
    ·exact absurd hi (lQ listed inv i0 nG ah0 hi0 i h)
   obtain ⟨hun,o,ho,hall⟩:=mem_ready.1 hi
   have hsz:i<listed.size:=by rw [inv.size];omega
   have hself:∀ j,j<k→listed.getD j false=true→wM (kd j)=true→c j=c j:=fun _ _ _ _=>rfl
   have hgo:∀ c2 a' w',zZ n w0 mu all l hp kd val k c2 (listed.setIfInBounds i true) a' w'→wpAny P .any all Q' (f + g) (listed.setIfInBounds i true) a' w':=fun c2 a' w' h=>
    ih c2 _ _ _ bg5 (inv.set hi hik) h
   have zJ:Good w0 mu hp w:=hm.good.sub (List.sublist_append_right _ _)
   unfold wpOp
   simp only [ho]
   cases hkd:kd i with
   | s v=>
    obtain ⟨nP,bK,hiv,hy⟩:=hS i o v hik ho hkd
    have hkn:=dX (i:=i) hds hm hm.valid hself (fun j u hu=>⟨(hiv j u hu).1,(hiv j u hu).2 c⟩) hall
    have hE0:wM (kd i)=false:=by rw [hkd];rfl
    have hnext:∀ w',Good w0 mu (jK kd c listed k++hp) w'→wpAny P .any all Q' (f + g) (listed.setIfInBounds i true) (a.put o.dst v) w':=fun w' hG'=>
     hgo c _ _ (jL hm ho hik hun hsz hd hf hm.valid (fun _ _=>rfl) (by rw [oL hE0];exact hG') (fun c' _ _=>nP c'))
    have h3:=hy (jK kd c listed k)
    unfold sQ at h3
    cases hg:o.guard with
    | none=>
     rw [hg] at h3
     rw [if_pos bf5]
     exact .inl (h3 a w hkn hm.good _ _ hnext)
    | some jw=>
     obtain ⟨j,want⟩:=jw
     rw [hg] at h3
     obtain ⟨dj,c0,b,u,hj,hb,hdj,hy,hvv⟩:=h3
     have hw:=iJ hkn hg hj hb hdj
     cases hc:(c0 && iH b want) with
     | true=>
      rw [hc] at hw hvv
      rw [if_pos hw]
      rw [Bool.and_eq_true] at hc
      rw [show v=u from hvv] at hnext
      exact .inl (hy hc.1 hc.2 a w hkn hm.good _ _ hnext)
     | false=>
      rw [hc] at hw hvv
      rw [if_neg bh2]
      rw [show v=undef from hvv] at hnext
      exact hnext w hm.good
   | e R=>
    obtain ⟨nP,bK,hiv,hg,hy⟩:=hE i o R hik ho hkd
    have hkn:=dX (i:=i) hds hm hm.valid hself (fun j u hu=>⟨(hiv j u hu).1,(hiv j u hu).2 c⟩) hall
    rw [if_pos (hg _ hkn)]
    refine .inl (hy a w _ hkn hm.good _ _ fun v hn w' hR hG'=>?_)
    refine hgo (fun t=>if t=i then (v,hn) else c t) _ _ (jL hm ho hik hun hsz hd hf ?_ (fun j hj=>by simp [hj]) ?_ ?_)
    ·intro j hj R' hR'
     by_cases hji:j=i
     ·subst hji
      rw [hkd] at hR'
      cases hR'
      simpa using hR
     ·simp only [hji,if_false]
      exact hm.valid j hj R' hR'
    ·refine hG'.perm ?_
     rw [← List.append_assoc]
     exact (BN bj9 hun hsz k hik).symm.append_right _
    ·intro c' hc' hag
     rw [nP c',hag i hik (by simp [hsz]) bj9]
     simp
   | d=>
    obtain ⟨bK,hiv,hg,hy⟩:=hD c hm.valid i o hik ho hkd
    have hE0:wM (kd i)=false:=by rw [hkd];rfl
    have hkn:=dX (i:=i) hds hm hm.valid hself hiv hall
    have hrun:=hy a w hkn zJ
    rw [if_pos bf5]
    refine .inl ?_
    unfold Oper.wp
    rw [hrun]
    refine hgo c _ _ (jL hm ho hik hun hsz hd hf hm.valid (fun _ _=>rfl) (by rw [oL hE0];exact hm.good) (fun c' hc' hag=>?_))
    obtain ⟨lJ,yR,hg2,hy2⟩:=hD c' hc' i o hik ho hkd
    have hag':∀ j,j<k→listed.getD j false=true→wM (kd j)=true→c' j=c j:=fun j hj hl he=>hag j hj (getD_set_true hl) he
    have hrun2:=hy2 a w (dX (i:=i) hds hm hc' hag' yR hall) zJ
    rw [hrun] at hrun2
    simp only [Result.ok.injEq,Next.value.injEq,and_true] at hrun2
    exact hrun2.symm
end
section
variable {P : Program} {n : Nat} {w0 : World} {mu : List Nat} {l : Fm} {h0 hp : Hp} {Q : Exit → Fm → Hp → Prop} {all : Array Oper} {aH : Fm} {k t0 : Nat} {ds : List (Nat × Nat)}
theorem CQ (hds:∀ k d,lk ds k=some d→aY all k=some d) {g:Nat} {Q':Exit→Act→World→Prop} {X:Fm→Hp→Prop} (hk:k≤all.size) (hd:uk all k n=true) (hf:bI l (dstsOf all k)=true) (hback:nR all=true) (hle0:aC h0 hp)
  (wB:∀ i,i<k→aY all i=none→i=t0∨Region.waitsFor .any all i t0=true)
  {dn:Nat→Bool} (hS:∀ i v,lk aH i=some v→i<k∧(dn i=false→∃ o bK,all[i]?=some o∧nH bK aH∧∀ hx,sQ P n w0 mu all (aG ds bK o.after.toList++l) (bif Region.waitsFor .any all t0 i then hx++hp else hx++h0) o v))
  (htail:∀ aS h listed,HeadInv .any all k listed→(∀ i,i<k→listed.getD i true=true)→X aS h→∀ a w,qX n w0 mu all l aH aS h listed a w→(∀ i v,(i,v)∈aS→i<k)→wpAny P .any all Q' g listed a w)
  (lQ:∀ listed,HeadInv .any all k listed→∀ i,i<k→listed.getD i true=false→∀ t,k≤t→t ∉ Region.ready .any all listed):
  ∀ f r aS h listed a w,leftOf k listed=f→HeadInv .any all k listed→(∀ i,dn i=true→listed.getD i true=true)→qX n w0 mu all l aH aS h listed a w→(∀ i v,(i,v)∈aS→i<k)→(∀ i∈r,i<k∧listed.getD i true=false∧lk aH i=none)→r.Nodup→rQ all r=true→(∀ i,i<k→listed.getD i true=false→(∃ v,lk aH i=some v)∨i∈r) →
   aC h0 h→(listed.getD t0 false=false→aC hp h)→gY P n w0 mu all ds l h0 aH X r aS h→wpAny P .any all Q' (f + g) listed a w:=by
 intro f
 induction f with
 | zero=>
  intro r aS h listed a w hlf inv hdone hm hEk hr hnd dH hcov hle pR hD
  have hall:∀ i,i<k→listed.getD i true=true:=by
   intro i hi
   cases hc:listed.getD i true with
   | true=>rfl
   | false=>
    exfalso
    have:i∈(List.range k).filter fun i=>!listed.getD i true:=List.mem_filter.2 ⟨List.mem_range.2 hi,by simp only [hc,Bool.not_false]⟩
    have h2:=List.length_pos_of_mem this
    unfold leftOf at hlf
    omega
  cases r with
  | nil=>
   rw [Nat.zero_add]
   exact htail aS h listed inv hall hD a w hm hEk
  | cons c r=>
   have h1:=hr c (List.mem_cons_self ..)
   rw [hall c h1.1] at h1
   exact absurd h1.2.1 be6
 | succ f ih=>
  intro r aS h listed a w hlf inv hdone hm hEk hr hnd dH hcov hle pR hD
  rw [show f + 1 + g=(f + g) + 1 by omega]
  have hex:∃ i,i<k∧listed.getD i true=false:=by
   have h2:0<leftOf k listed:=by omega
   obtain ⟨i,hi⟩:=List.exists_mem_of_length_pos h2
   rw [List.mem_filter] at hi
   exact ⟨i,List.mem_range.1 hi.1,by simpa using hi.2⟩
  obtain ⟨i0,nG,hi0⟩:=hex
  refine ⟨fun hnil=>?_,fun i hi=>?_⟩
  ·exfalso
   obtain ⟨i,⟨hik,hil⟩,hmin⟩:=exists_least (p:=fun i=>i<k∧listed.getD i true=false) ⟨i0,nG,hi0⟩
   have hr:i∈Region.ready .any all listed:=by
    rw [mem_ready]
    have hs:i<all.size:=by omega
    refine ⟨hil,all[i],by simp [hs],fun e he hb=>?_⟩
    have hb2:=List.all_eq_true.1 hback i (List.mem_range.2 hs)
    simp only [Array.getElem?_eq_getElem hs] at hb2
    have hb3:=(Array.all_eq_true_iff_forall_mem.1 hb2) e he
    simp only [hb,Bool.not_true,Bool.false_or,Nat.blt_eq] at hb3
    cases hc:listed.getD e.on false with
    | true=>rfl
    | false=>
     have h5:=hmin e.on ⟨by omega,getD_in bf1 hc⟩
     omega
   rw [hnil] at hr;cases hr
  ·have hik:i<k:=by
    rcases Nat.lt_or_ge i k with h | h
    ·exact h
    ·exact absurd hi (lQ listed inv i0 nG hi0 i h)
   obtain ⟨hun,o,ho,hall⟩:=mem_ready.1 hi
   have hsz:i<listed.size:=by rw [inv.size];omega
   have pM:listed.getD i false=false:=getD_both hun
   have hleft:leftOf k (listed.setIfInBounds i true)=f:=by have:=kT hik bf1 hun;omega
   have hwl:∀ t,Region.waitsFor .any all i t=true→listed.getD t false=true:=fun t ht=>by
    obtain ⟨oj,h6,e,he,hb,heq⟩:=Region.waitsFor_spec ht
    rw [ho] at h6;cases h6
    rw [← heq];exact hall e he hb
   unfold wpOp
   simp only [ho]
   cases vK:lk aH i with
   | some v=>
    obtain ⟨_,hyy⟩:=hS i v vK
    have hdn:dn i=false:=by
     cases hc:dn i with
     | false=>rfl
     | true=>rw [hdone i hc] at hun;cases hun
    obtain ⟨o',bK,ho',hmo,hy⟩:=hyy hdn
    rw [ho] at ho';cases ho'
    have hkn:=jD (o:=o) hds hm (bK:=bK) (fun j u hu=>.inr (hmo j u bf9)) hall
    have hir:i ∉ r:=fun hm'=>by rw [(hr i hm').2.2] at vK;cases vK
    have hnext:∀ w',Good w0 mu h w'→wpAny P .any all Q' (f + g) (listed.setIfInBounds i true) (a.put o.dst v) w':=fun w' hG'=>by
     refine ih r aS h _ _ _ hleft (inv.set hi hik) (fun j hj=>jE (hdone j hj)) (kZ hm ho hik hun hsz hd hf hG' (fun j u hu=>(hS j u hu).1) hEk (.inl ⟨vK,rfl⟩)) hEk (fun j hj=>?_) hnd dH (fun j hj hl=>?_) hle (fun ht=>?_) hD
     ·have hji:i ≠ j:=fun e=>hir (e▸hj)
      exact ⟨(hr j hj).1,by rw [getD_set_ne true hji];exact (hr j hj).2.1,(hr j hj).2.2⟩
     ·refine hcov j hj ?_
      by_cases hji:i=j
      ·subst hji;simp [hsz] at hl
      ·rwa [getD_set_ne true hji] at hl
     ·refine pR ?_
      by_cases hji:i=t0
      ·subst hji;exact pM
      ·rwa [getD_set_ne false hji] at ht
    obtain ⟨hx,h3,jh⟩:∃ hx,sQ P n w0 mu all (aG ds bK o.after.toList++l) hx o v∧hx.Perm h:=by
     cases hwt:Region.waitsFor .any all t0 i with
     | true=>
      have ht0:listed.getD t0 false=false:=by
       cases hc:listed.getD t0 false with
       | false=>rfl
       | true=>
        obtain ⟨oj,h6,e,he,hb,heq⟩:=Region.waitsFor_spec hwt
        have:=inv.closed t0 oj h6 hc e he hb
        rw [heq,pM] at this;cases this
      obtain ⟨x,hxp⟩:=(pR ht0).perm
      have h4:=hy x
      rw [hwt] at h4
      exact ⟨x++hp,h4,List.perm_append_comm.trans hxp⟩
     | false=>
      obtain ⟨x,hxp⟩:=hle.perm
      have h4:=hy x
      rw [hwt] at h4
      exact ⟨x++h0,h4,List.perm_append_comm.trans hxp⟩
    have hgd:Good w0 mu hx w:=hm.good.perm jh
    replace hnext:∀ w',Good w0 mu hx w'→wpAny P .any all Q' (f + g) (listed.setIfInBounds i true) (a.put o.dst v) w':=fun w' hG'=>hnext w' (hG'.perm jh.symm)
    unfold sQ at h3
    cases hg:o.guard with
    | none=>
     rw [hg] at h3
     rw [if_pos bf5]
     exact .inl (h3 a w hkn hgd _ _ hnext)
    | some jw=>
     obtain ⟨j,want⟩:=jw
     rw [hg] at h3
     obtain ⟨dj,c0,b,u,hj,hb,hdj,hy,hvv⟩:=h3
     have hw:=iJ hkn hg hj hb hdj
     cases hc:(c0 && iH b want) with
     | true=>
      rw [hc] at hw hvv
      rw [if_pos hw]
      rw [Bool.and_eq_true] at hc
      rw [show v=u from hvv] at hnext
      exact .inl (hy hc.1 hc.2 a w hkn hgd _ _ hnext)
     | false=>
      rw [hc] at hw hvv
      rw [if_neg bh2]
      rw [show v=undef from hvv] at hnext
      exact hnext w hgd
   | none=>
    have hir:i∈r:=by
     rcases hcov i hik hun with ⟨v,hv⟩ | h
     ·rw [vK] at hv;cases hv
     ·exact h
    cases r with
    | nil=>cases hir
    | cons c r=>
     have hic:i=c:=by
      rcases List.mem_cons.1 hir with h | h
      ·exact h
      ·exfalso
       obtain ⟨p,hp⟩:=wz dH h
       rcases hp with ⟨h1,_,h3⟩ | ⟨_,h3⟩ | ⟨p,h1,h3⟩
       ·have:=(hr p h1).2.1;have h5:=hwl p h3
        rw [getD_both this] at h5;cases h5
       ·exact h3
       ·have:=(hr p h1).2.1;have h5:=hwl p h3
        rw [getD_both this] at h5;cases h5
     subst hic
     rw [List.nodup_cons] at hnd
     have qY:rQ all r=true:=by
      cases r with
      | nil=>rfl
      | cons j r=>simp only [rQ,Bool.and_eq_true] at dH;exact dH.2
     have hr':∀ j∈r,j<k∧(listed.setIfInBounds i true).getD j true=false∧lk aH j=none:=fun j hj=>by
      have h1:=hr j (List.mem_cons_of_mem _ hj)
      have hji:i ≠ j:=fun e=>hnd.1 (e▸hj)
      exact ⟨h1.1,by rw [getD_set_ne true hji];exact h1.2.1,h1.2.2⟩
     have oQ:∀ j,j<k→(listed.setIfInBounds i true).getD j true=false→(∃ v,lk aH j=some v)∨j∈r:=fun j hj hl=>by
      by_cases hji:i=j
      ·subst hji;simp [hsz] at hl
      ·rw [getD_set_ne true hji] at hl
       rcases hcov j hj hl with h | h
       ·exact .inl h
       ·exact .inr ((List.mem_cons.1 h).resolve_left (Ne.symm hji))
     have hkn:=jD (o:=o) hds hm (bK:=aS++aH) (fun j u hu=>by
      rw [fM,Gy] at hu
      cases hE:lk aS j with
      | some v=>rw [hE] at hu;exact .inl hu
      | none=>rw [hE] at hu;exact .inr hu) hall
     unfold gY at hD
     obtain ⟨o',ho',hD⟩:=hD
     rw [ho] at ho';cases ho'
     rcases hD with ⟨hds',R,⟨hg,hE⟩,hD⟩ | ⟨hdn,h',⟨hg,_,hSt⟩,hle',hD⟩
     ·rw [if_pos (hg _ hkn)]
      refine .inl (hE a w [] hkn (by simpa using hm.good) _ _ fun v hn w' hR hG'=>?_)
      rw [List.nil_append] at hG'
      have hlen:∀ x:Hp,aC x h→aC x (hn++h):=fun x hx=>bu fun b=>by have:=hx.cnt b;rw [bV];omega
      refine ih r ((i,v)::aS) (hn++h) _ _ _ hleft (inv.set hi hik) (fun j hj=>jE (hdone j hj)) (kZ hm ho hik hun hsz hd hf hG' (fun j u hu=>(hS j u hu).1) hEk (.inr ⟨vK,rfl⟩)) (fun j u hu=>?_) hr' hnd.2 qY oQ (hlen _ hle) (fun ht=>hlen _ (pR ?_)) (hD v hn hR)
      ·rcases List.mem_cons.1 hu with hu | hu
       ·cases hu;exact hik
       ·exact hEk j u hu
      ·by_cases hji:i=t0
       ·subst hji;exact pM
       ·rwa [getD_set_ne false hji] at ht
     ·rw [if_pos bf5]
      refine .inl (hSt a w hkn hm.good _ _ fun w' hG'=>?_)
      have hmc:qX n w0 mu all l aH aS h' (listed.setIfInBounds i true) a w':=by
       refine ⟨hm.size,hm.defers,hm.has,hG',fun j u hj hl d hdj=>?_,fun j u hj=>⟨getD_set_true (hm.mX j u hj).1,(hm.mX j u hj).2⟩⟩
       have hji:i ≠ j:=fun e=>by subst e;rw [vK] at hj;cases hj
       exact hm.rV j u hj bj2 d hdj
      refine ih r aS h' _ _ _ hleft (inv.set hi hik) (fun j hj=>jE (hdone j hj)) hmc hEk hr' hnd.2 qY oQ hle' (fun ht=>?_) hD
      exfalso
      rcases wB i hik (by simp [aY,ho,hdn]) with e | e
      ·subst e
       rw [show (listed.setIfInBounds i true).getD i false=true by simp [hsz]] at ht;cases ht
      ·have:=getD_set_true (i:=i) (hwl t0 e)
       rw [this] at ht;cases ht
end
def mD (ops:Array Oper) (n k:Nat) (S E D D2 C:List Nat):Bool:=
 match C with
 | []=>false
 | t0::_=>decide (k≤ops.size) && xg ops k n && uk ops ops.size n && nR ops && qW ops.size (S++E++D++D2) C && rQ ops C && (S.all fun j=>Region.waitsFor .any ops t0 j) && (E.all fun j=>Region.waitsFor .any ops t0 j) && (D2++C).all (fun j=>Nat.ble k j) &&
  ((List.range ops.size).all fun i=>(aY ops i).isSome || Nat.beq i t0 || Region.waitsFor .any ops i t0) &&
  ((List.range ops.size).all fun i=>Nat.blt i k || (E.all fun j=>Region.waitsFor .any ops i j) || (List.range ops.size).any fun j=>Nat.ble k j && Region.waitsFor .any ops i j)
theorem zL {k K : Nat} {listed : Array Bool} (hk : k ≤ K) (h : ∀ t, k ≤ t → t < K → listed.getD t true = false) : leftOf K listed = leftOf k listed + (K - k) := by
  induction K with
  | zero => have : k = 0 := by omega
            subst this; rfl
  | succ K ih =>
    by_cases e : k = K + 1
    · subst e; omega
    · have h1 := ih be5 (fun t h2 h3 => h t h2 be5)
      have h2 := h K be5 be5
      unfold leftOf at h1 ⊢
      rw [List.range_succ, List.filter_append, List.length_append, h1]
      have : ([K].filter fun i => !listed.getD i true) = [K] := by simp only [List.filter_cons, h2, Bool.not_false, List.filter_nil, if_true]
      rw [this, List.length_singleton]
      omega
section
variable {P : Program} {n : Nat} {w0 : World} {mu : List Nat} {l : Fm} {hp : Hp} {Q : Exit → Fm → Hp → Prop} {ds : List (Nat × Nat)}
theorem Jf {lf:Fm} {o:Oper} {v:Value} {h:Hp} (hy:zY P n w0 mu lf [] o v):zY P n w0 mu lf h o v:=⟨hy.1,fun a w hk hG=>hy.2 a w hk (hG.sub (List.nil_sublist _))⟩
theorem Jg {lf:Fm} {o:Oper} {v:Value} {h:Hp} {all:Array Oper} (hy:zY P n w0 mu lf [] o v):sQ P n w0 mu all lf h o v:=by
 unfold sQ
 rw [hy.1]
 intro a w hk hG K Q' hK
 unfold Oper.wp
 rw [hy.2 a w hk (hG.sub (List.nil_sublist _))]
 exact hK _ hG
theorem LM {ops:List Oper} (k:Nat) (S E D D2 C:List Nat) (hB:mD ops.toArray n k S E D D2 C=true) (hf:bI l (dstsOf ops.toArray ops.toArray.size)=true) (hf1:bI l (dstsOf ops.toArray k)=true) (hsp:splitB k S E D=true) (hds:bY ops 0=ds)
  (h:je P n w0 mu ops.toArray ds l hp (fun aH=>iI P n w0 mu ops.toArray ds l hp aH (fun Rs=>∀ c,Ef c Rs→gJ P n w0 mu ops.toArray ds l [] (fun UU=>gJ P n w0 mu ops.toArray ds l [] (fun lJ=>gY P n w0 mu ops.toArray ds l [] lJ (fun aS hc=>Ops P n w0 mu ops.toArray [] (bC ds (aS++lJ)++l) hc Q) C [] (yS E c k++hp)) D2 UU) D (wO c Rs++aH)) E []) S []):jV P n w0 mu ops.toArray l hp Q:=by
 intro a w hk hG
 simp only [splitB,Bool.and_eq_true,decide_eq_true_eq] at hsp
 obtain ⟨⟨⟨_,hnd⟩,hlt⟩,hcov⟩:=hsp
 have hlt':∀ i∈S++E++D,i<k:=fun i hi=>by have:=List.all_eq_true.1 hlt i hi;simpa using this
 have oQ:∀ i,i<k→i∈S∨i∈E∨i∈D:=fun i hi=>by
  have:=dQ (List.all_eq_true.1 hcov i (List.mem_range.2 hi))
  simpa [or_assoc] using this
 rw [List.append_assoc,List.nodup_append] at hnd
 obtain ⟨BP,zK,hSx⟩:=hnd
 rw [List.nodup_append] at zK
 obtain ⟨BQ,Ll,hEx⟩:=zK
 obtain ⟨aH,h2,Qa,sS,hsS⟩:=Gj S [] BP (fun _ _=>rfl) (fun _ _ h=>by cases h) h (fun i v hv=>by cases hv)
 obtain ⟨Rs,h3,qg,hsE⟩:=Gl E [] BQ (fun _ _=>rfl) h2 (fun i R hR=>by cases hR)
 simp only [lk,reduceCtorEq,exists_false,or_false] at sS qg
 have Xx:∀ i R,lk Rs i=some R→lk aH i=none:=fun i R hR=>by
  cases hv:lk aH i with
  | none=>rfl
  | some v=>exact absurd rfl (hSx i ((sS i).1 ⟨v,hv⟩) i (List.mem_append_left _ ((qg i).1 ⟨R,hR⟩)))
 let kd:Nat→Kd:=fun i=>match lk Rs i with | some R=>.e R | none=>match lk aH i with | some v=>.s v | none=>.d
 have lK:∀ i R,kd i=.e R↔lk Rs i=some R:=fun i R=>by
  show (match lk Rs i with | some R=>Kd.e R | none=>match lk aH i with | some v=>.s v | none=>.d)=_↔_
  cases lk Rs i with
  | some R'=>simp
  | none=>cases lk aH i<;>simp
 have IW:∀ i v,kd i=.s v→lk Rs i=none∧lk aH i=some v:=fun i v=>by
  show (match lk Rs i with | some R=>Kd.e R | none=>match lk aH i with | some v=>.s v | none=>.d)=_→_
  cases lk Rs i with
  | some R'=>simp
  | none=>cases lk aH i<;>simp
 have Uc:∀ i,kd i=.d→lk Rs i=none∧lk aH i=none:=fun i=>by
  show (match lk Rs i with | some R=>Kd.e R | none=>match lk aH i with | some v=>.s v | none=>.d)=_→_
  cases lk Rs i with
  | some R'=>simp
  | none=>cases lk aH i<;>simp
 have IX:∀ i R,lk Rs i=some R→(i,R)∈Rs:=fun i R h=>iK h
 have hvalid:∀ c,Valid kd k c→Ef c Rs:=fun c hc=>AU Rs fun p hp=>by
  obtain ⟨i,R⟩:=p
  have h1:=(hsE i R hp).1
  exact hc i (hlt' i (List.mem_append_left _ (List.mem_append_right _ ((qg i).1 ⟨R,h1⟩)))) R ((lK i R).2 h1)
 have hex:∀ c,Valid kd k c→∃ xy,gJ P n w0 mu ops.toArray ds l [] (fun lJ=>gY P n w0 mu ops.toArray ds l [] lJ (fun aS hc=>Ops P n w0 mu ops.toArray [] (bC ds (aS++lJ)++l) hc Q) C [] (yS E c k++hp)) D2 xy∧Uq xy∧nH (wO c Rs++aH) xy∧(∀ i,(∃ v,lk xy i=some v)↔i∈D∨∃ v,lk (wO c Rs++aH) i=some v)∧∀ i v,lk xy i=some v→lk (wO c Rs++aH) i=some v∨∃ o bK,ops.toArray[i]?=some o∧nH bK xy∧zY P n w0 mu (aG ds bK o.after.toList++l) [] o v:=fun c hc=>
  xx D (wO c Rs++aH) Ll (fun i hi=>by
   rw [dV]
   have e1:lk Rs i=none:=by
    cases hR:lk Rs i with
    | none=>rfl
    | some R=>exact absurd rfl (hEx i ((qg i).1 ⟨R,hR⟩) i hi)
   rw [e1]
   cases hv:lk aH i with
   | none=>rfl
   | some v=>exact absurd rfl (hSx i ((sS i).1 ⟨v,hv⟩) i (List.mem_append_right _ hi))) (fun i v hv=>by
   rw [dV]
   rcases List.mem_append.1 hv with hv | hv
   ·obtain ⟨rfl,R,hR⟩:=xA Rs hv
    rw [(hsE i R hR).1]
   ·have h1:=Qa i v hv
    cases hR:lk Rs i with
    | none=>exact h1
    | some R=>rw [Xx i R hR] at h1;cases h1) (fun _ _ h=>h) (h3 c (hvalid c hc)) (fun i v hv=>.inl hv)
 have hch:∃ F:Ch→Fm,∀ c,Valid kd k c→gJ P n w0 mu ops.toArray ds l [] (fun lJ=>gY P n w0 mu ops.toArray ds l [] lJ (fun aS hc=>Ops P n w0 mu ops.toArray [] (bC ds (aS++lJ)++l) hc Q) C [] (yS E c k++hp)) D2 (F c)∧Uq (F c)∧nH (wO c Rs++aH) (F c)∧(∀ i,(∃ v,lk (F c) i=some v)↔i∈D∨∃ v,lk (wO c Rs++aH) i=some v)∧∀ i v,lk (F c) i=some v→lk (wO c Rs++aH) i=some v∨∃ o bK,ops.toArray[i]?=some o∧nH bK (F c)∧zY P n w0 mu (aG ds bK o.after.toList++l) [] o v:=by
  classical
  refine ⟨fun c=>if hc:Valid kd k c then Classical.choose (hex c hc) else [],fun c hc=>?_⟩
  simp only [hc,dif_pos]
  exact Classical.choose_spec (hex c hc)
 obtain ⟨F,hF⟩:=hch
 let val:Ch→Nat→Value:=fun c i=>match kd i with | .s v=>v | .e _=>(c i).1 | .d=>(lk (F c) i).getD undef
 have tK:∀ c,Valid kd k c→∀ i v,lk (F c) i=some v→val c i=v:=fun c hc i v hv=>by
  obtain ⟨_,_,hmo,_,_⟩:=hF c hc
  show (match kd i with | .s v=>v | .e _=>(c i).1 | .d=>(lk (F c) i).getD undef)=v
  cases hkd:kd i with
  | s u=>
   obtain ⟨e1,e2⟩:=IW i u hkd
   have:=hmo i u (by rw [dV,e1];exact e2)
   rw [hv] at this;cases this;rfl
  | e R=>
   have e1:=(lK i R).1 hkd
   have:=hmo i (c i).1 (by rw [dV,e1])
   rw [hv] at this;cases this;rfl
  | d=>rw [hv];rfl
 have xB:∀ c,Valid kd k c→∀ i,i<k→∃ v,lk (F c) i=some v:=fun c hc i hi=>by
  obtain ⟨_,_,_,hkk,_⟩:=hF c hc
  rw [hkk i]
  rcases oQ i hi with h | h | h
  ·obtain ⟨v,hv⟩:=(sS i).2 h
   right
   rw [dV]
   cases lk Rs i with
   | some R=>exact ⟨_,rfl⟩
   | none=>exact ⟨v,hv⟩
  ·obtain ⟨R,hR⟩:=(qg i).2 h
   right
   rw [dV,hR]
   exact ⟨_,rfl⟩
  ·exact .inl h
 have mO:∀ i v,lk aH i=some v→i<k∧∀ c,val c i=v:=fun i v hv=>by
  refine ⟨hlt' i (List.mem_append_left _ (List.mem_append_left _ ((sS i).1 ⟨v,hv⟩))),fun c=>?_⟩
  show (match kd i with | .s v=>v | .e _=>(c i).1 | .d=>(lk (F c) i).getD undef)=v
  have:kd i=.s v:=by
   show (match lk Rs i with | some R=>Kd.e R | none=>match lk aH i with | some v=>.s v | none=>.d)=_
   cases hR:lk Rs i with
   | some R=>rw [Xx i R hR] at hv;cases hv
   | none=>rw [hv]
  rw [this]
 cases C with
 | nil=>simp [mD] at hB
 | cons t0 C'=>
 simp only [mD,Bool.and_eq_true,decide_eq_true_eq] at hB
 obtain ⟨⟨⟨⟨⟨⟨⟨⟨⟨⟨hks,hd⟩,hdK⟩,hback⟩,xO⟩,dH⟩,hSt⟩,hEt⟩,hge⟩,wB⟩,hwt⟩:=hB
 simp only [qW,Bool.and_eq_true,decide_eq_true_eq] at xO
 obtain ⟨⟨ah1,ah2⟩,UW⟩:=xO
 have LP:∀ j,j∈D2++t0::C'→k≤j:=fun j hj=>by have:=List.all_eq_true.1 hge j hj;simpa using this
 have nI:∀ i d,lk ds i=some d→aY ops.toArray i=some d:=fun i d h=>by rw [← hds] at h;have:=(jJ ops 0 i d h).2;simpa [aY] using this
 have Gm:∃ c0:Ch,Valid kd k c0:=by
  have h1:∀ i,∃ x:Value × Hp,∀ R,kd i=.e R→R x.1 x.2:=fun i=>by
   cases hR:lk Rs i with
   | none=>exact ⟨(undef,[]),fun R h=>by rw [(lK i R).1 h] at hR;cases hR⟩
   | some R=>
    obtain ⟨_,o,_,_,v,hn,hv⟩:=hsE i R (IX i R hR)
    exact ⟨(v,hn),fun R' h=>by rw [(lK i R').1 h] at hR;cases hR;exact hv⟩
  exact ⟨fun i=>Classical.choose (h1 i),fun i hi R hR=>Classical.choose_spec (h1 i) R hR⟩
 obtain ⟨c0,hc0⟩:=Gm
 have inv0:HeadInv .any ops.toArray k (Array.replicate ops.toArray.size false):=
  ⟨by simp,fun j oj _ hl=>bf0,fun t _ ht=>getD_in bi4 (getD_replicate_false _ _)⟩
 have hleft:leftOf k (Array.replicate ops.toArray.size false)=k:=by
  unfold leftOf
  rw [List.filter_eq_self.2]
  ·simp
  ·intro i hi
   have hi':i<k:=by simpa using hi
   have:(Array.replicate ops.toArray.size false).getD i true=false:=getD_in bj0 (getD_replicate_false _ _)
   simp only [this,Bool.not_false]
 have Ud:∀ m,jK kd c0 (Array.replicate ops.toArray.size false) m=[]:=by
  intro m
  induction m with
  | zero=>rfl
  | succ m ih=>simp only [jK,ih,kV,getD_replicate_false,Bool.and_false,cond_false,List.append_nil]
 have BR:∀ i,i<k→wM (kd i)=mem E i:=fun i hi=>by
  cases hkd:kd i with
  | e R=>rw [mem_of ((qg i).1 ⟨R,(lK i R).1 hkd⟩)];rfl
  | s v=>
   cases hmm:mem E i with
   | false=>rfl
   | true=>obtain ⟨R,hR⟩:=(qg i).2 (dQ hmm);rw [(lK i R).2 hR] at hkd;cases hkd
  | d=>
   cases hmm:mem E i with
   | false=>rfl
   | true=>obtain ⟨R,hR⟩:=(qg i).2 (dQ hmm);rw [(lK i R).2 hR] at hkd;cases hkd
 have key:=LK nI (P:=P) (n:=n) (w0:=w0) (mu:=mu) (l:=l) (hp:=hp) (all:=ops.toArray) (kd:=kd) (val:=val) (k:=k) (g:=ops.toArray.size - k) (Q':=QQ n w0 mu Q) hks hd hf1 hback
  (fun i o v hi ho hkd=>by
   obtain ⟨e1,e2⟩:=IW i v hkd
   obtain ⟨o',bK,h1,h2,h3⟩:=hsS i v e2
   rw [ho] at h1;cases h1
   exact ⟨(mO i v e2).2,bK,fun j u hu=>mO j u (h2 j u bf9),h3⟩)
  (fun i o R hi ho hkd=>by
   have e1:=(lK i R).1 hkd
   obtain ⟨_,o',h1,h2,_⟩:=hsE i R (IX i R e1)
   rw [ho] at h1;cases h1
   refine ⟨fun c=>?_,aH,fun j u hu=>mO j u bf9,h2⟩
   show (match kd i with | .s v=>v | .e _=>(c i).1 | .d=>(lk (F c) i).getD undef)=_
   rw [hkd])
  (fun c hcv i o hi ho hkd=>by
   obtain ⟨e1,e2⟩:=Uc i hkd
   obtain ⟨v,hv⟩:=xB c hcv i hi
   obtain ⟨_,_,_,_,hsp⟩:=hF c hcv
   rw [tK c hcv i v hv]
   rcases hsp i v hv with h0 | ⟨o',bK,h1,h2,h3⟩
   ·rw [dV,e1] at h0;rw [e2] at h0;cases h0
   ·rw [ho] at h1;cases h1
    refine ⟨bK,fun j u hu=>?_,Jf h3⟩
    have hj:=h2 j u bf9
    refine ⟨?_,tK c hcv j u hj⟩
    obtain ⟨_,_,_,hkk,_⟩:=hF c hcv
    rcases (hkk j).1 ⟨u,hj⟩ with h | ⟨v',h⟩
    ·exact hlt' j (List.mem_append_right _ h)
    ·rw [dV] at h
     cases hR:lk Rs j with
     | some R=>exact hlt' j (List.mem_append_left _ (List.mem_append_right _ ((qg j).1 ⟨R,hR⟩)))
     | none=>rw [hR] at h;exact (mO j v' h).1)
  (fun f c listed hlf inv uu a w hmid=>?_)
  (fun listed inv i hi hie hun t ht=>?_)
  k c0 _ a { w with drawn:=w.drawn + 1 } hleft inv0 ⟨hk.size,hk.defers,hk.has,hc0,by rw [Ud];exact hG.drawn _,fun i _ hl=>bf0⟩
 ·have e:k + (ops.toArray.size - k)=ops.toArray.size:=by omega
  rw [e] at key
  exact key
 ·obtain ⟨hX,huq,hmo,hkk,hsp1⟩:=hF c hmid.valid
  have Xz:∀ i v,lk (F c) i=some v→i<k:=fun i v hv=>by
   rcases (hkk i).1 ⟨v,hv⟩ with h | ⟨v',h⟩
   ·exact hlt' i (List.mem_append_right _ h)
   ·rw [dV] at h
    cases hR:lk Rs i with
    | some R=>exact hlt' i (List.mem_append_left _ (List.mem_append_right _ ((qg i).1 ⟨R,hR⟩)))
    | none=>rw [hR] at h;exact (mO i v' h).1
  have Jh:=ah1
  rw [List.nodup_append,List.nodup_append] at Jh
  obtain ⟨⟨_,UX,aE0⟩,Gz,hCx⟩:=Jh
  obtain ⟨lJ,hY,hu2,GL,LQ,hsp2⟩:=xx (base:=F c) D2 (F c) UX (fun i hi=>by
   cases hv:lk (F c) i with
   | none=>rfl
   | some v=>
    have h1:=Xz i v hv
    have h2:=LP i (List.mem_append_left _ hi)
    omega) huq (fun _ _ h=>h) hX (fun i v hv=>.inl hv)
  have CS:∀ j,k≤j→j<ops.toArray.size→listed.getD j true=false:=fun j h1 h2=>inv.tail j h1 h2
  have CU:∀ i∈(S++E++D++D2)++t0::C',i<ops.toArray.size:=fun i hi=>by have:=List.all_eq_true.1 ah2 i hi;simpa using this
  have yR:∀ i v,lk lJ i=some v→i<ops.toArray.size:=fun i v hv=>by
   rcases (LQ i).1 ⟨v,hv⟩ with h | ⟨v',h⟩
   ·exact CU i (List.mem_append_left _ (List.mem_append_right _ h))
   ·have:=Xz i v' h;omega
  have invK:HeadInv .any ops.toArray ops.toArray.size listed:=⟨inv.size,inv.closed,fun t h1 h2=>by omega⟩
  have ah3:leftOf ops.toArray.size listed=f + (ops.toArray.size - k):=by rw [zL hks CS,hlf]
  have hbe:∀ m,m≤k→jK kd c listed m=yS E c m:=by
   intro m
   induction m with
   | zero=>intro _;rfl
   | succ m ih=>
    intro hm
    simp only [jK,yS,kV]
    rw [ih be5,BR m be5]
    cases hme:mem E m with
    | false=>rfl
    | true=>
     have h1:=uu m be5 (by rw [BR m be5];exact hme)
     have h2:listed.getD m false=true:=by
      cases hcc:listed.getD m false with
      | true=>rfl
      | false=>rw [getD_in bf1 hcc] at h1;cases h1
     rw [h2];rfl
  have hgood:Good w0 mu (yS E c k++hp) w:=by rw [← hbe k (Nat.le_refl _)];exact hmid.good
  have UY:qX n w0 mu ops.toArray l lJ [] (yS E c k++hp) listed a w:=by
   refine ⟨hmid.size,hmid.defers,hmid.has,hgood,fun i v hv hl d hdd=>?_,fun i v hv=>by cases hv⟩
   have hik:i<k:=by
    rcases Nat.lt_or_ge i k with h | h
    ·exact h
    ·have h1:=CS i h (yR i v hv)
     rw [getD_both h1] at hl;cases hl
   obtain ⟨v',hv'⟩:=xB c hmid.valid i hik
   have h1:=GL i v' hv'
   rw [hv] at h1;cases h1
   rw [hmid.done i hik hl c hmid.valid (fun _ _ _ _=>rfl) d hdd]
   exact tK c hmid.valid i v hv'
  have ah4:=CQ nI (P:=P) (n:=n) (w0:=w0) (mu:=mu) (l:=l) (hp:=hp) (h0:=[]) (all:=ops.toArray) (aH:=lJ) (k:=ops.toArray.size) (t0:=t0) (g:=0) (Q':=QQ n w0 mu Q) (X:=fun aS hc=>Ops P n w0 mu ops.toArray [] (bC ds (aS++lJ)++l) hc Q) (dn:=mem E) (Nat.le_refl _) hdK hf hback (bu fun b=>by simp [lM])
   (fun i hi hdn=>by
    have:=List.all_eq_true.1 wB i (List.mem_range.2 hi)
    rw [hdn] at this
    simp only [Option.isSome_none,Bool.false_or,Bool.or_eq_true] at this
    rcases this with h | h
    ·exact .inl (Nat.eq_of_beq_eq_true h)
    ·exact .inr h)
   (fun i v hv=>⟨yR i v hv,fun hne=>?_⟩)
   (fun aS h listed inv hall hX a w hmid hEk=>?_)
   (fun listed inv i hi hun t ht hr=>by
    obtain ⟨_,o,ho,_⟩:=mem_ready.1 hr
    have:=(Array.getElem?_eq_some_iff.1 ho).1
    omega)
   (f + (ops.toArray.size - k)) (t0::C') [] (yS E c k++hp) listed a w ah3 invK (fun i hi=>uu i (hlt' i (List.mem_append_left _ (List.mem_append_right _ (dQ hi)))) bh0) UY (fun i v hv=>by cases hv)
   (fun i hi=>⟨CU i (List.mem_append_right _ hi),CS i (LP i (List.mem_append_right _ hi)) (CU i (List.mem_append_right _ hi)),?_⟩) Gz dH (fun i hi hl=>?_) (bu fun b=>by simp [lM]) (fun _=>aC.right _ _) hY
  ·exact ah4
  ·rcases hsp2 i v hv with h0 | ⟨o,bK,h1,h2,h3⟩
   ·rcases hsp1 i v h0 with h0 | ⟨o,bK,h1,h2,h3⟩
    ·rw [dV] at h0
     cases hR:lk Rs i with
     | some R=>
      rw [mem_of ((qg i).1 ⟨R,hR⟩)] at hne;cases hne
     | none=>
      rw [hR] at h0
      obtain ⟨o,bK,h1,h2,h3⟩:=hsS i v h0
      refine ⟨o,bK,h1,fun j u hu=>?_,fun hx=>?_⟩
      ·refine GL j u (hmo j u ?_)
       have h4:=h2 j u hu
       rw [dV]
       cases hR2:lk Rs j with
       | some R2=>rw [Xx j R2 hR2] at h4;cases h4
       | none=>exact h4
      ·rw [List.all_eq_true.1 hSt i ((sS i).1 ⟨v,h0⟩)]
       exact h3 hx
    ·exact ⟨o,bK,h1,fun j u hu=>GL j u (h2 j u hu),fun hx=>Jg h3⟩
   ·exact ⟨o,bK,h1,h2,fun hx=>Jg h3⟩
  ·have qZ:Knows n (bC ds (aS++lJ)++l) a:=by
    refine ⟨hmid.size,hmid.defers,fun t v ht=>?_⟩
    rcases eX ht with ht | ⟨_,ht⟩
    ·obtain ⟨j,h1,h2⟩:=iV (gK ht)
     rcases List.mem_append.1 h1 with h1 | h1
     ·exact (hmid.mX j v h1).2 t (nI _ _ h2)
     ·have hj:=hu2 j v h1
      have hjk:=yR j v hj
      refine hmid.rV j v hj ?_ t (nI _ _ h2)
      have h5:=hall j hjk
      cases hcc:listed.getD j false with
      | true=>rfl
      | false=>rw [getD_in bf1 hcc] at h5;cases h5
    ·exact hmid.has t v ht
   refine ⟨?_,hX a w qZ hmid.good⟩
   rw [List.eq_nil_iff_forall_not_mem]
   intro i hi
   obtain ⟨hun,o,ho,_⟩:=mem_ready.1 hi
   rw [hall i (Array.getElem?_eq_some_iff.1 ho).1] at hun;cases hun
  ·cases hv:lk lJ i with
   | none=>rfl
   | some v=>
    exfalso
    have h2:=LP i (List.mem_append_right _ hi)
    rcases (LQ i).1 ⟨v,hv⟩ with h | ⟨v',h⟩
    ·exact hCx i (List.mem_append_right _ h) i hi rfl
    ·have:=Xz i v' h;omega
  ·have h1:=dQ (List.all_eq_true.1 UW i (List.mem_range.2 hi))
   rcases List.mem_append.1 h1 with h1 | h1
   ·left
    rcases List.mem_append.1 h1 with h1 | h1
    ·obtain ⟨v,hv⟩:=xB c hmid.valid i (hlt' i h1)
     exact ⟨v,GL i v hv⟩
    ·exact (LQ i).2 (.inl h1)
   ·exact .inr h1
 ·intro hr
  obtain ⟨_,o,ho,hall⟩:=mem_ready.1 hr
  have hts:t<ops.toArray.size:=(Array.getElem?_eq_some_iff.1 ho).1
  have hwl:∀ j,Region.waitsFor .any ops.toArray t j=true→listed.getD j false=true:=fun j hj=>by
   obtain ⟨oj,h6,e,he,hb,heq⟩:=Region.waitsFor_spec hj
   rw [ho] at h6;cases h6
   rw [← heq];exact hall e he hb
  have h1:=List.all_eq_true.1 hwt t (List.mem_range.2 hts)
  simp only [Bool.or_eq_true] at h1
  rcases h1 with (h1 | h1) | h1
  ·have:t<k:=by simpa using h1
   omega
  ·have h2:=hwl i (List.all_eq_true.1 h1 i (dQ (by rw [← BR i hi];exact hie)))
   rw [getD_both hun] at h2;cases h2
  ·obtain ⟨j,hj,h2⟩:=List.any_eq_true.1 h1
   rw [Bool.and_eq_true] at h2
   have h3:=hwl j h2.2
   rw [getD_both (inv.tail j (by simpa using h2.1) (List.mem_range.1 hj))] at h3;cases h3
theorem Qy {ops:List Oper} (k:Nat) (S E D D2 C:List Nat) (hB:mD ops.toArray n k S E D D2 C=true) (hf:bI l (dstsOf ops.toArray ops.toArray.size)=true) (hf1:bI l (dstsOf ops.toArray k)=true) (hsp:splitB k S E D=true) (hds:bY ops 0=ds)
  (h:je P n w0 mu ops.toArray ds l hp (fun aH=>iI P n w0 mu ops.toArray ds l hp aH (fun Rs=>DN (fun iv bl=>gJ P n w0 mu ops.toArray ds l [] (fun UU=>gJ P n w0 mu ops.toArray ds l [] (fun lJ=>gY P n w0 mu ops.toArray ds l [] lJ (fun aS hc=>Ops P n w0 mu ops.toArray [] (bC ds (aS++lJ)++l) hc Q) C [] (bl++hp)) D2 UU) D (iv++aH)) Rs) E []) S []):jV P n w0 mu ops.toArray l hp Q:=by
 refine LM k S E D D2 C hB hf hf1 hsp hds (BU (fun aH h2=>BV E [] (fun Rs e h3 c hc=>?_) h2) S [] h)
 have:=Yd Rs _ c h3 hc
 have he:yS E c k=Lm c (Rs.map (·.1)):=by
  simp only [splitB,Bool.and_eq_true,decide_eq_true_eq] at hsp
  rw [Gn,← hsp.1.1.1,e];simp
 rw [he]
 exact this
end
section
variable {n : Nat} {w0 : World} {mu : List Nat} {l : Fm} {hp : Hp} {Q : Exit → Fm → Hp → Prop} {ds : List (Nat × Nat)}
theorem wC {id:Nat} {ops:List Oper} (k:Nat) (S E D D2 C:List Nat) (h:je Tryz.prog n w0 mu ops.toArray ds l hp (fun aH=>iI Tryz.prog n w0 mu ops.toArray ds l hp aH (fun Rs=>DN (fun iv bl=>gJ Tryz.prog n w0 mu ops.toArray ds l [] (fun UU=>gJ Tryz.prog n w0 mu ops.toArray ds l [] (fun lJ=>gY Tryz.prog n w0 mu ops.toArray ds l [] lJ (fun aS hc=>Ops Tryz.prog n w0 mu ops.toArray [] (bC ds (aS++lJ)++l) hc Q) C [] (bl++hp)) D2 UU) D (iv++aH)) Rs) E []) S [])
  (hds:bY ops 0=ds:=by (simp only [bY,Nat.reduceAdd,Nat.zero_add];rfl)) (hm:Tryz.prog.follows .mixedOrders=true:=by kernel_rfl) (hB:mD ops.toArray n k S E D D2 C=true:=by decide +kernel) (hf:bI l (dstsOf ops.toArray ops.toArray.size)=true:=by rfl) (hf1:bI l (dstsOf ops.toArray k)=true:=by rfl) (hsp:splitB k S E D=true:=by decide +kernel):St Tryz.prog n w0 mu (.region id ops.toArray true) l hp Q:=
 vX hm (Qy k S E D D2 C hB hf hf1 hsp hds h)
end
end
def sG (n:Nat):Nat:=18446744073709551615 >>> (64 - n)
theorem YD {n:Nat} (h:n≤64):sG n=2 ^ n - 1:=by
 have:∀ n,n≤64→sG n=2 ^ n - 1:=by decide
 exact this n h
theorem AX (n:Nat):sG n<18446744073709551616:=by
 unfold sG
 rw [Nat.shiftRight_eq_div_pow]
 exact Nat.lt_of_le_of_lt (Nat.div_le_self _ _) be6
theorem CV {v n:Nat} (hn:n≤64) (hv:v<2 ^ n):v &&& (18446744073709551615 - sG n)=0:=by
 have e:18446744073709551615 - sG n=(2 ^ (64 - n) - 1) * 2 ^ n:=by
  have:∀ n,n≤64→18446744073709551615 - sG n=(2 ^ (64 - n) - 1) * 2 ^ n:=by decide
  exact this n hn
 rw [e]
 apply Nat.eq_of_testBit_eq
 intro i
 rw [Nat.testBit_and,Nat.zero_testBit,Nat.testBit_mul_two_pow]
 by_cases hi:n≤i
 ·rw [Nat.testBit_lt_two_pow (Nat.lt_of_lt_of_le hv (Nat.pow_le_pow_right be6 hi))];rfl
 ·simp [hi]
def cO (w a n:Nat):Nat:=(w >>> a) &&& sG n
structure vG where
 a:Nat
 n:Nat
 v:Nat
deriving Inhabited
abbrev KW (f:vG):List Value:=[.int .i64 (f.a:Int),.int .i64 (f.n:Int),.int .u64 (f.v:Int)]
structure vG.Ok (f:vG):Prop where
 n1:1≤f.n
 an:f.a + f.n≤64
 v:f.v<2 ^ f.n
theorem vG.Ok.v64 {f:vG} (h:f.Ok):f.v<18446744073709551616:=
 Nat.lt_of_lt_of_le h.v (Nat.le_trans (Nat.pow_le_pow_right be6 (show f.n≤64 by have:=h.an;omega)) be6)
def vG.mask (f:vG):Nat:=(sG f.n <<< f.a) % 18446744073709551616
def vG.bits (f:vG):Nat:=(f.v <<< f.a) % 18446744073709551616
theorem vG.uZ (f:vG):f.mask<18446744073709551616:=Nat.mod_lt _ be6
theorem vG.xP (f:vG):f.bits<18446744073709551616:=Nat.mod_lt _ be6
def joinL:List vG→Nat→Nat→Option (Nat × Nat)
 | [],w,t=>some (w,t)
 | f::r,w,t=>bif decide (t &&& f.mask=0) then joinL r (w ||| f.bits) (t ||| f.mask) else none
def CW (r:Option (Nat × Nat)):Nat:=match r with | some x=>x.1 | none=>0
def Ji (r:Option (Nat × Nat)):Int:=match r with | some _=>0 | none=>4
def aa8 (r:Option (Nat × Nat)):Nat:=match r with | some x=>x.2 | none=>0
section
attribute [local irreducible] Hy St Ops DH dG
theorem LU (f:vG) (h:f.Ok) (w:World):Fn Tryz.prog 350 [.agg #[.int .i64 (f.a:Int),.int .i64 (f.n:Int),.int .u64 (f.v:Int)]].toArray w [] (fun u _=>u=.int .u64 (sG f.n:Int)):=by
 have h1:=h.n1
 have h2:=h.an
 refine enter Tryz.func350 ?_
 refine run ?_
 intro B
 refine run ?_
 refine ja be8 (Gw rfl rfl 18446744073709551615 (64 - f.n) be8 be5 be5) ?_
 refine run ?_
 exact fin1 rfl
theorem OL (f:vG) (h:f.Ok) (w:World):Fn Tryz.prog 318 [.agg #[.int .i64 (f.a:Int),.int .i64 (f.n:Int),.int .u64 (f.v:Int)]].toArray w [] (fun u _=>u=.int .u64 (f.mask:Int)):=by
 have h1:=h.n1
 have h2:=h.an
 refine enter Tryz.func318 ?_
 refine run ?_
 intro B
 refine run ?_
 refine dL 6 ?_
 refine bZ ?_
 refine dM (fun wc hG=>LU f h wc) ?_
 refine bZ ?_
 refine Ls (yZ rfl rfl (sG f.n) f.a be8 be8 be5) ?_
 refine bZ ?_
 refine run ?_
 refine run ?_
 exact fin1 rfl
theorem UZ (f:vG) (h:f.Ok) (w:World):Fn Tryz.prog 317 [.agg #[.int .i64 (f.a:Int),.int .i64 (f.n:Int),.int .u64 (f.v:Int)]].toArray w [] (fun u _=>u=.bool true):=by
 have h1:=h.n1
 have h2:=h.an
 have h3:=h.v64
 have h4:=CV (show f.n≤64 by omega) h.v
 have c1:decide ((1:Int)≤(f.n:Int))=true:=decide_eq_true be5
 have c2:decide ((f.n:Int)≤64)=true:=decide_eq_true be5
 have c3:decide ((0:Int)≤(f.a:Int))=true:=decide_eq_true be5
 have c4:decide ((f.a:Int)≤64 - (f.n:Int))=true:=decide_eq_true be5
 refine enter Tryz.func317 ?_
 refine run ?_
 intro B
 refine aI ?_
 refine dL 35 ?_
 refine bP ?_
 refine ig (fun hg wc hG=>LU f h wc) ?_
 refine Qr (hy:=fun hg=>ES bf4 bf4 f.v (sG f.n) be8 be8 h3 (AX _)) (h:=?_)
 rw [h4]
 refine bP ?_
 refine run ?_
 refine fin1 ?_
 simp [c1,c2,c3,c4]
theorem ah5 (v a n:Nat) (hn:1≤n) (han:a + n≤64) (hv:v<18446744073709551616) (w:World):Fn Tryz.prog 351 [.int .u64 (v:Int),.int .i64 (a:Int),.int .i64 (n:Int)].toArray w [] (fun u _=>u=.tuple #[.int .u64 (cO v a n:Int),.int .i64 0]):=by
 have hok:vG.Ok ⟨a,n,0⟩:=⟨hn,han,Nat.pos_of_ne_zero be7⟩
 refine enter Tryz.func351 ?_
 refine run ?_
 intro B
 refine run ?_
 refine ak (fun wc hG=>UZ ⟨a,n,0⟩ hok wc) ?_
 refine az ?_
 refine dL 8 ?_
 refine bZ ?_
 refine Ls (Gw rfl rfl v a be8 be8 be5) ?_
 refine bZ ?_
 refine dM (fun wc hG=>LU ⟨a,n,0⟩ hok wc) ?_
 refine Ls (CG rfl rfl (v >>> a) (sG n) be8 be8 (Nat.lt_of_le_of_lt bg' hv) (AX _)) ?_
 refine bZ ?_
 refine run ?_
 exact fin2 rfl
theorem CX {xs:List vG} {k:Nat} (hk:k<xs.length) (w t:Nat):joinL (xs.drop k) w t=bif decide (t &&& (xs.getD k default).mask=0) then joinL (xs.drop (k + 1)) (w ||| (xs.getD k default).bits) (t ||| (xs.getD k default).mask) else none:=by
 rw [List.drop_eq_getElem_cons hk,joinL,List.getD_eq_getElem?_getD,List.getElem?_eq_getElem hk];rfl
theorem xQ {a b:Nat} (ha:a<18446744073709551616) (hb:b<18446744073709551616):a ||| b<18446744073709551616:=Nat.or_lt_two_pow (n:=64) ha hb
theorem Qz (xs:List vG) (hx:∀ f∈xs,f.Ok) {w:World} {v:Value} (h:aF w v 3 (xs.map KW)):Fn Tryz.prog 250 [v].toArray w [] (fun u _=>u=.tuple #[.int .u64 (CW (joinL xs 0 0):Int),.int .u64 (aa8 (joinL xs 0 0):Int),.int .i64 (Ji (joinL xs 0 0))]):=by
 obtain ⟨a,ac,rfl,QA,hal⟩:=h.opened
 have hok:∀ k,k<xs.length→(xs.getD k default).Ok:=fun k hk=>hx _ bi1
 refine enter Tryz.func250 ?_
 refine run ?_
 refine aX (σ:=Nat) (fun k=>[(12,.int .i64 (k:Int))]) (fun _=>[]) (fun k=>k≤xs.length) (fun k=>xs.length - k) 0 (Nat.zero_le _) ?_
 rintro k m hm hk
 refine run ?_
 refine ah _ rfl (fun hc=>?_) (fun hc=>?_)
 ·have hlt:k<xs.length:=by simp at hc;omega
  obtain ⟨b,o,rfl⟩:=QA bj5
  have hr:=h.row hlt
  have hf:=hok k hlt
  generalize xs.getD k default=x at hr hf
  refine run ?_
  intro F
  refine run ?_
  refine ak (fun wc hG=>UZ x hf wc) ?_
  refine az ?_
  exact aK (k + 1) hlt
 ·refine run ?_
  clear hc
  refine aX (σ:=Nat × Nat × Nat) (fun s=>[(23,.int .i64 (s.1:Int)),(2,.int .u64 (s.2.1:Int)),(3,.int .u64 (s.2.2:Int))]) (fun _=>[]) (fun s=>s.1≤xs.length∧s.2.1<18446744073709551616∧s.2.2<18446744073709551616∧joinL (xs.drop s.1) s.2.1 s.2.2=joinL xs 0 0) (fun s=>xs.length - s.1) (0,0,0) ⟨Nat.zero_le _,by decide,by decide,rfl⟩ ?_
  rintro ⟨k2,wd,tk⟩ m2 hm2 ⟨hk2,hw,ht,hj⟩
  dsimp only at hm2 hk2 hw ht hj ⊢
  refine run ?_
  refine ah _ rfl (fun hc=>?_) (fun hc=>?_)
  ·have hlt:k2<xs.length:=by simp at hc;omega
   obtain ⟨b,o,rfl⟩:=QA bj5
   have hr:=h.row hlt
   have hf:=hok k2 hlt
   rw [CX hlt] at hj
   generalize xs.getD k2 default=x at hr hf hj
   refine run ?_
   intro F
   refine run ?_
   intro X
   refine ak (fun wc hG=>OL x hf wc) ?_
   refine ja be8 (CG rfl rfl tk x.mask be8 be8 ht x.uZ) ?_
   refine run ?_
   refine ah _ rfl (fun hq=>?_) (fun hq=>?_)
   ·have hq':decide (tk &&& x.mask=0)=false:=by simpa using hq
    rw [hq'] at hj
    rw [← hj]
    refine run ?_
    exact Yp rfl
   ·have hq':decide (tk &&& x.mask=0)=true:=by simpa using hq
    rw [hq'] at hj
    refine run ?_
    refine late 13 9 ?_
    refine UC 13 12 ?_
    refine yT 13 [0,1,2,3,4,5,6,7,8,9,10,11,12] [] [] ?_
    refine fU ?_
    refine jA rfl (fun hx2=>yZ rfl rfl x.v x.a be8 be8 (by have:=hf.an;omega)) ?_
    refine jA rfl (fun hx2=>OI rfl rfl wd x.bits be8 be8 hw x.xP) ?_
    refine fU ?_
    refine jA rfl (fun hx2=>fF (fC 318 rfl) rfl (fun wc hG=>OL x hf wc)) ?_
    refine jA rfl (fun hx2=>OI rfl rfl tk x.mask be8 be8 ht x.uZ) ?_
    refine fU ?_
    refine jS ?_
    simp only [DN]
    refine iW ?_
    refine qU ?_
    simp only [List.cons_append,List.nil_append,List.append_nil]
    refine run ?_
    exact aK (k2 + 1,wd ||| x.bits,tk ||| x.mask) ⟨hlt,xQ hw x.xP,xQ ht x.uZ,hj⟩
  ·have hk0:k2=xs.length:=by simp at hc;omega
   subst hk0
   rw [List.drop_length] at hj
   rw [← hj]
   refine run ?_
   exact Yp rfl
theorem YE (xs:List vG) (hx:∀ f∈xs,f.Ok) {w:World} {v:Value} (h:aF w v 3 (xs.map KW)):Fn Tryz.prog 162 [v].toArray w [] (fun u _=>u=.tuple #[.int .u64 (CW (joinL xs 0 0):Int),.int .i64 (Ji (joinL xs 0 0))]):=by
 obtain ⟨a,ac,rfl,QA,hal⟩:=h.opened
 refine enter Tryz.func162 ?_
 refine run ?_
 refine ak (fun wc hG=>Qz xs hx (h.good hG)) ?_
 refine run ?_
 exact fin2 rfl
theorem GM (n:Nat) (hn:n≤64) (w:World):Fn Tryz.prog 322 [.int .i64 (n:Int)].toArray w [] (fun u _=>u=.int .u64 (sG n:Int)):=by
 refine enter Tryz.func322 ?_
 refine run ?_
 refine ah _ rfl (fun hc=>?_) (fun hc=>?_)
 ·have:n=64:=by simp at hc;omega
  subst this
  refine run ?_
  exact fin1 rfl
 ·have hlt:n<64:=by simp at hc;omega
  refine run ?_
  refine ja be8 (yZ rfl rfl 1 n be8 be8 be5) ?_
  have e:∀ n,n<64→((1 <<< n) % 18446744073709551616:Nat)=2 ^ n∧1≤2 ^ n∧2 ^ n≤18446744073709551615:=by decide
  obtain ⟨e1,e2,e3⟩:=e n hlt
  rw [e1]
  refine run ?_
  refine fin1 ?_
  rw [YD hn,IntKind.wrap_u64]
  generalize 2 ^ n=z at e2 e3
  congr 1
  omega
theorem GN (v a n:Nat) (hn:n≤64) (han:a≤64) (hv:v<18446744073709551616) (w:World):Fn Tryz.prog 262 [.int .u64 (v:Int),.int .i64 (a:Int),.int .i64 (n:Int)].toArray w [] (fun u _=>u=.int .u64 (cO v a n:Int)):=by
 refine enter Tryz.func262 ?_
 refine run ?_
 refine dL 6 ?_
 refine bZ ?_
 refine Ls (Gw rfl rfl v a be8 be8 be5) ?_
 refine bZ ?_
 refine dM (fun wc hG=>GM n hn wc) ?_
 refine Ls (CG rfl rfl (v >>> a) (sG n) be8 be8 (Nat.lt_of_le_of_lt bg' hv) (AX _)) ?_
 refine bZ ?_
 refine run ?_
 exact fin1 rfl
theorem YF (a n:Nat) (hn:1≤n) (han:a + n≤64) (w:World):Fn Tryz.prog 360 [.int .i64 (a:Int),.int .i64 (n:Int)].toArray w [] (fun u _=>u=.bool true):=by
 refine enter Tryz.func360 ?_
 refine aI ?_
 refine fin1 ?_
 have c1:decide ((0:Int)≤(a:Int))=true:=decide_eq_true be5
 have c2:decide ((a:Int)≤63)=true:=decide_eq_true be5
 have c3:decide ((1:Int)≤(n:Int))=true:=decide_eq_true be5
 have c4:decide ((n:Int)≤64 - (a:Int))=true:=decide_eq_true be5
 simp [c1,c2,c3,c4]
theorem U0 (f:vG) (h:f.Ok) (w:World):Fn Tryz.prog 349 [.agg #[.int .i64 (f.a:Int),.int .i64 (f.n:Int),.int .u64 (f.v:Int)]].toArray w [] (fun u _=>u=.bool true):=by
 have h1:=h.n1
 have h2:=h.an
 have h3:=h.v64
 have h4:=CV (show f.n≤64 by omega) h.v
 refine enter Tryz.func349 ?_
 refine run ?_
 intro B
 refine run ?_
 refine dL 14 ?_
 refine bP ?_
 refine dM (fun wc hG=>YF f.a f.n h1 h2 wc) ?_
 refine bP ?_
 refine ig (fun hg wc hG=>GM f.n be5 wc) ?_
 refine Qr (hy:=fun hg=>ES bf4 bf4 f.v (sG f.n) be8 be8 h3 (AX _)) (h:=?_)
 rw [h4]
 refine bP ?_
 refine run ?_
 refine fin1 ?_
 rfl
theorem GR (xs:List vG) (hx:∀ f∈xs,f.Ok) {w:World} {v:Value} (h:aF w v 3 (xs.map KW)):Fn Tryz.prog 312 [v].toArray w [] (fun u _=>u=.tuple #[.int .u64 (CW (joinL xs 0 0):Int),.int .u64 (aa8 (joinL xs 0 0):Int),.int .i64 (Ji (joinL xs 0 0))]):=by
 obtain ⟨a,ac,rfl,QA,hal⟩:=h.opened
 have hok:∀ k,k<xs.length→(xs.getD k default).Ok:=fun k hk=>hx _ bi1
 refine enter Tryz.func312 ?_
 refine run ?_
 refine aX (σ:=Nat) (fun k=>[(5,.int .i64 (k:Int))]) (fun _=>[]) (fun k=>k≤xs.length) (fun k=>xs.length - k) 0 (Nat.zero_le _) ?_
 rintro k m hm hk
 refine run ?_
 refine ah _ rfl (fun hc=>?_) (fun hc=>?_)
 ·have hlt:k<xs.length:=by simp at hc;omega
  obtain ⟨b,o,rfl⟩:=QA bj5
  have hr:=h.row hlt
  have hf:=hok k hlt
  generalize xs.getD k default=x at hr hf
  refine run ?_
  refine ak (fun wc hG=>U0 x hf wc) ?_
  refine az ?_
  exact aK (k + 1) hlt
 ·refine run ?_
  clear hc
  refine aX (σ:=Nat × Nat × Nat) (fun s=>[(8,.int .i64 (s.1:Int)),(6,.int .u64 (s.2.1:Int)),(7,.int .u64 (s.2.2:Int))]) (fun _=>[]) (fun s=>s.1≤xs.length∧s.2.1<18446744073709551616∧s.2.2<18446744073709551616∧joinL (xs.drop s.1) s.2.1 s.2.2=joinL xs 0 0) (fun s=>xs.length - s.1) (0,0,0) ⟨Nat.zero_le _,by decide,by decide,rfl⟩ ?_
  rintro ⟨k2,wd,tk⟩ m2 hm2 ⟨hk2,hw,ht,hj⟩
  dsimp only at hm2 hk2 hw ht hj ⊢
  refine run ?_
  refine ah _ rfl (fun hc=>?_) (fun hc=>?_)
  ·have hlt:k2<xs.length:=by simp at hc;omega
   obtain ⟨b,o,rfl⟩:=QA bj5
   have hr:=h.row hlt
   have hf:=hok k2 hlt
   rw [CX hlt] at hj
   generalize xs.getD k2 default=x at hr hf hj
   have hr0:=au hr
   have hr1:=fH (k:=1) hr rfl
   have hr2:=fH (k:=2) hr rfl
   refine run ?_
   refine dL 12 ?_
   refine bZ ?_
   refine dM (fun wc hG=>GM x.n (by have:=hf.an;omega) wc) ?_
   refine bZ ?_
   refine Ls (yZ rfl rfl (sG x.n) x.a be8 be8 (by have:=hf.an;omega)) ?_
   refine bZ ?_
   refine run ?_
   refine ja be8 (CG rfl rfl tk x.mask be8 be8 ht x.uZ) ?_
   refine run ?_
   refine ah _ rfl (fun hq=>?_) (fun hq=>?_)
   ·have hq':decide (tk &&& x.mask=0)=false:=by simpa using hq
    rw [hq'] at hj
    rw [← hj]
    refine run ?_
    exact Yp rfl
   ·have hq':decide (tk &&& x.mask=0)=true:=by simpa using hq
    rw [hq'] at hj
    refine run ?_
    refine ja be8 (OI rfl rfl tk x.mask be8 be8 ht x.uZ) ?_
    refine run ?_
    refine dL 13 ?_
    refine bZ ?_
    refine Ls (yZ rfl rfl x.v x.a be8 be8 (by have:=hf.an;omega)) ?_
    refine Ls (OI rfl rfl wd x.bits be8 be8 hw x.xP) ?_
    refine bZ ?_
    refine run ?_
    exact aK (k2 + 1,wd ||| x.bits,tk ||| x.mask) ⟨hlt,xQ hw x.xP,xQ ht x.uZ,hj⟩
  ·have hk0:k2=xs.length:=by simp at hc;omega
   subst hk0
   rw [List.drop_length] at hj
   rw [← hj]
   refine run ?_
   exact Yp rfl
end
structure DsD where
 kind:Int
 frame:Int
 r:Bool
 w:Bool
 x:Bool
 af:Bool
 ng:Bool
 soft:Int
 note:Int
deriving Inhabited
abbrev dsC (d:DsD):Array Value:=#[.int .i64 d.kind,.int .i64 d.frame,.bool d.r,.bool d.w,.bool d.x,.bool d.af,.bool d.ng,.int .i64 d.soft,.int .i64 d.note]
abbrev sU (d:DsD):Value:=.agg (dsC d)
def dN:DsD:=⟨0,0,false,false,false,false,false,0,0⟩
def pq (level:Nat):Nat:=3 * (3 - level)
def aB (level:Nat):Nat:=1 <<< pq level
def ru (level page:Nat):Nat:=(page >>> pq level) % 8
section
attribute [local irreducible] Hy St Ops DH dG
theorem U1 (stage level:Int) (w:World):Fn Tryz.prog 248 [.agg #[.int .i64 stage,.int .i64 level]].toArray w [] (fun u _=>u=.bool ((decide (stage=1) || decide (stage=2)) && decide (0≤level) && decide (level<4))):=by
 refine enter Tryz.func248 ?_
 refine run ?_
 intro B
 refine aI ?_
 exact fin1 rfl
theorem ve (stage:Int) (hs:stage=1∨stage=2) (level:Nat) (h:level<4) (w:World):Fn Tryz.prog 248 [.agg #[.int .i64 stage,.int .i64 (level:Int)]].toArray w [] (fun u _=>u=.bool true):=by
 refine Fn.mono (U1 stage level w) fun v hp e=>?_
 rw [e]
 have c1:decide ((0:Int)≤(level:Int))=true:=decide_eq_true be5
 have c2:decide ((level:Int)<4)=true:=decide_eq_true be5
 rw [c1,c2]
 rcases hs with rfl | rfl<;>rfl
theorem AY (stage:Int) (level:Nat) (h:level<4) (w:World):Fn Tryz.prog 252 [.agg #[.int .i64 stage,.int .i64 (level:Int)]].toArray w [] (fun u _=>u=.int .i64 (pq level:Int)):=by
 refine enter Tryz.func252 ?_
 refine run ?_
 intro B
 refine run ?_
 refine fin1 ?_
 unfold pq
 congr 1
 omega
theorem jc {level:Nat} (h:level<4):pq level≤9∧aB level≤512∧1≤aB level:=by
 have:∀ l,l<4→pq l≤9∧aB l≤512∧1≤aB l:=by decide
 exact this level h
theorem EU (level:Nat) (h:level<4) (w:World):Fn Tryz.prog 167 [.int .i64 (level:Int)].toArray w [] (fun u _=>u=.tuple #[.int .i64 (aB level:Int),.int .i64 0]):=by
 have h9:=jc h
 refine enter Tryz.func167 ?_
 refine run ?_
 intro B
 refine run ?_
 refine ak (fun wc hG=>ve 1 (.inl rfl) level h wc) ?_
 refine az ?_
 refine ak (fun wc hG=>AY 1 level h wc) ?_
 refine ja be8 (CJ rfl rfl 1 (pq level) be8 be8 be5 (Nat.lt_of_le_of_lt h9.2.1 be6)) ?_
 refine run ?_
 exact fin2 rfl
theorem U2 (level:Nat) (h:level<4) (page:Nat) (hp:page≤4095) (w:World):Fn Tryz.prog 330 [.int .i64 (level:Int),.int .i64 (page:Int)].toArray w [] (fun u _=>u=.tuple #[.int .i64 (ru level page:Int),.int .i64 0]):=by
 have h9:=jc h
 have c1:decide ((page:Int)<0)=false:=decide_eq_false be5
 have c2:decide ((4095:Int)<(page:Int))=false:=decide_eq_false be5
 refine enter Tryz.func330 ?_
 refine run ?_
 intro B
 refine run ?_
 refine ak (fun wc hG=>ve 1 (.inl rfl) level h wc) ?_
 refine aI ?_
 refine ah _ rfl (fun hq=>absurd hq (by simp [c1,c2])) (fun _=>?_)
 refine run ?_
 refine ak (fun wc hG=>AY 1 level h wc) ?_
 refine ja be8 (ag3 rfl rfl page (pq level) be8 be8 be5) ?_
 refine ja be8 (wu rfl rfl (page >>> pq level) 8 be8 be8 be6) ?_
 refine run ?_
 exact fin2 rfl
theorem EW (level:Nat) (h:level<4) (w:World):Fn Tryz.prog 189 [.int .i64 (level:Int)].toArray w [] (fun u _=>u=.int .i64 (aB level:Int)):=by
 have h9:=jc h
 have hn:nth ([.int .i64 512,.int .i64 64,.int .i64 8,.int .i64 1]:List Value) level=some (.int .i64 (aB level:Int)):=by
  rcases level with _ | _ | _ | _ | l
  ·rfl
  ·rfl
  ·rfl
  ·rfl
  ·omega
 refine enter Tryz.func189 ?_
 refine run ?_
 intro T
 refine run ?_
 exact fin1 rfl
theorem Jj (level:Nat) (h:level<4) (page:Nat) (hp:page≤4095) (w:World):Fn Tryz.prog 237 [.int .i64 (level:Int),.int .i64 (page:Int)].toArray w [] (fun u _=>u=.int .i64 (ru level page:Int)):=by
 refine enter Tryz.func237 ?_
 refine run ?_
 have h9:=jc h
 have e:page / aB level=page >>> pq level:=by rw [Nat.shiftRight_eq_div_pow,aB,Nat.shiftLeft_eq,Nat.one_mul]
 refine ak (fun wc hG=>EW level h wc) ?_
 refine ja be8 (uj rfl rfl page (aB level) be8 be8 be5 be5) ?_
 refine ja be8 (wu rfl rfl (page / aB level) 8 be8 be8 be6) ?_
 rw [e]
 refine run ?_
 exact fin1 rfl
theorem AZ (v a n:Nat) (hn:n≤62):cO v a n<4611686018427387904:=by
 unfold cO
 refine Nat.lt_of_le_of_lt Nat.and_le_right ?_
 have:∀ n,n≤62→sG n<4611686018427387904:=by decide
 exact this n hn
theorem U3 {v a:Nat} (hv:v<18446744073709551616):v >>> a<18446744073709551616:=Nat.lt_of_le_of_lt bg' hv
theorem as9 {x:Nat}:decide ((x:Int)=1)=decide (x=1):=by
 rw [Bool.eq_iff_iff,decide_eq_true_eq,decide_eq_true_eq];omega
theorem xR (v a n:Nat) (hn:1≤n) (hn2:n≤62) (han:a + n≤64) (hv:v<18446744073709551616) (w:World):Fn Tryz.prog 320 [.int .u64 (v:Int),.int .i64 (a:Int),.int .i64 (n:Int)].toArray w [] (fun u _=>u=.int .i64 (cO v a n:Int)):=by
 refine enter Tryz.func320 ?_
 refine run ?_
 refine ak (fun wc hG=>ah5 v a n hn han hv wc) ?_
 refine run ?_
 have hb:=AZ v a n hn2
 refine ja be8 (F5 ay rfl rfl rfl be5 be5) ?_
 refine run ?_
 exact fin1 rfl
theorem at1 (v a:Nat) (ha:a≤63) (hv:v<18446744073709551616) (B:Nat) (w:World) (hB:w.cell? ⟨B,0,none⟩=some (.int .u64 (v:Int))):Fn Tryz.prog 319 [.int .i64 (a:Int),.pointer (some ⟨B,0,none⟩)].toArray w [] (fun u _=>u=.bool (decide (cO v a 1=1))):=by
 refine enter Tryz.func319 ?_
 refine run ?_
 refine ak (fun wc hG=>xR v a 1 be6 be6 be5 hv wc) ?_
 refine run ?_
 refine fin1 ?_
 rw [as9]
theorem uw (v a:Nat) (ha:a≤63) (hv:v<18446744073709551616) (w:World):Fn Tryz.prog 261 [.int .u64 (v:Int),.int .i64 (a:Int)].toArray w [] (fun u _=>u=.bool (decide (cO v a 1=1))):=by
 refine enter Tryz.func261 ?_
 refine run ?_
 refine ja be8 (Gw rfl rfl v a be8 be8 be5) ?_
 refine ja be8 (CG rfl rfl (v >>> a) 1 be8 be8 (U3 hv) be6) ?_
 refine run ?_
 refine fin1 ?_
 rw [← as9]
 rfl
theorem uy (a:Nat) (b:Bool) (w:World):Fn Tryz.prog 311 [.int .i64 (a:Int),.bool b].toArray w [] (fun u _=>u=.agg #[.int .i64 (a:Int),.int .i64 1,.int .u64 (bif b then 1 else 0)]):=by
 refine enter Tryz.func311 ?_
 refine run ?_
 intro F
 refine run ?_
 cases b<;>simp only [cond_true,cond_false]
 ·intro G
  refine az ?_
  exact eF rfl
 ·intro G
  refine az ?_
  exact eF rfl
theorem uz (a:Nat) (b:Bool) (w:World):Fn Tryz.prog 251 [.int .i64 (a:Int),.bool b].toArray w [] (fun u _=>u=.agg #[.int .i64 (a:Int),.int .i64 1,.int .u64 (bif b then 1 else 0)]):=by
 refine enter Tryz.func251 ?_
 refine run ?_
 intro F
 refine run ?_
 cases b<;>simp only [cond_true,cond_false]
 ·intro G
  refine az ?_
  exact eF rfl
 ·intro G
  refine az ?_
  exact eF rfl
end
namespace DsD
def bare (d:DsD):Bool:=!d.r && !d.w && !d.x && !d.af && !d.ng && decide (d.soft=0)
def may (stage:Int) (level:Nat) (d:DsD):Bool:=
 bif decide (d.kind=0) then decide (d.frame=0) && d.bare && (decide (d.note=0) || (decide (stage=2) && PtD.di d.note 0 15))
 else bif decide (d.kind=1) then d.bare && decide (d.note=0) && decide (level<3) && PtD.di d.frame 0 4095
 else bif decide (d.kind=2) then decide (d.note=0) && (bif decide (stage=1) then d.r && decide (d.soft=0) else !d.ng && PtD.di d.soft 0 15) && decide (0<level) && PtD.di d.frame 0 4095 && decide (d.frame.toNat % aB level=0)
 else false
end DsD
section
attribute [local irreducible] Hy St Ops DH dG
theorem zf (stage:Int) (level:Nat) (d:DsD) (o:Nat) (ho:0<o) (ho2:o<1000) (w:World):Fn Tryz.prog 316 [.agg #[.int .i64 stage,.int .i64 (level:Int),.int .i64 d.kind,.int .i64 d.frame,.bool d.r,.bool d.w,.bool d.x,.bool d.af,.bool d.ng,.int .i64 d.soft,.int .i64 d.note],.int .i64 (o:Int)].toArray w [] (fun u _=>u=.bool (PtD.di d.frame 0 4095 && decide (d.frame.toNat % o=0))):=by
 refine enter Tryz.func316 ?_
 refine run ?_
 intro B
 refine aI ?_
 refine Xy (hy:=fun hg=>wu bf4 bf4 d.frame.toNat o (by simp [iH] at hg;omega) be8 ho) (h:=?_)
 refine aI ?_
 refine fin1 ?_
 rw [PtD.di]
 congr 2
 rw [Bool.eq_iff_iff,decide_eq_true_eq,decide_eq_true_eq]
 omega
theorem ah6 (a b:DsD):aW [.int .i64 a.kind,.int .i64 a.frame,.bool a.r,.bool a.w,.bool a.x,.bool a.af,.bool a.ng,.int .i64 a.soft,.int .i64 a.note] [.int .i64 b.kind,.int .i64 b.frame,.bool b.r,.bool b.w,.bool b.x,.bool b.af,.bool b.ng,.int .i64 b.soft,.int .i64 b.note]=(decide (a.kind=b.kind) && decide (a.frame=b.frame) && (a.r == b.r) && (a.w == b.w) && (a.x == b.x) && (a.af == b.af) && (a.ng == b.ng) && decide (a.soft=b.soft) && decide (a.note=b.note)):=by
 simp only [aW,kF,Bool.and_true,Bool.and_assoc]
theorem CY (d:DsD) (k f n:Int) (hk:d.kind=k):aW [.int .i64 d.kind,.int .i64 d.frame,.bool d.r,.bool d.w,.bool d.x,.bool d.af,.bool d.ng,.int .i64 d.soft,.int .i64 d.note] [.int .i64 k,.int .i64 f,.bool false,.bool false,.bool false,.bool false,.bool false,.int .i64 0,.int .i64 n]=(decide (d.frame=f) && d.bare && decide (d.note=n)):=by
 rw [ah6 d ⟨k,f,false,false,false,false,false,0,n⟩,decide_eq_true hk]
 unfold DsD.bare
 cases d.r<;>cases d.w<;>cases d.x<;>cases d.af<;>cases d.ng<;>simp
theorem ah7 (stage:Int) (hs:stage=1∨stage=2) (level:Nat) (hl:level<4) (d:DsD) (w:World):Fn Tryz.prog 249 [.agg #[.int .i64 stage,.int .i64 (level:Int),.int .i64 d.kind,.int .i64 d.frame,.bool d.r,.bool d.w,.bool d.x,.bool d.af,.bool d.ng,.int .i64 d.soft,.int .i64 d.note]].toArray w [] (fun u _=>u=.bool (d.may stage level)):=by
 have hlv:decide ((level:Int)<3)=decide (level<3):=by rw [Bool.eq_iff_iff,decide_eq_true_eq,decide_eq_true_eq];omega
 have hlp:decide ((0:Int)<(level:Int))=decide (0<level):=by rw [Bool.eq_iff_iff,decide_eq_true_eq,decide_eq_true_eq];omega
 have h9:=jc hl
 refine enter Tryz.func249 ?_
 refine run ?_
 intro B
 refine run ?_
 intro C
 refine run ?_
 refine ah _ rfl (fun hk=>?_) (fun hk=>?_)
 ·have hk0:d.kind=0:=by simpa using hk
  refine aI ?_
  refine ah _ rfl (fun hn=>?_) (fun hn=>?_)
  ·refine aI ?_
   refine fin1 ?_
   rw [CY d d.kind 0 d.note rfl]
   simp only [Bool.and_eq_true,decide_eq_true_eq] at hn
   simp [DsD.may,hk0,hn.1.1,PtD.di,hn.1.2,hn.2]
  ·refine aI ?_
   refine fin1 ?_
   rw [CY d d.kind 0 0 rfl]
   simp only [DsD.may,hk0,decide_true,cond_true,PtD.di]
   cases hz:decide (d.note=0)
   ·have:(decide (stage=2) && (decide (0≤d.note) && decide (d.note≤15)))=false:=by
     rw [← Bool.and_assoc];simpa using hn
    rw [this];simp
   ·simp
 ·have hk0:decide (d.kind=0)=false:=by simpa using hk
  refine run ?_
  refine ah _ rfl (fun hk1=>?_) (fun hk1=>?_)
  ·have ou:d.kind=1:=by simpa using hk1
   refine aI ?_
   refine dO (fun hg1 wc hG=>zf stage level d 1 be6 be6 wc) ?_
   refine aI ?_
   refine fin1 ?_
   rw [CY d d.kind d.frame 0 rfl,hlv]
   simp only [DsD.may,ou,decide_true,cond_true,show decide ((1:Int)=0)=false from rfl,cond_false,Nat.mod_one,Bool.and_true,Bool.true_and]
  ·have ou:decide (d.kind=1)=false:=by simpa using hk1
   refine run ?_
   refine ah _ rfl (fun hk2=>?_) (fun hk2=>?_)
   ·have Jk:d.kind=2:=by simpa using hk2
    refine run ?_
    refine aa4 7 [⟨B,#[.int .i64 stage,.int .i64 (level:Int),.int .i64 d.kind,.int .i64 d.frame,.bool d.r,.bool d.w,.bool d.x,.bool d.af,.bool d.ng,.int .i64 d.soft,.int .i64 d.note],257⟩] ?_
    refine UA ?_
    refine run ?_
    refine ah _ rfl (fun h1=>?_) (fun h1=>?_)
    ·refine aI ?_
     refine dL 32 ?_
     refine bP ?_
     refine ig (fun hg wc hG=>AY stage level hl wc) ?_
     refine Qr (hy:=fun hg=>CJ rfl bf4 1 (pq level) be8 be8 be5 (Nat.lt_of_le_of_lt h9.2.1 be6)) (h:=?_)
     refine ig (fun hg wc hG=>zf stage level d (aB level) be5 be5 wc) ?_
     refine bP ?_
     refine run ?_
     refine run ?_
     refine fin1 ?_
     rw [hlp,ah6 d ⟨d.kind,d.frame,true,d.w,d.x,d.af,d.ng,0,0⟩]
     have h1':stage=1:=by simpa using h1
     simp only [DsD.may,Jk,h1',decide_true,cond_true,PtD.di,show decide ((2:Int)=0)=false from rfl,show decide ((2:Int)=1)=false from rfl,cond_false,beq_self_eq_true,Bool.and_true,Bool.true_and]
     cases d.r<;>by_cases hz:d.soft=0<;>simp [hz,Bool.and_assoc]
    ·refine aI ?_
     refine dL 32 ?_
     refine bP ?_
     refine ig (fun hg wc hG=>AY stage level hl wc) ?_
     refine Qr (hy:=fun hg=>CJ rfl bf4 1 (pq level) be8 be8 be5 (Nat.lt_of_le_of_lt h9.2.1 be6)) (h:=?_)
     refine ig (fun hg wc hG=>zf stage level d (aB level) be5 be5 wc) ?_
     refine bP ?_
     refine run ?_
     refine run ?_
     refine fin1 ?_
     rw [hlp,ah6 d ⟨d.kind,d.frame,d.r,d.w,d.x,d.af,false,d.soft,0⟩]
     have h1':decide (stage=1)=false:=by simpa using h1
     simp only [DsD.may,Jk,h1',decide_true,cond_true,PtD.di,show decide ((2:Int)=0)=false from rfl,show decide ((2:Int)=1)=false from rfl,cond_false,beq_self_eq_true,Bool.and_true,Bool.true_and]
     cases d.ng<;>cases decide (d.note=0)<;>cases decide (0<level)<;>simp [Bool.and_assoc]
   ·refine run ?_
    refine fin1 ?_
    have Jk:decide (d.kind=2)=false:=by simpa using hk2
    simp [DsD.may,hk0,ou,Jk]
end
def b1 (b:Bool):Nat:=bif b then 1 else 0
theorem at6 (b:Bool):b1 b<2 ^ 1:=by cases b<;>decide
def DsD.fields (stage:Int) (level:Nat) (d:DsD):List vG:=
 bif decide (d.kind=0) then [⟨4,4,d.note.toNat⟩]
 else bif decide (d.kind=1) then [⟨0,1,1⟩,⟨1,1,1⟩,⟨12,12,d.frame.toNat⟩]
 else bif decide (stage=1) then [⟨0,1,1⟩,⟨1,1,b1 (decide (level=3))⟩,⟨12,12,d.frame.toNat⟩,⟨10,1,b1 d.af⟩,⟨54,1,b1 (!d.x)⟩,⟨7,1,b1 (!d.w)⟩,⟨11,1,b1 d.ng⟩]
 else [⟨0,1,1⟩,⟨1,1,b1 (decide (level=3))⟩,⟨12,12,d.frame.toNat⟩,⟨10,1,b1 d.af⟩,⟨54,1,b1 (!d.x)⟩,⟨6,1,b1 d.r⟩,⟨7,1,b1 d.w⟩,⟨55,4,d.soft.toNat⟩]
def DsD.word (stage:Int) (level:Nat) (d:DsD):Nat:=CW (joinL (d.fields stage level) 0 0)
def apart:List Nat→Nat→Bool
 | [],_=>true
 | m::r,t=>decide (t &&& m=0) && apart r (t ||| m)
theorem LV:∀ (l:List vG) (w t:Nat),apart (l.map vG.mask) t=true→Ji (joinL l w t)=0∧CW (joinL l w t)=l.foldl (fun a f=>a ||| f.bits) w:=by
 intro l
 induction l with
 | nil=>intro w t _;exact ⟨rfl,rfl⟩
 | cons f r ih=>
  intro w t h
  simp only [List.map_cons,apart,Bool.and_eq_true] at h
  rw [joinL,h.1,cond_true,List.foldl_cons]
  exact ih _ _ h.2
theorem DsD.GU (stage:Int) (level:Nat) (d:DsD):Ji (joinL (d.fields stage level) 0 0)=0:=by
 refine (LV _ _ _ ?_).1
 unfold DsD.fields
 cases decide (d.kind=0)<;>cases decide (d.kind=1)<;>cases decide (stage=1)<;>simp only [cond_true,cond_false,List.map_cons,List.map_nil,vG.mask]<;>decide +kernel
theorem U4:∀ (l:List vG) (w t:Nat),w<18446744073709551616→CW (joinL l w t)<18446744073709551616:=by
 intro l
 induction l with
 | nil=>intro w t h;exact h
 | cons f r ih=>
  intro w t h
  rw [joinL]
  cases decide (t &&& f.mask=0)
  ·exact (show (0:Nat)<18446744073709551616 by decide)
  ·exact ih _ _ (xQ h f.xP)
theorem DsD.word_lt (stage:Int) (level:Nat) (d:DsD):d.word stage level<18446744073709551616:=U4 _ _ _ be6
theorem DsD.QB (stage:Int) (level:Nat) (d:DsD) (h:d.kind=0):d.word stage level=(d.note.toNat <<< 4) % 18446744073709551616:=by
 simp [DsD.word,DsD.fields,h,joinL,CW,vG.bits]
theorem oN {z:Int} {b:Nat} (h:PtD.di z 0 b=true):((z.toNat:Nat):Int)=z∧z.toNat≤b:=by
 simp only [PtD.di,Bool.and_eq_true,decide_eq_true_eq] at h
 omega
theorem DsD.vg {stage:Int} {level:Nat} {d:DsD} (h:d.may stage level=true):∀ f∈d.fields stage level,f.Ok:=by
 have key:∀ l:List vG,l.all (fun f=>decide (1≤f.n) && decide (f.a + f.n≤64) && decide (f.v<2 ^ f.n))=true→∀ f∈l,f.Ok:=by
  intro l hl f hf
  have:=List.all_eq_true.1 hl f hf
  simp only [Bool.and_eq_true,decide_eq_true_eq] at this
  exact ⟨this.1.1,this.1.2,this.2⟩
 apply key
 unfold DsD.may at h
 unfold DsD.fields
 by_cases h0:d.kind=0
 ·simp only [h0,decide_true,cond_true,Bool.and_eq_true,Bool.or_eq_true,decide_eq_true_eq] at h ⊢
  have:d.note.toNat<2 ^ 4:=by
   rcases h.2 with e | ⟨_,e⟩
   ·rw [e];decide
   ·have:=(oN (b:=15) e).2;omega
  simp [this]
 ·by_cases h1:d.kind=1
  ·simp only [h1,decide_true,cond_true,Bool.and_eq_true,decide_eq_true_eq,show decide ((1:Int)=0)=false from rfl,cond_false] at h ⊢
   have:d.frame.toNat<2 ^ 12:=by have:=(oN (b:=4095) h.2).2;omega
   simp [this]
  ·by_cases h2:d.kind=2
   ·simp only [h2,decide_true,cond_true,Bool.and_eq_true,decide_eq_true_eq,show decide ((2:Int)=0)=false from rfl,show decide ((2:Int)=1)=false from rfl,cond_false] at h ⊢
    have:d.frame.toNat<2 ^ 12:=by have:=(oN (b:=4095) h.1.2).2;omega
    have b:=at6
    by_cases hs:stage=1
    ·simp only [hs,decide_true,cond_true]
     simp [this,b,b1]
     cases decide (level=3)<;>cases d.af<;>cases d.x<;>cases d.w<;>cases d.ng<;>decide
    ·simp only [hs,decide_false,cond_false,Bool.and_eq_true] at h ⊢
     have h4:d.soft.toNat<2 ^ 4:=by have:=(oN (b:=15) h.1.1.1.2.2).2;omega
     simp [this,h4,b1]
     cases decide (level=3)<;>cases d.af<;>cases d.x<;>cases d.w<;>cases d.r<;>decide
   ·simp [h0,h1,h2] at h
def gy (stage:Int) (level:Nat) (w:Nat):DsD:=
 bif !decide (cO w 0 1=1) then { dN with note:=(cO w 4 4:Int) }
 else bif decide (cO w 1 1=1) && !decide (level=3) then { dN with kind:=1,frame:=(cO w 12 12:Int) }
 else bif decide (stage=1) then { dN with kind:=2,frame:=(cO w 12 12:Int),af:=decide (cO w 10 1=1),x:=!decide (cO w 54 1=1),r:=true,w:=!decide (cO w 7 1=1),ng:=decide (cO w 11 1=1) }
 else { dN with kind:=2,frame:=(cO w 12 12:Int),af:=decide (cO w 10 1=1),x:=!decide (cO w 54 1=1),r:=decide (cO w 6 1=1),w:=decide (cO w 7 1=1),soft:=(cO w 55 4:Int) }
def Ej (stage:Int) (level:Nat) (w:Nat):DsD:=bif (gy stage level w).may stage level && decide ((gy stage level w).word stage level=w) then gy stage level w else dN
theorem uA (stage:Int) (level:Nat):dN.may stage level=true:=by simp [DsD.may,dN,DsD.bare]
theorem YG (stage:Int) (level:Nat) (w:Nat):(Ej stage level w).may stage level=true:=by
 unfold Ej
 cases h:(gy stage level w).may stage level
 ·rw [Bool.false_and,cond_false];exact uA _ _
 ·rw [Bool.true_and]
  cases decide ((gy stage level w).word stage level=w)
  ·exact uA _ _
  ·exact h
end Go.Proofs.YtiaelhhmlbfkmaaGreat
