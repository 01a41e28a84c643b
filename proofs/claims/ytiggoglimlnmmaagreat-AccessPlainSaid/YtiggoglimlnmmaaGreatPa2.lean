/- Texts of one's own, merged: the engine, what the functions do, plain laws. -/
import Derived.Test.YtiggoglimlnmmaaGreatPa1
namespace Go.Proofs.YtiggoglimlnmmaaGreat
open Go.RowKit
set_option linter.unusedVariables false
set_option linter.unusedSimpArgs false
set_option maxRecDepth 20000
section
attribute [local irreducible] Hy St Ops DH fE iK iE fU
structure nX (p:Prop):Prop where
 get:p
theorem CQ {p:Prop} (h:p:=by (first | ((simp only [putAt,Value.cells,List.toList_toArray,List.setIfInBounds_toArray,List.set_cons_zero,List.set_cons_succ,List.drop_succ_cons,List.drop_zero,List.take_succ_cons,List.take_zero,List.cons_append,List.nil_append,List.append_nil])<;>rfl) | rfl)):p:=h
theorem CS {p:Prop} (h:p:=by (first | ((simp only [putAt,rep,Value.cells,Nat.reduceMul,Nat.zero_mul,Nat.one_mul,Nat.mul_one,List.toList_toArray,List.setIfInBounds_toArray,List.set_cons_zero,List.set_cons_succ,List.drop_succ_cons,List.drop_zero,List.take_succ_cons,List.take_zero,List.cons_append,List.nil_append,List.append_nil])<;>rfl) | rfl)):p:=h
theorem lI {p:Prop} (h:p:=by (first | ((simp only [putAt,List.toList_toArray,List.setIfInBounds_toArray,List.set_cons_zero,List.set_cons_succ,List.drop_succ_cons,List.drop_zero,List.take_succ_cons,List.take_zero,List.cons_append,List.nil_append,List.append_nil])<;>rfl) | rfl)):p:=h
theorem qQ {p:Prop} (h:p:=by (first | (with_reducible apply mh) | (focus ((repeat (first | (with_reducible apply mh) | (with_reducible apply mt) | (with_reducible apply List.mem_append_right)));done)))):p:=h
theorem jI {p:Prop} (h:p:=by (first | ((simp only [Nat.reduceAdd,Nat.reduceMul,Nat.zero_add,Nat.add_zero,Nat.mul_one,Nat.zero_mul,Int.toNat_zero,Int.toNat_one,Int.reduceToNat])<;>rfl) | rfl)):p:=h
theorem gW {p:Prop} (h:p:=by (first | ((simp only [Value.cells])<;>rfl) | rfl)):p:=h
theorem qR {p:Prop} (h:p:=by (first | (with_reducible apply p0) | (with_reducible apply p1) | (with_reducible apply p2) | (with_reducible apply p3) | (with_reducible apply p4) | (with_reducible apply p5))):p:=h
theorem iZ {p:Prop} (h:p:=by (first | omega | ((try simp only [eX,cond_true,cond_false,decide_eq_true_eq,Bool.not_eq_true',decide_eq_false_iff_not,Bool.and_eq_true,Bool.or_eq_true] at *);omega))):p:=h
theorem D9 {p:Prop} (h:p:=by (first | rfl | (focus (simp;done)))):p:=h
theorem Ea {p:Prop} (h:p:=by (first | omega | (focus (simp;done)) | (focus (simp;omega)))):p:=h
theorem Eb {p:Prop} (h:p:=by (first | exact List.not_mem_nil | assumption)):p:=h
theorem FD {G:Prop} (h:G:=by (first | ((with_reducible apply uw);rfl) | ((with_reducible apply jG);rfl) | ((with_reducible apply xq aj);rfl;rfl;rfl;(exact jI)) | ((with_reducible apply Aw aj);rfl;rfl;(exact qQ);(first | rfl | assumption)) | ((with_reducible apply xw aj);rfl;rfl;assumption;(exact Eb)) | ((with_reducible apply xx aj);rfl;rfl;rfl;(exact qQ);(first | assumption | (exact lI));rfl) | ((with_reducible apply uA aj);rfl;rfl;rfl;assumption;rfl;(exact Eb)) | ((with_reducible apply uy aj);rfl;rfl;rfl;omega;(exact jI)) | ((with_reducible apply qI aj);rfl;rfl;rfl;omega;(exact jI)) | ((with_reducible apply xu aj);rfl;rfl;rfl;omega;omega;(exact jI)) | ((with_reducible apply uz aj);rfl;rfl;rfl;omega;omega;(exact jI)) | ((with_reducible apply x_len aj);rfl;rfl) | ((with_reducible apply Gw);rfl;rfl) | ((with_reducible apply AP);rfl;rfl) | ((with_reducible apply Nh);rfl;rfl) | ((with_reducible apply Gg);rfl;rfl) | ((with_reducible apply Am);rfl;rfl;rfl) | ((with_reducible apply Gh);rfl) | ((with_reducible apply qH);rfl;rfl) | ((with_reducible apply oz);rfl) | ((with_reducible apply Gi);rfl;rfl) | ((with_reducible apply Gj);rfl;rfl) | ((with_reducible apply Gl);rfl;rfl) | ((with_reducible apply Gm);rfl;rfl) | ((with_reducible apply Ce);rfl;rfl) | ((with_reducible apply Gn);rfl;rfl) | ((with_reducible apply Ap aj);rfl;rfl;rfl) | ((with_reducible apply Aq aj);rfl;rfl;rfl) | ((with_reducible apply AB wB);rfl;rfl;rfl;rfl;rfl) | ((with_reducible apply AL wB);rfl;rfl;rfl;rfl;rfl) | ((with_reducible apply Gp);rfl;rfl;omega) | ((with_reducible apply Gq);rfl;rfl;omega;omega) | ((with_reducible apply Gs);rfl;rfl;omega;omega) | ((with_reducible apply Gt);rfl;rfl;omega;omega) | ((with_reducible apply sU aj);rfl;rfl;rfl;omega;omega) | ((with_reducible apply xm aj);rfl;rfl;rfl;omega;omega) | ((with_reducible apply sV aj);rfl;(exact gW);rfl;rfl;rfl;(exact CQ)) | ((with_reducible apply oC);rfl;rfl) | ((with_reducible apply Ar);rfl;rfl) | ((with_reducible apply Au);rfl;rfl))):G:=h
theorem LY {G:Prop} (h:G:=by (first | ((with_reducible apply uw);rfl) | ((with_reducible apply jG);rfl) | ((with_reducible apply xq aj);rfl;rfl;rfl;(exact jI)) | ((with_reducible apply Aw aj);rfl;rfl;(exact qQ);(first | rfl | assumption)) | ((with_reducible apply xw aj);rfl;rfl;assumption;(exact Eb)) | ((with_reducible apply xx aj);rfl;rfl;rfl;(exact qQ);(first | assumption | (exact lI));rfl) | ((with_reducible apply uA aj);rfl;rfl;rfl;assumption;rfl;(exact Eb)) | ((with_reducible apply uy aj);rfl;rfl;rfl;(exact iZ);(exact jI)) | ((with_reducible apply qI aj);rfl;rfl;rfl;(exact iZ);(exact jI)) | ((with_reducible apply xu aj);rfl;rfl;rfl;(exact iZ);(exact iZ);(exact jI)) | ((with_reducible apply uz aj);rfl;rfl;rfl;(exact iZ);(exact iZ);(exact jI)) | ((with_reducible apply x_len aj);rfl;rfl) | ((with_reducible apply Gw);rfl;rfl) | ((with_reducible apply AP);rfl;rfl) | ((with_reducible apply Nh);rfl;rfl) | ((with_reducible apply Gg);rfl;rfl) | ((with_reducible apply Am);rfl;rfl;rfl) | ((with_reducible apply Gh);rfl) | ((with_reducible apply qH);rfl;rfl) | ((with_reducible apply oz);rfl) | ((with_reducible apply Gi);rfl;rfl) | ((with_reducible apply Gj);rfl;rfl) | ((with_reducible apply Gl);rfl;rfl) | ((with_reducible apply Gm);rfl;rfl) | ((with_reducible apply Ce);rfl;rfl) | ((with_reducible apply Gn);rfl;rfl) | ((with_reducible apply Ap aj);rfl;rfl;rfl) | ((with_reducible apply Aq aj);rfl;rfl;rfl) | ((with_reducible apply AB wB);rfl;rfl;rfl;rfl;rfl) | ((with_reducible apply AL wB);rfl;rfl;rfl;rfl;rfl) | ((with_reducible apply Gp);rfl;rfl;(exact iZ)) | ((with_reducible apply Gq);rfl;rfl;(exact iZ);(exact iZ)) | ((with_reducible apply Gs);rfl;rfl;(exact iZ);(exact iZ)) | ((with_reducible apply Gt);rfl;rfl;(exact iZ);(exact iZ)) | ((with_reducible apply sU aj);rfl;rfl;rfl;(exact iZ);(exact iZ)) | ((with_reducible apply xm aj);rfl;rfl;rfl;(exact iZ);(exact iZ)) | ((with_reducible apply sV aj);rfl;(exact gW);rfl;rfl;rfl;(exact CQ)) | ((with_reducible apply oC);rfl;rfl) | ((with_reducible apply Ar);rfl;rfl) | ((with_reducible apply Au);rfl;rfl))):G:=h
theorem run {G R:Prop} (k:R) (h:nX R→G:=by (intro iD;(repeat (first | (with_reducible apply wW) | (with_reducible apply oQ) | (with_reducible apply nK) | (with_reducible apply nM) | (with_reducible apply xk) | (with_reducible apply sQ) | (with_reducible apply nN) | (with_reducible apply lu) | (with_reducible apply sS) | (with_reducible apply o7) | (with_reducible apply sN) | (with_reducible apply wX) | (with_reducible apply sJ) | (with_reducible apply sK) | ((with_reducible apply o8);rfl) | ((with_reducible apply lU);rfl;(first | exact FD)) | ((with_reducible apply Cf);rfl;rfl;(exact gW);intro blk) | ((with_reducible apply sW aj);rfl;rfl;(exact gW);intro blk) | ((with_reducible apply sZ aj);rfl;rfl;(exact gW);rfl;rfl;(exact qR);(exact D9);(exact Ea);(exact lI)) | ((with_reducible apply pq aj);rfl;rfl;rfl;(exact gW);rfl;rfl;rfl;rfl;(exact CS);intro blk)));(repeat revert blk);exact iD.get)):G:=h ⟨k⟩
theorem aG {G R:Prop} (k:R) (h:nX R→G:=by (intro iD;(repeat (first | (with_reducible apply wW) | (with_reducible apply oQ) | (with_reducible apply nK) | (with_reducible apply nM) | (with_reducible apply xk) | (with_reducible apply sQ) | (with_reducible apply nN) | (with_reducible apply lu) | (with_reducible apply sS) | (with_reducible apply o7) | (with_reducible apply sN) | (with_reducible apply wX) | (with_reducible apply sJ) | (with_reducible apply sK) | ((with_reducible apply o8);rfl) | ((with_reducible apply lU);rfl;(first | exact FD)) | ((with_reducible apply Cf);rfl;rfl;(exact gW);intro blk) | ((with_reducible apply sW aj);rfl;rfl;(exact gW);intro blk) | ((with_reducible apply sZ aj);rfl;rfl;(exact gW);rfl;rfl;(exact qR);(exact D9);(exact Ea);(exact lI)) | ((with_reducible apply pq aj);rfl;rfl;rfl;(exact gW);rfl;rfl;rfl;rfl;(exact CS);intro blk) | ((with_reducible apply JB);rfl;rfl;rfl;rfl;(intro hg1;(try simp only [hg1,aW,Bool.true_and]);(first | exact LY | exact vZ hg1 rfl))) | ((with_reducible apply F5);rfl;rfl;rfl;rfl;(intro hg0 hg1;have PD:=hg0;(try simp only [Bool.and_eq_true] at hg0);(try simp only [hg0,hg1,aW,Bool.true_and,Bool.and_true,Bool.and_self]);(first | exact LY | exact vZ hg1 rfl | exact AO PD rfl))) | ((with_reducible apply LQ);rfl;rfl;rfl;rfl)));(repeat revert blk);exact iD.get)):G:=h ⟨k⟩
theorem ig {G R:Prop} (k:R) (h:nX R→G:=by (intro iD;(repeat (first | (with_reducible apply wW) | (with_reducible apply oQ) | (with_reducible apply nK) | (with_reducible apply nM) | (with_reducible apply xk) | (with_reducible apply sQ) | (with_reducible apply nN) | (with_reducible apply lu) | (with_reducible apply sS) | (with_reducible apply o7) | (with_reducible apply sN) | (with_reducible apply wX) | (with_reducible apply sJ) | (with_reducible apply sK) | ((with_reducible apply o8);rfl) | ((with_reducible apply G6);rfl;(focus decide)) | ((with_reducible apply G7);rfl;(focus decide)) | ((with_reducible apply lU);rfl;(first | exact FD)) | ((with_reducible apply Cf);rfl;rfl;(exact gW);intro blk) | ((with_reducible apply sW aj);rfl;rfl;(exact gW);intro blk) | ((with_reducible apply sZ aj);rfl;rfl;(exact gW);rfl;rfl;(exact qR);(exact D9);(exact Ea);(exact lI)) | ((with_reducible apply pq aj);rfl;rfl;rfl;(exact gW);rfl;rfl;rfl;rfl;(exact CS);intro blk) | ((with_reducible apply JB);rfl;rfl;rfl;rfl;(intro hg1;(try simp only [hg1,aW,Bool.true_and]);(first | exact LY | exact vZ hg1 rfl))) | ((with_reducible apply F5);rfl;rfl;rfl;rfl;(intro hg0 hg1;have PD:=hg0;(try simp only [Bool.and_eq_true] at hg0);(try simp only [hg0,hg1,aW,Bool.true_and,Bool.and_true,Bool.and_self]);(first | exact LY | exact vZ hg1 rfl | exact AO PD rfl))) | ((with_reducible apply LQ);rfl;rfl;rfl;rfl)));(repeat revert blk);exact iD.get)):G:=h ⟨k⟩
theorem gp {G R:Prop} (k:R) (h:nX R→G:=by (intro iD;(repeat (first | (with_reducible apply CE) | ((with_reducible apply JS);rfl;(first | exact FD))));exact iD.get)):G:=h ⟨k⟩
theorem fJ {G R:Prop} (k:R) (h:nX R→G:=by (intro iD;(repeat (first | (with_reducible apply JX) | ((with_reducible apply fB);rfl;(intro Nz;(first | exact FD)))));exact iD.get)):G:=h ⟨k⟩
theorem Hf {G R:Prop} (k:R) (h:nX R→G:=by (intro iD;(repeat (first | (with_reducible apply CO) | ((with_reducible apply CP);rfl;decide +kernel;(first | exact FD)) | ((with_reducible apply He);rfl;decide +kernel;(intro Nz;(first | exact FD))) | ((with_reducible apply LX aj);rfl;rfl;(exact gW);rfl;rfl;(exact qR);(exact D9);(exact Ea);(exact lI);(refine dQ fun a=>?_;simp only [fK,bu,kQ];omega))));exact iD.get)):G:=h ⟨k⟩
theorem gy {G R:Prop} (k:R) (h:nX R→G:=by (intro iD;(repeat (first | (with_reducible apply CE) | ((with_reducible apply JS);rfl;(first | exact FD)) | ((with_reducible apply Gx);rfl;rfl;rfl;rfl;(intro hg1;(try simp only [hg1,aW,Bool.true_and]);(first | exact LY | exact vZ hg1 rfl))) | ((with_reducible apply Gy);rfl;rfl;rfl;rfl;(intro hg0 hg1;have PD:=hg0;(try simp only [Bool.and_eq_true] at hg0);(try simp only [hg0,hg1,aW,Bool.true_and,Bool.and_true,Bool.and_self]);(first | exact LY | exact vZ hg1 rfl | exact AO PD rfl))) | ((with_reducible apply Nq);rfl;rfl;rfl;rfl)));exact iD.get)):G:=h ⟨k⟩
theorem fin1 {P:Program} {fn:Func} {R:Value→Hp→Prop} {l:Fm} {hp:Hp} {t:Nat} {v:Value} (h:R v hp) (hr:fn.results=#[.tmp t]:=by rfl) (hv:look l t=some v:=by rfl):Fin P fn R .ret l hp:=
 ⟨.inl rfl,[v],by rw [hr];exact ⟨hv,trivial⟩,h⟩
theorem fin2 {P:Program} {fn:Func} {R:Value→Hp→Prop} {l:Fm} {hp:Hp} {t s:Nat} {v u:Value} (h:R (.tuple #[v,u]) hp) (hr:fn.results=#[.tmp t,.tmp s]:=by rfl) (hv:look l t=some v:=by rfl) (hu:look l s=some u:=by rfl):Fin P fn R .ret l hp:=
 ⟨.inl rfl,[v,u],by rw [hr];exact ⟨hv,hu,trivial⟩,h⟩
theorem J8 {P:Program} {fn:Func} {R:Value→Hp→Prop} {l:Fm} {hp:Hp} {t s r:Nat} {v u x:Value} (h:R (.tuple #[v,u,x]) hp) (hr:fn.results=#[.tmp t,.tmp s,.tmp r]:=by rfl) (hv:look l t=some v:=by rfl) (hu:look l s=some u:=by rfl) (hx:look l r=some x:=by rfl):Fin P fn R .ret l hp:=
 ⟨.inl rfl,[v,u,x],by rw [hr];exact ⟨hv,hu,hx,trivial⟩,h⟩
theorem fin0 {P:Program} {fn:Func} {R:Value→Hp→Prop} {l:Fm} {hp:Hp} {e:Exit} (h:R (.tuple #[]) hp) (hr:fn.results=#[]:=by rfl) (he:e=.ret∨e=.normal:=by first | exact .inl rfl | exact .inr rfl):Fin P fn R e l hp:=
 ⟨he,[],by rw [hr];trivial,h⟩
theorem jh {fn:Func} {R:Value→Hp→Prop} {l:Fm} {hp:Hp} {a t b:Nat} {cs:Array Value} {tb:TypeId} (h:R (.agg cs) hp) (hr:fn.results=#[.cell a t]:=by rfl) (hv:look l a=some (.pointer (some ⟨b,0,none⟩)):=by rfl) (hag:mem Tb.ag t=true:=by rfl) (hm:(⟨b,cs,tb⟩:jY)∈hp:=by (first | (with_reducible apply mh) | (focus ((repeat (first | (with_reducible apply mh) | (with_reducible apply mt) | (with_reducible apply List.mem_append_right)));done)))) (hz:lk Tb.sz t=some cs.size:=by rfl):Fin Tryz.prog fn R .ret l hp:=
 ⟨.inl rfl,[.agg cs],by rw [hr];exact ⟨⟨⟨b,cs,tb⟩,hm,hv,.inr ⟨aj.Cb hag,aj.rH hz,rfl⟩⟩,trivial⟩,h⟩
theorem jo {fn:Func} {R:Value→Hp→Prop} {l:Fm} {hp:Hp} {a t b s:Nat} {cs:Array Value} {tb:TypeId} {v:Value} (h:R (.tuple #[.agg cs,v]) hp) (hr:fn.results=#[.cell a t,.tmp s]:=by rfl) (hv:look l a=some (.pointer (some ⟨b,0,none⟩)):=by rfl) (hw:look l s=some v:=by rfl) (hag:mem Tb.ag t=true:=by rfl) (hm:(⟨b,cs,tb⟩:jY)∈hp:=by (first | (with_reducible apply mh) | (focus ((repeat (first | (with_reducible apply mh) | (with_reducible apply mt) | (with_reducible apply List.mem_append_right)));done)))) (hz:lk Tb.sz t=some cs.size:=by rfl):Fin Tryz.prog fn R .ret l hp:=
 ⟨.inl rfl,[.agg cs,v],by rw [hr];exact ⟨⟨⟨b,cs,tb⟩,hm,hv,.inr ⟨aj.Cb hag,aj.rH hz,rfl⟩⟩,hw,trivial⟩,h⟩
section
variable {n : Nat} {w0 : World} {mu : List Nat} {l : Fm} {hp : Hp} {Q : Exit → Fm → Hp → Prop} {all : Array Oper} {rest : List Oper} {ty : TypeId} {pos : String} {af : Array Edge}
theorem dG {σ:Type} {A B C D:σ→Prop} (s':σ) (hI:B s') (hm:A s':=by omega) (h1:C s':=by (repeat (first | exact True.intro | (refine And.intro UN ?_)))) (h2:D s':=by (repeat (first | exact True.intro | exact aI.refl _ | (with_reducible exact aI.left _ _) | (with_reducible exact aI.right _ _) | (refine Exists.intro _ (And.intro UR ?_)) | (with_reducible apply aI.app) | (with_reducible apply aI.skip)))):∃ s',A s'∧B s'∧C s'∧D s':=⟨s',hm,hI,h1,h2⟩
theorem eY {σ:Type} {B C D:σ→Prop} (s':σ) (hI:B s') (h1:C s':=by (repeat (first | exact True.intro | (refine And.intro UN ?_)))) (h2:D s':=by (repeat (first | exact True.intro | exact aI.refl _ | (with_reducible exact aI.left _ _) | (with_reducible exact aI.right _ _) | (refine Exists.intro _ (And.intro UR ?_)) | (with_reducible apply aI.app) | (with_reducible apply aI.skip)))):∃ s',B s'∧C s'∧D s':=⟨s',hI,h1,h2⟩
theorem eF {c:Code} {σ:Type} (V:σ→Fm) (H:σ→Hp) (I:σ→Prop) (μ:σ→Nat) (s0:σ) (hI:I s0)
  (round:∀ s m,μ s=m→I s→St Tryz.prog n w0 mu c (V s++l) (H s) (nx (fun l' hp'=>∃ s',μ s'<m∧I s'∧xB [] (V s'++l) l'∧aI (H s') hp') Q)) (hl:xB [] (V s0++l) l:=by (repeat (first | exact True.intro | (refine And.intro UN ?_)))) (hh:aI (H s0) hp:=by (repeat (first | exact True.intro | exact aI.refl _ | (with_reducible exact aI.left _ _) | (with_reducible exact aI.right _ _) | (refine Exists.intro _ (And.intro UR ?_)) | (with_reducible apply aI.app) | (with_reducible apply aI.skip)))):St Tryz.prog n w0 mu (.loop c) l hp Q:=Gv V H I μ s0 hI hl hh round
theorem ax {f d:Nat} {xs:List Operand} {vs:List Value} {tys:Array TypeId} {v:Value} (hc:∀ w,Good w0 mu hp w→Fn Tryz.prog f vs.toArray w [] (fun u _=>u=v)) (h:Ops Tryz.prog n w0 mu all rest ((d,v)::l) hp Q)
  (bY:mem jT f=true:=by rfl) (hd:Nat.blt d n=true:=by rfl) (hv:evs l xs=some vs:=by rfl):Ops Tryz.prog n w0 mu all (⟨some d,.call { callee:=.value (.func f),args:=xs.toArray,argTypes:=tys },ty,pos,af,none⟩::rest) l hp Q:=
 lU hd (cZ (di f bY) hv hc) h
theorem PE {f d:Nat} {xs:List Operand} {vs:List Value} {tys:Array TypeId} {R:Value→Prop} (hc:∀ w,Good w0 mu hp w→Fn Tryz.prog f vs.toArray w [] (fun u _=>R u)) (h:∀ v,R v→Ops Tryz.prog n w0 mu all rest ((d,v)::l) hp Q)
  (bY:mem jT f=true:=by rfl) (hd:Nat.blt d n=true:=by rfl) (hv:evs l xs=some vs:=by rfl):Ops Tryz.prog n w0 mu all (⟨some d,.call { callee:=.value (.func f),args:=xs.toArray,argTypes:=tys },ty,pos,af,none⟩::rest) l hp Q:=
 JR (di f bY) hd hv hc h
theorem jJ {f d:Nat} {xs:List Operand} {vs:List Value} {tys:Array TypeId} {R:Value→Hp→Prop} (hc:∀ w,Good w0 mu hp w→Fn Tryz.prog f vs.toArray w [] R) (h:∀ v hn,R v hn→Ops Tryz.prog n w0 mu all rest ((d,v)::l) (hn++hp) Q)
  (bY:mem jT f=true:=by rfl) (hd:Nat.blt d n=true:=by rfl) (hv:evs l xs=some vs:=by rfl):Ops Tryz.prog n w0 mu all (⟨some d,.call { callee:=.value (.func f),args:=xs.toArray,argTypes:=tys },ty,pos,af,none⟩::rest) l hp Q:=
 Gu (di f bY) hd hv hc h
theorem kR {f d:Nat} {xs:List Operand} {vs:List Value} {tys:Array TypeId} {R:Value→Hp→Prop} (hi hp':Hp) (hc:∀ w,Good w0 mu (hi++hp') w→Fn Tryz.prog f vs.toArray w (hi.map (·.b)) R) (h:∀ v hn,R v hn→Ops Tryz.prog n w0 mu all rest ((d,v)::l) (hn++hp') Q)
  (hperm:(hi++hp').Perm hp) (bY:mem jT f=true:=by rfl) (hd:Nat.blt d n=true:=by rfl) (hv:evs l xs=some vs:=by rfl):Ops Tryz.prog n w0 mu all (⟨some d,.call { callee:=.value (.func f),args:=xs.toArray,argTypes:=tys },ty,pos,af,none⟩::rest) l hp Q:=
 JO (di f bY) hi hp' hd hv hperm hc h
theorem pO {f d:Nat} {x:Operand} {xs:List Operand} {vs fs us:List Value} {tys:Array TypeId} {v:Value} (hc:∀ w,Good w0 mu hp w→Fn Tryz.prog f (fs++vs++us).toArray w [] (fun u _=>u=v)) (h:Ops Tryz.prog n w0 mu all rest ((d,v)::l) hp Q)
  (hx:ev l x=some (.func (.func f) fs.toArray us.toArray):=by rfl) (bY:mem jT f=true:=by rfl) (hd:Nat.blt d n=true:=by rfl) (hv:evs l xs=some vs:=by rfl):Ops Tryz.prog n w0 mu all (⟨some d,.call { callee:=.value x,args:=xs.toArray,argTypes:=tys },ty,pos,af,none⟩::rest) l hp Q:=
 lU hd (xA (di f bY) hx hv hc) h
theorem bz {f d j dj:Nat} {want b:Bool} {xs:List Operand} {vs:List Value} {tys:Array TypeId} {v:Value} (hc:eX b want=true→∀ w,Good w0 mu hp w→Fn Tryz.prog f vs.toArray w [] (fun u _=>u=v)) (h:Ops Tryz.prog n w0 mu all rest ((d,gv (eX b want) v)::l) hp Q)
  (hj:(all[j]?).bind (·.dst)=some dj:=by rfl) (hb:look l dj=some (.bool b):=by rfl) (hdj:Nat.blt dj n=true:=by rfl) (bY:mem jT f=true:=by rfl) (hd:Nat.blt d n=true:=by rfl) (hv:eX b want=true→evs l xs=some vs:=by (intro hg1;(try simp only [hg1,aW,Bool.true_and]);rfl)):Ops Tryz.prog n w0 mu all (⟨some d,.call { callee:=.value (.func f),args:=xs.toArray,argTypes:=tys },ty,pos,af,some (j,want)⟩::rest) l hp Q:=
 JB hd hj hb hdj (fun hg=>cZ (di f bY) (hv hg) (hc hg)) h
theorem lJ {id:Nat} {ops:List Oper} {ds:List (Nat × Nat)} (h:fE Tryz.prog n w0 mu ops.toArray ds [] l hp Q 0 ops [] []) (hds:aY ops 0=ds:=by (simp only [aY,Nat.reduceAdd,Nat.zero_add];rfl)) (hm:Tryz.prog.follows .mixedOrders=true:=by kernel_rfl) (hB:uu ops.toArray n=true:=by kernel_rfl) (hf:aS l (dstsOf ops.toArray ops.length)=true:=by rfl):St Tryz.prog n w0 mu (.region id ops.toArray true) l hp Q:=
 Ak hm hB hf (by rw [hds];exact wo h)
theorem ja {id:Nat} {ops hd tl:List Oper} {ds:List (Nat × Nat)} (k:Nat) (h:fE Tryz.prog n w0 mu ops.toArray ds tl l hp Q 0 hd [] []) (hds:aY ops 0=ds:=by (simp only [aY,Nat.reduceAdd,Nat.zero_add];rfl)) (htl:ops.drop k=tl:=by (simp only [List.drop_succ_cons,List.drop_zero];rfl)) (hhd:ops.take k=hd:=by (simp only [List.take_succ_cons,List.take_zero];rfl)) (hm:Tryz.prog.follows .mixedOrders=true:=by kernel_rfl) (hB:o9 ops.toArray k n=true:=by kernel_rfl) (hf:aS l (dstsOf ops.toArray k)=true:=by rfl):St Tryz.prog n w0 mu (.region id ops.toArray true) l hp Q:=
 JL k hm hB hf (by rw [hds,htl,hhd];exact wo h)
theorem uK {id:Nat} {ops:List Oper} {ds:List (Nat × Nat)} (t0:Nat) (h0:Hp) (h:lZ Tryz.prog n w0 mu ops.toArray ds l h0 hp t0 Q 0 ops [] [] hp) (hle:aI h0 hp:=by (exact ak)) (hds:aY ops 0=ds:=by (simp only [aY,Nat.reduceAdd,Nat.zero_add];rfl)) (hm:Tryz.prog.follows .mixedOrders=true:=by kernel_rfl) (hB:AY ops.toArray n t0=true:=by kernel_rfl) (hf:aS l (dstsOf ops.toArray ops.length)=true:=by rfl):St Tryz.prog n w0 mu (.region id ops.toArray true) l hp Q:=
 G9 t0 h0 hm hB hf hle (by rw [hds];exact D8 h)
section
variable {ds : List (Nat × Nat)} {tail : List Oper} {i : Nat} {iv fr : Fm}
theorem NC {f d t0:Nat} {h0 hc:Hp} {xs:List Operand} {vs:List Value} {tys:Array TypeId} {v:Value} (hc':∀ w,Good w0 mu hp w→Fn Tryz.prog f vs.toArray w [] (fun u _=>u=v)) (h:lZ Tryz.prog n w0 mu all ds l h0 hp t0 Q (i + 1) rest ((i,v)::iv) ((d,v)::fr) hc)
  (hlk:lk ds i=some d:=by rfl) (hwt:Region.waitsFor .any all t0 i=true:=by decide +kernel) (bY:mem jT f=true:=by rfl) (hv:evs (au ds iv af.toList++l) xs=some vs:=by rfl):lZ Tryz.prog n w0 mu all ds l h0 hp t0 Q i (⟨some d,.call { callee:=.value (.func f),args:=xs.toArray,argTypes:=tys },ty,pos,af,none⟩::rest) iv fr hc:=
 CP hlk hwt (cZ (di f bY) hv hc') h
theorem nY {f d:Nat} {xs:List Operand} {vs:List Value} {tys:Array TypeId} {v:Value} (hc:∀ w,Good w0 mu hp w→Fn Tryz.prog f vs.toArray w [] (fun u _=>u=v)) (h:fE Tryz.prog n w0 mu all ds tail l hp Q (i + 1) rest ((i,v)::iv) ((d,v)::fr))
  (hlk:lk ds i=some d:=by rfl) (bY:mem jT f=true:=by rfl) (hv:evs (au ds iv af.toList++l) xs=some vs:=by rfl):fE Tryz.prog n w0 mu all ds tail l hp Q i (⟨some d,.call { callee:=.value (.func f),args:=xs.toArray,argTypes:=tys },ty,pos,af,none⟩::rest) iv fr:=
 JS hlk (cZ (di f bY) hv hc) h
theorem ji {f d j dj:Nat} {want b:Bool} {xs:List Operand} {vs:List Value} {tys:Array TypeId} {v:Value} (hc:eX b want=true→∀ w,Good w0 mu hp w→Fn Tryz.prog f vs.toArray w [] (fun u _=>u=v)) (h:fE Tryz.prog n w0 mu all ds tail l hp Q (i + 1) rest ((i,gv (eX b want) v)::iv) ((d,gv (eX b want) v)::fr))
  (hj:(all[j]?).bind (·.dst)=some dj:=by rfl) (hb:look (au ds iv af.toList++l) dj=some (.bool b):=by rfl) (hdj:Nat.blt dj n=true:=by rfl) (hlk:lk ds i=some d:=by rfl) (bY:mem jT f=true:=by rfl) (hv:eX b want=true→evs (au ds iv af.toList++l) xs=some vs:=by (intro hg1;(try simp only [hg1,aW,Bool.true_and]);rfl)):fE Tryz.prog n w0 mu all ds tail l hp Q i (⟨some d,.call { callee:=.value (.func f),args:=xs.toArray,argTypes:=tys },ty,pos,af,some (j,want)⟩::rest) iv fr:=
 Gx hlk hj hb hdj (fun hg=>cZ (di f bY) (hv hg) (hc hg)) h
theorem J9 {f d j dj:Nat} {want c0 b:Bool} {xs:List Operand} {vs:List Value} {tys:Array TypeId} {v:Value} (hc:c0=true→eX b want=true→∀ w,Good w0 mu hp w→Fn Tryz.prog f vs.toArray w [] (fun u _=>u=v)) (h:fE Tryz.prog n w0 mu all ds tail l hp Q (i + 1) rest ((i,gv (c0 && eX b want) v)::iv) ((d,gv (c0 && eX b want) v)::fr))
  (hj:(all[j]?).bind (·.dst)=some dj:=by rfl) (hb:look (au ds iv af.toList++l) dj=some (gv c0 (.bool b)):=by rfl) (hdj:Nat.blt dj n=true:=by rfl) (hlk:lk ds i=some d:=by rfl) (bY:mem jT f=true:=by rfl) (hv:c0=true→eX b want=true→evs (au ds iv af.toList++l) xs=some vs:=by (intro hg0 hg1;(try simp only [Bool.and_eq_true] at hg0);(try simp only [hg0,hg1,aW,Bool.true_and,Bool.and_true,Bool.and_self]);rfl)):fE Tryz.prog n w0 mu all ds tail l hp Q i (⟨some d,.call { callee:=.value (.func f),args:=xs.toArray,argTypes:=tys },ty,pos,af,some (j,want)⟩::rest) iv fr:=
 Gy hlk hj hb hdj (fun hg0 hg=>cZ (di f bY) (hv hg0 hg) (hc hg0 hg)) h
end
theorem drawM {id:Nat} {ops tl:List Oper} {ds:List (Nat × Nat)} (k:Nat) (S E D:List Nat) (h:iK Tryz.prog n w0 mu ops.toArray ds l hp (fun aB=>iE Tryz.prog n w0 mu ops.toArray ds l hp aB (fun Rs=>DN (fun iv bl=>fU Tryz.prog n w0 mu ops.toArray ds l hp (fun iH=>Ops Tryz.prog n w0 mu ops.toArray tl (aO ds iH++l) (bl++hp) Q) D (iv++aB)) Rs) E []) S [])
  (hds:aY ops 0=ds:=by (simp only [aY,Nat.reduceAdd,Nat.zero_add];rfl)) (htl:ops.drop k=tl:=by (simp only [List.drop_succ_cons,List.drop_zero];rfl)) (hm:Tryz.prog.follows .mixedOrders=true:=by kernel_rfl) (hB:o9 ops.toArray k n=true:=by kernel_rfl) (hf:aS l (dstsOf ops.toArray k)=true:=by rfl) (hsp:splitB k S E D=true:=by decide):St Tryz.prog n w0 mu (.region id ops.toArray true) l hp Q:=
 GM k S E D hm hB hf hsp hds Vb
theorem ND {ops tl:List Oper} {ds:List (Nat × Nat)} (k:Nat) (S E D:List Nat) (h:iK Tryz.prog n w0 mu ops.toArray ds l hp (fun aB=>iE Tryz.prog n w0 mu ops.toArray ds l hp aB (fun Rs=>DN (fun iv bl=>fU Tryz.prog n w0 mu ops.toArray ds l hp (fun iH=>Ops Tryz.prog n w0 mu ops.toArray tl (aO ds iH++l) (bl++hp) Q) D (iv++aB)) Rs) E []) S [])
  (hds:aY ops 0=ds:=by (simp only [aY,Nat.reduceAdd,Nat.zero_add];rfl)) (htl:ops.drop k=tl:=by (simp only [List.drop_succ_cons,List.drop_zero];rfl)) (hB:o9 ops.toArray k n=true:=by kernel_rfl) (hf:aS l (dstsOf ops.toArray k)=true:=by rfl) (hsp:splitB k S E D=true:=by decide):iV Tryz.prog n w0 mu ops.toArray l hp Q:=
 wu k S E D hB hf hsp hds Vb
theorem late {id:Nat} {ops ops':List Oper} (k i:Nat) (h:iV Tryz.prog n w0 mu ops'.toArray l hp (Ns Q)) (he:addEdge ops.toArray k i=ops'.toArray:=by (simp only [addEdge,List.modify_toArray,List.modify_succ_cons,List.modify_zero_cons,List.push_toArray,List.cons_append,List.nil_append];rfl)) (hB:y5 ops.toArray k i=true:=by kernel_rfl) (hm:Tryz.prog.follows .mixedOrders=true:=by kernel_rfl):St Tryz.prog n w0 mu (.region id ops.toArray true) l hp Q:=Nw hm (CJ k i hB he h)
theorem PG {ops ops':List Oper} (k i:Nat) (h:iV Tryz.prog n w0 mu ops'.toArray l hp (Ns Q)) (he:addEdge ops.toArray k i=ops'.toArray:=by (simp only [addEdge,List.modify_toArray,List.modify_succ_cons,List.modify_zero_cons,List.push_toArray,List.cons_append,List.nil_append];rfl)) (hB:y5 ops.toArray k i=true:=by kernel_rfl):iV Tryz.prog n w0 mu ops.toArray l hp (Ns Q):=CJ k i hB he h
section
variable {ds : List (Nat × Nat)} {iv : Fm} {S E D : List Nat} {Rs : List (Nat × RT)} {Z : List (Nat × RT) → Prop} {Y : Fm → Prop} {i d : Nat}
theorem kL {t:TypeId} {z:Value} {cs:List Value} (h:iE Tryz.prog n w0 mu all ds l hp iv Z E ((i,fun v hn=>∃ b,v=.pointer (some ⟨b,0,none⟩)∧hn=[⟨b,cs.toArray,t⟩])::Rs)) (ho:all[i]?=some ⟨some d,.alloc t,ty,pos,af,none⟩:=by rfl) (hz:lk Tb.zs t=some z:=by rfl) (hc:z.cells=cs.toArray:=by (first | ((simp only [Value.cells])<;>rfl) | rfl)):iE Tryz.prog n w0 mu all ds l hp iv Z (i::E) Rs:=
 GN ho (GU aj hz hc) ⟨_,_,0,rfl,rfl⟩ h
theorem y7 {f:FuncId} {xs:List Operand} {vs:List Value} {tys:Array TypeId} {R:RT} (hc:∀ w,Good w0 mu hp w→Fn Tryz.prog f vs.toArray w [] R) (hi:∃ v hn,R v hn) (h:iE Tryz.prog n w0 mu all ds l hp iv Z E ((i,R)::Rs)) (ho:all[i]?=some ⟨some d,.call { callee:=.value (.func f),args:=xs.toArray,argTypes:=tys },ty,pos,af,none⟩:=by rfl) (bY:mem jT f=true:=by rfl) (hv:evs (au ds iv af.toList++l) xs=some vs:=by rfl):iE Tryz.prog n w0 mu all ds l hp iv Z (i::E) Rs:=
 GN ho (J3 (di f bY) hv hc) hi h
theorem y8 {x:Operand} {v:Value} (h:fU Tryz.prog n w0 mu all ds l hp Y D ((i,v)::iv)) (ho:all[i]?=some ⟨some d,.move x,ty,pos,af,none⟩:=by rfl) (hx:ev (au ds iv af.toList++l) x=some v:=by rfl):fU Tryz.prog n w0 mu all ds l hp Y (i::D) iv:=yX ho (Nr hx) h
theorem dR {x:Operand} {j:Nat} {vs:Array Value} {v:Value} (h:fU Tryz.prog n w0 mu all ds l hp Y D ((i,v)::iv)) (ho:all[i]?=some ⟨some d,.extract x j,ty,pos,af,none⟩:=by rfl) (hx:ev (au ds iv af.toList++l) x=some (.tuple vs):=by rfl) (hj:nth vs.toList j=some v:=by rfl):fU Tryz.prog n w0 mu all ds l hp Y (i::D) iv:=yX ho (D5 hx hj) h
theorem lK (h:Y iv):fU Tryz.prog n w0 mu all ds l hp Y [] iv:=JZ h
theorem kM (h:Z Rs):iE Tryz.prog n w0 mu all ds l hp iv Z [] Rs:=JY h
end
theorem xO {ops:List Oper} {ds:List (Nat × Nat)} {iv fr:Fm} {bl:Hp} (h:Ops Tryz.prog n w0 mu all ops (fr++l) (bl++hp) Q) (hfr:aO ds iv=fr:=by (simp only [aO,bF,List.cons_append,List.nil_append,reduceIte,Nat.reduceEqDiff];rfl)):Ops Tryz.prog n w0 mu all ops (aO ds iv++l) (bl++hp) Q:=by rw [hfr];exact h
theorem A7 {ds:List (Nat × Nat)} {tail:List Oper} {i d:Nat} {iv fr:Fm} {op:Op} {v:Value} (hy:Hy Tryz.prog n w0 mu (au ds iv af.toList++l) hp ⟨some d,op,ty,pos,af,none⟩ v) (h:fE Tryz.prog n w0 mu all ds tail l hp Q (i + 1) rest ((i,v)::iv) ((d,v)::fr)) (hlk:lk ds i=some d:=by rfl):fE Tryz.prog n w0 mu all ds tail l hp Q i (⟨some d,op,ty,pos,af,none⟩::rest) iv fr:=JS hlk hy h
theorem Ko {t d e sz iP cc a:Nat} {x y:Operand} {z v:Value} {c:List Value} {ha hp':Hp} {xs:List (List Value)} (hA:Acc e sz v ha xs) (h:∀ v' ha',Acc e sz v' ha' (xs++[c])→Ops Tryz.prog n w0 mu all rest ((d,v')::l) (ha'++hp') Q) (h63:xs.length<1000000) (hnews:jH w0 mu hp a 0 c)
  (hperm:(ha++hp').Perm hp:=by first | exact List.perm_middle | exact List.perm_append_singleton _ _ | exact .refl _) (hd:Nat.blt d n=true:=by rfl) (hx:ev l x=some v:=by rfl) (hy:ev l y=some (.slice (some ⟨a,0,none⟩) 1 cc):=by rfl) (ht:lk Tb.sl t=some (e,sz):=by rfl)
  (hz:lk Tb.zs e=some z:=by rfl) (hzs:z.cells.size=sz:=by rfl) (hb:lk Tb.eb e=some iP:=by rfl) (hby:Nat.ble iP 4096=true:=by rfl) (hl:c.length=sz:=by rfl) (h1:c.all (·.oneCell')=true:=by rfl):Ops Tryz.prog n w0 mu all (⟨some d,.call { callee:=.builtin .append,args:=#[x,y],argTypes:=#[t,t] },ty,pos,af,none⟩::rest) l hp Q:=
 DX aj hA hd hx hy ht hz hzs hb hby hperm hl hnews h1 h63 h
theorem make {t d e sz iP:Nat} {x y:Operand} {z:Value} {k k':IntKind} {m:Nat} (h:∀ b,Ops Tryz.prog n w0 mu all rest ((d,.slice (some ⟨b,0,none⟩) m m)::l) (⟨b,madeCells z.cells (m * sz),e⟩::hp) Q) (hm:m≤65536) (hd:Nat.blt d n=true:=by rfl) (hx:ev l x=some (.int k (m:Int)):=by rfl) (hy:ev l y=some (.int k' (m:Int)):=by rfl) (ht:lk Tb.sl t=some (e,sz):=by rfl) (hz:lk Tb.zs e=some z:=by rfl) (hb:lk Tb.eb e=some iP:=by rfl)
  (hs:Nat.ble sz 64=true:=by rfl) (hby:Nat.ble iP 4096=true:=by rfl):Ops Tryz.prog n w0 mu all (⟨some d,.makeSlice t x y,ty,pos,af,none⟩::rest) l hp Q:=by
 have hs':sz≤64:=Nat.le_of_ble_eq_true hs
 have rZ:iP≤4096:=Nat.le_of_ble_eq_true hby
 refine Nl aj hd hx hy ht hz hb ?_ ?_ Uz h
 ·calc m * sz≤65536 * 64:=Nat.mul_le_mul hm hs'
   _≤_:=by decide
 ·calc iP * m≤4096 * 65536:=Nat.mul_le_mul rZ hm
   _≤_:=by decide
theorem enter {f:FuncId} {fn:Func} {c:Code} {args:List Value} {w:World} {R:Value→Hp→Prop} (hf:Tryz.prog.funcs[f]?=some fn) (h:St Tryz.prog fn.ntmps w [] c (o6 0 args) [] (Fin Tryz.prog fn R)) (hb:fn.body=some c:=by rfl) (ha:Nat.ble args.length fn.ntmps=true:=by rfl):Fn Tryz.prog f args.toArray w [] R:=FZ hf hb fn.ntmps rfl (Nat.le_of_ble_eq_true ha) h
structure jb (hi:Hp) (w:World):Prop where
 here:∀ e∈hi,w.heap[e.b]?=some (.cells e.cs e.t (0,0))
 nd:(hi.map (·.b)).Nodup
theorem Good.jK {w0 w:World} {mu:List Nat} {hi hp:Hp} (h:Good w0 mu (hi++hp) w):jb hi w:=
 ⟨fun e he=>h.here e (List.mem_append_left _ he),by have:=h.nodup;rw [List.map_append,List.nodup_append] at this;exact this.1⟩
theorem kN {f:FuncId} {fn:Func} {c:Code} {args:List Value} {w:World} {R:Value→Hp→Prop} (hi:Hp) (hN:jb hi w) (hf:Tryz.prog.funcs[f]?=some fn) (h:St Tryz.prog fn.ntmps w (hi.map (·.b)) c (o6 0 args) hi (Fin Tryz.prog fn R)) (hb:fn.body=some c:=by rfl) (ha:Nat.ble args.length fn.ntmps=true:=by rfl):Fn Tryz.prog f args.toArray w (hi.map (·.b)) R:=DT hi hN.here hN.nd hf hb fn.ntmps rfl (Nat.le_of_ble_eq_true ha) h
end
end
section
open Go.ChangeShapes Go.WideShapes Go.ChangeAt Go.RowKit
def okW:fG→Value→Bool
 | .i k,.int k' n=>decide (k=k') && (Lit.int k n).wf
 | .b,.bool _=>true
 | _,_=>false
def gz:List fG→List Value→Bool
 | [],[]=>true
 | l::ls,v::vs=>okW l v && gz ls vs
 | _,_=>false
theorem wC:∀ {ks rs:List fG} {vs:List Value},ks.length≤vs.length→gz ks (vs.take ks.length)=true→gz rs (vs.drop ks.length)=true→gz (ks++rs) vs=true:=by
 intro ks
 induction ks with
 | nil=>intro rs vs _ _ h;simpa using h
 | cons k r ih=>
  intro rs vs hl h1 h2
  cases vs with
  | nil=>simp at hl
  | cons v vs=>
   simp only [List.length_cons,List.take_succ_cons,List.drop_succ_cons,gz,Bool.and_eq_true] at h1 h2
   simp only [List.cons_append,gz,Bool.and_eq_true]
   exact ⟨h1.1,ih (by simp at hl;omega) h1.2 h2⟩
section
variable {H : Type} {enc : TypeId × Value → H} {P : Program} {w : World} {base : Nat} {spare : Nat → Bool} {held : Bool}
theorem dM {t:TypeId} {n:Nat} (h:bU P t=some n):P.cellsOf t=n:=by
 unfold bU at h;unfold Program.cellsOf;rw [h];rfl
theorem vO {F:TypeId→Option (List fG)} {n:Nat} (hF:∀ u ks,F u=some ks→bU P u=some ks.length∧∀ cs x,DataW.trod enc P w base spare held n u cs=some x→gz ks cs=true) (cs:List Value):
  ∀ (fs:List Field) (off:Nat) (ks:List fG),gJ F off fs=some ks→cs.length=off + ks.length →
   (∀ f∈fs,∃ x,DataW.trod enc P w base spare held n f.type ((cs.drop f.offset).take (P.cellsOf f.type))=some x)→gz ks (cs.drop off)=true:=by
 intro fs
 induction fs with
 | nil=>
  intro off ks h hl hx
  simp only [gJ,Option.some.injEq] at h
  subst h
  rw [List.drop_eq_nil_of_le (by simp only [List.length_nil] at hl;omega)]
  rfl
 | cons f r ih=>
  intro off ks h hl hx
  simp only [gJ] at h
  split at h
  ·rename_i hc
   obtain ⟨hname,hoff⟩:=hc
   cases hf:F f.type with
   | none=>simp [hf] at h
   | some k1=>
    rw [hf] at h
    simp only [Option.bind_some] at h
    cases hr:gJ F (off + k1.length) r with
    | none=>simp [hr] at h
    | some k2=>
     rw [hr] at h
     simp only [Option.map_some,Option.some.injEq] at h
     subst h
     obtain ⟨hs,hE⟩:=hF _ _ hf
     obtain ⟨x,hx1⟩:=hx f (List.mem_cons_self ..)
     rw [hoff,dM hs] at hx1
     simp only [List.length_append] at hl
     refine wC UJ (hE _ _ hx1) ?_
     rw [List.drop_drop]
     exact ih _ _ hr Uz fun f hf=>hx f (List.mem_cons_of_mem _ hf)
  ·cases h
theorem xP {ks:List fG} {q:List Value→Prop} (hE:∀ cs,q cs→gz ks cs=true) (cs:List Value):∀ (n m:Nat),cs.length=(m + n) * ks.length→(∀ i,m≤i→i<m + n→q ((cs.drop (i * ks.length)).take ks.length))→gz (iC ks n) (cs.drop (m * ks.length))=true:=by
 intro n
 induction n with
 | zero=>intro m hl _;rw [List.drop_eq_nil_of_le (by rw [hl];simp)];rfl
 | succ n ih=>
  intro m hl hq
  have e:(m + (n + 1)) * ks.length=m * ks.length + (ks.length + n * ks.length):=by rw [Nat.add_mul,Nat.succ_mul];omega
  refine wC UJ (hE _ (hq m (Nat.le_refl _) Uz)) ?_
  rw [List.drop_drop,← Nat.succ_mul]
  exact ih (m + 1) (by rw [hl];congr 1;omega) fun i h1 h2=>hq i Uz Uz
theorem mO:∀ (d:Nat) (t:TypeId) (ks:List fG),mG P d t=some ks→bU P t=some ks.length→∀ fuel cs x,DataW.trod enc P w base spare held fuel t cs=some x→gz ks cs=true:=by
 intro d
 induction d with
 | zero=>intro t ks h;cases h
 | succ d ih=>
  intro t ks h hsz fuel cs x hx
  simp only [mG] at h
  split at h
  ·rename_i k hu
   simp only [Option.some.injEq] at h
   subst h
   obtain ⟨n,rfl,_,hw⟩:=DataW.trod_int hu hx
   simp [gz,okW,hw]
  ·rename_i hu
   simp only [Option.some.injEq] at h
   subst h
   obtain ⟨n,rfl,_⟩:=DataW.trod_bool hu hx
   simp [gz,okW]
  ·rename_i fs hu
   split at h
   ·obtain ⟨xs,n,_,_,hl,hn,hf⟩:=DataW.trod_struct hu hx
    have:=vO (enc:=enc) (P:=P) (w:=w) (base:=base) (spare:=spare) (held:=held) (n:=n) (F:=fun u=>(mG P d u).bind fun ks=>if bU P u=some ks.length∧0<ks.length then some ks else none) (fun u ks' hF=>by
     cases hl:mG P d u with
     | none=>rw [hl] at hF;cases hF
     | some k1=>
      rw [hl] at hF
      simp only [Option.bind_some] at hF
      split at hF
      ·rename_i hz
       simp only [Option.some.injEq] at hF
       subst hF
       exact ⟨hz.1,fun cs x=>ih u k1 hl hz.1 n cs x⟩
      ·cases hF) cs fs.toList 0 ks h (by rw [hl,dM hsz];omega) (fun f hm=>by
       obtain ⟨i,hi,rfl⟩:=List.mem_iff_getElem.1 hm
       simp only [Array.length_toList] at hi
       have:=hf i fs[i] (by simp [hi])
       rw [Array.getElem_toList,this]
       exact ⟨xs[i],by rw [List.getElem?_eq_getElem Uz]⟩)
    simpa using this
   ·cases h
  ·rename_i n e hu
   cases hl:mG P d e with
   | none=>rw [hl] at h;cases h
   | some k1=>
    rw [hl] at h
    simp only [Option.bind_some] at h
    split at h
    ·rename_i hz
     simp only [Option.some.injEq] at h
     subst h
     obtain ⟨xs,m,_,_,hlen,hn,hf⟩:=DataW.trod_array hu hx
     have hk:∀ (n:Nat),(iC k1 n).length=n * k1.length:=by
      intro n
      induction n with
      | zero=>simp [iC]
      | succ n ih=>simp [iC,ih,Nat.succ_mul];omega
     have:=xP (ks:=k1) (q:=fun cs=>∃ x,DataW.trod enc P w base spare held m e cs=some x) (fun cs ⟨x,h⟩=>ih e k1 hl hz.1 m cs x h) cs n 0 (by rw [hlen,dM hsz,hk];simp) (fun i _ hi=>by
      have:=hf i Uz
      rw [dM hz.1] at this
      rw [this]
      exact ⟨xs[i]' Uz,by rw [List.getElem?_eq_getElem Uz]⟩)
     simpa using this
    ·cases h
  ·cases h
end
end
section
open Go.ChangeShapes Go.WideShapes Go.ChangeAt Go.RowKit
section
variable {H : Type} {enc : TypeId × Value → H} {P : Program} {w : World} {base : Nat} {spare : Nat → Bool} {held : Bool}
def y9 (P:Program) (t:TypeId) (d:DataW H):Prop:=∀ n∈d.weights P t,n≤reachBytes
theorem weightsAll_mem {P:Program} {e:TypeId}:∀ {ds:List (DataW H)} {d:DataW H},d∈ds→∀ n∈d.weights P e,n∈DataW.weightsAll P e ds:=by
 intro ds
 induction ds with
 | nil=>intro d h;cases h
 | cons x r ih=>
  intro d h n hn
  simp only [DataW.weightsAll,List.mem_append]
  rcases List.mem_cons.1 h with rfl | h
  ·exact .inl hn
  ·exact .inr (ih h n hn)
theorem Ec {α:Type} [Inhabited α] {t e s fuel:Nat} {R:List Value→α→Prop} {cs:List Value} {x:DataW H × List MemPlace} (ht:P.underlying t=some (.slice e)) (hs:bU P e=some s) (hpos:0<s) (hby:Nat.ble 1 (P.bytesOf e)=true)
  (hE:∀ n cs x,DataW.trod enc P w base spare held n e cs=some x→y9 P e x.1→∃ a:α,R cs a) (h:DataW.trod enc P w base spare held fuel t cs=some x) (hz:y9 P t x.1):
  ∃ (p:Option Addr) (xs:List α) (cap:Nat),cs=[.slice p xs.length cap]∧xs.length≤reachBytes∧((xs=[])∨∃ b off,p=some ⟨b,off,none⟩∧∀ i,i<xs.length→∃ cs,w.rangeAt b (off + i * s) cs∧cs.length=s∧R cs (xs.getD i default)):=by
 rcases Go.Deep.open_slice ht h with ⟨hc,_⟩ | ⟨a,len,cap,m,n,D,Pl,hc,hb,hl,hm,hmm,hxx,hx⟩
 ·exact ⟨none,[],0,hc,by simp,.inl rfl⟩
 ·have hnm:len≤m:=by rw [hmm];split<;>omega
  rw [hxx] at hz
  have hlen:len≤reachBytes:=by
   have h1:=hz ((((List.range len).map D).length + ((List.range (m - len)).map fun j=>D (len + j)).length) * P.bytesOf e) (by simp [DataW.weights,ht])
   have h2:1≤P.bytesOf e:=Nat.le_of_ble_eq_true hby
   simp only [List.length_map,List.length_range] at h1
   calc len≤len + (m - len):=by omega
    _=(len + (m - len)) * 1:=by omega
    _≤(len + (m - len)) * P.bytesOf e:=Nat.mul_le_mul_left _ h2
    _≤_:=h1
  have hzE:∀ i,i<len→y9 P e (D i):=fun i hi n hn=>hz n (by
   simp only [DataW.weights,ht,List.mem_cons,List.mem_append]
   exact .inr (.inl (weightsAll_mem (List.mem_map.2 ⟨i,List.mem_range.2 hi,rfl⟩) n hn)))
  rw [dM hs] at hx
  have key:∀ i,i<len→∃ y:α,∃ cs,(∀ j v,cs[j]?=some v→w.cell? ((a.add (i * s)).add j)=some v)∧cs.length=s∧R cs y:=by
   intro i hi
   obtain ⟨cs,h1,h2⟩:=hx i Uz
   obtain ⟨_,hlen,hc⟩:=World.cells?_some h1
   obtain ⟨y,hy⟩:=hE _ _ _ h2 (hzE i hi)
   refine ⟨y,cs,fun j v hj=>?_,hlen,hy⟩
   have:j<cs.length:=(List.getElem?_eq_some_iff.1 hj).1
   rw [hc j Uz,hj]
  obtain ⟨Y,hY⟩:=Go.Deep.choose_lt (α:=α) (n:=len) (p:=fun i y=>∃ cs,(∀ j v,cs[j]?=some v→w.cell? ((a.add (i * s)).add j)=some v)∧cs.length=s∧R cs y) key
  refine ⟨some a,(List.range len).map Y,cap,by simpa using hc,by simpa using hlen,?_⟩
  by_cases h0:len=0
  ·left;subst h0;rfl
  right
  have hspot:a.spot=none:=by
   obtain ⟨cs,h1,h3,_⟩:=hY 0 Uz
   have:=World.cell?_spot (h1 0 (cs[0]' Uz) (List.getElem?_eq_getElem _))
   simpa [Addr.add] using this
  obtain ⟨b,off,sp⟩:=a
  simp only at hspot
  subst hspot
  refine ⟨b,off,rfl,fun i hi=>?_⟩
  simp only [List.length_map,List.length_range] at hi
  obtain ⟨cs,h1,h2,h3⟩:=hY i hi
  refine ⟨cs,fun j v hj=>?_,h2,by simpa [hi] using h3⟩
  have:=h1 j v hj
  rwa [Go.Deep.add_add,Addr.add_mid,← Nat.add_assoc] at this
theorem jc {t fuel:Nat} {fs:Array Go.Field} {cs:List Value} {x:DataW H × List MemPlace} (ht:P.underlying t=some (.struct fs)) (h:DataW.trod enc P w base spare held fuel t cs=some x) (hz:y9 P t x.1):
  cs.length=P.cellsOf t∧∃ n:Nat,∀ (i:Nat) (f:Go.Field),fs[i]?=some f→∃ y,DataW.trod enc P w base spare held n f.type ((cs.drop f.offset).take (P.cellsOf f.type))=some y∧y9 P f.type y.1:=by
 obtain ⟨xs,n,_,rfl,hl,hlen,hf⟩:=DataW.trod_struct ht h
 refine ⟨hl,n,fun i f hi=>?_⟩
 have h1:=hf i f hi
 have hlt:i<fs.size:=(Array.getElem?_eq_some_iff.1 hi).1
 rw [List.getElem?_eq_getElem Uz] at h1
 refine ⟨_,h1,fun n hn=>hz n ?_⟩
 simp only [DataW.weights,ht]
 exact DataW.weights_mem_each (j:=i) (t:=f.type) (d:=(xs[i]' Uz).1) (by simp [hi]) (by simp [List.getElem?_eq_getElem (show i<xs.length by omega)]) n hn
end
end
section
structure Su where
 own:Int
 wit:Int
deriving Inhabited
structure QG where
 mid:Int
 NF:Int
deriving Inhabited
structure Sv where
 live:Bool
 dying:Bool
 first:Int
 ku:List Int
 maps:List QG
deriving Inhabited
structure Sz where
 vm:Int
 cpu:Int
deriving Inhabited
structure PtD where
 pages:List Su
 lM:List Sv
 on:List Sz
def allB (n:Nat) (p:Nat→Bool):Bool:=(List.range n).all p
namespace PtD
variable (P : PtD)
def pg (f:Nat):Su:=P.pages.getD f default
def gs (i:Nat):Sv:=P.lM.getD i default
def st (c:Nat):Sz:=P.on.getD c default
def bH (n a b:Int):Bool:=decide (a≤n) && decide (n≤b)
def lives (n:Int):Bool:=bH n 1 4 && (P.gs (n - 1).toNat).live
def owns (who:Int):Bool:=P.pages.any fun x=>decide (x.own=who)
def uses (who:Int) (f:Nat):Bool:=decide ((P.pg f).own=who) || decide ((P.pg f).wit=who)
def PI (taken:List Int) (f:Nat):Bool:=
 bif decide (f<16) || decide ((P.pg f).own=-1) then (decide ((P.pg f).own=-1) && decide ((P.pg f).wit=-2)) && (decide (f<16) || taken.any fun t=>decide (t=(f:Int)))
 else bif decide ((P.pg f).own=0) then decide ((P.pg f).wit=-2) || decide ((P.pg f).wit=-1) || P.lives (P.pg f).wit
 else bif bH (P.pg f).own 1 4 then decide ((P.pg f).wit=-2) || (decide ((P.pg f).wit=0) && P.lives (P.pg f).own) else false
def LZ (l:List QG) (N:Nat) (i:Nat):Bool:=
 bH (l.getD i default).mid 0 15 && (decide (i=0) || decide ((l.getD (i - 1) default).mid<(l.getD i default).mid)) && bH (l.getD i default).NF 0 ((N:Int) - 1) && !((l.take i).any fun m=>decide (m.NF=(l.getD i default).NF))
def mapped (i:Nat):Bool:=allB (P.gs i).maps.length (LZ (P.gs i).maps P.pages.length) && allB P.pages.length fun f=>((P.gs i).maps.any fun m=>decide (m.NF=(f:Int))) == P.uses ((i:Int) + 1) f
def Hg (i:Nat) (v:Nat):Bool:=
 decide ((P.gs i).ku.getD v 0=-1) || (bH ((P.gs i).ku.getD v 0) 0 ((P.on.length:Int) - 1) && (decide ((P.st ((P.gs i).ku.getD v 0).toNat).vm=(i:Int) + 1) && decide ((P.st ((P.gs i).ku.getD v 0).toNat).cpu=(v:Int))))
def Kq (i:Nat):Bool:=
 bif (P.gs i).live then
  !(P.gs i).dying && bH (P.gs i).first 16 ((P.pages.length:Int) - 5) && decide ((P.gs i).ku.length≤2) && P.mapped i &&
  allB 5 (fun k=>decide ((P.pg ((P.gs i).first.toNat + k)).own=-1) && decide ((P.pg ((P.gs i).first.toNat + k)).wit=-2)) && allB (P.gs i).ku.length (P.Hg i)
 else decide ((P.gs i).ku.length=0) && decide ((P.gs i).maps.length=0) && decide ((P.gs i).first=0) && ((P.gs i).dying == P.owns ((i:Int) + 1))
def seated (c:Nat):Bool:=
 bif decide ((P.st c).vm=0) then decide ((P.st c).cpu=0)
 else P.lives (P.st c).vm && bH (P.st c).cpu 0 (((P.gs ((P.st c).vm - 1).toNat).ku.length:Int) - 1) && decide ((P.gs ((P.st c).vm - 1).toNat).ku.getD (P.st c).cpu.toNat 0=(c:Int))
def rows (i:Nat):List Int:=bif (P.gs i).live then [(P.gs i).first,(P.gs i).first + 1,(P.gs i).first + 2,(P.gs i).first + 3,(P.gs i).first + 4] else []
def taken (k:Nat):List Int:=(List.range k).flatMap P.rows
def round (i:Nat):Bool:=P.Kq i && (!(P.gs i).live || allB 5 fun k=>!((P.taken i).any fun t=>decide (t=(P.gs i).first + (k:Int))))
def may:Bool:=
 (decide (24≤P.pages.length) && decide (P.pages.length≤64)) && decide (P.lM.length=4) && (decide (1≤P.on.length) && decide (P.on.length≤3)) &&
 allB 4 P.round && allB P.pages.length (P.PI (P.taken 4)) && allB P.on.length P.seated
def who (n:Int):Bool:=decide (-1≤n) && decide (n≤4)
def idx {α:Type} (p:α→Bool):List α→Nat→Option Nat
 | [],_=>none
 | x::r,i=>bif p x then some i else idx p r (i + 1)
end PtD
end
section
namespace PtD
variable {P : PtD}
theorem pR {α:Type} [Inhabited α] {p:α→Bool}:∀ {l:List α} {i k:Nat},idx p l i=some k→i≤k∧k - i<l.length∧p (l.getD (k - i) default)=true∧∀ j,j<k - i→p (l.getD j default)=false:=by
 intro l
 induction l with
 | nil=>intro i k h;cases h
 | cons x r ih=>
  intro i k h
  simp only [idx] at h
  cases hp:p x with
  | true=>
   rw [hp] at h
   simp only [cond_true,Option.some.injEq] at h
   subst h
   refine ⟨Nat.le_refl _,by simp,by simpa using hp,fun j hj=>by omega⟩
  | false=>
   rw [hp] at h
   obtain ⟨h1,h2,h3,h4⟩:=ih h
   have e:k - i=(k - (i + 1)) + 1:=by omega
   refine ⟨by omega,by simp;omega,by rw [e];simpa using h3,fun j hj=>?_⟩
   cases j with
   | zero=>simpa using hp
   | succ j=>have:=h4 j Uz;simpa using this
theorem zf {α:Type} [Inhabited α] {p:α→Bool}:∀ {l:List α} {i:Nat},idx p l i=none→∀ j,j<l.length→p (l.getD j default)=false:=by
 intro l
 induction l with
 | nil=>intro i h j hj;simp at hj
 | cons x r ih=>
  intro i h j hj
  simp only [idx] at h
  cases hp:p x with
  | true=>rw [hp] at h;cases h
  | false=>
   rw [hp] at h
   cases j with
   | zero=>simpa using hp
   | succ j=>have:=ih h j (by simp at hj;omega);simpa using this
theorem NG {α:Type} [Inhabited α] {p:α→Bool} {l:List α} {k:Nat} (hk:k<l.length) (h:p (l.getD k default)=true):idx p l 0=some k↔∀ j,j<k→p (l.getD j default)=false:=by
 constructor
 ·intro e;have:=pR e;simpa using this.2.2.2
 ·intro hj
  cases e:idx p l 0 with
  | none=>have:=zf e k hk;rw [h] at this;cases this
  | some m=>
   obtain ⟨_,h2,h3,h4⟩:=pR e
   simp only [Nat.sub_zero] at h2 h3 h4
   rcases Nat.lt_trichotomy m k with hlt | rfl | hgt
   ·have:=hj m hlt;rw [h3] at this;cases this
   ·rfl
   ·have:=h4 k hgt;rw [h] at this;cases this
theorem Kr {α:Type} [Inhabited α] {p:α→Bool} {l:List α}:(idx p l 0).isSome=l.any p:=by
 rw [Bool.eq_iff_iff,List.any_eq_true]
 constructor
 ·intro h
  obtain ⟨k,e⟩:=Option.isSome_iff_exists.1 h
  obtain ⟨_,h2,h3,_⟩:=pR e
  simp only [Nat.sub_zero] at h2 h3
  refine ⟨_,?_,h3⟩
  rw [List.getD_eq_getElem?_getD,List.getElem?_eq_getElem h2]
  simp
 ·rintro ⟨x,hx,hp⟩
  cases e:idx p l 0 with
  | some k=>rfl
  | none=>
   obtain ⟨j,hj,rfl⟩:=List.mem_iff_getElem.1 hx
   have:=zf e j hj
   rw [List.getD_eq_getElem?_getD,List.getElem?_eq_getElem hj] at this
   simp [hp] at this
structure Ok (P:PtD):Prop where
 n0:24≤P.pages.length
 n1:P.pages.length≤64
 g4:P.lM.length=4
 o1:1≤P.on.length
 o3:P.on.length≤3
 dead:∀ i,i<4→(P.gs i).live=false→(P.gs i).ku.length=0∧(P.gs i).maps.length=0∧(P.gs i).first=0∧(P.gs i).dying=P.owns ((i:Int) + 1)
 Ui:∀ i,i<4→(P.gs i).live=true→(P.gs i).dying=false∧16≤(P.gs i).first∧(P.gs i).first≤(P.pages.length:Int) - 5∧(P.gs i).ku.length≤2∧(∀ v,v<(P.gs i).ku.length→P.Hg i v=true) ∧
  (∀ k,k<(P.gs i).maps.length→LZ (P.gs i).maps P.pages.length k=true)∧(∀ f,f<P.pages.length→((P.gs i).maps.any fun m=>decide (m.NF=(f:Int)))=P.uses ((i:Int) + 1) f)
 apart:∀ i j,i<j→j<4→(P.gs i).live=true→(P.gs j).live=true→(P.gs i).first + 5≤(P.gs j).first∨(P.gs j).first + 5≤(P.gs i).first
 hyp:∀ f,f<P.pages.length→((P.pg f).own=-1↔(f<16∨∃ i,i<4∧(P.gs i).live=true∧(P.gs i).first≤f∧f<(P.gs i).first + 5))
 TC:∀ f,f<P.pages.length→(P.pg f).own=-1→(P.pg f).wit=-2
 who:∀ f,f<P.pages.length→-1≤(P.pg f).own∧(P.pg f).own≤4
 host:∀ f,f<P.pages.length→(P.pg f).own=0→(P.pg f).wit=-2∨(P.pg f).wit=-1∨P.lives (P.pg f).wit=true
 SA:∀ f,f<P.pages.length→0<(P.pg f).own→(P.pg f).wit=-2∨((P.pg f).wit=0∧P.lives (P.pg f).own=true)
 seat:∀ c,c<P.on.length→P.seated c=true
end PtD
end
section
namespace PtD
variable {P : PtD}
end PtD
end
section
theorem pU {w:World} {b o:Nat} {vs:List Value} (h:w.rangeAt b o vs) {k:Nat} {v:Value} (hv:nth vs k=some v):w.cell? ⟨b,o + k,none⟩=some v:=by
 rw [kJ] at hv
 exact h k v (by simpa using hv)
theorem dD {w:World} {b o:Nat} {v:Value} {r:List Value} (h:w.rangeAt b o (v::r)):w.cell? ⟨b,o,none⟩=some v:=by simpa using h 0 v rfl
theorem Good.range {w0 w:World} {mu:List Nat} {hp:Hp} (h:Good w0 mu hp w) {b o:Nat} {vs:List Value} (hr:w0.rangeAt b o vs) (hm:b ∉ mu):w.rangeAt b o vs:=fun j v hj=>h.cell (hr j v hj) hm
structure aF (w:World) (v:Value) (sz:Nat) (xs:List (List Value)):Prop where
 is:∃ p cap,v=.slice p xs.length cap∧(xs ≠ []→∃ b off,p=some ⟨b,off,none⟩∧∀ i c,xs[i]?=some c→w.rangeAt b (off + i * sz) c)
 le:xs.length≤281474976710656
theorem aF.good {w w':World} {hp:Hp} {v:Value} {sz:Nat} {xs:List (List Value)} (h:aF w v sz xs) (hG:Good w [] hp w'):aF w' v sz xs:=by
 obtain ⟨⟨p,cap,rfl,hp⟩,hl⟩:=h
 refine ⟨⟨p,cap,rfl,fun hne=>?_⟩,hl⟩
 obtain ⟨b,off,rfl,hr⟩:=hp hne
 exact ⟨b,off,rfl,fun i c hc=>hG.range (hr i c hc) UC⟩
def TD (x:QG):List Value:=[.int .i64 x.mid,.int .i64 x.NF]
def dH (x:Int):List Value:=[.int .i64 x]
structure Hl where
 pb:Nat
 po:Nat
 pc:Nat
 gb:Nat
 go:Nat
 gc:Nat
 ob:Nat
 oo:Nat
 oc:Nat
 vv:Nat→Value
 mv:Nat→Value
abbrev Hl.pv (L:Hl) (n:Nat):Value:=.slice (some ⟨L.pb,L.po,none⟩) n L.pc
abbrev Hl.gv (L:Hl) (n:Nat):Value:=.slice (some ⟨L.gb,L.go,none⟩) n L.gc
abbrev Hl.ov (L:Hl) (n:Nat):Value:=.slice (some ⟨L.ob,L.oo,none⟩) n L.oc
def I64 (v:Int):Prop:=-9223372036854775808≤v∧v≤9223372036854775807
structure PtD.Wf (P:PtD):Prop where
 pg:∀ f,f<P.pages.length→I64 (P.pg f).own∧I64 (P.pg f).wit
 gs:∀ i,i<P.lM.length→I64 (P.gs i).first∧(∀ x∈(P.gs i).ku,I64 x)∧(∀ x∈(P.gs i).maps,I64 x.mid∧I64 x.NF)
 st:∀ c,c<P.on.length→I64 (P.st c).vm∧I64 (P.st c).cpu
structure wE (w:World) (L:Hl) (P:PtD):Prop where
 pg:∀ i,i<P.pages.length→w.rangeAt L.pb (L.po + i * 2) [.int .i64 (P.pg i).own,.int .i64 (P.pg i).wit]
 gs:∀ i,i<P.lM.length→w.rangeAt L.gb (L.go + i * 5) [.bool (P.gs i).live,.bool (P.gs i).dying,.int .i64 (P.gs i).first,L.vv i,L.mv i]
 vc:∀ i,i<P.lM.length→aF w (L.vv i) 1 ((P.gs i).ku.map dH)
 mp:∀ i,i<P.lM.length→aF w (L.mv i) 2 ((P.gs i).maps.map TD)
 st:∀ i,i<P.on.length→w.rangeAt L.ob (L.oo + i * 2) [.int .i64 (P.st i).vm,.int .i64 (P.st i).cpu]
 wf:P.Wf
theorem wE.good {w w':World} {hp:Hp} {L:Hl} {P:PtD} (h:wE w L P) (hG:Good w [] hp w'):wE w' L P:=
 ⟨fun i hi=>hG.range (h.pg i hi) UC,fun i hi=>hG.range (h.gs i hi) UC,fun i hi=>(h.vc i hi).good hG,fun i hi=>(h.mp i hi).good hG,fun i hi=>hG.range (h.st i hi) UC,h.wf⟩
structure PtD.Len (P:PtD):Prop where
 p0:24≤P.pages.length
 p1:P.pages.length≤64
 g4:P.lM.length=4
 o0:1≤P.on.length
 o1:P.on.length≤3
structure Ho (w:World) (bp:Nat) (L:Hl) (P:PtD):Prop where
 v:wE w L P
 n:P.Len
 cp:w.cell? ⟨bp,0,none⟩=some (L.pv P.pages.length)
 cg:w.cell? ⟨bp,1,none⟩=some (L.gv P.lM.length)
 co:w.cell? ⟨bp,2,none⟩=some (L.ov P.on.length)
theorem Ho.good {w w':World} {hp:Hp} {bp:Nat} {L:Hl} {P:PtD} (h:Ho w bp L P) (hG:Good w [] hp w'):Ho w' bp L P:=
 ⟨h.v.good hG,h.n,hG.cell h.cp UC,hG.cell h.cg UC,hG.cell h.co UC⟩
section
variable {w : World} {L : Hl} {P : PtD}
theorem wE.Qu (h:wE w L P) {i:Nat} (hi:i<P.pages.length):w.cell? ⟨L.pb,L.po + i * 2,none⟩=some (.int .i64 (P.pg i).own):=dD (h.pg i hi)
end
end
namespace PtD
end PtD
section
open Go.ChangeShapes Go.WideShapes Go.ChangeAt Go.RowKit
theorem NH {n:Int} (h:(Lit.int .i64 n).wf=true):I64 n:=by
 simp only [Lit.wf,Bool.and_eq_true,decide_eq_true_eq] at h
 exact ⟨Int.le_trans UA h.1,Int.le_trans h.2 UA⟩
theorem jd {v:Value} (h:okW (.i .i64) v=true):∃ a,v=.int .i64 a∧I64 a:=by
 cases v<;>simp only [okW,Bool.and_eq_true,decide_eq_true_eq,Bool.false_eq_true] at h
 obtain ⟨rfl,h⟩:=h
 exact ⟨_,rfl,NH h⟩
theorem mP {v:Value} (h:okW .b v=true):∃ a,v=.bool a:=by
 cases v<;>simp only [okW,Bool.false_eq_true] at h
 exact ⟨_,rfl⟩
theorem aH {k:fG} {ks:List fG} {cs:List Value} (h:gz (k::ks) cs=true):∃ v r,cs=v::r∧okW k v=true∧gz ks r=true:=by
 cases cs with
 | nil=>cases h
 | cons v r=>simp only [gz,Bool.and_eq_true] at h;exact ⟨v,r,rfl,h⟩
theorem jE {cs:List Value} (h:gz [] cs=true):cs=[]:=by cases cs with | nil=>rfl | cons _ _=>cases h
theorem Hq {n:Nat} (h:n≤reachBytes):n≤281474976710656:=Nat.le_trans h UA
section
variable {H : Type} {enc : TypeId × Value → H} {w : World} {base : Nat} {spare : Nat → Bool} {held : Bool}
theorem Ed {α:Type} [Inhabited α] {p:Option Addr} {xs:List α} {cap s:Nat} {f:α→List Value} {q:α→Prop} (hl:xs.length≤reachBytes) (h:(xs=[])∨∃ b off,p=some ⟨b,off,none⟩∧∀ i,i<xs.length→∃ cs,w.rangeAt b (off + i * s) cs∧cs.length=s∧(cs=f (xs.getD i default)∧q (xs.getD i default))):
  aF w (.slice p xs.length cap) s (xs.map f)∧∀ a∈xs,q a:=by
 refine ⟨⟨⟨p,cap,by rw [List.length_map],fun hne=>?_⟩,by rw [List.length_map];exact Hq hl⟩,fun a ha=>?_⟩
 ·rcases h with rfl | ⟨b,off,rfl,h⟩
  ·exact absurd rfl hne
  ·refine ⟨b,off,rfl,fun i c hc=>?_⟩
   have hi:i<xs.length:=by
    have:=(List.getElem?_eq_some_iff.1 hc).1
    simpa using this
   obtain ⟨cs,h1,_,rfl,_⟩:=h i hi
   simp only [List.getElem?_map,List.getElem?_eq_getElem hi,Option.map_some,Option.some.injEq] at hc
   rw [List.getD_eq_getElem?_getD,List.getElem?_eq_getElem hi] at h1
   subst hc
   exact h1
 ·rcases h with rfl | ⟨b,off,rfl,h⟩
  ·cases ha
  ·obtain ⟨i,hi,rfl⟩:=List.mem_iff_getElem.1 ha
   obtain ⟨cs,_,_,_,h2⟩:=h i hi
   rw [List.getD_eq_getElem?_getD,List.getElem?_eq_getElem hi] at h2
   exact h2
theorem jL {α:Type} [Inhabited α] {f:α→List Value} {q:α→Prop} {t e:TypeId} {ks:List fG} {fuel:Nat} {cs:List Value} {x:DataW H × List MemPlace} (ht:Tryz.prog.underlying t=some (.slice e)) (hlk:mG Tryz.prog 8 e=some ks) (hsz:bU Tryz.prog e=some ks.length) (hpos:0<ks.length) (hby:Nat.ble 1 (Tryz.prog.bytesOf e)=true)
  (hE:∀ cs,gz ks cs=true→∃ a,cs=f a∧q a) (h:DataW.trod enc Tryz.prog w base spare held fuel t cs=some x) (hz:y9 Tryz.prog t x.1):∃ v,∃ xs:List α,cs=[v]∧aF w v ks.length (xs.map f)∧(∀ a∈xs,q a)∧xs.length≤reachBytes:=by
 obtain ⟨p,xs,cap,rfl,hl,hr⟩:=Ec (α:=α) (R:=fun cs a=>cs=f a∧q a) ht hsz hpos hby (fun n cs x hx _=>hE cs (mO 8 e ks hlk hsz n cs x hx)) h hz
 obtain ⟨h1,h2⟩:=Ed hl hr
 exact ⟨_,xs,rfl,h1,h2,hl⟩
end
end
section
attribute [local irreducible] Hy St Ops DH fE
def dh {α:Type} (p:α→Bool) (xs:List α):Int:=match PtD.idx p xs 0 with | some i=>(i:Int) | none=>-1
theorem Hr {α:Type} [Inhabited α] {p:α→Bool} {l:List α} (h:∀ j,j<l.length→p (l.getD j default)=false):PtD.idx p l 0=none:=by
 cases e:PtD.idx p l 0 with
 | none=>rfl
 | some k=>
  obtain ⟨_,h2,h3,_⟩:=PtD.pR e
  simp only [Nat.sub_zero] at h2 h3
  rw [h k h2] at h3;cases h3
theorem gq {α:Type} [Inhabited α] {p:α→Bool} {l:List α} {k:Nat} (hk:k<l.length) (h:p (l.getD k default)=true) (hn:∀ j,j<k→p (l.getD j default)=false):dh p l=k:=by
 unfold dh
 rw [(PtD.NG hk h).2 hn]
theorem dS {α:Type} [Inhabited α] {p:α→Bool} {l:List α} (h:∀ j,j<l.length→p (l.getD j default)=false):dh p l=-1:=by
 unfold dh
 rw [Hr h]
theorem tC {α:Type} [Inhabited α] {p:α→Bool} {l:List α}:decide (0≤dh p l)=l.any p:=by
 rw [← PtD.Kr]
 unfold dh
 cases PtD.idx p l 0<;>simp
theorem aF.row {w:World} {α:Type} [Inhabited α] {f:α→List Value} {xs:List α} {b o cap sz n:Nat} (h:aF w (.slice (some ⟨b,o,none⟩) n cap) sz (xs.map f)) {k:Nat} (hk:k<xs.length):w.rangeAt b (o + k * sz) (f (xs.getD k default)):=by
 obtain ⟨⟨p,cap,e,hp⟩,hl⟩:=h
 cases e
 obtain ⟨b,off,e,hr⟩:=hp (by intro e;rw [List.map_eq_nil_iff] at e;subst e;simp at hk)
 cases e
 refine hr k _ ?_
 rw [List.getElem?_map,List.getD_eq_getElem?_getD,List.getElem?_eq_getElem hk]
 rfl
theorem aF.opened {w:World} {α:Type} {f:α→List Value} {xs:List α} {v:Value} {sz:Nat} (h:aF w v sz (xs.map f)):∃ p cap,v=.slice p xs.length cap∧(xs ≠ []→∃ b o,p=some ⟨b,o,none⟩)∧xs.length≤281474976710656:=by
 obtain ⟨⟨p,cap,rfl,hp⟩,hl⟩:=h
 rw [List.length_map] at *
 refine ⟨p,cap,rfl,fun hne=>?_,hl⟩
 obtain ⟨b,o,rfl,_⟩:=hp (by simpa using hne)
 exact ⟨b,o,rfl⟩
def Here (hn:Hp) (w:World):Prop:=∀ e∈hn,w.heap[e.b]?=some (.cells e.cs e.t (0,0))
theorem Good.lie {w0 w:World} {mu:List Nat} {hp hn:Hp} (hG:Good w0 mu hp w) (hm:∀ e∈hn,e∈hp):Here hn w:=fun e he=>hG.here e (hm e he)
theorem Here.sub {hn hm:Hp} {w:World} (h:Here hn w) (hs:∀ e∈hm,e∈hn):Here hm w:=fun e he=>h e (hs e he)
theorem Acc.lie {e sz:Nat} {v:Value} {ha:Hp} {xs:List (List Value)} {w:World} (hA:Acc e sz v ha xs) (h:Here ha w) (hle:xs.length≤281474976710656):aF w v sz xs:=by
 rcases hA.2 with ⟨rfl,rfl,rfl⟩ | ⟨hne,g,cap,cur,rfl,rfl,hrow⟩
 ·exact ⟨⟨none,0,rfl,fun h=>absurd rfl h⟩,hle⟩
 ·refine ⟨⟨_,_,rfl,fun _=>⟨g,0,rfl,fun i c hc j u hj=>?_⟩⟩,hle⟩
  have hb:=h _ (List.mem_singleton.2 rfl)
  rw [cell_of_block hb]
  have hcl:=(hA.1 c (List.mem_of_getElem? hc)).1
  have hi:i<xs.length:=(List.getElem?_eq_some_iff.1 hc).1
  have hjl:j<sz:=by rw [← hcl];exact (List.getElem?_eq_some_iff.1 hj).1
  have hf:=gV (fun c hc=>(hA.1 c hc).1) hc
  rw [← hrow.take] at hf
  have hle:i * sz + j<xs.length * sz:=by
   calc i * sz + j<i * sz + sz:=by omega
    _=(i + 1) * sz:=by rw [Nat.succ_mul]
    _≤_:=Nat.mul_le_mul_right _ hi
  rw [← hf,List.getElem?_take,if_pos hjl,List.getElem?_drop,List.getElem?_take,if_pos hle] at hj
  rw [Nat.zero_add]
  simpa using hj
theorem dm {w:World} {b t cap sz:Nat} {xs:List (List Value)} (h:w.heap[b]?=some (.cells xs.flatten.toArray t (0,0))) (hs:∀ c∈xs,c.length=sz) (hle:xs.length≤281474976710656):aF w (.slice (some ⟨b,0,none⟩) xs.length cap) sz xs:=by
 refine ⟨⟨_,_,rfl,fun _=>⟨b,0,rfl,fun i c hc j u hj=>?_⟩⟩,hle⟩
 rw [cell_of_block h]
 have hf:=gV hs hc
 have hcl:=hs c (List.mem_of_getElem? hc)
 have hjl:j<sz:=by rw [← hcl];exact (List.getElem?_eq_some_iff.1 hj).1
 rw [← hf,List.getElem?_take,if_pos hjl,List.getElem?_drop] at hj
 rw [Nat.zero_add]
 simpa using hj
theorem Ee (zl:List Value) (n sz:Nat) (hs:zl.length=sz) (h0:0<sz):madeCells zl.toArray (n * sz)=((List.replicate n zl).flatten).toArray:=by
 have h:=Az zl.toArray (by simpa [hs] using h0) n
 have e:∀ n,rep zl n=(List.replicate n zl).flatten:=by
  intro n
  induction n with
  | zero=>rfl
  | succ n ih=>rw [rep,ih,List.replicate_succ',List.flatten_append];simp
 rw [← e]
 simpa [madeCells,hs] using h
end
section
theorem uM:∀ (vs:List Value) (cs:Array Value) (o:Nat),(putAt cs o vs).size=cs.size:=by
 intro vs
 induction vs with
 | nil=>intro cs o;rfl
 | cons v r ih=>intro cs o;rw [putAt,ih];simp
theorem uN:∀ (vs:List Value) (cs:Array Value) (o:Nat),o + vs.length≤cs.size→(putAt cs o vs).toList=cs.toList.take o++vs++cs.toList.drop (o + vs.length):=by
 intro vs
 induction vs with
 | nil=>intro cs o h;simp [putAt]
 | cons v r ih=>
  intro cs o h
  simp only [List.length_cons] at h
  rw [putAt,ih _ _ UJ]
  simp only [Array.toList_setIfInBounds]
  have ho:o<cs.toList.length:=by simp;omega
  have h1:(cs.toList.take o).length=o:=by simp;omega
  rw [List.set_eq_take_append_cons_drop,if_pos ho,List.take_append,List.drop_append,h1]
  have e1:o + 1 - o=1:=by omega
  have e2:o + 1 + r.length - o=r.length + 1:=by omega
  rw [e1,e2,List.take_of_length_le (show (cs.toList.take o).length≤o + 1 by omega),List.drop_eq_nil_of_le (show (cs.toList.take o).length≤o + 1 + r.length by omega)]
  simp only [List.take_succ_cons,List.take_zero,List.nil_append,List.drop_succ_cons,List.drop_drop,List.append_assoc,List.cons_append,List.length_cons]
  rw [show o + 1 + r.length=o + (r.length + 1) by omega]
theorem bD {α:Type} {sz:Nat}:∀ (xs:List (List α)),(∀ c∈xs,c.length=sz)→xs.flatten.length=xs.length * sz:=by
 intro xs
 induction xs with
 | nil=>intro _;simp
 | cons x r ih=>
  intro h
  rw [List.flatten_cons,List.length_append,ih (fun c hc=>h c (List.mem_cons_of_mem _ hc)),h x (List.mem_cons_self ..),List.length_cons,Nat.succ_mul,Nat.add_comm]
theorem Row.nth {g cap sz n:Nat} {cur:Array Value} {xs:List (List Value)} (h:Row g cap cur sz n xs.flatten) (hall:∀ c∈xs,c.length=sz) {i k:Nat} {c:List Value} {u:Value} (hi:xs[i]?=some c) (hk:c[k]?=some u):Proofs.YtiggoglimlnmmaaGreat.nth cur.toList (i * sz + k)=some u:=by
 refine AQ (n:=sz) (c:=c) ?_ hk
 have hf:=gV hall hi
 rw [← h.take] at hf
 have hlt:i<xs.length:=(List.getElem?_eq_some_iff.1 hi).1
 have hn:xs.length * sz=n * sz:=by rw [← bD xs hall,h.len]
 have hle:i * sz + sz≤n * sz:=by rw [← hn,← Nat.succ_mul];exact Nat.mul_le_mul_right _ hlt
 rw [List.drop_take,List.take_take,Nat.min_eq_left Uz] at hf
 exact hf
theorem Row.put {g cap sz n:Nat} {cur:Array Value} {xs:List (List Value)} (h:Row g cap cur sz n xs.flatten) (hall:∀ c∈xs,c.length=sz) {i k:Nat} {c vs:List Value} (hi:xs[i]?=some c) (hk:k + vs.length≤sz):
  Row g cap (putAt cur (i * sz + k) vs) sz n (xs.set i (c.take k++vs++c.drop (k + vs.length))).flatten:=by
 have hlt:i<xs.length:=(List.getElem?_eq_some_iff.1 hi).1
 have hc:xs[i]=c:=(List.getElem?_eq_some_iff.1 hi).2
 have hcl:c.length=sz:=hall c (List.mem_of_getElem? hi)
 have hn:xs.length * sz=n * sz:=by rw [← bD xs hall,h.len]
 have hle:i * sz + sz≤n * sz:=by rw [← hn,← Nat.succ_mul];exact Nat.mul_le_mul_right _ hlt
 have hcap:n * sz≤cap * sz:=Nat.mul_le_mul_right _ h.le
 have hsz:=h.size
 have hxs:xs=xs.take i++c::xs.drop (i + 1):=by
  rw [← hc];simp
 have hset:xs.set i (c.take k++vs++c.drop (k + vs.length))=xs.take i++(c.take k++vs++c.drop (k + vs.length))::xs.drop (i + 1):=by
  rw [List.set_eq_take_append_cons_drop,if_pos hlt]
 have hA:((xs.take i).flatten).length=i * sz:=by
  rw [bD (xs.take i) (fun c hc=>hall c (List.mem_of_mem_take hc)),List.length_take,Nat.min_eq_left Uz]
 have QH:cur.toList=(xs.take i).flatten++(c++((xs.drop (i + 1)).flatten++cur.toList.drop (n * sz))):=by
  have h1:=List.take_append_drop (n * sz) cur.toList
  rw [h.take] at h1
  conv=>lhs;rw [← h1,hxs]
  rw [List.flatten_append,List.flatten_cons,List.append_assoc,List.append_assoc]
 have hfl:(xs.set i (c.take k++vs++c.drop (k + vs.length))).flatten=(xs.take i).flatten++((c.take k++vs++c.drop (k + vs.length))++(xs.drop (i + 1)).flatten):=by
  rw [hset,List.flatten_append,List.flatten_cons]
 have hdl:((xs.drop (i + 1)).flatten).length=n * sz - (i * sz + sz):=by
  rw [bD (xs.drop (i + 1)) (fun c hc=>hall c (List.mem_of_mem_drop hc)),List.length_drop,Nat.sub_mul,hn,Nat.succ_mul]
 refine ⟨?_,h.le,h.max,by rw [uM];exact hsz,?_⟩
 ·rw [hfl]
  simp only [List.length_append,hA,hdl,List.length_take,List.length_drop,hcl]
  omega
 ·rw [uN _ _ _ Uz,hfl]
  conv=>lhs;rw [QH]
  have hB:(c++((xs.drop (i + 1)).flatten++cur.toList.drop (n * sz))).take k=c.take k:=by rw [List.take_append,show k - c.length=0 by omega];simp
  have hC:(c++((xs.drop (i + 1)).flatten++cur.toList.drop (n * sz))).drop (k + vs.length)=c.drop (k + vs.length)++((xs.drop (i + 1)).flatten++cur.toList.drop (n * sz)):=by rw [List.drop_append,show k + vs.length - c.length=0 by omega];simp
  have hT:((xs.take i).flatten++(c++((xs.drop (i + 1)).flatten++cur.toList.drop (n * sz)))).take (i * sz + k)=(xs.take i).flatten++c.take k:=by
   rw [List.take_append,hA,List.take_of_length_le Uz,show i * sz + k - i * sz=k by omega,hB]
  have hD:((xs.take i).flatten++(c++((xs.drop (i + 1)).flatten++cur.toList.drop (n * sz)))).drop (i * sz + k + vs.length)=c.drop (k + vs.length)++((xs.drop (i + 1)).flatten++cur.toList.drop (n * sz)):=by
   rw [List.drop_append,hA,List.drop_eq_nil_of_le Uz,show i * sz + k + vs.length - i * sz=k + vs.length by omega,hC];simp
  rw [hT,hD]
  have:(xs.take i).flatten++c.take k++vs++(c.drop (k + vs.length)++((xs.drop (i + 1)).flatten++cur.toList.drop (n * sz)))=((xs.take i).flatten++(c.take k++vs++c.drop (k + vs.length)++(xs.drop (i + 1)).flatten))++cur.toList.drop (n * sz):=by simp
  rw [this]
  refine List.take_left' ?_
  simp only [List.length_append,hA,hdl,List.length_take,List.length_drop,hcl]
  omega
open Classical in
noncomputable def Ef (a e : jY) : Nat := if e = a then 1 else 0
noncomputable def jU (a : jY) : Hp → Nat
  | [] => 0
  | e :: r => Ef a e + jU a r
theorem kQ (a:jY):jU a []=0:=rfl
theorem bu (a e:jY) (r:Hp):jU a (e::r)=Ef a e + jU a r:=rfl
theorem fK (a:jY):∀ (h r:Hp),jU a (h++r)=jU a h + jU a r:=by
 intro h
 induction h with
 | nil=>intro r;simp [jU]
 | cons e h ih=>intro r;rw [List.cons_append,bu,bu,ih];omega
theorem qU (a:jY):Ef a a=1:=by simp [Ef]
theorem zg {a:jY}:∀ {h:Hp},0<jU a h→a∈h:=by
 intro h
 induction h with
 | nil=>intro h;simp [jU] at h
 | cons e r ih=>
  intro h
  by_cases he:e=a
  ·subst he;exact List.mem_cons_self ..
  ·rw [bu,show Ef a e=0 by simp [Ef,he]] at h
   exact List.mem_cons_of_mem _ (ih Uz)
theorem zh {a:jY}:∀ {h:Hp},a∈h→∃ r,(a::r).Perm h:=by
 intro h hm
 obtain ⟨s,t,rfl⟩:=List.append_of_mem hm
 exact ⟨s++t,List.perm_middle.symm⟩
theorem qV {a:jY} {h r:Hp} (hp:h.Perm r):jU a h=jU a r:=by
 induction hp with
 | nil=>rfl
 | cons x _ ih=>rw [bu,bu,ih]
 | swap x y l=>rw [bu,bu,bu,bu];omega
 | trans _ _ h1 h2=>rw [h1,h2]
theorem dQ:∀ {r h:Hp},(∀ a,jU a r≤jU a h)→aI r h:=by
 intro r
 induction r with
 | nil=>intros;trivial
 | cons e r ih=>
  intro h hc
  have h1:=hc e
  rw [bu,qU] at h1
  obtain ⟨h',hp⟩:=zh (zg (a:=e) (h:=h) Uz)
  refine ⟨h',hp,ih fun a=>?_⟩
  have h2:=hc a
  rw [← qV hp,bu,bu] at h2
  omega
theorem aI.cnt {r h:Hp} (hl:aI r h) (a:jY):jU a r≤jU a h:=by
 obtain ⟨x,hx⟩:=hl.perm
 have:=qV (a:=a) hx
 rw [fK] at this
 omega
theorem Ht:∀ {r h:Hp},(∀ a,jU a r=jU a h)→r.Perm h:=by
 intro r
 induction r with
 | nil=>
  intro h hc
  cases h with
  | nil=>exact .refl _
  | cons e h=>have:=hc e;rw [bu,qU,kQ] at this;omega
 | cons e r ih=>
  intro h hc
  have h1:=hc e
  rw [bu,qU] at h1
  obtain ⟨h',hp⟩:=zh (zg (a:=e) (h:=h) Uz)
  refine ((ih fun a=>?_).cons e).trans hp
  have h2:=hc a
  rw [← qV hp,bu,bu] at h2
  omega
theorem az {p:Prop} (h:p:=by (refine Ht fun a=>?_;simp only [fK,bu,kQ]<;>omega)):p:=h
theorem ak {p:Prop} (h:p:=by (refine dQ fun a=>?_;simp only [fK,bu,kQ]<;>omega)):p:=h
theorem cnt1 {r h:Hp} {p:Prop} (hle:aI r h) (k:aI r h→p:=by (intro hle1;refine dQ fun a=>?_;have:=aI.cnt hle1 a;simp only [fK,bu,kQ] at *;omega)):p:=k hle
def Own (e:TypeId) (sz:Nat) (v:Value) (h:Hp) (xs:List (List Value)):Prop:=
 (∀ c∈xs,c.length=sz∧c.all (·.oneCell')=true)∧((xs=[]∧v=.slice none 0 0∧h=[])∨∃ g cap cur,v=.slice (some ⟨g,0,none⟩) xs.length cap∧h=[⟨g,cur,e⟩]∧Row g cap cur sz xs.length xs.flatten)
theorem Acc.own {e sz:Nat} {v:Value} {h:Hp} {xs:List (List Value)} (hA:Acc e sz v h xs):Own e sz v h xs:=⟨hA.1,hA.2.imp id fun h=>h.2⟩
theorem Own.opened {e sz:Nat} {v:Value} {h:Hp} {xs:List (List Value)} (hA:Own e sz v h xs):∃ p cap,v=.slice p xs.length cap:=by
 rcases hA.2 with ⟨rfl,rfl,rfl⟩ | ⟨g,cap,cur,rfl,rfl,hrow⟩
 ·exact ⟨_,_,rfl⟩
 ·exact ⟨_,_,rfl⟩
theorem Row.range {g cap cur sz n t} {w:World} {xs:List (List Value)} (h:Row g cap cur sz n xs.flatten) (hall:∀ c∈xs,c.length=sz) (hb:w.heap[g]?=some (.cells cur t (0,0))) {i:Nat} {c:List Value} (hi:xs[i]?=some c):w.rangeAt g (0 + i * sz) c:=by
 intro j u hj
 rw [Nat.zero_add,cell_of_block hb]
 have:=h.nth hall hi hj
 rw [kJ] at this
 simpa using this
theorem Own.lie {e sz:Nat} {v:Value} {h:Hp} {xs:List (List Value)} {w:World} (hA:Own e sz v h xs) (hh:Here h w) (hle:xs.length≤281474976710656):aF w v sz xs:=by
 rcases hA.2 with ⟨rfl,rfl,rfl⟩ | ⟨g,cap,cur,rfl,rfl,hrow⟩
 ·exact ⟨⟨none,0,rfl,fun h=>absurd rfl h⟩,hle⟩
 ·exact ⟨⟨_,_,rfl,fun _=>⟨g,0,rfl,fun i c hc=>hrow.range (fun c hc=>(hA.1 c hc).1) (hh _ (List.mem_singleton.2 rfl)) hc⟩⟩,hle⟩
theorem nZ {w:World} {b sz:Nat}:∀ (xs:List (List Value)) (o:Nat),(∀ c∈xs,c.length=sz)→(∀ i c,xs[i]?=some c→w.rangeAt b (o + i * sz) c)→w.rangeAt b o xs.flatten:=by
 intro xs
 induction xs with
 | nil=>intro o _ _ j v hj;simp at hj
 | cons x r ih=>
  intro o hs h j v hj
  have hx:=hs x (List.mem_cons_self ..)
  rw [List.flatten_cons] at hj
  rcases Nat.lt_or_ge j x.length with hlt | hge
  ·rw [List.getElem?_append_left hlt] at hj
   have:=h 0 x rfl j v hj
   simpa using this
  ·rw [List.getElem?_append_right hge] at hj
   have:=ih (o + sz) (fun c hc=>hs c (List.mem_cons_of_mem _ hc)) (fun i c hc=>by
    have:=h (i + 1) c Vg
    rwa [Nat.succ_mul,show o + (i * sz + sz)=o + sz + i * sz by omega] at this) (j - x.length) v hj
   rwa [show o + sz + (j - x.length)=o + j by omega] at this
section
variable {P : Program} {T : Tab} {n : Nat} {w0 : World} {mu : List Nat} {l : Fm} {hp : Hp} {dd : Option Tmp} {ty : TypeId} {pos : String} {af : Array Edge} {gg : Option (Nat × Bool)} {Q : Exit → Fm → Hp → Prop} {all : Array Oper} {rest : List Oper}
theorem qW (ok:aJ P T) {t e sz iP k cap c:Nat} {q:Addr} {p:Option Addr} {x y:Operand} (hx:ev l x=some (.slice (some q) k cap)) (hy:ev l y=some (.slice p 0 c)) (ht:lk T.sl t=some (e,sz)) (hk:k≤cap):
  Hy P n w0 mu l hp ⟨dd,.call { callee:=.builtin .append,args:=#[x,y],argTypes:=#[t,t] },ty,pos,af,gg⟩ (.slice (some q) k cap):=by
 obtain ⟨hu,hsz⟩:=ok.vX ht
 refine aT fun a w hk' _=>?_
 have hst:∀ q:Addr,(storeCells q []).run P w=.ok () w:=fun q=>by simp [storeCells]
 have hf:(Builtin.firstCells sz 0 (.slice p 0 c)).run P w=.ok #[] w:=by
  cases p with
  | none=>simp [Builtin.firstCells]
  | some b=>exact run_firstCells_some (P:=P) w sz 0 b 0 c [] UC UC
 simp only [execOp,resolve,invoke,builtin,Sem.run_bind,Sem.run_pure,Result.andThen_ok,List.map_toArray,List.map_cons,List.map_nil,hk'.ev hx,hk'.ev hy]
 simp [Builtin.append_,run_underlying hu,run_sizeOf hsz w,Builtin.lenOf,hk,hf,hst]
theorem Eg (ok:aJ P T) {t d e sz iP cc a:Nat} {x y:Operand} {z v:Value} {c:List Value} {ha hp':Hp} {xs:List (List Value)} (hA:Own e sz v ha xs) (hd:Nat.blt d n=true) (hx:ev l x=some v) (hy:ev l y=some (.slice (some ⟨a,0,none⟩) 1 cc)) (ht:lk T.sl t=some (e,sz))
  (hz:lk T.zs e=some z) (hzs:z.cells.size=sz) (hb:lk T.eb e=some iP) (hby:Nat.ble iP 4096=true) (hperm:(ha++hp').Perm hp) (hl:c.length=sz) (hnews:jH w0 mu hp a 0 c) (h1:c.all (·.oneCell')=true) (h63:xs.length<1000000)
  (h:∀ v' ha',Own e sz v' ha' (xs++[c])→Ops P n w0 mu all rest ((d,v')::l) (ha'++hp') Q):Ops P n w0 mu all (⟨some d,.call { callee:=.builtin .append,args:=#[x,y],argTypes:=#[t,t] },ty,pos,af,none⟩::rest) l hp Q:=by
 have rZ:iP≤4096:=Nat.le_of_ble_eq_true hby
 have hall:∀ c'∈xs++[c],c'.length=sz∧c'.all (·.oneCell')=true:=by
  intro c' hc'
  rcases List.mem_append.1 hc' with hc' | hc'
  ·exact hA.1 c' hc'
  ·obtain rfl:=List.mem_singleton.1 hc';exact ⟨hl,h1⟩
 rcases hA.2 with ⟨rfl,rfl,rfl⟩ | ⟨g,cap,cur,rfl,rfl,hrow⟩
 ·refine qL ok hd hx hy ht hz hzs hb Uz Ve hnews Uz Uz fun g cap cur hr=>?_
  have:=h (.slice (some ⟨g,0,none⟩) 1 cap) [⟨g,cur,e⟩] ⟨hall,.inr ⟨g,cap,cur,rfl,rfl,by simpa using hr⟩⟩
  refine oU _ ?_ this
  exact (hperm.cons _:(⟨g,cur,e⟩::([]++hp')).Perm (⟨g,cur,e⟩::hp))
 ·refine kP ok hd hx hy ht hz hzs hb hperm hrow Ve hnews h1 Uz ?_ fun g cap cur hr=>?_
  ·have h2:(xs.length + 1 + (xs.length + 1) / 4 + 192)≤2000000:=by omega
   calc _≤2000000 * iP:=Nat.mul_le_mul_right _ h2
    _≤2000000 * 4096:=Nat.mul_le_mul_left _ rZ
    _≤_:=by decide
  ·have:=h (.slice (some ⟨g,0,none⟩) (xs.length + 1) cap) [⟨g,cur,e⟩] ⟨hall,.inr ⟨g,cap,cur,by simp,rfl,by simpa using hr⟩⟩
   exact this
theorem mQ (ok:aJ P T) {t d e sz iP g cap a o m cc:Nat} {cur:Array Value} {x y:Operand} {z:Value} {hp':Hp} {xs:List (List Value)} (hd:Nat.blt d n=true) (hx:ev l x=some (.slice (some ⟨g,0,none⟩) 0 cap)) (hg:Row g cap cur sz 0 []) (hy:ev l y=some (.slice (some ⟨a,o,none⟩) m cc)) (ht:lk T.sl t=some (e,sz))
  (hz:lk T.zs e=some z) (hzs:z.cells.size=sz) (hb:lk T.eb e=some iP) (hby:Nat.ble iP 4096=true) (hperm:(⟨g,cur,e⟩::hp').Perm hp) (hm:m=xs.length) (hall:∀ c∈xs,c.length=sz∧c.all (·.oneCell')=true) (hr:∀ i c,xs[i]?=some c→w0.rangeAt a (o + i * sz) c) (hmu:a ∉ mu) (h63:xs.length<1000000)
  (h:∀ v' ha',Own e sz v' ha' xs→Ops P n w0 mu all rest ((d,v')::l) (ha'++hp') Q):Ops P n w0 mu all (⟨some d,.call { callee:=.builtin .append,args:=#[x,y],argTypes:=#[t,t] },ty,pos,af,none⟩::rest) l hp Q:=by
 have rZ:iP≤4096:=Nat.le_of_ble_eq_true hby
 have hfl:=bD xs (fun c hc=>(hall c hc).1)
 refine kP ok hd hx hy ht hz hzs hb hperm hg (news:=xs.flatten) (by rw [hm,hfl]) (yT (nZ xs o (fun c hc=>(hall c hc).1) hr) hmu) ?_ Uz ?_ fun g cap cur hr=>?_
 ·rw [List.all_flatten,List.all_eq_true]
  exact fun c hc=>(hall c hc).2
 ·have h2:(0 + m + (0 + m) / 4 + 192)≤2000000:=by omega
  calc _≤2000000 * iP:=Nat.mul_le_mul_right _ h2
   _≤2000000 * 4096:=Nat.mul_le_mul_left _ rZ
   _≤_:=by decide
 ·rw [Nat.zero_add,List.nil_append,hm] at hr
  have:=h (.slice (some ⟨g,0,none⟩) xs.length cap) [⟨g,cur,e⟩] ⟨hall,.inr ⟨g,cap,cur,rfl,rfl,hr⟩⟩
  rw [Nat.zero_add,hm]
  exact this
theorem qX (ok:aJ P T) {t d e sz:Nat} (hd:Nat.blt d n=true) (ht:lk T.sl t=some (e,sz)) (h:∀ b,Ops P n w0 mu all rest ((d,.slice (some ⟨b,0,none⟩) 0 0)::l) (⟨b,#[],e⟩::hp) Q):Ops P n w0 mu all (⟨some d,.buildSlice t 0 #[],ty,pos,af,none⟩::rest) l hp Q:=by
 refine sO (b:=0) rfl hd #[] e rfl (fun b=>.slice (some ⟨b,0,none⟩) 0 0) (fun a w hk _=>?_) h
 obtain ⟨hu,hs⟩:=ok.vX ht
 simp [execOp,Instr.buildSlice,run_underlying hu w,run_sizeOf hs w,Instr.fill,go_sem]
theorem A8 (ok:aJ P T) {t u e sz m c:Nat} {p:Option Addr} {x:Operand} (hx:ev l x=some (.slice p m c)) (ht:lk T.sl t=some (e,sz)):Hy P n w0 mu l hp ⟨dd,.binOp .eql t x (.const (.slice none 0 0)) u,ty,pos,af,gg⟩ (.bool p.isNone):=by
 obtain ⟨hu,hsz⟩:=ok.vX ht
 refine aT fun a w hk' _=>?_
 have h1:=Lib.run_eql_slice_nil (P:=P) w t e p m c 0 0 hu
 have h2:=hk'.ev hx
 have h3:a.eval (.const (.slice none 0 0))=.slice none 0 0:=rfl
 simp only [execOp,h2,h3]
 cases p<;>simp [eqGuard,h1]
end
end
section
section
variable {P : Program} {T : Tab} {n : Nat} {w0 : World} {mu : List Nat} {l : Fm} {hp : Hp} {dd : Option Tmp} {ty : TypeId} {pos : String} {af : Array Edge} {gg : Option (Nat × Bool)} {Q : Exit → Fm → Hp → Prop} {all : Array Oper} {rest : List Oper}
theorem kz {t e:TypeId} (hu:P.underlying t=some (.slice e)):P.underlying t=some (.slice (P.elem t)):=by
 have:P.elem t=e:=by simp [Program.elem,hu]
 rw [this];exact hu
theorem kS {b off k:Nat}:(⟨b,off,none⟩:Addr).add k=⟨b,off + k,none⟩:=Addr.add_lit ..
theorem wF (ok:aJ P T) {t e sz b off m cap:Nat} {kl kh:IntKind} {x lo hi:Operand} {i j:Int} {o' m' c':Nat} (hx:ev l x=some (.slice (some ⟨b,off,none⟩) m cap)) (hlo:ev l lo=some (.int kl i)) (hhi:ev l hi=some (.int kh j)) (ht:lk T.sl t=some (e,sz))
  (h0:0≤i) (h1:i≤j) (h2:j≤cap) (h3:i<cap) (ho:off + i.toNat * sz=o') (hm:j.toNat - i.toNat=m') (hc:cap - i.toNat=c'):
  Hy P n w0 mu l hp ⟨dd,.slice t x (some lo) (some hi) none,ty,pos,af,gg⟩ (.slice (some ⟨b,o',none⟩) m' c'):=by
 obtain ⟨hu,hsz⟩:=ok.vX ht
 subst ho hm hc
 refine aT fun a w hk _=>?_
 have he:P.elem t=e:=by simp [Program.elem,hu]
 have hs:=run_sizeOf hsz w
 have hne:¬ (cap=i.toNat):=by omega
 simp only [execOp,Option.map_some,Option.map_none,hk.ev hx,hk.ev hlo,hk.ev hhi]
 simp only [Sem.run_bind]
 rw [run_sliceAt_slice (w:=w) t _ _ _ _ (kz hu),run_slice_lh (w:=w) t _ m cap (kz hu) kl kh i j h0 h1 h2,he,hs]
 simp [sliced,hne,kS]
theorem zi (ok:aJ P T) {t e sz m cap:Nat} {p:Option Addr} {kh:IntKind} {x hi:Operand} {j:Int} {m':Nat} (hx:ev l x=some (.slice p m cap)) (hhi:ev l hi=some (.int kh j)) (ht:lk T.sl t=some (e,sz))
  (h0:0≤j) (h2:j≤cap) (hm:j.toNat=m') (hp0:p=none∨∃ b off,p=some ⟨b,off,none⟩):
  Hy P n w0 mu l hp ⟨dd,.slice t x none (some hi) none,ty,pos,af,gg⟩ (.slice p m' cap):=by
 obtain ⟨hu,hsz⟩:=ok.vX ht
 subst hm
 refine aT fun a w hk _=>?_
 have he:P.elem t=e:=by simp [Program.elem,hu]
 have hs:=run_sizeOf hsz w
 simp only [execOp,Option.map_some,Option.map_none,hk.ev hx,hk.ev hhi]
 simp only [Sem.run_bind]
 rw [run_sliceAt_slice (w:=w) t _ _ _ _ (kz hu),run_slice_h (w:=w) t _ m cap (kz hu) kh j h0 h2,he,hs]
 rcases hp0 with rfl | ⟨b,off,rfl⟩
 ·simp [sliced]
 ·simp [sliced,kS]
theorem Eh (ok:aJ P T) {t e sz m cap:Nat} {p:Option Addr} {kl:IntKind} {x lo:Operand} {i:Int} (hx:ev l x=some (.slice p m cap)) (hlo:ev l lo=some (.int kl i)) (ht:lk T.sl t=some (e,sz))
  (h0:0≤i) (h1:i≤m):Hy P n w0 mu l hp ⟨dd,.slice t x (some lo) none none,ty,pos,af,gg⟩ (sliced p i.toNat m cap sz):=by
 obtain ⟨hu,hsz⟩:=ok.vX ht
 refine aT fun a w hk _=>?_
 have he:P.elem t=e:=by simp [Program.elem,hu]
 have hs:=run_sizeOf hsz w
 simp only [execOp,Option.map_some,Option.map_none,hk.ev hx,hk.ev hlo]
 simp only [Sem.run_bind]
 rw [run_sliceAt_slice (w:=w) t _ _ _ _ (kz hu),run_slice_l (w:=w) t _ m cap (kz hu) kl i h0 h1,he,hs]
 simp
end
end
section
section
variable {P : Program} {T : Tab} {n : Nat} {w0 : World} {mu : List Nat} {l : Fm} {hp : Hp} {dd : Option Tmp} {ty : TypeId} {pos : String} {af : Array Edge} {gg : Option (Nat × Bool)} {Q : Exit → Fm → Hp → Prop} {all : Array Oper} {rest : List Oper}
theorem wG (ok : aJ P T) {lf : Fm} {t len e sz : Nat} {z : Value} {ps : List (Nat × Operand)} {vs : List (Nat × Value)} {zl : List Value} {out : Array Value} {out' : List Value} (ht : lk T.sl t = some (e, sz)) (hz : lk T.zs e = some z) (hzc : z.cells = zl.toArray) (hzs : Nat.beq zl.length sz = true) (hpos : (Nat.blt 0 (len * sz) && Nat.ble (len * sz) 16777216) = true) (hv : yO lf ps = some vs) (hf : Nk sz (rep zl len).toArray vs = some out) (hn : out = out'.toArray) :
    xC P n w0 mu all lf hp ⟨dd, .buildSlice t len ps.toArray, ty, pos, af, none⟩ (fun v hn => ∃ b, v = .slice (some ⟨b, 0, none⟩) len len ∧ hn = [⟨b, out'.toArray, e⟩]) := by
  subst hn
  have hzs' : zl.length = sz := by simpa using hzs
  rw [Bool.and_eq_true] at hpos
  obtain ⟨hp1, hp2⟩ := hpos
  replace hp1 : 0 < len * sz := by simpa using hp1
  replace hp2 : len * sz ≤ 16777216 := Nat.le_of_ble_eq_true hp2
  have hsp : 0 < sz := by rcases Nat.eq_zero_or_pos sz with h | h; · rw [h] at hp1; simp at hp1
                          · exact h
  refine GR (F := fun b => .slice (some ⟨b, 0, none⟩) len len) rfl _ _ fun a w hk => ?_
  have e1 : (ps.toArray.map fun x => (x.1, a.eval x.2)) = vs.toArray := by rw [← hk.yO hv]; simp
  obtain ⟨hu, hs⟩ := ok.vX ht
  have hr := Az z.cells (by rw [hzc]; simpa [hzs'] using hsp) len
  have hsz : z.cells.size = sz := by rw [hzc]; simpa using hzs'
  rw [hsz] at hr
  simp only [execOp, Instr.buildSlice, Sem.run_bind, run_underlying hu w, Result.andThen_ok, run_sizeOf hs w, e1]
  rw [if_neg Uz]
  simp only [Sem.run_bind, Sem.run_pure, Result.andThen_ok, if_neg (show ¬ len * sz = 0 by omega), oZ (ok.Jo hz) w, hsz, hr]
  rw [show z.cells.toList = zl by rw [hzc]]
  simp only [List.toList_toArray, yQ _ _ _ _ hf]
  simp [go_sem]
end
end
section
attribute [local irreducible] Hy St Ops DH fE
theorem Own.row {e sz n:Nat} {v:Value} {h:Hp} {xs:List (List Value)} (hA:Own e sz v h xs) (hn:xs.length=n) (h0:0<n):∃ g cap cur,v=.slice (some ⟨g,0,none⟩) n cap∧h=[⟨g,cur,e⟩]∧Row g cap cur sz n xs.flatten:=by
 rcases hA.2 with ⟨rfl,rfl,rfl⟩ | ⟨g,cap,cur,rfl,rfl,hrow⟩
 ·simp at hn;omega
 ·subst hn;exact ⟨g,cap,cur,rfl,rfl,hrow⟩
theorem Row.cut {g cap sz n:Nat} {cur:Array Value} {xs:List (List Value)} (h:Row g cap cur sz n xs.flatten) (hall:∀ c∈xs,c.length=sz) {i:Nat} {c:List Value} (hi:xs[i]?=some c):(cur.toList.drop (i * sz)).take sz=c:=by
 have hf:=gV hall hi
 rw [← h.take] at hf
 have hlt:i<xs.length:=(List.getElem?_eq_some_iff.1 hi).1
 have hn:xs.length * sz=n * sz:=by rw [← bD xs hall,h.len]
 have hle:i * sz + sz≤n * sz:=by rw [← hn,← Nat.succ_mul];exact Nat.mul_le_mul_right _ hlt
 rwa [List.drop_take,List.take_take,Nat.min_eq_left Uz] at hf
theorem tH {n:Nat} {w0:World} {mu:List Nat} {l:Fm} {hp:Hp} {Q:Exit→Fm→Hp→Prop} {all:Array Oper} {rest:List Oper} {ty:TypeId} {pos:String} {af:Array Edge} {t d e sz iP cc a:Nat} {x y:Operand} {z v:Value} {c:List Value} {ha:Hp} {xs:List (List Value)} (hp':Hp) (hA:Own e sz v ha xs) (h:∀ v' ha',Own e sz v' ha' (xs++[c])→Ops Tryz.prog n w0 mu all rest ((d,v')::l) (ha'++hp') Q) (h63:xs.length<1000000) (hnews:jH w0 mu hp a 0 c)
  (hperm:(ha++hp').Perm hp) (hd:Nat.blt d n=true:=by rfl) (hx:ev l x=some v:=by rfl) (hy:ev l y=some (.slice (some ⟨a,0,none⟩) 1 cc):=by rfl) (ht:lk Tb.sl t=some (e,sz):=by rfl)
  (hz:lk Tb.zs e=some z:=by rfl) (hzs:z.cells.size=sz:=by rfl) (hb:lk Tb.eb e=some iP:=by rfl) (hby:Nat.ble iP 4096=true:=by rfl) (hl:c.length=sz:=by rfl) (h1:c.all (·.oneCell')=true:=by rfl):Ops Tryz.prog n w0 mu all (⟨some d,.call { callee:=.builtin .append,args:=#[x,y],argTypes:=#[t,t] },ty,pos,af,none⟩::rest) l hp Q:=
 Eg aj hA hd hx hy ht hz hzs hb hby hperm hl hnews h1 h63 h
theorem Ei {α:Type} [Inhabited α] {xs:List α} {k:Nat} (h:k<xs.length):xs.take (k + 1)=xs.take k++[xs.getD k default]:=by
 rw [List.take_succ_eq_append_getElem h,List.getD_eq_getElem?_getD,List.getElem?_eq_getElem h];rfl
end
section
attribute [local irreducible] Hy St Ops DH fE
theorem Fn.some {P:Program} {f:FuncId} {args:Array Value} {w:World} {mu:List Nat} {R:Value→Hp→Prop} (h:Fn P f args w mu R):∃ v hp,R v hp:=by
 obtain ⟨e,w',fr,⟨v,hp,_,_,hr⟩,_⟩:=h []
 exact ⟨v,hp,hr⟩
def Hu (i:Int) (m:Nat):Nat:=(IntKind.u64.wrap i % (m:Int)).toNat
theorem Kt (i:Int) {m:Nat} (hm:0<m):Hu i m<m:=by
 have h1:=Int.emod_nonneg (IntKind.u64.wrap i) (show (m:Int) ≠ 0 by omega)
 have h2:=Int.emod_lt_of_pos (IntKind.u64.wrap i) (show 0<(m:Int) by omega)
 unfold Hu
 omega
section
variable {P : Program} {T : Tab} {n : Nat} {w0 : World} {mu : List Nat} {l : Fm} {dd : Option Nat} {ty : TypeId} {pos : String} {af : Array Edge} {gg : Option (Nat × Bool)}
theorem NI {hh:Hp} {t u:TypeId} {x y:Operand} {p q:Int} (hx:ev l x=some (.int .u64 p)) (hy:ev l y=some (.int .u64 q)) (hp:0≤p) (hq:0<q):Hy P n w0 mu l hh ⟨dd,.binOp .rem t x y u,ty,pos,af,gg⟩ (.int .u64 (p % q)):=
 aT fun ac w hk _=>by
  have h1:p.tmod q=p % q:=Int.tmod_eq_emod_of_nonneg hp
  have h2:¬ (q=0):=by omega
  simp only [execOp,hk.ev hx,hk.ev hy]
  simp [eqGuard_rem,binOp_rem,Op.intDiv,h1,h2]
end
section
variable {n : Nat} {w0 : World} {mu : List Nat} {l : Fm} {hp : Hp} {Q : Exit → Fm → Hp → Prop} {all : Array Oper} {rest : List Oper} {ty : TypeId} {pos : String} {af : Array Edge}
theorem nO {t d e sz iP m cc a:Nat} {x y:Operand} {z v:Value} {ha:Hp} {xs:List (List Value)} (ys:List (List Value)) (hp':Hp) (hA:Own e sz v ha xs) (h0:0<xs.length) (h:∀ v' ha',Own e sz v' ha' (xs++ys)→Ops Tryz.prog n w0 mu all rest ((d,v')::l) (ha'++hp') Q) (h63:xs.length + m<1000000) (hm:ys.length=m) (hall:∀ c∈ys,c.length=sz∧c.all (·.oneCell')=true) (hnews:jH w0 mu hp a 0 ys.flatten)
  (hperm:(ha++hp').Perm hp) (hd:Nat.blt d n=true:=by rfl) (hx:ev l x=some v:=by rfl) (hy:ev l y=some (.slice (some ⟨a,0,none⟩) m cc):=by rfl) (ht:lk Tb.sl t=some (e,sz):=by rfl)
  (hz:lk Tb.zs e=some z:=by rfl) (hzs:z.cells.size=sz:=by rfl) (hb:lk Tb.eb e=some iP:=by rfl) (hby:Nat.ble iP 4096=true:=by rfl):Ops Tryz.prog n w0 mu all (⟨some d,.call { callee:=.builtin .append,args:=#[x,y],argTypes:=#[t,t] },ty,pos,af,none⟩::rest) l hp Q:=by
 have rZ:iP≤4096:=Nat.le_of_ble_eq_true hby
 have hfl:=bD ys (fun c hc=>(hall c hc).1)
 rcases hA.2 with ⟨rfl,rfl,rfl⟩ | ⟨g,cap,cur,rfl,rfl,hrow⟩
 ·simp at h0
 ·refine kP aj hd hx hy ht hz hzs hb hperm hrow (news:=ys.flatten) (by rw [hfl,hm]) hnews ?_ Uz ?_ fun g cap cur hr=>?_
  ·rw [List.all_flatten,List.all_eq_true]
   exact fun c hc=>(hall c hc).2
  ·have h2:(xs.length + m + (xs.length + m) / 4 + 192)≤2000000:=by omega
   calc _≤2000000 * iP:=Nat.mul_le_mul_right _ h2
    _≤2000000 * 4096:=Nat.mul_le_mul_left _ rZ
    _≤_:=by decide
  ·have:=h (.slice (some ⟨g,0,none⟩) (xs.length + m) cap) [⟨g,cur,e⟩] ⟨fun c hc=>?_,.inr ⟨g,cap,cur,by rw [List.length_append,hm],rfl,by rw [List.length_append,hm,List.flatten_append];exact hr⟩⟩
   ·exact this
   ·rcases List.mem_append.1 hc with hc | hc
    ·exact hA.1 c hc
    ·exact hall c hc
end
section
variable {P : Program} {T : Tab} {n : Nat} {w0 : World} {mu : List Nat} {l : Fm} {hp : Hp} {dd : Option Nat} {ty : TypeId} {pos : String} {af : Array Edge} {gg : Option (Nat × Bool)} {t u : TypeId} {x y : Operand}
theorem uO {pi qi:Int} (hx:ev l x=some (.int .u64 pi)) (hy:ev l y=some (.int .u64 qi)) (p q:Nat) (hpi:pi=(p:Int)) (hqi:qi=(q:Int))  (h1:p<18446744073709551616) (h2:q<18446744073709551616):Hy P n w0 mu l hp ⟨dd,.binOp .and t x y u,ty,pos,af,gg⟩ (.int .u64 ((p &&& q:Nat):Int)):=
 aT fun ac w hk _=>by
  subst hpi hqi
  have:=u64_and_nat p q h1 h2
  simp only [execOp,hk.ev hx,hk.ev hy]
  simp [eqGuard_and,binOp_and,intBits_and,this]
theorem CU {pi qi:Int} (hx:ev l x=some (.int .u64 pi)) (hy:ev l y=some (.int .u64 qi)) (p q:Nat) (hpi:pi=(p:Int)) (hqi:qi=(q:Int))  (h1:p<18446744073709551616) (h2:q<18446744073709551616):Hy P n w0 mu l hp ⟨dd,.binOp .or t x y u,ty,pos,af,gg⟩ (.int .u64 ((p ||| q:Nat):Int)):=
 aT fun ac w hk _=>by
  subst hpi hqi
  have:=u64_or_nat p q h1 h2
  simp only [execOp,hk.ev hx,hk.ev hy]
  simp [eqGuard_or,binOp_or,intBits_or,this]
theorem wH {pi qi:Int} (hx:ev l x=some (.int .u64 pi)) (hy:ev l y=some (.int .u64 qi)) (p q:Nat) (hpi:pi=(p:Int)) (hqi:qi=(q:Int))  (h1:p<18446744073709551616) (h2:q<18446744073709551616):Hy P n w0 mu l hp ⟨dd,.binOp .andNot t x y u,ty,pos,af,gg⟩ (.int .u64 ((p &&& (18446744073709551615 - q):Nat):Int)):=
 aT fun ac w hk _=>by
  subst hpi hqi
  have:=u64_andNot_nat p q h1 h2
  simp only [execOp,hk.ev hx,hk.ev hy]
  simp [eqGuard_andNot,binOp_andNot,intBits_andNot,this]
theorem xQ {ky:IntKind} {pi qi:Int} (hx:ev l x=some (.int .u64 pi)) (hy:ev l y=some (.int ky qi)) (p c:Nat) (hpi:pi=(p:Int)) (hqi:qi=(c:Int))  (h1:c≤64):Hy P n w0 mu l hp ⟨dd,.binOp .shr t x y u,ty,pos,af,gg⟩ (.int .u64 ((p >>> c:Nat):Int)):=
 aT fun ac w hk _=>by
  subst hpi hqi
  simp only [execOp,hk.ev hx,hk.ev hy]
  have e:(p:Int) / 2 ^ ((c:Int).toNat)=((p >>> c:Nat):Int):=by rw [Nat.shiftRight_eq_div_pow];simp
  simp [eqGuard_shr,binOp_shr,shift_shr_u64 (yk:=ky) (h₀:=Int.natCast_nonneg c) (h₁:=by omega)]
  simpa using e
theorem qY {ky:IntKind} {pi qi:Int} (hx:ev l x=some (.int .u64 pi)) (hy:ev l y=some (.int ky qi)) (p c:Nat) (hpi:pi=(p:Int)) (hqi:qi=(c:Int))  (h1:c≤64):Hy P n w0 mu l hp ⟨dd,.binOp .shl t x y u,ty,pos,af,gg⟩ (.int .u64 (((p <<< c) % 18446744073709551616:Nat):Int)):=
 aT fun ac w hk _=>by
  subst hpi hqi
  simp only [execOp,hk.ev hx,hk.ev hy]
  have e:IntKind.u64.wrap ((p:Int) * 2 ^ ((c:Int).toNat))=(((p <<< c) % 18446744073709551616:Nat):Int):=by rw [IntKind.wrap_u64,Nat.shiftLeft_eq];simp
  simp [eqGuard_shl,binOp_shl,shift_shl_u64 (yk:=ky) (h₀:=Int.natCast_nonneg c) (h₁:=by omega)]
  simpa using e
theorem Hw {ky:IntKind} {pi qi:Int} (hx:ev l x=some (.int .i64 pi)) (hy:ev l y=some (.int ky qi)) (p c:Nat) (hpi:pi=(p:Int)) (hqi:qi=(c:Int))  (h1:c≤64):Hy P n w0 mu l hp ⟨dd,.binOp .shr t x y u,ty,pos,af,gg⟩ (.int .i64 ((p >>> c:Nat):Int)):=
 aT fun ac w hk _=>by
  subst hpi hqi
  simp only [execOp,hk.ev hx,hk.ev hy]
  have e:(p:Int) / 2 ^ ((c:Int).toNat)=((p >>> c:Nat):Int):=by rw [Nat.shiftRight_eq_div_pow];simp
  have hs:=shift_shr .i64 ky (p:Int) (c:Int) (Int.natCast_nonneg c) (by show (c:Int)≤64;omega)
  simp only [eqGuard_shr,binOp_shr,hs,e]
  simp
theorem uP {ky:IntKind} {pi qi:Int} (hx:ev l x=some (.int .i64 pi)) (hy:ev l y=some (.int ky qi)) (p c:Nat) (hpi:pi=(p:Int)) (hqi:qi=(c:Int))  (h1:c≤64) (hb:p <<< c<9223372036854775808):Hy P n w0 mu l hp ⟨dd,.binOp .shl t x y u,ty,pos,af,gg⟩ (.int .i64 ((p <<< c:Nat):Int)):=
 aT fun ac w hk _=>by
  subst hpi hqi
  simp only [execOp,hk.ev hx,hk.ev hy]
  have e:IntKind.i64.wrap ((p:Int) * 2 ^ ((c:Int).toNat))=((p <<< c:Nat):Int):=by
   have h2:(p:Int) * 2 ^ ((c:Int).toNat)=((p <<< c:Nat):Int):=by rw [Nat.shiftLeft_eq];simp
   rw [h2,IntKind.wrap_i64]
   generalize p <<< c=z at hb
   omega
  have hs:=shift_shl .i64 ky (p:Int) (c:Int) (Int.natCast_nonneg c) (by show (c:Int)≤64;omega)
  simp only [eqGuard_shl,binOp_shl,hs,e]
  simp
theorem jM {k:IntKind} {pi qi:Int} (hx:ev l x=some (.int k pi)) (hy:ev l y=some (.int k qi)) (p q:Nat) (hpi:pi=(p:Int)) (hqi:qi=(q:Int))  (hq:0<q):Hy P n w0 mu l hp ⟨dd,.binOp .rem t x y u,ty,pos,af,gg⟩ (.int k ((p % q:Nat):Int)):=
 aT fun ac w hk _=>by
  subst hpi hqi
  have h1:(p:Int).tmod q=((p % q:Nat):Int):=by rw [Int.tmod_eq_emod_of_nonneg Uz];simp
  have h2:¬ (q=0):=by omega
  simp only [execOp,hk.ev hx,hk.ev hy]
  simp [eqGuard_rem,binOp_rem,Op.intDiv,h1,h2]
theorem uQ {pi qi:Int} (hx:ev l x=some (.int .i64 pi)) (hy:ev l y=some (.int .i64 qi)) (p q:Nat) (hpi:pi=(p:Int)) (hqi:qi=(q:Int))  (hq:0<q) (hb:p<9223372036854775808):Hy P n w0 mu l hp ⟨dd,.binOp .quo t x y u,ty,pos,af,gg⟩ (.int .i64 ((p / q:Nat):Int)):=
 aT fun ac w hk _=>by
  subst hpi hqi
  have h1:(p:Int).tdiv q=((p / q:Nat):Int):=by rw [Int.tdiv_eq_ediv_of_nonneg Uz];simp
  have h2:¬ (q=0):=by omega
  have h3:p / q≤p:=Nat.div_le_self _ _
  have h4:IntKind.i64.wrap ((p / q:Nat):Int)=((p / q:Nat):Int):=by
   generalize p / q=z at h3
   rw [IntKind.wrap_i64];omega
  simp only [execOp,hk.ev hx,hk.ev hy]
  rw [show ((p / q:Nat):Int)=(p:Int) / (q:Int) by simp] at h4
  simp [eqGuard_quo,binOp_quo,Op.intDiv,h1,h2,h4]
end
section
variable {n : Nat} {w0 : World} {mu : List Nat} {l : Fm} {hp : Hp} {Q : Exit → Fm → Hp → Prop} {all : Array Oper} {rest : List Oper} {ty : TypeId} {pos : String} {af : Array Edge} {ds : List (Nat × Nat)} {tail : List Oper} {i : Nat} {iv fr : Fm}
theorem Ej {d j dj:Nat} {want b:Bool} {op:Op} {v:Value} (hj:(all[j]?).bind (·.dst)=some dj:=by rfl) (hb:look (au ds iv af.toList++l) dj=some (.bool b):=by rfl) (hdj:Nat.blt dj n=true:=by rfl) (hlk:lk ds i=some d:=by rfl)
  (hy:eX b want=true→Hy Tryz.prog n w0 mu (au ds iv af.toList++l) hp ⟨some d,op,ty,pos,af,some (j,want)⟩ v) (h:fE Tryz.prog n w0 mu all ds tail l hp Q (i + 1) rest ((i,gv (eX b want) v)::iv) ((d,gv (eX b want) v)::fr)):fE Tryz.prog n w0 mu all ds tail l hp Q i (⟨some d,op,ty,pos,af,some (j,want)⟩::rest) iv fr:=
 Gx hlk hj hb hdj hy h
theorem NJ {d j dj:Nat} {want b:Bool} {op:Op} {v:Value} (hj:(all[j]?).bind (·.dst)=some dj:=by rfl) (hb:look l dj=some (.bool b):=by rfl) (hdj:Nat.blt dj n=true:=by rfl) (hd:Nat.blt d n=true:=by rfl)
  (hy:eX b want=true→Hy Tryz.prog n w0 mu l hp ⟨some d,op,ty,pos,af,some (j,want)⟩ v) (h:Ops Tryz.prog n w0 mu all rest ((d,gv (eX b want) v)::l) hp Q):Ops Tryz.prog n w0 mu all (⟨some d,op,ty,pos,af,some (j,want)⟩::rest) l hp Q:=
 JB hd hj hb hdj hy h
end
section
variable {n : Nat} {w0 : World} {mu : List Nat} {l : Fm} {hp : Hp} {all : Array Oper} {ty : TypeId} {pos : String} {af : Array Edge} {ds : List (Nat × Nat)} {S E : List Nat} {iv : Fm} {Rs : List (Nat × RT)} {X : Fm → Prop} {Z : List (Nat × RT) → Prop} {i d : Nat}
theorem NK {j dj:Nat} {want b:Bool} {op:Op} {v:Value} (hy:∀ hx,eX b want=true→Hy Tryz.prog n w0 mu (au ds iv af.toList++l) (hx++hp) ⟨some d,op,ty,pos,af,some (j,want)⟩ v) (h:iK Tryz.prog n w0 mu all ds l hp X S ((i,gv (eX b want) v)::iv))
  (ho:all[i]?=some ⟨some d,op,ty,pos,af,some (j,want)⟩:=by rfl) (hj:(all[j]?).bind (·.dst)=some dj:=by rfl) (hb:look (au ds iv af.toList++l) dj=some (.bool b):=by rfl) (hdj:Nat.blt dj n=true:=by rfl):iK Tryz.prog n w0 mu all ds l hp X (i::S) iv:=
 ⟨_,_,ho,fun hx=>⟨dj,true,b,v,hj,hb,hdj,fun _ hg=>hy hx hg,rfl⟩,h⟩
theorem L6 {t len e sz:Nat} {z:Value} {ps:List (Nat × Operand)} {vs:List (Nat × Value)} {zl:List Value} {out:Array Value} (out':List Value) (h:iE Tryz.prog n w0 mu all ds l hp iv Z E ((i,fun v hn=>∃ b,v=.slice (some ⟨b,0,none⟩) len len∧hn=[⟨b,out'.toArray,e⟩])::Rs)) (ho:all[i]?=some ⟨some d,.buildSlice t len ps.toArray,ty,pos,af,none⟩:=by rfl) (ht:lk Tb.sl t=some (e,sz):=by rfl) (hz:lk Tb.zs e=some z:=by rfl) (hzc:z.cells=zl.toArray:=by (first | ((simp only [Value.cells])<;>rfl) | rfl)) (hzs:Nat.beq zl.length sz=true:=by rfl) (hpos:(Nat.blt 0 (len * sz) && Nat.ble (len * sz) 16777216)=true:=by rfl) (hv:yO (au ds iv af.toList++l) ps=some vs:=by rfl) (hf:Nk sz (rep zl len).toArray vs=some out:=by rfl) (hn:out=out'.toArray:=by rfl):iE Tryz.prog n w0 mu all ds l hp iv Z (i::E) Rs:=
 GN ho (wG aj ht hz hzc hzs hpos hv hf hn) ⟨_,_,0,rfl,rfl⟩ h
end
theorem Hz (w:World) (i:Int) (m:Nat) (hm:0<m) (hm2:m<1000000):Fn Tryz.prog 8 [.int .i64 i,.int .i64 (m:Int)].toArray w [] (fun u _=>u=.int .i64 (Hu i m:Int)):=by
 refine enter Tryz.func8 ?_
 refine run ?_
 have hp0:0≤IntKind.u64.wrap i:=wrap_u64_nonneg i
 refine lU UB (Nj aj rfl rfl rfl) ?_
 unfold Hu
 generalize IntKind.u64.wrap i=p at hp0
 have h1:=Int.emod_nonneg p (show (m:Int) ≠ 0 by omega)
 have h2:=Int.emod_lt_of_pos p (show 0<(m:Int) by omega)
 refine run ?_
 refine lU UB (NI rfl rfl hp0 Uz) ?_
 refine run ?_
 refine fin1 ?_
 congr 1;omega
end
section
section
variable {P : Program} {ops : Array Oper} {Q' : Exit → Act → World → Prop} {k i : Nat} {listed : Array Bool}
def QI (listed:Array Bool) (n:Nat):Prop:=∀ T:List Nat,T.Nodup→(∀ t∈T,listed.getD t true=false)→T.length≤n
theorem QI.set {n j:Nat} (h:QI listed (n + 1)) (hj:listed.getD j true=false) (hs:j<listed.size):QI (listed.setIfInBounds j true) n:=by
 intro T hT hu
 have SB:j ∉ T:=fun hm=>by have:=hu j hm;simp [hs] at this
 have:=h (j::T) (List.nodup_cons.2 ⟨SB,hT⟩) (fun t ht=>by
  rcases List.mem_cons.1 ht with rfl | ht
  ·exact hj
  ·have h1:=hu t ht
   rwa [getD_set_ne true (show j ≠ t from fun e=>SB (by rw [e];exact ht))] at h1)
 simpa using this
end
section
variable {n : Nat} {w0 : World} {mu : List Nat} {l : Fm} {hp : Hp} {Q : Exit → Fm → Hp → Prop}
def drop1 (k:Nat):Fm→Fm
 | []=>[]
 | p::r=>if p.1=k then drop1 k r else p::drop1 k r
theorem Ba (k:Nat):∀ (l:Fm) (t:Nat) (v:Value),look (drop1 k l) t=some v→look l t=some v:=by
 intro l
 induction l with
 | nil=>intro t v h;exact h
 | cons p r ih=>
  obtain ⟨j,u⟩:=p
  intro t v h
  have key:∀ t v,look (drop1 k r) t=some v→t ≠ k:=by
   intro t v
   clear h ih
   induction r with
   | nil=>intro h;cases h
   | cons p r ih=>
    obtain ⟨j,u⟩:=p
    intro h
    unfold drop1 at h
    by_cases hj:j=k
    ·rw [if_pos hj] at h;exact ih h
    ·rw [if_neg hj] at h
     simp only [look] at h
     cases hb:Nat.beq j t with
     | true=>have:=Nat.eq_of_beq_eq_true hb;omega
     | false=>rw [hb] at h;exact ih h
  unfold drop1 at h
  by_cases hj:j=k
  ·rw [if_pos hj] at h
   have hne:=key t v h
   simp only [look]
   have hb:Nat.beq j t=false:=by
    cases hb:Nat.beq j t with
    | true=>have:=Nat.eq_of_beq_eq_true hb;omega
    | false=>rfl
   rw [hb]
   exact ih t v h
  ·rw [if_neg hj] at h
   simp only [look] at h ⊢
   cases hb:Nat.beq j t with
   | true=>rw [hb] at h;exact h
   | false=>rw [hb] at h;exact ih t v h
theorem jO {c:Code} (k:Nat) {l':Fm} (h:St Tryz.prog n w0 mu c l' hp Q) (hl:drop1 k l=l':=by (simp only [drop1,o6,List.cons_append,List.nil_append,Nat.reduceEqDiff,Nat.reduceAdd,Nat.zero_add,reduceIte,if_true,if_false];rfl)):St Tryz.prog n w0 mu c l hp Q:=by
 subst hl
 intro a w hk hG
 exact h a w ⟨hk.size,hk.defers,fun t v ht=>hk.has t v (Ba k l t v ht)⟩ hG
end
end
section
def fD (P:Program) (n:Nat) (w0:World) (mu:List Nat) (all:Array Oper) (ds:List (Nat × Nat)) (l:Fm) (h0:Hp) (aB:Fm) (X:Fm→Hp→Prop):List Nat→Fm→Hp→Prop
 | [],aK,h=>X aK h
 | i::r,aK,h=>∃ o,all[i]?=some o∧((o.dst.isSome=true∧∃ R:RT,xC P n w0 mu all (au ds (aK++aB) o.after.toList++l) h o R∧∀ v hn,R v hn→fD P n w0 mu all ds l h0 aB X r ((i,v)::aK) (hn++h)) ∨
   (o.dst=none∧∃ h',Qs P n w0 mu (au ds (aK++aB) o.after.toList++l) h o h'∧aI h0 h'∧fD P n w0 mu all ds l h0 aB X r aK h'))
def DS (P:Program) (n:Nat) (w0:World) (mu:List Nat) (all:Array Oper) (ds:List (Nat × Nat)) (l:Fm) (h0 hp:Hp) (t0:Nat) (X:Fm→Prop):List Nat→Fm→Prop
 | [],iv=>X iv
 | i::S,iv=>∃ o v,all[i]?=some o∧(∀ hx,lg P n w0 mu all (au ds iv o.after.toList++l) (bif Region.waitsFor .any all t0 i then hx++hp else hx++h0) o v)∧DS P n w0 mu all ds l h0 hp t0 X S ((i,v)::iv)
def jq (all:Array Oper):List Nat→Bool
 | i::j::r=>Region.waitsFor .any all j i && jq all (j::r)
 | _=>true
def lW (ops:Array Oper) (k n:Nat):Bool:=
 (List.range k).all fun i=>(match aA ops i with | some d=>Nat.blt d n | none=>true) && (List.range k).all fun j=>Nat.beq i j || (match aA ops i,aA ops j with | some a,some b=>!Nat.beq a b | _,_=>true)
def lN (k:Nat) (S C:List Nat):Bool:=decide ((S++C).Nodup) && (S++C).all (fun i=>Nat.blt i k) && (List.range k).all fun i=>mem (S++C) i
def mV (ops:Array Oper) (k:Nat):Bool:=
 decide (k=ops.size) || (decide (k<ops.size) && Region.sinkB .any ops k && Region.chainB .any ops k && Region.seqB .any ops (ops.size - k) k ((Array.replicate k true)++(Array.replicate (ops.size - k) false)))
def qZ (ops:Array Oper) (n k t0:Nat) (S C:List Nat):Bool:=
 lW ops k n && jl ops && lN k S C && jq ops C && mV ops k && (List.range k).all fun i=>(aA ops i).isSome || Nat.beq i t0 || Region.waitsFor .any ops i t0
structure l7 (n:Nat) (w0:World) (mu:List Nat) (all:Array Oper) (l aB aK:Fm) (h:Hp) (listed:Array Bool) (a:Act) (w:World):Prop where
 size:a.tmps.size=n
 defers:a.defers=[]
 has:∀ t v,look l t=some v→a.tmps.getD t undef=v
 good:Good w0 mu h w
 lX:∀ i v,lk aB i=some v→listed.getD i false=true→∀ d,aA all i=some d→a.tmps.getD d undef=v
 jP:∀ i v,(i,v)∈aK→listed.getD i false=true∧∀ d,aA all i=some d→a.tmps.getD d undef=v
theorem lQ {all:Array Oper}:∀ {c:Nat} {r:List Nat} {i:Nat},jq all (c::r)=true→i∈r→∃ p,p∈c::r∧p ≠ i∧Region.waitsFor .any all i p=true∨i∈c::r∧False∨∃ p∈c::r,Region.waitsFor .any all i p=true:=by
 intro c r
 induction r generalizing c with
 | nil=>intro i _ h;cases h
 | cons j r ih=>
  intro i h hi
  simp only [jq,Bool.and_eq_true] at h
  rcases List.mem_cons.1 hi with rfl | hi
  ·exact ⟨c,.inr (.inr ⟨c,List.mem_cons_self ..,h.1⟩)⟩
  ·obtain ⟨p,hp⟩:=ih h.2 hi
   rcases hp with ⟨_,_,h3⟩ | ⟨_,h3⟩ | ⟨p,h1,h2⟩
   ·exact ⟨p,.inr (.inr ⟨p,List.mem_cons_of_mem _ ‹_›,h3⟩)⟩
   ·exact h3.elim
   ·exact ⟨p,.inr (.inr ⟨p,List.mem_cons_of_mem _ h1,h2⟩)⟩
section
variable {P : Program} {n : Nat} {w0 : World} {mu : List Nat} {l : Fm} {h0 hp : Hp} {Q : Exit → Fm → Hp → Prop} {all : Array Oper} {aB : Fm} {k t0 : Nat} {ds : List (Nat × Nat)}
theorem CV (hd:lW all k n=true) {i d:Nat} (hi:i<k) (h:aA all i=some d):d<n:=by
 have:=List.all_eq_true.1 hd i (List.mem_range.2 hi)
 rw [Bool.and_eq_true,h] at this
 simpa using this.1
theorem CW (hd:lW all k n=true) {i j a b:Nat} (hi:i<k) (hj:j<k) (hij:i ≠ j) (h1:aA all i=some a) (h2:aA all j=some b):a ≠ b:=by
 have:=List.all_eq_true.1 hd i (List.mem_range.2 hi)
 rw [Bool.and_eq_true] at this
 have:=List.all_eq_true.1 this.2 j (List.mem_range.2 hj)
 rw [h1,h2,Bool.or_eq_true] at this
 rcases this with h | h
 ·exact absurd (Nat.eq_of_beq_eq_true h) hij
 ·intro e;subst e;simp at h
theorem kT {aK zk:Fm} {h h':Hp} {listed:Array Bool} {a:Act} {w w':World} {i:Nat} {o:Oper} {v:Value} (hm:l7 n w0 mu all l aB aK h listed a w) (ho:all[i]?=some o) (hi:i<k) (hun:listed.getD i true=false) (hs:i<listed.size)
  (hd:lW all k n=true) (hf:aS l (dstsOf all k)=true) (hG:Good w0 mu h' w') (QJ:∀ j v,lk aB j=some v→j<k) (hEk:∀ j v,(j,v)∈aK→j<k)
  (hv:(lk aB i=some v∧zk=aK)∨(lk aB i=none∧zk=(i,v)::aK)):l7 n w0 mu all l aB zk h' (listed.setIfInBounds i true) (a.put o.dst v) w':=by
 have hod:aA all i=o.dst:=by simp [aA,ho]
 have hput:∀ t,(∀ d,o.dst=some d→t ≠ d)→(a.put o.dst v).tmps.getD t undef=a.tmps.getD t undef:=by
  intro t ht
  cases hdd:o.dst with
  | none=>rfl
  | some d=>simp [Act.put,Array.getElem?_setIfInBounds_ne (Ne.symm (ht d hdd))]
 have hself:∀ d,o.dst=some d→(a.put o.dst v).tmps.getD d undef=v:=by
  intro d hdd
  have:=CV hd hi (hod.trans hdd)
  rw [hdd]
  simp [Act.put,hm.size,this]
 have hother:∀ j d,j<k→j ≠ i→aA all j=some d→(a.put o.dst v).tmps.getD d undef=a.tmps.getD d undef:=fun j d hj hji hdj=>hput d fun d' hd'=>CW hd hj hi hji hdj (hod.trans hd')
 refine ⟨?_,?_,fun t u hu=>?_,hG,fun j u hj hl d hdj=>?_,fun j u hj=>?_⟩
 ·cases o.dst<;>simpa [Act.put] using hm.size
 ·cases o.dst<;>exact hm.defers
 ·rw [hput t fun d hdd e=>?_]
  ·exact hm.has t u hu
  ·subst e
   have:=oG _ hf (List.mem_map.2 ⟨i,List.mem_range.2 hi,hod.trans hdd⟩)
   rw [this] at hu;cases hu
 ·by_cases hji:j=i
  ·subst hji
   rcases hv with ⟨h1,_⟩ | ⟨h1,_⟩
   ·rw [h1] at hj;cases hj
    exact hself d (hod▸hdj)
   ·rw [h1] at hj;cases hj
  ·rw [hother j d (QJ j u hj) hji hdj]
   exact hm.lX j u hj U3 d hdj
 ·have hold:(j,u)∈aK→(listed.setIfInBounds i true).getD j false=true∧∀ d,aA all j=some d→(a.put o.dst v).tmps.getD d undef=u:=fun hj=>by
   have h1:=hm.jP j u hj
   have hji:j ≠ i:=fun e=>by subst e;rw [getD_both hun] at h1;cases h1.1
   exact ⟨getD_set_true h1.1,fun d hdj=>by rw [hother j d (hEk j u hj) hji hdj];exact h1.2 d hdj⟩
  rcases hv with ⟨_,rfl⟩ | ⟨_,rfl⟩
  ·exact hold hj
  ·rcases List.mem_cons.1 hj with hj | hj
   ·cases hj
    exact ⟨by simp [hs],fun d hdj=>hself d (hod▸hdj)⟩
   ·exact hold hj
theorem fM (hds:∀ k d,lk ds k=some d→aA all k=some d) {aU aK:Fm} {h:Hp} {listed:Array Bool} {a:Act} {w:World} {o:Oper} (hm:l7 n w0 mu all l aB aK h listed a w) (hiv:∀ j u,look aU j=some u→lk aK j=some u∨lk aB j=some u)
  (hl:∀ e∈o.after,Region.binds .any e=true→listed.getD e.on false=true):Knows n (au ds aU o.after.toList++l) a:=by
 refine ⟨hm.size,hm.defers,fun t v h=>?_⟩
 rcases bI h with h | ⟨_,h⟩
 ·obtain ⟨e,he,h1,h2,h3⟩:=qG (dF h)
  rcases hiv _ _ h3 with h4 | h4
  ·exact (hm.jP _ _ (gB h4)).2 t (hds _ _ h2)
  ·exact hm.lX _ _ h4 (hl e (by simpa using he) h1) t (hds _ _ h2)
 ·exact hm.has t v h
theorem Bc {α:Type}:∀ (a b:List (Nat × α)) (i:Nat),lk (a++b) i=match lk a i with | some v=>some v | none=>lk b i:=by
 intro a
 induction a with
 | nil=>intro b i;rfl
 | cons p r ih=>
  intro b i
  obtain ⟨j,v⟩:=p
  rw [List.cons_append,bF,bF,ih]
  by_cases h:j=i
  ·subst h;simp
  ·simp [h]
theorem wI (hds:∀ k d,lk ds k=some d→aA all k=some d) {g:Nat} {Q':Exit→Act→World→Prop} {X:Fm→Hp→Prop} (hk:k≤all.size) (hd:lW all k n=true) (hf:aS l (dstsOf all k)=true) (hback:jl all=true) (hle0:aI h0 hp)
  (oJ:∀ i,i<k→aA all i=none→i=t0∨Region.waitsFor .any all i t0=true)
  (hS:∀ i v,lk aB i=some v→i<k∧∃ o aU,all[i]?=some o∧iU aU aB∧∀ hx,lg P n w0 mu all (au ds aU o.after.toList++l) (bif Region.waitsFor .any all t0 i then hx++hp else hx++h0) o v)
  (htail:∀ aK h listed,HeadInv .any all k listed→(∀ i,i<k→listed.getD i true=true)→X aK h→∀ a w,l7 n w0 mu all l aB aK h listed a w→(∀ i v,(i,v)∈aK→i<k)→wpAny P .any all Q' g listed a w)
  (iG:∀ listed,HeadInv .any all k listed→∀ i,i<k→listed.getD i true=false→∀ t,k≤t→t ∉ Region.ready .any all listed):
  ∀ f r aK h listed a w,leftOf k listed=f→HeadInv .any all k listed→l7 n w0 mu all l aB aK h listed a w→(∀ i v,(i,v)∈aK→i<k)→(∀ i∈r,i<k∧listed.getD i true=false∧lk aB i=none)→r.Nodup→jq all r=true→(∀ i,i<k→listed.getD i true=false→(∃ v,lk aB i=some v)∨i∈r) →
   aI h0 h→(listed.getD t0 false=false→aI hp h)→fD P n w0 mu all ds l h0 aB X r aK h→wpAny P .any all Q' (f + g) listed a w:=by
 intro f
 induction f with
 | zero=>
  intro r aK h listed a w hlf inv hm hEk hr hnd dN hcov hle pV hD
  have hall:∀ i,i<k→listed.getD i true=true:=by
   intro i hi
   cases hc:listed.getD i true with
   | true=>rfl
   | false=>
    exfalso
    have:i∈(List.range k).filter fun i=>!listed.getD i true:=List.mem_filter.2 ⟨List.mem_range.2 hi,by simp only [hc,Bool.not_false]⟩
    have h2:=List.length_pos_of_mem this
    unfold leftOf at hlf
    omega
  cases r with
  | nil=>
   rw [Nat.zero_add]
   exact htail aK h listed inv hall hD a w hm hEk
  | cons c r=>
   have h1:=hr c (List.mem_cons_self ..)
   rw [hall c h1.1] at h1
   exact absurd h1.2.1 UA
 | succ f ih=>
  intro r aK h listed a w hlf inv hm hEk hr hnd dN hcov hle pV hD
  rw [show f + 1 + g=(f + g) + 1 by omega]
  have hex:∃ i,i<k∧listed.getD i true=false:=by
   have h2:0<leftOf k listed:=by omega
   obtain ⟨i,hi⟩:=List.exists_mem_of_length_pos h2
   rw [List.mem_filter] at hi
   exact ⟨i,List.mem_range.1 hi.1,by simpa using hi.2⟩
  obtain ⟨i0,gZ,hi0⟩:=hex
  refine ⟨fun hnil=>?_,fun i hi=>?_⟩
  ·exfalso
   obtain ⟨i,⟨hik,hil⟩,hmin⟩:=exists_least (p:=fun i=>i<k∧listed.getD i true=false) ⟨i0,gZ,hi0⟩
   have hr:i∈Region.ready .any all listed:=by
    rw [mem_ready]
    have hs:i<all.size:=by omega
    refine ⟨hil,all[i],by simp [hs],fun e he hb=>?_⟩
    have hb2:=List.all_eq_true.1 hback i (List.mem_range.2 hs)
    simp only [Array.getElem?_eq_getElem hs] at hb2
    have hb3:=(Array.all_eq_true_iff_forall_mem.1 hb2) e he
    simp only [hb,Bool.not_true,Bool.false_or,Nat.blt_eq] at hb3
    cases hc:listed.getD e.on false with
    | true=>rfl
    | false=>
     have h5:=hmin e.on ⟨by omega,getD_in UF hc⟩
     omega
   rw [hnil] at hr;cases hr
  ·have hik:i<k:=by
    rcases Nat.lt_or_ge i k with h | h
    ·exact h
    ·exact absurd hi (iG listed inv i0 gZ hi0 i h)
   obtain ⟨hun,o,ho,hall⟩:=mem_ready.1 hi
   have hsz:i<listed.size:=by rw [inv.size];omega
   have lH:listed.getD i false=false:=getD_both hun
   have hleft:leftOf k (listed.setIfInBounds i true)=f:=by have:=iy hik UF hun;omega
   have hwl:∀ t,Region.waitsFor .any all i t=true→listed.getD t false=true:=fun t ht=>by
    obtain ⟨oj,h6,e,he,hb,heq⟩:=Region.waitsFor_spec ht
    rw [ho] at h6;cases h6
    rw [← heq];exact hall e he hb
   unfold wpOp
   simp only [ho]
   cases oK:lk aB i with
   | some v=>
    obtain ⟨_,o',aU,ho',hmo,hy⟩:=hS i v oK
    rw [ho] at ho';cases ho'
    have hkn:=fM (o:=o) hds hm (aU:=aU) (fun j u hu=>.inr (hmo j u UM)) hall
    have hir:i ∉ r:=fun hm'=>by rw [(hr i hm').2.2] at oK;cases oK
    have hnext:∀ w',Good w0 mu h w'→wpAny P .any all Q' (f + g) (listed.setIfInBounds i true) (a.put o.dst v) w':=fun w' hG'=>by
     refine ih r aK h _ _ _ hleft (inv.set hi hik) (kT hm ho hik hun hsz hd hf hG' (fun j u hu=>(hS j u hu).1) hEk (.inl ⟨oK,rfl⟩)) hEk (fun j hj=>?_) hnd dN (fun j hj hl=>?_) hle (fun ht=>?_) hD
     ·have hji:i ≠ j:=fun e=>hir (e▸hj)
      exact ⟨(hr j hj).1,by rw [getD_set_ne true hji];exact (hr j hj).2.1,(hr j hj).2.2⟩
     ·refine hcov j hj ?_
      by_cases hji:i=j
      ·subst hji;simp [hsz] at hl
      ·rwa [getD_set_ne true hji] at hl
     ·refine pV ?_
      by_cases hji:i=t0
      ·subst hji;exact lH
      ·rwa [getD_set_ne false hji] at ht
    obtain ⟨hx,h3,fH⟩:∃ hx,lg P n w0 mu all (au ds aU o.after.toList++l) hx o v∧hx.Perm h:=by
     cases hwt:Region.waitsFor .any all t0 i with
     | true=>
      have ht0:listed.getD t0 false=false:=by
       cases hc:listed.getD t0 false with
       | false=>rfl
       | true=>
        obtain ⟨oj,h6,e,he,hb,heq⟩:=Region.waitsFor_spec hwt
        have:=inv.closed t0 oj h6 hc e he hb
        rw [heq,lH] at this;cases this
      obtain ⟨x,hxp⟩:=(pV ht0).perm
      have h4:=hy x
      rw [hwt] at h4
      exact ⟨x++hp,h4,List.perm_append_comm.trans hxp⟩
     | false=>
      obtain ⟨x,hxp⟩:=hle.perm
      have h4:=hy x
      rw [hwt] at h4
      exact ⟨x++h0,h4,List.perm_append_comm.trans hxp⟩
    have hgd:Good w0 mu hx w:=hm.good.perm fH
    replace hnext:∀ w',Good w0 mu hx w'→wpAny P .any all Q' (f + g) (listed.setIfInBounds i true) (a.put o.dst v) w':=fun w' hG'=>hnext w' (hG'.perm fH.symm)
    unfold lg at h3
    cases hg:o.guard with
    | none=>
     rw [hg] at h3
     rw [if_pos UG]
     exact .inl (h3 a w hkn hgd _ _ hnext)
    | some jw=>
     obtain ⟨j,want⟩:=jw
     rw [hg] at h3
     obtain ⟨dj,c0,b,u,hj,hb,hdj,hy,hvv⟩:=h3
     have hw:=dO hkn hg hj hb hdj
     cases hc:(c0 && eX b want) with
     | true=>
      rw [hc] at hw hvv
      rw [if_pos hw]
      rw [Bool.and_eq_true] at hc
      rw [show v=u from hvv] at hnext
      exact .inl (hy hc.1 hc.2 a w hkn hgd _ _ hnext)
     | false=>
      rw [hc] at hw hvv
      rw [if_neg UU]
      rw [show v=undef from hvv] at hnext
      exact hnext w hgd
   | none=>
    have hir:i∈r:=by
     rcases hcov i hik hun with ⟨v,hv⟩ | h
     ·rw [oK] at hv;cases hv
     ·exact h
    cases r with
    | nil=>cases hir
    | cons c r=>
     have hic:i=c:=by
      rcases List.mem_cons.1 hir with h | h
      ·exact h
      ·exfalso
       obtain ⟨p,hp⟩:=lQ dN h
       rcases hp with ⟨h1,_,h3⟩ | ⟨_,h3⟩ | ⟨p,h1,h3⟩
       ·have:=(hr p h1).2.1;have h5:=hwl p h3
        rw [getD_both this] at h5;cases h5
       ·exact h3
       ·have:=(hr p h1).2.1;have h5:=hwl p h3
        rw [getD_both this] at h5;cases h5
     subst hic
     rw [List.nodup_cons] at hnd
     have mW:jq all r=true:=by
      cases r with
      | nil=>rfl
      | cons j r=>simp only [jq,Bool.and_eq_true] at dN;exact dN.2
     have hr':∀ j∈r,j<k∧(listed.setIfInBounds i true).getD j true=false∧lk aB j=none:=fun j hj=>by
      have h1:=hr j (List.mem_cons_of_mem _ hj)
      have hji:i ≠ j:=fun e=>hnd.1 (e▸hj)
      exact ⟨h1.1,by rw [getD_set_ne true hji];exact h1.2.1,h1.2.2⟩
     have jZ:∀ j,j<k→(listed.setIfInBounds i true).getD j true=false→(∃ v,lk aB j=some v)∨j∈r:=fun j hj hl=>by
      by_cases hji:i=j
      ·subst hji;simp [hsz] at hl
      ·rw [getD_set_ne true hji] at hl
       rcases hcov j hj hl with h | h
       ·exact .inl h
       ·exact .inr ((List.mem_cons.1 h).resolve_left (Ne.symm hji))
     have hkn:=fM (o:=o) hds hm (aU:=aK++aB) (fun j u hu=>by
      rw [dK,Bc] at hu
      cases hE:lk aK j with
      | some v=>rw [hE] at hu;exact .inl hu
      | none=>rw [hE] at hu;exact .inr hu) hall
     unfold fD at hD
     obtain ⟨o',ho',hD⟩:=hD
     rw [ho] at ho';cases ho'
     rcases hD with ⟨hds',R,⟨hg,hE⟩,hD⟩ | ⟨hdn,h',⟨hg,_,hSt⟩,hle',hD⟩
     ·rw [if_pos (hg _ hkn)]
      refine .inl (hE a w [] hkn (by simpa using hm.good) _ _ fun v hn w' hR hG'=>?_)
      rw [List.nil_append] at hG'
      have hlen:∀ x:Hp,aI x h→aI x (hn++h):=fun x hx=>dQ fun b=>by have:=hx.cnt b;rw [fK];omega
      refine ih r ((i,v)::aK) (hn++h) _ _ _ hleft (inv.set hi hik) (kT hm ho hik hun hsz hd hf hG' (fun j u hu=>(hS j u hu).1) hEk (.inr ⟨oK,rfl⟩)) (fun j u hu=>?_) hr' hnd.2 mW jZ (hlen _ hle) (fun ht=>hlen _ (pV ?_)) (hD v hn hR)
      ·rcases List.mem_cons.1 hu with hu | hu
       ·cases hu;exact hik
       ·exact hEk j u hu
      ·by_cases hji:i=t0
       ·subst hji;exact lH
       ·rwa [getD_set_ne false hji] at ht
     ·rw [if_pos UG]
      refine .inl (hSt a w hkn hm.good _ _ fun w' hG'=>?_)
      have hmc:l7 n w0 mu all l aB aK h' (listed.setIfInBounds i true) a w':=by
       refine ⟨hm.size,hm.defers,hm.has,hG',fun j u hj hl d hdj=>?_,fun j u hj=>⟨getD_set_true (hm.jP j u hj).1,(hm.jP j u hj).2⟩⟩
       have hji:i ≠ j:=fun e=>by subst e;rw [oK] at hj;cases hj
       exact hm.lX j u hj U9 d hdj
      refine ih r aK h' _ _ _ hleft (inv.set hi hik) hmc hEk hr' hnd.2 mW jZ hle' (fun ht=>?_) hD
      exfalso
      rcases oJ i hik (by simp [aA,ho,hdn]) with e | e
      ·subst e
       rw [show (listed.setIfInBounds i true).getD i false=true by simp [hsz]] at ht;cases ht
      ·have:=getD_set_true (i:=i) (hwl t0 e)
       rw [this] at ht;cases ht
theorem Bd {X:Fm→Prop}:∀ (S:List Nat) (iv:Fm),S.Nodup→(∀ i∈S,lk iv i=none)→Uq iv→DS P n w0 mu all ds l h0 hp t0 X S iv →
  (∀ i v,lk iv i=some v→∃ o aU,all[i]?=some o∧iU aU iv∧∀ hx,lg P n w0 mu all (au ds aU o.after.toList++l) (bif Region.waitsFor .any all t0 i then hx++hp else hx++h0) o v) →
  ∃ aB,X aB∧Uq aB∧(∀ i,(∃ v,lk aB i=some v)↔i∈S∨∃ v,lk iv i=some v)∧∀ i v,lk aB i=some v→∃ o aU,all[i]?=some o∧iU aU aB∧∀ hx,lg P n w0 mu all (au ds aU o.after.toList++l) (bif Region.waitsFor .any all t0 i then hx++hp else hx++h0) o v:=by
 intro S
 induction S with
 | nil=>intro iv _ _ hu h hs;exact ⟨iv,h,hu,fun i=>by simp,hs⟩
 | cons i S ih=>
  rintro iv hnd hno hu ⟨o,v,ho,hy,h⟩ hs
  rw [List.nodup_cons] at hnd
  have hi:=hno i (List.mem_cons_self ..)
  obtain ⟨aB,hX,hu2,hk,hs2⟩:=ih ((i,v)::iv) hnd.2 (fun j hj=>by rw [bF,if_neg U1];exact hno j (List.mem_cons_of_mem _ hj)) (xE hi hu) h (fun j u hj=>by
   rw [bF] at hj
   by_cases hij:i=j
   ·subst hij
    rw [if_pos rfl] at hj
    cases hj
    exact ⟨o,iv,ho,iL hi,hy⟩
   ·rw [if_neg hij] at hj
    obtain ⟨o',aU,h1,h2,h3⟩:=hs j u hj
    exact ⟨o',aU,h1,fun a b hab=>iL hi a b (h2 a b hab),h3⟩)
  refine ⟨aB,hX,hu2,fun j=>?_,hs2⟩
  rw [hk,List.mem_cons,bF]
  by_cases hij:i=j
  ·subst hij;simp
  ·rw [if_neg hij];simp [Ne.symm hij]
theorem HY {ops:List Oper} (k t0:Nat) (S C:List Nat) (h0:Hp) (hB:qZ ops.toArray n k t0 S C=true) (hf:aS l (dstsOf ops.toArray k)=true) (hle0:aI h0 hp) (hds:aY ops 0=ds)
  (h:DS P n w0 mu ops.toArray ds l h0 hp t0 (fun aB=>fD P n w0 mu ops.toArray ds l h0 aB (fun aK hc=>Ops P n w0 mu ops.toArray (ops.drop k) (aO ds (aK++aB)++l) hc Q) C [] hp) S []):iV P n w0 mu ops.toArray l hp Q:=by
 intro a w hk hG
 simp only [qZ,Bool.and_eq_true] at hB
 obtain ⟨⟨⟨⟨⟨hd,hback⟩,mX⟩,dN⟩,dU⟩,oJ⟩:=hB
 simp only [lN,Bool.and_eq_true,decide_eq_true_eq] at mX
 obtain ⟨⟨hnd,hlt⟩,hcov⟩:=mX
 have hlt':∀ i∈S++C,i<k:=fun i hi=>by have:=List.all_eq_true.1 hlt i hi;simpa using this
 rw [List.nodup_append] at hnd
 obtain ⟨uC,xR,QK⟩:=hnd
 obtain ⟨aB,hX,GG,lV,hsS⟩:=Bd S [] uC (fun _ _=>rfl) (fun _ _ h=>by cases h) h (fun i v hv=>by cases hv)
 simp only [lk,reduceCtorEq,exists_false,or_false] at lV
 have hks:k≤ops.toArray.size:=by
  simp only [mV,Bool.or_eq_true,Bool.and_eq_true,decide_eq_true_eq] at dU
  rcases dU with h | h<;>omega
 have jg:∀ i d,lk ds i=some d→aA ops.toArray i=some d:=fun i d h=>by rw [← hds] at h;have:=(fV ops 0 i d h).2;simpa [aA] using this
 have inv0:HeadInv .any ops.toArray k (Array.replicate ops.toArray.size false):=
  ⟨by simp,fun j oj _ hl=>UD,fun t _ ht=>getD_in U7 (getD_replicate_false _ _)⟩
 have xU:∀ i,i<k→(Array.replicate ops.toArray.size false).getD i true=false:=fun i hi=>getD_in U8 (getD_replicate_false _ _)
 have hleft:leftOf k (Array.replicate ops.toArray.size false)=k:=by
  unfold leftOf
  rw [List.filter_eq_self.2]
  ·simp
  ·intro i hi
   simp only [xU i U0,Bool.not_false]
 have key:=wI jg (P:=P) (n:=n) (w0:=w0) (mu:=mu) (l:=l) (hp:=hp) (h0:=h0) (all:=ops.toArray) (aB:=aB) (k:=k) (t0:=t0) (g:=ops.toArray.size - k) (Q':=QQ n w0 mu Q) (X:=fun aK hc=>Ops P n w0 mu ops.toArray (ops.drop k) (aO ds (aK++aB)++l) hc Q) hks hd hf hback hle0
  (fun i hi hdn=>by
   have:=List.all_eq_true.1 oJ i (List.mem_range.2 hi)
   rw [hdn] at this
   simp only [Option.isSome_none,Bool.false_or,Bool.or_eq_true] at this
   rcases this with h | h
   ·exact .inl (Nat.eq_of_beq_eq_true h)
   ·exact .inr h)
  (fun i v hv=>⟨hlt' i (List.mem_append_left _ ((lV i).1 ⟨v,hv⟩)),hsS i v hv⟩)
  (fun aK h listed inv hall hX a w hmid hEk=>by
   have lS:Knows n (aO ds (aK++aB)++l) a:=by
    refine ⟨hmid.size,hmid.defers,fun t v ht=>?_⟩
    rcases bI ht with ht | ⟨_,ht⟩
    ·obtain ⟨j,h1,h2⟩:=eP (dF ht)
     rcases List.mem_append.1 h1 with h1 | h1
     ·exact (hmid.jP j v h1).2 t (jg _ _ h2)
     ·have hj:=GG j v h1
      have hjk:=hlt' j (List.mem_append_left _ ((lV j).1 ⟨v,hj⟩))
      refine hmid.lX j v hj ?_ t (jg _ _ h2)
      have h5:=hall j hjk
      cases hcc:listed.getD j false with
      | true=>rfl
      | false=>rw [getD_in UF hcc] at h5;cases h5
    ·exact hmid.has t v ht
   have hfin:=hX a w lS hmid.good
   simp only [mV,Bool.or_eq_true,Bool.and_eq_true,decide_eq_true_eq] at dU
   rcases dU with zn | ⟨⟨⟨oI,hs⟩,hc⟩,hseq⟩
   ·have e0:ops.drop k=[]:=List.drop_eq_nil_of_le (by simp at zn;omega)
    rw [e0] at hfin
    rw [show ops.toArray.size - k=0 by omega]
    refine ⟨?_,hfin⟩
    rw [List.eq_nil_iff_forall_not_mem]
    intro i hi
    obtain ⟨hun,o,ho,_⟩:=mem_ready.1 hi
    have hi':i<k:=by rw [zn];exact (Array.getElem?_eq_some_iff.1 ho).1
    rw [hall i hi'] at hun;cases hun
   ·have hl:listed=(Array.replicate k true)++(Array.replicate (ops.toArray.size - k) false):=by
     apply Array.ext
     ·simp [inv.size];simp at oI;omega
     ·intro i h1 h2
      by_cases hi:i<k
      ·have:=hall i hi
       simp [h1] at this
       rw [Array.getElem_append_left U0]
       simpa using this
      ·have h3:=inv.tail i Uz UZ
       simp [h1] at h3
       rw [Array.getElem_append_right UJ]
       simpa using h3
    have hdl:(ops.drop k).length=ops.toArray.size - k:=by simp
    rw [← hdl]
    exact wpAny_of_seq (ops.drop k) k listed a w (fun j=>by simp) U6 hfin)
  (fun listed inv i hi hun t ht=>by
   simp only [mV,Bool.or_eq_true,Bool.and_eq_true,decide_eq_true_eq] at dU
   rcases dU with h | ⟨⟨⟨oI,hs⟩,hc⟩,hseq⟩
   ·intro hr
    obtain ⟨_,o,ho,_⟩:=mem_ready.1 hr
    have:=(Array.getElem?_eq_some_iff.1 ho).1
    omega
   ·exact tail_waits hs hc oI inv _ i rfl hi hun t ht)
  k C [] hp _ a { w with drawn:=w.drawn + 1 } hleft inv0 ⟨hk.size,hk.defers,hk.has,hG.drawn _,fun i v _ hl=>UD,fun i v hv=>by cases hv⟩ (fun i v hv=>by cases hv)
  (fun i hi=>⟨hlt' i (List.mem_append_right _ hi),xU i (hlt' i (List.mem_append_right _ hi)),by
   cases hv:lk aB i with
   | none=>rfl
   | some v=>exact absurd rfl (QK i ((lV i).1 ⟨v,hv⟩) i hi)⟩) xR dN
  (fun i hi _=>by
   have:=bC (List.all_eq_true.1 hcov i (List.mem_range.2 hi))
   rcases List.mem_append.1 this with h | h
   ·exact .inl ((lV i).2 h)
   ·exact .inr h) hle0 (fun _=>aI.refl _) hX
 have e:k + (ops.toArray.size - k)=ops.toArray.size:=by omega
 rw [e] at key
 exact key
end
attribute [local irreducible] Hy St Ops DH fE iK iE fU
section
variable {P : Program} {n : Nat} {w0 : World} {mu : List Nat} {l lf : Fm} {h0 hp hc : Hp} {Q : Exit → Fm → Hp → Prop} {all : Array Oper} {aB iv aK : Fm} {k t0 i d : Nat} {ds : List (Nat × Nat)} {S r : List Nat} {X : Fm → Prop} {Y : Fm → Hp → Prop} {op : Op} {ty : TypeId} {pos : String} {af : Array Edge} {v : Value}
theorem NL (h:X iv):DS P n w0 mu all ds l h0 hp t0 X [] iv:=h
theorem PK (ho:all[i]?=some ⟨some d,op,ty,pos,af,none⟩) (hwt:Region.waitsFor .any all t0 i=true) (hy:∀ hx,Hy P n w0 mu (au ds iv af.toList++l) (hx++hp) ⟨some d,op,ty,pos,af,none⟩ v) (h:DS P n w0 mu all ds l h0 hp t0 X S ((i,v)::iv)):DS P n w0 mu all ds l h0 hp t0 X (i::S) iv:=⟨_,v,ho,fun hx=>by rw [hwt];exact hy hx,h⟩
theorem QL (ho:all[i]?=some ⟨some d,op,ty,pos,af,none⟩) (hwt:Region.waitsFor .any all t0 i=false) (hy:∀ hx,Hy P n w0 mu (au ds iv af.toList++l) (hx++h0) ⟨some d,op,ty,pos,af,none⟩ v) (h:DS P n w0 mu all ds l h0 hp t0 X S ((i,v)::iv)):DS P n w0 mu all ds l h0 hp t0 X (i::S) iv:=⟨_,v,ho,fun hx=>by rw [hwt];exact hy hx,h⟩
theorem bf (h:Y aK hc):fD P n w0 mu all ds l h0 aB Y [] aK hc:=h
theorem PL {R:RT} {gg:Option (Nat × Bool)} (ho:all[i]?=some ⟨some d,op,ty,pos,af,gg⟩) (he:xC P n w0 mu all (au ds (aK++aB) af.toList++l) hc ⟨some d,op,ty,pos,af,gg⟩ R) (h:∀ v hn,R v hn→fD P n w0 mu all ds l h0 aB Y r ((i,v)::aK) (hn++hc)):fD P n w0 mu all ds l h0 aB Y (i::r) aK hc:=⟨_,ho,.inl ⟨rfl,R,he,h⟩⟩
theorem NM {o:Oper} (hg:o.guard=none) (hy:∀ hx,Hy P n w0 mu lf (hx++hp) o v):xC P n w0 mu all lf hp o (fun u hn=>u=v∧hn=[]):=
 ⟨fun a _=>by simp [Region.wanted,hg],fun a w hx hk hG K Q hK=>by
  have:=hy hx
  unfold Hy at this
  exact this a w hk hG K Q fun w' hG'=>hK v [] w' ⟨rfl,rfl⟩ hG'⟩
theorem PM (ho:all[i]?=some ⟨some d,op,ty,pos,af,none⟩) (hy:∀ hx,Hy P n w0 mu (au ds (aK++aB) af.toList++l) (hx++hc) ⟨some d,op,ty,pos,af,none⟩ v) (h:fD P n w0 mu all ds l h0 aB Y r ((i,v)::aK) hc):fD P n w0 mu all ds l h0 aB Y (i::r) aK hc:=
 PL ho (NM rfl hy) (by rintro _ _ ⟨rfl,rfl⟩;exact h)
theorem PN {T:Tab} (ok:aJ P T) {t:TypeId} {x y:Operand} {b off sz:Nat} {vs:List Value} {cs cs':Array Value} {tb:TypeId} {hp':Hp} (ho:all[i]?=some ⟨none,.store t x y,ty,pos,af,none⟩)
  (hx:ev (au ds (aK++aB) af.toList++l) x=some (.pointer (some ⟨b,off,none⟩))) (hy:ev (au ds (aK++aB) af.toList++l) y=some v) (qF:v.cells=vs.toArray) (hs:lk T.sz t=some sz) (hl:vs.length=sz) (hperm:(⟨b,cs,tb⟩::hp').Perm hc) (hv1:vs.all (·.oneCell')=true) (hlt:off + vs.length≤cs.size) (hput:putAt cs off vs=cs')
  (hle:aI h0 (⟨b,cs',tb⟩::hp')) (h:fD P n w0 mu all ds l h0 aB Y r aK (⟨b,cs',tb⟩::hp')):fD P n w0 mu all ds l h0 aB Y (i::r) aK hc:=by
 refine ⟨_,ho,.inr ⟨rfl,⟨b,cs',tb⟩::hp',⟨rfl,rfl,fun a w hk hG K Q' hK=>?_⟩,hle,h⟩⟩
 subst hput
 have hG':=hG.perm hperm
 have hb:=hG'.here _ (List.mem_cons_self ..)
 have hst:=run_storeCells_cells (P:=P) b off vs 0 w
  (fun j hj=>by rw [cell_of_block hb];simp [show off + j<cs.size by omega])
  (fun j _=>gI hb) (fun u hu=>(List.all_eq_true.1 hv1) u hu)
 unfold Oper.wp
 have hrun:(execOp a.eval ⟨none,.store t x y,ty,pos,af,none⟩).run P w=.ok .skip (w.setCells b off vs):=by
  simp only [execOp,hk.ev hx,hk.ev hy]
  simp only [Nat.add_zero] at hst
  simp [Instr.storeAt,Instr.sureAddr,storeVar,qF,run_sizeOf (show bU P t=some vs.length by rw [hl];exact ok.rH hs) w,hst]
 rw [hrun]
 exact hK _ (Good.sets (w:=w) vs cs off w hG')
end
section
variable {n : Nat} {w0 : World} {mu : List Nat} {l lf : Fm} {h0 hp hc : Hp} {Q : Exit → Fm → Hp → Prop} {all : Array Oper} {aB iv aK : Fm} {k t0 i d : Nat} {ds : List (Nat × Nat)} {S r : List Nat} {X : Fm → Prop} {Y : Fm → Hp → Prop} {op : Op} {ty : TypeId} {pos : String} {af : Array Edge} {v : Value}
theorem eG {id:Nat} {ops tl:List Oper} (k t0:Nat) (S C:List Nat) (h0:Hp) (h:DS Tryz.prog n w0 mu ops.toArray ds l h0 hp t0 (fun aB=>fD Tryz.prog n w0 mu ops.toArray ds l h0 aB (fun aK hc=>Ops Tryz.prog n w0 mu ops.toArray tl (aO ds (aK++aB)++l) hc Q) C [] hp) S [])
  (hle0:aI h0 hp:=by (exact ak)) (hds:aY ops 0=ds:=by (simp only [aY,Nat.reduceAdd,Nat.zero_add];rfl)) (htl:ops.drop k=tl:=by (simp only [List.drop_succ_cons,List.drop_zero,List.drop_nil];rfl)) (hm:Tryz.prog.follows .mixedOrders=true:=by kernel_rfl) (hB:qZ ops.toArray n k t0 S C=true:=by decide +kernel) (hf:aS l (dstsOf ops.toArray k)=true:=by rfl):St Tryz.prog n w0 mu (.region id ops.toArray true) l hp Q:=
 oH hm (HY k t0 S C h0 hB hf hle0 hds Vb)
theorem dV {G R:Prop} (k:R) (h:nX R→G:=by (intro iD;(repeat (first | (with_reducible apply NL) | ((with_reducible apply PK);rfl;decide +kernel;(intro Nz;(first | exact FD))) | ((with_reducible apply QL);rfl;decide +kernel;(intro Nz;(first | exact FD)))));exact iD.get)):G:=h ⟨k⟩
theorem NP {t len e sz:Nat} {z:Value} {ps:List (Nat × Operand)} {vs:List (Nat × Value)} {zl:List Value} {out:Array Value} (out':List Value) (h:∀ b,fD Tryz.prog n w0 mu all ds l h0 aB Y r ((i,.slice (some ⟨b,0,none⟩) len len)::aK) (⟨b,out'.toArray,e⟩::hc)) (ho:all[i]?=some ⟨some d,.buildSlice t len ps.toArray,ty,pos,af,none⟩:=by rfl) (ht:lk Tb.sl t=some (e,sz):=by rfl) (hz:lk Tb.zs e=some z:=by rfl) (hzc:z.cells=zl.toArray:=by (first | ((simp only [Value.cells])<;>rfl) | rfl)) (hzs:Nat.beq zl.length sz=true:=by rfl) (hpos:(Nat.blt 0 (len * sz) && Nat.ble (len * sz) 16777216)=true:=by rfl) (hv:yO (au ds (aK++aB) af.toList++l) ps=some vs:=by rfl) (hf:Nk sz (rep zl len).toArray vs=some out:=by rfl) (hn:out=out'.toArray:=by rfl):fD Tryz.prog n w0 mu all ds l h0 aB Y (i::r) aK hc:=
 PL ho (wG aj ht hz hzc hzs hpos hv hf hn) (by rintro _ _ ⟨b,rfl,rfl⟩;exact h b)
theorem H6 (hy:∀ hx,Hy Tryz.prog n w0 mu (au ds (aK++aB) af.toList++l) (hx++hc) ⟨some d,op,ty,pos,af,none⟩ v) (h:fD Tryz.prog n w0 mu all ds l h0 aB Y r ((i,v)::aK) hc) (ho:all[i]?=some ⟨some d,op,ty,pos,af,none⟩:=by rfl):fD Tryz.prog n w0 mu all ds l h0 aB Y (i::r) aK hc:=PM ho hy h
theorem aN {t:TypeId} {x y:Operand} {b off sz:Nat} {vs:List Value} {cs cs':Array Value} {tb:TypeId} {hp':Hp} (h:fD Tryz.prog n w0 mu all ds l h0 aB Y r aK (⟨b,cs',tb⟩::hp')) (hperm:(⟨b,cs,tb⟩::hp').Perm hc) (ho:all[i]?=some ⟨none,.store t x y,ty,pos,af,none⟩:=by rfl)
  (hx:ev (au ds (aK++aB) af.toList++l) x=some (.pointer (some ⟨b,off,none⟩)):=by rfl) (hy:ev (au ds (aK++aB) af.toList++l) y=some v:=by rfl) (qF:v.cells=vs.toArray:=by (first | ((simp only [Value.cells])<;>rfl) | rfl)) (hs:lk Tb.sz t=some sz:=by rfl) (hl:vs.length=sz:=by rfl) (hv1:vs.all (·.oneCell')=true:=by first | rfl | (focus (simp;done))) (hlt:off + vs.length≤cs.size:=by first | omega | (focus (simp;done)) | (focus (simp;omega))) (hput:putAt cs off vs=cs':=by (first | ((simp only [putAt,Value.cells,List.toList_toArray,List.setIfInBounds_toArray,List.set_cons_zero,List.set_cons_succ,List.drop_succ_cons,List.drop_zero,List.take_succ_cons,List.take_zero,List.cons_append,List.nil_append,List.append_nil])<;>rfl) | rfl))
  (hle:aI h0 (⟨b,cs',tb⟩::hp'):=by (exact ak)):fD Tryz.prog n w0 mu all ds l h0 aB Y (i::r) aK hc:=PN aj ho hx hy qF hs hl hperm hv1 hlt hput hle h
theorem dY {rest:List Oper} {fr:Fm} (h:Ops Tryz.prog n w0 mu all rest (fr++l) hc Q) (hfr:aO ds iv=fr:=by (simp only [aO,bF,List.cons_append,List.nil_append,reduceIte,Nat.reduceEqDiff];rfl)):Ops Tryz.prog n w0 mu all rest (aO ds iv++l) hc Q:=by rw [hfr];exact h
end
end
section
def Em:List (Nat × Value × Hp)→Hp
 | []=>[]
 | p::r=>p.2.2++Em r
def L8:List (Nat × Value × Hp)→Fm
 | []=>[]
 | p::r=>(p.1,p.2.1)::L8 r
theorem CX:∀ {Dn:List (Nat × Value × Hp)} {i:Nat} {v:Value},(i,v)∈L8 Dn↔∃ hn,(i,v,hn)∈Dn:=by
 intro Dn
 induction Dn with
 | nil=>intro i v;simp [L8]
 | cons p r ih=>
  intro i v
  obtain ⟨j,u,hu⟩:=p
  simp only [L8,List.mem_cons,ih]
  constructor
  ·rintro (h | ⟨hn,h⟩)
   ·cases h;exact ⟨hu,.inl rfl⟩
   ·exact ⟨hn,.inr h⟩
  ·rintro ⟨hn,h | h⟩
   ·cases h;exact .inl rfl
   ·exact .inr ⟨hn,h⟩
theorem fO {listed:Array Bool} {i j:Nat} (h:listed.getD j true=true):(listed.setIfInBounds i true).getD j true=true:=by
 by_cases hij:i=j
 ·subst hij
  simp only [Array.getD_eq_getD_getElem?,Array.getElem?_setIfInBounds] at h ⊢
  simp
  split<;>simp
 ·rw [getD_set_ne true hij];exact h
section
variable {P : Program} {n : Nat} {w0 : World} {mu : List Nat} {l : Fm} {h0 hp : Hp} {Q : Exit → Fm → Hp → Prop} {all : Array Oper} {aB : Fm} {k t0 : Nat} {ds : List (Nat × Nat)}
theorem NQ (hds:∀ k d,lk ds k=some d→aA all k=some d) {g:Nat} {Q':Exit→Act→World→Prop} (hk:k≤all.size) (hd:lW all k n=true) (hf:aS l (dstsOf all k)=true) (hback:jl all=true) (hle0:aI h0 hp)
  (hS:∀ i v,lk aB i=some v→i<k∧∃ o aU,all[i]?=some o∧iU aU aB∧∀ hx,lg P n w0 mu all (au ds aU o.after.toList++l) (bif Region.waitsFor .any all t0 i then hx++hp else hx++h0) o v)
  {E C:List Nat} {Rf:Nat→RT}
  (hE:∀ i∈E,i<k∧lk aB i=none∧∃ o,all[i]?=some o∧xC P n w0 mu all (au ds aB o.after.toList++l) hp o (Rf i))
  (uD:E.Nodup) (hCS:∀ i∈C,∀ {v:Value},lk aB i ≠ some v) (QM:∀ i∈E,i ∉ C)
  (hcov:∀ i,i<k→(∃ v,lk aB i=some v)∨i∈E∨i∈C)
  (QN:∀ i∈C,∀ listed,i∈Region.ready .any all listed→(∀ j∈C,listed.getD j true=false)→∀ j∈E,listed.getD j false=true)
  (iG:∀ listed,HeadInv .any all k listed→∀ i,i<k→listed.getD i true=false→∀ t,k≤t→t ∉ Region.ready .any all listed)
  (cont:∀ f Dn listed a w,leftOf k listed=f→HeadInv .any all k listed→((Dn.map (·.1)).Perm E)→(∀ p∈Dn,Rf p.1 p.2.1 p.2.2)→l7 n w0 mu all l aB (L8 Dn) (Em Dn++hp) listed a w→(∀ i∈E,listed.getD i true=true)→(∀ i∈C,listed.getD i true=false)→wpAny P .any all Q' (f + g) listed a w):
  ∀ f E' Dn listed a w,leftOf k listed=f→HeadInv .any all k listed→((Dn.map (·.1))++E').Perm E→(∀ p∈Dn,Rf p.1 p.2.1 p.2.2)→l7 n w0 mu all l aB (L8 Dn) (Em Dn++hp) listed a w→(∀ p∈Dn,listed.getD p.1 true=true)→(∀ i∈E',listed.getD i true=false)→(∀ i∈C,listed.getD i true=false)→wpAny P .any all Q' (f + g) listed a w:=by
 intro f
 induction f with
 | zero=>
  intro E' Dn listed a w hlf inv fH hR hm hDl hEl H7
  cases E' with
  | nil=>
   rw [List.append_nil] at fH
   exact cont 0 Dn listed a w hlf inv fH hR hm (fun i hi=>by
    obtain ⟨p,hp1,rfl⟩:=List.mem_map.1 (fH.mem_iff.2 hi)
    exact hDl p hp1) H7
  | cons c r=>
   exfalso
   have hcE:c∈E:=fH.mem_iff.1 (List.mem_append_right _ (List.mem_cons_self ..))
   have h1:=(hE c hcE).1
   have:c∈(List.range k).filter fun i=>!listed.getD i true:=List.mem_filter.2 ⟨List.mem_range.2 h1,by simp only [hEl c (List.mem_cons_self ..),Bool.not_false]⟩
   have h2:=List.length_pos_of_mem this
   unfold leftOf at hlf
   omega
 | succ f ih=>
  intro E' Dn listed a w hlf inv fH hR hm hDl hEl H7
  cases E' with
  | nil=>
   rw [List.append_nil] at fH
   exact cont (f + 1) Dn listed a w hlf inv fH hR hm (fun i hi=>by
    obtain ⟨p,hp1,rfl⟩:=List.mem_map.1 (fH.mem_iff.2 hi)
    exact hDl p hp1) H7
  | cons c r=>
  generalize hEE:c::r=E' at fH hEl
  have hcE':c∈E':=by rw [← hEE];exact List.mem_cons_self ..
  have hcE:c∈E:=fH.mem_iff.1 (List.mem_append_right _ hcE')
  have hEk:∀ i v,(i,v)∈L8 Dn→i<k:=fun i v hiv=>by
   obtain ⟨hn,h1⟩:=CX.1 hiv
   exact (hE i (fH.mem_iff.1 (List.mem_append_left _ (List.mem_map.2 ⟨_,h1,rfl⟩)))).1
  have QO:aI hp (Em Dn++hp):=aI.right _ _
  have PO:aI h0 (Em Dn++hp):=dQ fun b=>by have:=hle0.cnt b;rw [fK];omega
  rw [show f + 1 + g=(f + g) + 1 by omega]
  obtain ⟨i0,gZ,hi0⟩:∃ i,i<k∧listed.getD i true=false:=⟨c,(hE c hcE).1,hEl c hcE'⟩
  refine ⟨fun hnil=>?_,fun i hi=>?_⟩
  ·exfalso
   obtain ⟨i,⟨hik,hil⟩,hmin⟩:=exists_least (p:=fun i=>i<k∧listed.getD i true=false) ⟨i0,gZ,hi0⟩
   have hr:i∈Region.ready .any all listed:=by
    rw [mem_ready]
    have hs:i<all.size:=by omega
    refine ⟨hil,all[i],by simp [hs],fun e he hb=>?_⟩
    have hb2:=List.all_eq_true.1 hback i (List.mem_range.2 hs)
    simp only [Array.getElem?_eq_getElem hs] at hb2
    have hb3:=(Array.all_eq_true_iff_forall_mem.1 hb2) e he
    simp only [hb,Bool.not_true,Bool.false_or,Nat.blt_eq] at hb3
    cases hc:listed.getD e.on false with
    | true=>rfl
    | false=>
     have h5:=hmin e.on ⟨by omega,getD_in UF hc⟩
     omega
   rw [hnil] at hr;cases hr
  ·have hik:i<k:=by
    rcases Nat.lt_or_ge i k with h | h
    ·exact h
    ·exact absurd hi (iG listed inv i0 gZ hi0 i h)
   obtain ⟨hun,o,ho,hall⟩:=mem_ready.1 hi
   have hsz:i<listed.size:=by rw [inv.size];omega
   have lH:listed.getD i false=false:=getD_both hun
   have hleft:leftOf k (listed.setIfInBounds i true)=f:=by have:=iy hik UF hun;omega
   have hwl:∀ t,Region.waitsFor .any all i t=true→listed.getD t false=true:=fun t ht=>by
    obtain ⟨oj,h6,e,he,hb,heq⟩:=Region.waitsFor_spec ht
    rw [ho] at h6;cases h6
    rw [← heq];exact hall e he hb
   unfold wpOp
   simp only [ho]
   cases oK:lk aB i with
   | some v=>
    obtain ⟨_,o',aU,ho',hmo,hy⟩:=hS i v oK
    rw [ho] at ho';cases ho'
    have hkn:=fM (o:=o) hds hm (aU:=aU) (fun j u hu=>.inr (hmo j u UM)) hall
    have PR:i ∉ E:=fun hm'=>by rw [(hE i hm').2.1] at oK;cases oK
    have hnext:∀ w',Good w0 mu (Em Dn++hp) w'→wpAny P .any all Q' (f + g) (listed.setIfInBounds i true) (a.put o.dst v) w':=fun w' hG'=>by
     refine ih E' Dn _ _ _ hleft (inv.set hi hik) fH hR (kT hm ho hik hun hsz hd hf hG' (fun j u hu=>(hS j u hu).1) hEk (.inl ⟨oK,rfl⟩)) (fun p hp1=>fO (hDl p hp1)) (fun j hj=>?_) (fun j hj=>?_)
     ·have hji:i ≠ j:=fun e=>PR (by rw [e];exact fH.mem_iff.1 (List.mem_append_right _ hj))
      rw [getD_set_ne true hji];exact hEl j hj
     ·have hji:i ≠ j:=fun e=>by subst e;exact hCS _ hj oK
      rw [getD_set_ne true hji];exact H7 j hj
    obtain ⟨hx,h3,fH⟩:∃ hx,lg P n w0 mu all (au ds aU o.after.toList++l) hx o v∧hx.Perm (Em Dn++hp):=by
     cases hwt:Region.waitsFor .any all t0 i with
     | true=>
      have ht0:listed.getD t0 false=false:=by
       cases hc:listed.getD t0 false with
       | false=>rfl
       | true=>
        obtain ⟨oj,h6,e,he,hb,heq⟩:=Region.waitsFor_spec hwt
        have:=inv.closed t0 oj h6 hc e he hb
        rw [heq,lH] at this;cases this
      obtain ⟨x,hxp⟩:=QO.perm
      have h4:=hy x
      rw [hwt] at h4
      exact ⟨x++hp,h4,List.perm_append_comm.trans hxp⟩
     | false=>
      obtain ⟨x,hxp⟩:=PO.perm
      have h4:=hy x
      rw [hwt] at h4
      exact ⟨x++h0,h4,List.perm_append_comm.trans hxp⟩
    have hgd:Good w0 mu hx w:=hm.good.perm fH
    replace hnext:∀ w',Good w0 mu hx w'→wpAny P .any all Q' (f + g) (listed.setIfInBounds i true) (a.put o.dst v) w':=fun w' hG'=>hnext w' (hG'.perm fH.symm)
    unfold lg at h3
    cases hg:o.guard with
    | none=>
     rw [hg] at h3
     rw [if_pos UG]
     exact .inl (h3 a w hkn hgd _ _ hnext)
    | some jw=>
     obtain ⟨j,want⟩:=jw
     rw [hg] at h3
     obtain ⟨dj,c0,b,u,hj,hb,hdj,hy,hvv⟩:=h3
     have hw:=dO hkn hg hj hb hdj
     cases hc:(c0 && eX b want) with
     | true=>
      rw [hc] at hw hvv
      rw [if_pos hw]
      rw [Bool.and_eq_true] at hc
      rw [show v=u from hvv] at hnext
      exact .inl (hy hc.1 hc.2 a w hkn hgd _ _ hnext)
     | false=>
      rw [hc] at hw hvv
      rw [if_neg UU]
      rw [show v=undef from hvv] at hnext
      exact hnext w hgd
   | none=>
    rcases (hcov i hik).resolve_left (fun ⟨v,hv⟩=>by rw [oK] at hv;cases hv) with PR | TE
    ·have QS:i∈E':=by
      rcases List.mem_append.1 (fH.mem_iff.2 PR) with h | h
      ·obtain ⟨p,hp1,rfl⟩:=List.mem_map.1 h
       rw [hDl p hp1] at hun;cases hun
      ·exact h
     obtain ⟨_,_,o',ho',hg,TF⟩:=hE i PR
     rw [ho] at ho';cases ho'
     have hkn:=fM (o:=o) hds hm (aU:=aB) (fun j u hu=>.inr UM) hall
     rw [if_pos (hg _ hkn)]
     refine .inl (TF a w (Em Dn) hkn hm.good _ _ fun v hn w' hRi hG'=>?_)
     obtain ⟨s,t,hst⟩:=List.append_of_mem QS
     have PS:(((i,v,hn)::Dn).map (·.1)++(s++t)).Perm E:=by
      refine List.Perm.trans ?_ fH
      rw [hst,List.map_cons,List.cons_append,← List.append_assoc,← List.append_assoc]
      exact List.perm_middle.symm
     have hnd':i ∉ s++t:=fun hm'=>by
      have h5:=fH.nodup_iff.2 uD
      rw [List.nodup_append] at h5
      have h6:=h5.2.1
      rw [hst] at h6
      have h7:=(List.perm_middle (a:=i) (l₁:=s) (l₂:=t)).nodup_iff.1 h6
      exact (List.nodup_cons.1 h7).1 hm'
     refine ih (s++t) ((i,v,hn)::Dn) _ _ _ hleft (inv.set hi hik) PS (fun p hp1=>?_) (kT (zk:=(i,v)::L8 Dn) hm ho hik hun hsz hd hf (by rw [Em,List.append_assoc];exact hG') (fun j u hu=>(hS j u hu).1) hEk (.inr ⟨oK,rfl⟩)) (fun p hp1=>?_) (fun j hj=>?_) (fun j hj=>?_)
     ·rcases List.mem_cons.1 hp1 with rfl | hp1
      ·exact hRi
      ·exact hR p hp1
     ·rcases List.mem_cons.1 hp1 with rfl | hp1
      ·simp [hsz]
      ·exact fO (hDl p hp1)
     ·have hji:i ≠ j:=fun e=>hnd' (e▸hj)
      rw [getD_set_ne true hji]
      refine hEl j ?_
      rw [hst]
      rcases List.mem_append.1 hj with h | h
      ·exact List.mem_append_left _ h
      ·exact List.mem_append_right _ (List.mem_cons_of_mem _ h)
     ·have hji:i ≠ j:=fun e=>by subst e;exact QM _ PR hj
      rw [getD_set_ne true hji];exact H7 j hj
    ·exfalso
     have h5:=QN i TE listed hi H7 c hcE
     rw [getD_both (hEl c hcE')] at h5;cases h5
theorem Ku:∀ (Dn:List (Nat × Value × Hp)) (c:Ch),(∀ p∈Dn,c p.1=p.2)→Em Dn=AV c (Dn.map (·.1)):=by
 intro Dn
 induction Dn with
 | nil=>intro c _;rfl
 | cons p r ih=>
  intro c h
  rw [Em,List.map_cons,AV,ih c (fun q hq=>h q (List.mem_cons_of_mem _ hq)),h p (List.mem_cons_self ..)]
theorem H8 {c:Ch} {L M:List Nat} (h:L.Perm M):(AV c L).Perm (AV c M):=by
 induction h with
 | nil=>exact .refl _
 | cons x _ ih=>exact List.Perm.append_left _ ih
 | swap x y l=>
  simp only [AV]
  rw [← List.append_assoc,← List.append_assoc]
  exact List.Perm.append_right _ List.perm_append_comm
 | trans _ _ h1 h2=>exact h1.trans h2
def xW (ops:Array Oper) (n k t0:Nat) (S E C:List Nat):Bool:=
 lW ops k n && jl ops && lN k S (E++C) && jq ops C && (match C with | []=>true | c::_=>E.all fun j=>Region.waitsFor .any ops c j) && mV ops k && (List.range k).all fun i=>(aA ops i).isSome || Nat.beq i t0 || Region.waitsFor .any ops i t0
def H9 (Dn:List (Nat × Value × Hp)):Ch:=fun i=>match lk Dn i with | some x=>x | none=>(undef,[])
theorem Kv:∀ {Dn:List (Nat × Value × Hp)},(Dn.map (·.1)).Nodup→∀ p∈Dn,H9 Dn p.1=p.2:=by
 intro Dn
 induction Dn with
 | nil=>intro _ p h;cases h
 | cons q r ih=>
  intro hnd p hp
  rw [List.map_cons,List.nodup_cons] at hnd
  unfold H9
  obtain ⟨j,x⟩:=q
  rw [bF]
  rcases List.mem_cons.1 hp with rfl | hp
  ·simp
  ·have hne:j ≠ p.1:=fun e=>hnd.1 (by simp only at e ⊢;rw [e];exact List.mem_map.2 ⟨p,hp,rfl⟩)
   rw [if_neg hne]
   exact ih hnd.2 p hp
theorem En {ops:List Oper} (k t0:Nat) (S E C:List Nat) (h0:Hp) (hB:xW ops.toArray n k t0 S E C=true) (hf:aS l (dstsOf ops.toArray k)=true) (hle0:aI h0 hp) (hds:aY ops 0=ds)
  (h:DS P n w0 mu ops.toArray ds l h0 hp t0 (fun aB=>iE P n w0 mu ops.toArray ds l hp aB (fun Rs=>DN (fun iv bl=>fD P n w0 mu ops.toArray ds l h0 aB (fun aK hc=>Ops P n w0 mu ops.toArray (ops.drop k) (aO ds (aK++aB)++l) hc Q) C iv (bl++hp)) Rs) E []) S []):iV P n w0 mu ops.toArray l hp Q:=by
 intro a w hkn hG
 simp only [xW,Bool.and_eq_true] at hB
 obtain ⟨⟨⟨⟨⟨⟨hd,hback⟩,mX⟩,dN⟩,hhead⟩,dU⟩,oJ⟩:=hB
 simp only [lN,Bool.and_eq_true,decide_eq_true_eq] at mX
 obtain ⟨⟨hnd,hlt⟩,hcov⟩:=mX
 have hlt':∀ i∈S++(E++C),i<k:=fun i hi=>by have:=List.all_eq_true.1 hlt i hi;simpa using this
 rw [List.nodup_append,List.nodup_append] at hnd
 obtain ⟨uC,⟨uD,xR,TG⟩,QT⟩:=hnd
 obtain ⟨aB,hX,GG,lV,hsS⟩:=Bd S [] uC (fun _ _=>rfl) (fun _ _ h=>by cases h) h (fun i v hv=>by cases hv)
 simp only [lk,reduceCtorEq,exists_false,or_false] at lV
 have hX2:=uG (Y:=fun Rs=>DN (fun iv bl=>fD P n w0 mu ops.toArray ds l h0 aB (fun aK hc=>Ops P n w0 mu ops.toArray (ops.drop k) (aO ds (aK++aB)++l) hc Q) C iv (bl++hp)) Rs∧Rs.map (·.1)=E.reverse) E [] (fun CG h1 h2=>⟨h2,by simpa using h1⟩) hX
 obtain ⟨RE,⟨Qv,QU⟩,lY,hsE⟩:=xH E [] uD (fun _ _=>rfl) hX2 (fun i R hi=>by cases hi)
 simp only [lk,reduceCtorEq,exists_false,or_false] at lY
 have hks:k≤ops.toArray.size:=by
  simp only [mV,Bool.or_eq_true,Bool.and_eq_true,decide_eq_true_eq] at dU
  rcases dU with h | h<;>omega
 have jg:∀ i d,lk ds i=some d→aA ops.toArray i=some d:=fun i d h=>by rw [← hds] at h;have:=(fV ops 0 i d h).2;simpa [aA] using this
 have inv0:HeadInv .any ops.toArray k (Array.replicate ops.toArray.size false):=
  ⟨by simp,fun j oj _ hl=>UD,fun t _ ht=>getD_in U7 (getD_replicate_false _ _)⟩
 have xU:∀ i,i<k→(Array.replicate ops.toArray.size false).getD i true=false:=fun i hi=>getD_in U8 (getD_replicate_false _ _)
 have hleft:leftOf k (Array.replicate ops.toArray.size false)=k:=by
  unfold leftOf
  rw [List.filter_eq_self.2]
  ·simp
  ·intro i hi
   simp only [xU i U0,Bool.not_false]
 have NR:∀ i,i∈E++C→lk aB i=none:=fun i hi=>by
  cases hv:lk aB i with
  | none=>rfl
  | some v=>exact absurd rfl (QT i ((lV i).1 ⟨v,hv⟩) i hi)
 have hS':∀ i v,lk aB i=some v→i<k∧∃ o aU,ops.toArray[i]?=some o∧iU aU aB∧∀ hx,lg P n w0 mu ops.toArray (au ds aU o.after.toList++l) (bif Region.waitsFor .any ops.toArray t0 i then hx++hp else hx++h0) o v:=fun i v hv=>⟨hlt' i (List.mem_append_left _ ((lV i).1 ⟨v,hv⟩)),hsS i v hv⟩
 have iG:∀ listed,HeadInv .any ops.toArray k listed→∀ i,i<k→listed.getD i true=false→∀ t,k≤t→t ∉ Region.ready .any ops.toArray listed:=fun listed inv i hi hun t ht=>by
  simp only [mV,Bool.or_eq_true,Bool.and_eq_true,decide_eq_true_eq] at dU
  rcases dU with h | ⟨⟨⟨oI,hs⟩,hc⟩,hseq⟩
  ·intro hr
   obtain ⟨_,o,ho,_⟩:=mem_ready.1 hr
   have:=(Array.getElem?_eq_some_iff.1 ho).1
   omega
  ·exact tail_waits hs hc oI inv _ i rfl hi hun t ht
 have NS:(RE.map (·.1)).Perm E:=by rw [QU];exact List.reverse_perm E
 have hE':∀ i∈E,i<k∧lk aB i=none∧∃ o,ops.toArray[i]?=some o∧xC P n w0 mu ops.toArray (au ds aB o.after.toList++l) hp o (match lk RE i with | some R=>R | none=>fun _ _=>False):=fun i hi=>by
  obtain ⟨R,hR⟩:=(lY i).2 hi
  obtain ⟨_,o,ho,he,_⟩:=hsE i R (gB hR)
  refine ⟨hlt' i (List.mem_append_right _ (List.mem_append_left _ hi)),NR i (List.mem_append_left _ hi),o,ho,?_⟩
  rw [hR];exact he
 have L9:∀ i,i<k→(∃ v,lk aB i=some v)∨i∈E∨i∈C:=fun i hi=>by
  have:=bC (List.all_eq_true.1 hcov i (List.mem_range.2 hi))
  rcases List.mem_append.1 this with h | h
  ·exact .inl ((lV i).2 h)
  ·exact .inr (List.mem_append.1 h)
 have QN:∀ i∈C,∀ listed:Array Bool,i∈Region.ready .any ops.toArray listed→(∀ j∈C,listed.getD j true=false)→∀ j∈E,listed.getD j false=true:=fun i hi listed hr H7 j hj=>by
  obtain ⟨hun,o,ho,hall⟩:=mem_ready.1 hr
  have hwl:∀ t,Region.waitsFor .any ops.toArray i t=true→listed.getD t false=true:=fun t ht=>by
   obtain ⟨oj,h6,e,he,hb,heq⟩:=Region.waitsFor_spec ht
   rw [ho] at h6;cases h6
   rw [← heq];exact hall e he hb
  cases C with
  | nil=>cases hi
  | cons c r=>
   rcases List.mem_cons.1 hi with rfl | hir
   ·exact hwl j (List.all_eq_true.1 hhead j hj)
   ·exfalso
    obtain ⟨p,hp⟩:=lQ dN hir
    rcases hp with ⟨h1,_,h3⟩ | ⟨_,h3⟩ | ⟨p,h1,h3⟩
    ·have h5:=hwl p h3;rw [getD_both (H7 p h1)] at h5;cases h5
    ·exact h3
    ·have h5:=hwl p h3;rw [getD_both (H7 p h1)] at h5;cases h5
 have key:=NQ (g:=ops.toArray.size - k) (Q':=QQ n w0 mu Q) jg hks hd hf hback hle0 hS' (C:=C) hE' uD (fun i hi v hv=>by rw [NR i (List.mem_append_right _ hi)] at hv;cases hv) (fun i hi hc=>TG i hi i hc rfl) L9 QN iG ?_ k E [] (Array.replicate ops.toArray.size false) a { w with drawn:=w.drawn + 1 } hleft inv0 UC (fun p hp=>by cases hp)
  ⟨hkn.size,hkn.defers,hkn.has,hG.drawn _,fun i v _ hl=>UD,fun i v hv=>by cases hv⟩ (fun p hp=>by cases hp) (fun i hi=>xU i (hlt' i (List.mem_append_right _ (List.mem_append_left _ hi)))) (fun i hi=>xU i (hlt' i (List.mem_append_right _ (List.mem_append_right _ hi))))
 ·have e:k + (ops.toArray.size - k)=ops.toArray.size:=by omega
  rw [e] at key
  exact key
 intro f Dn listed a w hlf inv fH hR hm hEl H7
 have AU:(Dn.map (·.1)).Nodup:=fH.nodup_iff.2 uD
 have hch:=Kv AU
 have hbl:Em Dn=AV (H9 Dn) (Dn.map (·.1)):=Ku Dn _ hch
 have PT:(AV (H9 Dn) (RE.map (·.1))).Perm (Em Dn):=by rw [hbl];exact H8 (NS.trans fH.symm)
 have hval:∀ i R,(i,R)∈RE→∃ hn,(i,(H9 Dn i).1,hn)∈Dn∧R (H9 Dn i).1 (H9 Dn i).2:=fun i R hi=>by
  have h1:i∈Dn.map (·.1):=fH.mem_iff.2 (NS.mem_iff.1 (List.mem_map.2 ⟨_,hi,rfl⟩))
  obtain ⟨p,hp1,hp2⟩:=List.mem_map.1 h1
  subst hp2
  have h2:=hR p hp1
  rw [(hsE p.1 R hi).1] at h2
  rw [hch p hp1]
  exact ⟨p.2.2,hp1,h2⟩
 have QV:vN (H9 Dn) RE:=tu RE fun p hp=>(hval p.1 p.2 hp).choose_spec.2
 have hD:=JW RE _ (H9 Dn) Qv QV
 refine wI jg (P:=P) (n:=n) (w0:=w0) (mu:=mu) (l:=l) (hp:=hp) (h0:=h0) (all:=ops.toArray) (aB:=aB) (k:=k) (t0:=t0) (g:=ops.toArray.size - k) (Q':=QQ n w0 mu Q) (X:=fun aK hc=>Ops P n w0 mu ops.toArray (ops.drop k) (aO ds (aK++aB)++l) hc Q) hks hd hf hback hle0
  (fun i hi hdn=>by
   have:=List.all_eq_true.1 oJ i (List.mem_range.2 hi)
   rw [hdn] at this
   simp only [Option.isSome_none,Bool.false_or,Bool.or_eq_true] at this
   rcases this with h | h
   ·exact .inl (Nat.eq_of_beq_eq_true h)
   ·exact .inr h)
  hS' (fun aK h listed inv hall hX a w hmid hEk=>?_) iG f C (oN (H9 Dn) RE) (AV (H9 Dn) (RE.map (·.1))++hp) listed a w hlf inv ⟨hm.size,hm.defers,hm.has,hm.good.perm (List.Perm.append_right _ PT),hm.lX,fun i v hv=>?_⟩ (fun i v hv=>?_) (fun i hi=>⟨hlt' i (List.mem_append_right _ (List.mem_append_right _ hi)),H7 i hi,NR i (List.mem_append_right _ hi)⟩) xR dN (fun i hi hl=>?_) (dQ fun b=>by have:=hle0.cnt b;rw [fK];omega) (fun _=>aI.right _ _) hD
 ·have lS:Knows n (aO ds (aK++aB)++l) a:=by
   refine ⟨hmid.size,hmid.defers,fun t v ht=>?_⟩
   rcases bI ht with ht | ⟨_,ht⟩
   ·obtain ⟨j,h1,h2⟩:=eP (dF ht)
    rcases List.mem_append.1 h1 with h1 | h1
    ·exact (hmid.jP j v h1).2 t (jg _ _ h2)
    ·have hj:=GG j v h1
     have hjk:=hlt' j (List.mem_append_left _ ((lV j).1 ⟨v,hj⟩))
     refine hmid.lX j v hj ?_ t (jg _ _ h2)
     have h5:=hall j hjk
     cases hcc:listed.getD j false with
     | true=>rfl
     | false=>rw [getD_in UF hcc] at h5;cases h5
   ·exact hmid.has t v ht
  have hfin:=hX a w lS hmid.good
  simp only [mV,Bool.or_eq_true,Bool.and_eq_true,decide_eq_true_eq] at dU
  rcases dU with zn | ⟨⟨⟨oI,hs⟩,hc⟩,hseq⟩
  ·have e0:ops.drop k=[]:=List.drop_eq_nil_of_le (by simp at zn;omega)
   rw [e0] at hfin
   rw [show ops.toArray.size - k=0 by omega]
   refine ⟨?_,hfin⟩
   rw [List.eq_nil_iff_forall_not_mem]
   intro i hi
   obtain ⟨hun,o,ho,_⟩:=mem_ready.1 hi
   have hi':i<k:=by rw [zn];exact (Array.getElem?_eq_some_iff.1 ho).1
   rw [hall i hi'] at hun;cases hun
  ·have hl:listed=(Array.replicate k true)++(Array.replicate (ops.toArray.size - k) false):=by
    apply Array.ext
    ·simp [inv.size];simp at oI;omega
    ·intro i h1 h2
     by_cases hi:i<k
     ·have:=hall i hi
      simp [h1] at this
      rw [Array.getElem_append_left U0]
      simpa using this
     ·have h3:=inv.tail i Uz UZ
      simp [h1] at h3
      rw [Array.getElem_append_right UJ]
      simpa using h3
   have hdl:(ops.drop k).length=ops.toArray.size - k:=by simp
   rw [← hdl]
   exact wpAny_of_seq (ops.drop k) k listed a w (fun j=>by simp) U6 hfin
 ·obtain ⟨h1,R,hR1⟩:=pI RE hv
  obtain ⟨hn,h2,_⟩:=hval i R hR1
  rw [h1]
  exact hm.jP i _ (CX.2 ⟨hn,h2⟩)
 ·obtain ⟨h1,R,hR1⟩:=pI RE hv
  exact (hE' i (NS.mem_iff.1 (List.mem_map.2 ⟨_,hR1,rfl⟩))).1
 ·rcases L9 i hi with h | h | h
  ·exact .inl h
  ·rw [hEl i h] at hl;cases hl
  ·exact .inr h
end
attribute [local irreducible] Hy St Ops DH fE iK iE fU
section
variable {n : Nat} {w0 : World} {mu : List Nat} {l : Fm} {h0 hp : Hp} {Q : Exit → Fm → Hp → Prop} {ds : List (Nat × Nat)}
theorem mY {id:Nat} {ops tl:List Oper} (k t0:Nat) (S E C:List Nat) (h0:Hp) (h:DS Tryz.prog n w0 mu ops.toArray ds l h0 hp t0 (fun aB=>iE Tryz.prog n w0 mu ops.toArray ds l hp aB (fun Rs=>DN (fun iv bl=>fD Tryz.prog n w0 mu ops.toArray ds l h0 aB (fun aK hc=>Ops Tryz.prog n w0 mu ops.toArray tl (aO ds (aK++aB)++l) hc Q) C iv (bl++hp)) Rs) E []) S [])
  (hle0:aI h0 hp:=by (exact ak)) (hds:aY ops 0=ds:=by (simp only [aY,Nat.reduceAdd,Nat.zero_add];rfl)) (htl:ops.drop k=tl:=by (simp only [List.drop_succ_cons,List.drop_zero,List.drop_nil];rfl)) (hm:Tryz.prog.follows .mixedOrders=true:=by kernel_rfl) (hB:xW ops.toArray n k t0 S E C=true:=by decide +kernel) (hf:aS l (dstsOf ops.toArray k)=true:=by rfl):St Tryz.prog n w0 mu (.region id ops.toArray true) l hp Q:=
 oH hm (En k t0 S E C h0 hB hf hle0 hds Vb)
end
section
variable {n : Nat} {w0 : World} {mu : List Nat} {l : Fm} {h0 hp : Hp} {all : Array Oper} {iv : Fm} {t0 i d : Nat} {ds : List (Nat × Nat)} {S : List Nat} {X : Fm → Prop} {ty : TypeId} {pos : String} {af : Array Edge} {v : Value}
theorem rq {f:FuncId} {xs:List Operand} {vs:List Value} {tys:Array TypeId} (hc:∀ w hx,Good w0 mu (hx++hp) w→Fn Tryz.prog f vs.toArray w [] (fun u _=>u=v)) (h:DS Tryz.prog n w0 mu all ds l h0 hp t0 X S ((i,v)::iv)) (ho:all[i]?=some ⟨some d,.call { callee:=.value (.func f),args:=xs.toArray,argTypes:=tys },ty,pos,af,none⟩:=by rfl) (hwt:Region.waitsFor .any all t0 i=true:=by decide +kernel) (bY:mem jT f=true:=by rfl) (hv:evs (au ds iv af.toList++l) xs=some vs:=by rfl):DS Tryz.prog n w0 mu all ds l h0 hp t0 X (i::S) iv:=
 PK ho hwt (fun hx=>cZ (di f bY) hv (fun w hG=>hc w hx hG)) h
end
section
variable {n : Nat} {w0 : World} {mu : List Nat} {l : Fm} {h0 hc : Hp} {all : Array Oper} {aB aK : Fm} {i d : Nat} {ds : List (Nat × Nat)} {r : List Nat} {Y : Fm → Hp → Prop} {ty : TypeId} {pos : String} {af : Array Edge}
theorem NT {t:TypeId} {ps:List (Nat × Operand)} {vs:List (Nat × Value)} {z:Value} {pl:List (Nat × Nat)} {zc out out':Array Value} (h:fD Tryz.prog n w0 mu all ds l h0 aB Y r ((i,.agg out')::aK) hc) (ho:all[i]?=some ⟨some d,.build t ps.toArray,ty,pos,af,none⟩:=by rfl) (hz:lk Tb.zs t=some z:=by rfl) (hzc:z.cells=zc:=by (first | ((simp only [Value.cells])<;>rfl) | rfl)) (hpl:lk Tb.pl t=some pl:=by rfl) (hv:yO (au ds (aK++aB) af.toList++l) ps=some vs:=by rfl) (hf:fl pl zc vs=some out:=by rfl) (hn:out=out':=by (first | ((simp only [putAt,Value.cells,List.toList_toArray,List.setIfInBounds_toArray,List.set_cons_zero,List.set_cons_succ,List.drop_succ_cons,List.drop_zero,List.take_succ_cons,List.take_zero,List.cons_append,List.nil_append,List.append_nil])<;>rfl) | rfl)):fD Tryz.prog n w0 mu all ds l h0 aB Y (i::r) aK hc:=
 PM ho (fun hx=>sV aj hz hzc hpl hv hf hn) h
theorem cSame {t : TypeId} {x y : Operand} {b sz : Nat} {v : Value} {vs : List Value} {cs : Array Value} {tb : TypeId} (h : fD Tryz.prog n w0 mu all ds l h0 aB Y r aK hc) (ho : all[i]? = some ⟨none, .store t x y, ty, pos, af, none⟩ := by rfl)
    (hx : ev (au ds (aK ++ aB) af.toList ++ l) x = some (.pointer (some ⟨b, 0, none⟩)) := by rfl) (hm : (⟨b, cs, tb⟩ : jY) ∈ hc := by (first | (with_reducible apply mh) | (focus ((repeat (first | (with_reducible apply mh) | (with_reducible apply mt) | (with_reducible apply List.mem_append_right))); done)))) (hy : ev (au ds (aK ++ aB) af.toList ++ l) y = some v := by rfl) (qF : v.cells = vs.toArray := by (first | ((simp only [Value.cells]) <;> rfl) | rfl)) (hs : lk Tb.sz t = some sz := by rfl) (hl : vs.length = sz := by rfl) (hv1 : vs.all (·.oneCell') = true := by first | rfl | (focus (simp; done))) (hlt : 0 + vs.length ≤ cs.size := by first | omega | (focus (simp; done)) | (focus (simp; omega))) (hput : putAt cs 0 vs = cs := by (first | ((simp only [putAt, Value.cells, List.toList_toArray, List.setIfInBounds_toArray, List.set_cons_zero, List.set_cons_succ, List.drop_succ_cons, List.drop_zero, List.take_succ_cons, List.take_zero, List.cons_append, List.nil_append, List.append_nil]) <;> rfl) | rfl))
    (hle : aI h0 hc := by (exact ak)) : fD Tryz.prog n w0 mu all ds l h0 aB Y (i :: r) aK hc := by
  refine ⟨_, ho, .inr ⟨rfl, hc, ⟨rfl, rfl, fun a w hk hG K Q' hK => ?_⟩, hle, h⟩⟩
  obtain ⟨s, t', rfl⟩ := List.append_of_mem hm
  have hG' := hG.perm (hp' := ⟨b, cs, tb⟩ :: (s ++ t')) List.perm_middle.symm
  have hb := hG'.here _ (List.mem_cons_self ..)
  have hst := run_storeCells_cells (P := Tryz.prog) b 0 vs 0 w
    (fun j hj => by rw [cell_of_block hb]; have h3 : j < cs.size := by omega
                    simp [h3])
    (fun j _ => gI hb) (fun u hu => (List.all_eq_true.1 hv1) u hu)
  unfold Oper.wp
  have hrun : (execOp a.eval ⟨none, .store t x y, ty, pos, af, none⟩).run Tryz.prog w = .ok .skip (w.setCells b 0 vs) := by
    simp only [execOp, hk.ev hx, hk.ev hy]
    simp only [Nat.add_zero] at hst
    simp [Instr.storeAt, Instr.sureAddr, storeVar, qF, run_sizeOf (show bU Tryz.prog t = some vs.length by rw [hl]; exact aj.rH hs) w, hst]
  rw [hrun]
  have h2 := Good.sets (w := w) vs cs 0 w hG'
  rw [hput] at h2
  exact hK _ (h2.perm List.perm_middle)
end
section
variable {n : Nat} {w0 : World} {mu : List Nat} {l : Fm} {h0 hc : Hp} {all : Array Oper} {aB aK : Fm} {i d : Nat} {ds : List (Nat × Nat)} {r : List Nat} {Y : Fm → Hp → Prop} {ty : TypeId} {pos : String} {af : Array Edge}
theorem QW {t:TypeId} {x y:Operand} {b off sz:Nat} {v:Value} {vs:List Value} {cs cs':Array Value} {tb:TypeId} {hp':Hp} (h:fD Tryz.prog n w0 mu all ds l h0 aB Y r aK (⟨b,cs',tb⟩::hp')) (ho:all[i]?=some ⟨none,.store t x y,ty,pos,af,none⟩:=by rfl)
  (hx:ev (au ds (aK++aB) af.toList++l) x=some (.pointer (some ⟨b,off,none⟩)):=by rfl) (hy:ev (au ds (aK++aB) af.toList++l) y=some v:=by rfl) (qF:v.cells=vs.toArray:=by (first | ((simp only [Value.cells])<;>rfl) | rfl)) (hs:lk Tb.sz t=some sz:=by rfl) (hl:vs.length=sz:=by rfl) (hperm:(⟨b,cs,tb⟩::hp').Perm hc:=by (first | (with_reducible apply p0) | (with_reducible apply p1) | (with_reducible apply p2) | (with_reducible apply p3) | (with_reducible apply p4) | (with_reducible apply p5))) (hv1:vs.all (·.oneCell')=true:=by first | rfl | (focus (simp;done))) (hlt:off + vs.length≤cs.size:=by first | omega | (focus (simp;done)) | (focus (simp;omega))) (hput:putAt cs off vs=cs':=by (first | ((simp only [putAt,Value.cells,List.toList_toArray,List.setIfInBounds_toArray,List.set_cons_zero,List.set_cons_succ,List.drop_succ_cons,List.drop_zero,List.take_succ_cons,List.take_zero,List.cons_append,List.nil_append,List.append_nil])<;>rfl) | rfl))
  (hle:aI h0 (⟨b,cs',tb⟩::hp'):=by (exact ak)):fD Tryz.prog n w0 mu all ds l h0 aB Y (i::r) aK hc:=PN aj ho hx hy qF hs hl hperm hv1 hlt hput hle h
end
section
variable {n : Nat} {w0 : World} {mu : List Nat} {l : Fm} {hp : Hp} {all : Array Oper} {iv : Fm} {i d : Nat} {ds : List (Nat × Nat)} {S : List Nat} {X : Fm → Prop} {ty : TypeId} {pos : String} {af : Array Edge} {v : Value}
end
end
section
section
variable {P : Program} {n : Nat} {w0 : World} {mu : List Nat} {l : Fm} {hp : Hp} {Q : Exit → Fm → Hp → Prop} {all : Array Oper} {kd : Nat → Kd} {val : Ch → Nat → Value} {k : Nat}
theorem Be {ds:List (Nat × Nat)} (hds:∀ k d,lk ds k=some d→aA all k=some d) {g:Nat} {Q':Exit→Act→World→Prop} (hk:k≤all.size) (hd:oq all k n=true) (hf:aS l (dstsOf all k)=true) (hback:jl all=true)
  (hS:∀ i o v,i<k→all[i]?=some o→kd i=.s v→(∀ c,val c i=v)∧∃ aU,(∀ j u,look aU j=some u→j<k∧∀ c,val c j=u)∧∀ hx,lg P n w0 mu all (au ds aU o.after.toList++l) (hx++hp) o v)
  (hE:∀ i o R,i<k→all[i]?=some o→kd i=.e R→(∀ c,val c i=(c i).1)∧∃ aU,(∀ j u,look aU j=some u→j<k∧∀ c,val c j=u)∧xC P n w0 mu all (au ds aU o.after.toList++l) hp o R)
  (hD:∀ c,Valid kd k c→∀ i o,i<k→all[i]?=some o→kd i=.d→∃ aU,(∀ j u,look aU j=some u→j<k∧val c j=u)∧vM P n w0 mu (au ds aU o.after.toList++l) hp o (val c i))
  (htail:∀ f c listed,leftOf k listed=f→HeadInv .any all k listed→(∀ i,i<k→oM (kd i)=true→listed.getD i true=true)→∀ a w,oD n w0 mu all l hp kd val k c listed a w→wpAny P .any all Q' (f + g) listed a w)
  (iG:∀ listed,HeadInv .any all k listed→∀ i,i<k→oM (kd i)=true→listed.getD i true=false→∀ t,k≤t→t ∉ Region.ready .any all listed):
  ∀ f c listed a w,leftOf k listed=f→HeadInv .any all k listed→oD n w0 mu all l hp kd val k c listed a w→wpAny P .any all Q' (f + g) listed a w:=by
 intro f
 induction f with
 | zero=>
  intro c listed a w hlf inv hm
  refine htail 0 c listed hlf inv (fun i hi _=>?_) a w hm
  cases hc:listed.getD i true with
  | true=>rfl
  | false=>
   exfalso
   have:i∈(List.range k).filter fun i=>!listed.getD i true:=List.mem_filter.2 ⟨List.mem_range.2 hi,by simp only [hc,Bool.not_false]⟩
   have h2:=List.length_pos_of_mem this
   unfold leftOf at hlf
   omega
 | succ f ih=>
  intro c listed a w hlf inv hm
  by_cases kU:∀ i,i<k→oM (kd i)=true→listed.getD i true=true
  ·exact htail (f + 1) c listed hlf inv kU a w hm
  obtain ⟨i0,gZ,QX,hi0⟩:∃ i,i<k∧oM (kd i)=true∧listed.getD i true=false:=by
   refine Classical.byContradiction fun hno=>kU fun i hi he=>?_
   cases hc:listed.getD i true with
   | true=>rfl
   | false=>exact absurd ⟨i,hi,he,hc⟩ hno
  rw [show f + 1 + g=(f + g) + 1 by omega]
  refine ⟨fun hnil=>?_,fun i hi=>?_⟩
  ·exfalso
   obtain ⟨i,⟨hik,hil⟩,hmin⟩:=exists_least (p:=fun i=>i<k∧listed.getD i true=false) ⟨i0,gZ,hi0⟩
   have hr:i∈Region.ready .any all listed:=by
    rw [mem_ready]
    have hs:i<all.size:=by omega
    refine ⟨hil,all[i],by simp [hs],fun e he hb=>?_⟩
    have hb2:=List.all_eq_true.1 hback i (List.mem_range.2 hs)
    simp only [Array.getElem?_eq_getElem hs] at hb2
    have hb3:=(Array.all_eq_true_iff_forall_mem.1 hb2) e he
    simp only [hb,Bool.not_true,Bool.false_or,Nat.blt_eq] at hb3
    cases hc:listed.getD e.on false with
    | true=>rfl
    | false=>
     have h5:=hmin e.on ⟨by omega,getD_in UF hc⟩
     omega
   rw [hnil] at hr;cases hr
  ·have hik:i<k:=by
    rcases Nat.lt_or_ge i k with h | h
    ·exact h
    ·exact absurd hi (iG listed inv i0 gZ QX hi0 i h)
   obtain ⟨hun,o,ho,hall⟩:=mem_ready.1 hi
   have hsz:i<listed.size:=by rw [inv.size];omega
   have hself:∀ j,j<k→listed.getD j false=true→oM (kd j)=true→c j=c j:=fun _ _ _ _=>rfl
   have hgo:∀ c2 a' w',oD n w0 mu all l hp kd val k c2 (listed.setIfInBounds i true) a' w'→wpAny P .any all Q' (f + g) (listed.setIfInBounds i true) a' w':=fun c2 a' w' h=>
    ih c2 _ _ _ UT (inv.set hi hik) h
   have rP:Good w0 mu hp w:=hm.good.sub (List.sublist_append_right _ _)
   unfold wpOp
   simp only [ho]
   cases hkd:kd i with
   | s v=>
    obtain ⟨qF,aU,hiv,hy⟩:=hS i o v hik ho hkd
    have hkn:=bJ (i:=i) hds hm hm.valid hself (fun j u hu=>⟨(hiv j u hu).1,(hiv j u hu).2 c⟩) hall
    have hE0:oM (kd i)=false:=by rw [hkd];rfl
    have hnext:∀ w',Good w0 mu (gK kd c listed k++hp) w'→wpAny P .any all Q' (f + g) (listed.setIfInBounds i true) (a.put o.dst v) w':=fun w' hG'=>
     hgo c _ _ (gm hm ho hik hun hsz hd hf hm.valid (fun _ _=>rfl) (by rw [jD hE0];exact hG') (fun c' _ _=>qF c'))
    have h3:=hy (gK kd c listed k)
    unfold lg at h3
    cases hg:o.guard with
    | none=>
     rw [hg] at h3
     rw [if_pos UG]
     exact .inl (h3 a w hkn hm.good _ _ hnext)
    | some jw=>
     obtain ⟨j,want⟩:=jw
     rw [hg] at h3
     obtain ⟨dj,c0,b,u,hj,hb,hdj,hy,hvv⟩:=h3
     have hw:=dO hkn hg hj hb hdj
     cases hc:(c0 && eX b want) with
     | true=>
      rw [hc] at hw hvv
      rw [if_pos hw]
      rw [Bool.and_eq_true] at hc
      rw [show v=u from hvv] at hnext
      exact .inl (hy hc.1 hc.2 a w hkn hm.good _ _ hnext)
     | false=>
      rw [hc] at hw hvv
      rw [if_neg UU]
      rw [show v=undef from hvv] at hnext
      exact hnext w hm.good
   | e R=>
    obtain ⟨qF,aU,hiv,hg,hy⟩:=hE i o R hik ho hkd
    have hkn:=bJ (i:=i) hds hm hm.valid hself (fun j u hu=>⟨(hiv j u hu).1,(hiv j u hu).2 c⟩) hall
    rw [if_pos (hg _ hkn)]
    refine .inl (hy a w _ hkn hm.good _ _ fun v hn w' hR hG'=>?_)
    refine hgo (fun t=>if t=i then (v,hn) else c t) _ _ (gm hm ho hik hun hsz hd hf ?_ (fun j hj=>by simp [hj]) ?_ ?_)
    ·intro j hj R' hR'
     by_cases hji:j=i
     ·subst hji
      rw [hkd] at hR'
      cases hR'
      simpa using hR
     ·simp only [hji,if_false]
      exact hm.valid j hj R' hR'
    ·refine hG'.perm ?_
     rw [← List.append_assoc]
     exact (uB Vd hun hsz k hik).symm.append_right _
    ·intro c' hc' hag
     rw [qF c',hag i hik (by simp [hsz]) Vd]
     simp
   | d=>
    obtain ⟨aU,hiv,hg,hy⟩:=hD c hm.valid i o hik ho hkd
    have hE0:oM (kd i)=false:=by rw [hkd];rfl
    have hkn:=bJ (i:=i) hds hm hm.valid hself hiv hall
    have hrun:=hy a w hkn rP
    rw [if_pos UG]
    refine .inl ?_
    unfold Oper.wp
    rw [hrun]
    refine hgo c _ _ (gm hm ho hik hun hsz hd hf hm.valid (fun _ _=>rfl) (by rw [jD hE0];exact hm.good) (fun c' hc' hag=>?_))
    obtain ⟨iH,qM,hg2,hy2⟩:=hD c' hc' i o hik ho hkd
    have hag':∀ j,j<k→listed.getD j false=true→oM (kd j)=true→c' j=c j:=fun j hj hl he=>hag j hj (getD_set_true hl) he
    have hrun2:=hy2 a w (bJ (i:=i) hds hm hc' hag' qM hall) rP
    rw [hrun] at hrun2
    simp only [Result.ok.injEq,Next.value.injEq,and_true] at hrun2
    exact hrun2.symm
end
section
variable {P : Program} {n : Nat} {w0 : World} {mu : List Nat} {l : Fm} {h0 hp : Hp} {Q : Exit → Fm → Hp → Prop} {all : Array Oper} {aB : Fm} {k t0 : Nat} {ds : List (Nat × Nat)}
theorem uS (hds:∀ k d,lk ds k=some d→aA all k=some d) {g:Nat} {Q':Exit→Act→World→Prop} {X:Fm→Hp→Prop} (hk:k≤all.size) (hd:lW all k n=true) (hf:aS l (dstsOf all k)=true) (hback:jl all=true) (hle0:aI h0 hp)
  (oJ:∀ i,i<k→aA all i=none→i=t0∨Region.waitsFor .any all i t0=true)
  {dn:Nat→Bool} (hS:∀ i v,lk aB i=some v→i<k∧(dn i=false→∃ o aU,all[i]?=some o∧iU aU aB∧∀ hx,lg P n w0 mu all (au ds aU o.after.toList++l) (bif Region.waitsFor .any all t0 i then hx++hp else hx++h0) o v))
  (htail:∀ aK h listed,HeadInv .any all k listed→(∀ i,i<k→listed.getD i true=true)→X aK h→∀ a w,l7 n w0 mu all l aB aK h listed a w→(∀ i v,(i,v)∈aK→i<k)→wpAny P .any all Q' g listed a w)
  (iG:∀ listed,HeadInv .any all k listed→∀ i,i<k→listed.getD i true=false→∀ t,k≤t→t ∉ Region.ready .any all listed):
  ∀ f r aK h listed a w,leftOf k listed=f→HeadInv .any all k listed→(∀ i,dn i=true→listed.getD i true=true)→l7 n w0 mu all l aB aK h listed a w→(∀ i v,(i,v)∈aK→i<k)→(∀ i∈r,i<k∧listed.getD i true=false∧lk aB i=none)→r.Nodup→jq all r=true→(∀ i,i<k→listed.getD i true=false→(∃ v,lk aB i=some v)∨i∈r) →
   aI h0 h→(listed.getD t0 false=false→aI hp h)→fD P n w0 mu all ds l h0 aB X r aK h→wpAny P .any all Q' (f + g) listed a w:=by
 intro f
 induction f with
 | zero=>
  intro r aK h listed a w hlf inv hdone hm hEk hr hnd dN hcov hle pV hD
  have hall:∀ i,i<k→listed.getD i true=true:=by
   intro i hi
   cases hc:listed.getD i true with
   | true=>rfl
   | false=>
    exfalso
    have:i∈(List.range k).filter fun i=>!listed.getD i true:=List.mem_filter.2 ⟨List.mem_range.2 hi,by simp only [hc,Bool.not_false]⟩
    have h2:=List.length_pos_of_mem this
    unfold leftOf at hlf
    omega
  cases r with
  | nil=>
   rw [Nat.zero_add]
   exact htail aK h listed inv hall hD a w hm hEk
  | cons c r=>
   have h1:=hr c (List.mem_cons_self ..)
   rw [hall c h1.1] at h1
   exact absurd h1.2.1 UA
 | succ f ih=>
  intro r aK h listed a w hlf inv hdone hm hEk hr hnd dN hcov hle pV hD
  rw [show f + 1 + g=(f + g) + 1 by omega]
  have hex:∃ i,i<k∧listed.getD i true=false:=by
   have h2:0<leftOf k listed:=by omega
   obtain ⟨i,hi⟩:=List.exists_mem_of_length_pos h2
   rw [List.mem_filter] at hi
   exact ⟨i,List.mem_range.1 hi.1,by simpa using hi.2⟩
  obtain ⟨i0,gZ,hi0⟩:=hex
  refine ⟨fun hnil=>?_,fun i hi=>?_⟩
  ·exfalso
   obtain ⟨i,⟨hik,hil⟩,hmin⟩:=exists_least (p:=fun i=>i<k∧listed.getD i true=false) ⟨i0,gZ,hi0⟩
   have hr:i∈Region.ready .any all listed:=by
    rw [mem_ready]
    have hs:i<all.size:=by omega
    refine ⟨hil,all[i],by simp [hs],fun e he hb=>?_⟩
    have hb2:=List.all_eq_true.1 hback i (List.mem_range.2 hs)
    simp only [Array.getElem?_eq_getElem hs] at hb2
    have hb3:=(Array.all_eq_true_iff_forall_mem.1 hb2) e he
    simp only [hb,Bool.not_true,Bool.false_or,Nat.blt_eq] at hb3
    cases hc:listed.getD e.on false with
    | true=>rfl
    | false=>
     have h5:=hmin e.on ⟨by omega,getD_in UF hc⟩
     omega
   rw [hnil] at hr;cases hr
  ·have hik:i<k:=by
    rcases Nat.lt_or_ge i k with h | h
    ·exact h
    ·exact absurd hi (iG listed inv i0 gZ hi0 i h)
   obtain ⟨hun,o,ho,hall⟩:=mem_ready.1 hi
   have hsz:i<listed.size:=by rw [inv.size];omega
   have lH:listed.getD i false=false:=getD_both hun
   have hleft:leftOf k (listed.setIfInBounds i true)=f:=by have:=iy hik UF hun;omega
   have hwl:∀ t,Region.waitsFor .any all i t=true→listed.getD t false=true:=fun t ht=>by
    obtain ⟨oj,h6,e,he,hb,heq⟩:=Region.waitsFor_spec ht
    rw [ho] at h6;cases h6
    rw [← heq];exact hall e he hb
   unfold wpOp
   simp only [ho]
   cases oK:lk aB i with
   | some v=>
    obtain ⟨_,TI⟩:=hS i v oK
    have hdn:dn i=false:=by
     cases hc:dn i with
     | false=>rfl
     | true=>rw [hdone i hc] at hun;cases hun
    obtain ⟨o',aU,ho',hmo,hy⟩:=TI hdn
    rw [ho] at ho';cases ho'
    have hkn:=fM (o:=o) hds hm (aU:=aU) (fun j u hu=>.inr (hmo j u UM)) hall
    have hir:i ∉ r:=fun hm'=>by rw [(hr i hm').2.2] at oK;cases oK
    have hnext:∀ w',Good w0 mu h w'→wpAny P .any all Q' (f + g) (listed.setIfInBounds i true) (a.put o.dst v) w':=fun w' hG'=>by
     refine ih r aK h _ _ _ hleft (inv.set hi hik) (fun j hj=>fO (hdone j hj)) (kT hm ho hik hun hsz hd hf hG' (fun j u hu=>(hS j u hu).1) hEk (.inl ⟨oK,rfl⟩)) hEk (fun j hj=>?_) hnd dN (fun j hj hl=>?_) hle (fun ht=>?_) hD
     ·have hji:i ≠ j:=fun e=>hir (e▸hj)
      exact ⟨(hr j hj).1,by rw [getD_set_ne true hji];exact (hr j hj).2.1,(hr j hj).2.2⟩
     ·refine hcov j hj ?_
      by_cases hji:i=j
      ·subst hji;simp [hsz] at hl
      ·rwa [getD_set_ne true hji] at hl
     ·refine pV ?_
      by_cases hji:i=t0
      ·subst hji;exact lH
      ·rwa [getD_set_ne false hji] at ht
    obtain ⟨hx,h3,fH⟩:∃ hx,lg P n w0 mu all (au ds aU o.after.toList++l) hx o v∧hx.Perm h:=by
     cases hwt:Region.waitsFor .any all t0 i with
     | true=>
      have ht0:listed.getD t0 false=false:=by
       cases hc:listed.getD t0 false with
       | false=>rfl
       | true=>
        obtain ⟨oj,h6,e,he,hb,heq⟩:=Region.waitsFor_spec hwt
        have:=inv.closed t0 oj h6 hc e he hb
        rw [heq,lH] at this;cases this
      obtain ⟨x,hxp⟩:=(pV ht0).perm
      have h4:=hy x
      rw [hwt] at h4
      exact ⟨x++hp,h4,List.perm_append_comm.trans hxp⟩
     | false=>
      obtain ⟨x,hxp⟩:=hle.perm
      have h4:=hy x
      rw [hwt] at h4
      exact ⟨x++h0,h4,List.perm_append_comm.trans hxp⟩
    have hgd:Good w0 mu hx w:=hm.good.perm fH
    replace hnext:∀ w',Good w0 mu hx w'→wpAny P .any all Q' (f + g) (listed.setIfInBounds i true) (a.put o.dst v) w':=fun w' hG'=>hnext w' (hG'.perm fH.symm)
    unfold lg at h3
    cases hg:o.guard with
    | none=>
     rw [hg] at h3
     rw [if_pos UG]
     exact .inl (h3 a w hkn hgd _ _ hnext)
    | some jw=>
     obtain ⟨j,want⟩:=jw
     rw [hg] at h3
     obtain ⟨dj,c0,b,u,hj,hb,hdj,hy,hvv⟩:=h3
     have hw:=dO hkn hg hj hb hdj
     cases hc:(c0 && eX b want) with
     | true=>
      rw [hc] at hw hvv
      rw [if_pos hw]
      rw [Bool.and_eq_true] at hc
      rw [show v=u from hvv] at hnext
      exact .inl (hy hc.1 hc.2 a w hkn hgd _ _ hnext)
     | false=>
      rw [hc] at hw hvv
      rw [if_neg UU]
      rw [show v=undef from hvv] at hnext
      exact hnext w hgd
   | none=>
    have hir:i∈r:=by
     rcases hcov i hik hun with ⟨v,hv⟩ | h
     ·rw [oK] at hv;cases hv
     ·exact h
    cases r with
    | nil=>cases hir
    | cons c r=>
     have hic:i=c:=by
      rcases List.mem_cons.1 hir with h | h
      ·exact h
      ·exfalso
       obtain ⟨p,hp⟩:=lQ dN h
       rcases hp with ⟨h1,_,h3⟩ | ⟨_,h3⟩ | ⟨p,h1,h3⟩
       ·have:=(hr p h1).2.1;have h5:=hwl p h3
        rw [getD_both this] at h5;cases h5
       ·exact h3
       ·have:=(hr p h1).2.1;have h5:=hwl p h3
        rw [getD_both this] at h5;cases h5
     subst hic
     rw [List.nodup_cons] at hnd
     have mW:jq all r=true:=by
      cases r with
      | nil=>rfl
      | cons j r=>simp only [jq,Bool.and_eq_true] at dN;exact dN.2
     have hr':∀ j∈r,j<k∧(listed.setIfInBounds i true).getD j true=false∧lk aB j=none:=fun j hj=>by
      have h1:=hr j (List.mem_cons_of_mem _ hj)
      have hji:i ≠ j:=fun e=>hnd.1 (e▸hj)
      exact ⟨h1.1,by rw [getD_set_ne true hji];exact h1.2.1,h1.2.2⟩
     have jZ:∀ j,j<k→(listed.setIfInBounds i true).getD j true=false→(∃ v,lk aB j=some v)∨j∈r:=fun j hj hl=>by
      by_cases hji:i=j
      ·subst hji;simp [hsz] at hl
      ·rw [getD_set_ne true hji] at hl
       rcases hcov j hj hl with h | h
       ·exact .inl h
       ·exact .inr ((List.mem_cons.1 h).resolve_left (Ne.symm hji))
     have hkn:=fM (o:=o) hds hm (aU:=aK++aB) (fun j u hu=>by
      rw [dK,Bc] at hu
      cases hE:lk aK j with
      | some v=>rw [hE] at hu;exact .inl hu
      | none=>rw [hE] at hu;exact .inr hu) hall
     unfold fD at hD
     obtain ⟨o',ho',hD⟩:=hD
     rw [ho] at ho';cases ho'
     rcases hD with ⟨hds',R,⟨hg,hE⟩,hD⟩ | ⟨hdn,h',⟨hg,_,hSt⟩,hle',hD⟩
     ·rw [if_pos (hg _ hkn)]
      refine .inl (hE a w [] hkn (by simpa using hm.good) _ _ fun v hn w' hR hG'=>?_)
      rw [List.nil_append] at hG'
      have hlen:∀ x:Hp,aI x h→aI x (hn++h):=fun x hx=>dQ fun b=>by have:=hx.cnt b;rw [fK];omega
      refine ih r ((i,v)::aK) (hn++h) _ _ _ hleft (inv.set hi hik) (fun j hj=>fO (hdone j hj)) (kT hm ho hik hun hsz hd hf hG' (fun j u hu=>(hS j u hu).1) hEk (.inr ⟨oK,rfl⟩)) (fun j u hu=>?_) hr' hnd.2 mW jZ (hlen _ hle) (fun ht=>hlen _ (pV ?_)) (hD v hn hR)
      ·rcases List.mem_cons.1 hu with hu | hu
       ·cases hu;exact hik
       ·exact hEk j u hu
      ·by_cases hji:i=t0
       ·subst hji;exact lH
       ·rwa [getD_set_ne false hji] at ht
     ·rw [if_pos UG]
      refine .inl (hSt a w hkn hm.good _ _ fun w' hG'=>?_)
      have hmc:l7 n w0 mu all l aB aK h' (listed.setIfInBounds i true) a w':=by
       refine ⟨hm.size,hm.defers,hm.has,hG',fun j u hj hl d hdj=>?_,fun j u hj=>⟨getD_set_true (hm.jP j u hj).1,(hm.jP j u hj).2⟩⟩
       have hji:i ≠ j:=fun e=>by subst e;rw [oK] at hj;cases hj
       exact hm.lX j u hj U9 d hdj
      refine ih r aK h' _ _ _ hleft (inv.set hi hik) (fun j hj=>fO (hdone j hj)) hmc hEk hr' hnd.2 mW jZ hle' (fun ht=>?_) hD
      exfalso
      rcases oJ i hik (by simp [aA,ho,hdn]) with e | e
      ·subst e
       rw [show (listed.setIfInBounds i true).getD i false=true by simp [hsz]] at ht;cases ht
      ·have:=getD_set_true (i:=i) (hwl t0 e)
       rw [this] at ht;cases ht
end
def pW (ops:Array Oper) (n k:Nat) (S E D D2 C:List Nat):Bool:=
 match C with
 | []=>false
 | t0::_=>decide (k≤ops.size) && oq ops k n && lW ops ops.size n && jl ops && lN ops.size (S++E++D++D2) C && jq ops C && (S.all fun j=>Region.waitsFor .any ops t0 j) && (E.all fun j=>Region.waitsFor .any ops t0 j) && (D2++C).all (fun j=>Nat.ble k j) &&
  ((List.range ops.size).all fun i=>(aA ops i).isSome || Nat.beq i t0 || Region.waitsFor .any ops i t0) &&
  ((List.range ops.size).all fun i=>Nat.blt i k || (E.all fun j=>Region.waitsFor .any ops i j) || (List.range ops.size).any fun j=>Nat.ble k j && Region.waitsFor .any ops i j)
theorem rV {k K : Nat} {listed : Array Bool} (hk : k ≤ K) (h : ∀ t, k ≤ t → t < K → listed.getD t true = false) : leftOf K listed = leftOf k listed + (K - k) := by
  induction K with
  | zero => have : k = 0 := by omega
            subst this; rfl
  | succ K ih =>
    by_cases e : k = K + 1
    · subst e; omega
    · have h1 := ih Uz (fun t h2 h3 => h t h2 Uz)
      have h2 := h K Uz Uz
      unfold leftOf at h1 ⊢
      rw [List.range_succ, List.filter_append, List.length_append, h1]
      have : ([K].filter fun i => !listed.getD i true) = [K] := by simp only [List.filter_cons, h2, Bool.not_false, List.filter_nil, if_true]
      rw [this, List.length_singleton]
      omega
section
variable {P : Program} {n : Nat} {w0 : World} {mu : List Nat} {l : Fm} {hp : Hp} {Q : Exit → Fm → Hp → Prop} {ds : List (Nat × Nat)}
theorem Ia {lf:Fm} {o:Oper} {v:Value} {h:Hp} (hy:vM P n w0 mu lf [] o v):vM P n w0 mu lf h o v:=⟨hy.1,fun a w hk hG=>hy.2 a w hk (hG.sub (List.nil_sublist _))⟩
theorem CY {lf:Fm} {o:Oper} {v:Value} {h:Hp} {all:Array Oper} (hy:vM P n w0 mu lf [] o v):lg P n w0 mu all lf h o v:=by
 unfold lg
 rw [hy.1]
 intro a w hk hG K Q' hK
 unfold Oper.wp
 rw [hy.2 a w hk (hG.sub (List.nil_sublist _))]
 exact hK _ hG
theorem Bf {ops:List Oper} (k:Nat) (S E D D2 C:List Nat) (hB:pW ops.toArray n k S E D D2 C=true) (hf:aS l (dstsOf ops.toArray ops.toArray.size)=true) (hf1:aS l (dstsOf ops.toArray k)=true) (hsp:splitB k S E D=true) (hds:aY ops 0=ds)
  (h:iK P n w0 mu ops.toArray ds l hp (fun aB=>iE P n w0 mu ops.toArray ds l hp aB (fun Rs=>∀ c,vN c Rs→fU P n w0 mu ops.toArray ds l [] (fun Ib=>fU P n w0 mu ops.toArray ds l [] (fun iH=>fD P n w0 mu ops.toArray ds l [] iH (fun aK hc=>Ops P n w0 mu ops.toArray [] (aO ds (aK++iH)++l) hc Q) C [] (qN E c k++hp)) D2 Ib) D (oN c Rs++aB)) E []) S []):iV P n w0 mu ops.toArray l hp Q:=by
 intro a w hk hG
 simp only [splitB,Bool.and_eq_true,decide_eq_true_eq] at hsp
 obtain ⟨⟨⟨_,hnd⟩,hlt⟩,hcov⟩:=hsp
 have hlt':∀ i∈S++E++D,i<k:=fun i hi=>by have:=List.all_eq_true.1 hlt i hi;simpa using this
 have jZ:∀ i,i<k→i∈S∨i∈E∨i∈D:=fun i hi=>by
  have:=bC (List.all_eq_true.1 hcov i (List.mem_range.2 hi))
  simpa [or_assoc] using this
 rw [List.append_assoc,List.nodup_append] at hnd
 obtain ⟨uC,rQ,LU⟩:=hnd
 rw [List.nodup_append] at rQ
 obtain ⟨uD,AU,Pj⟩:=rQ
 obtain ⟨aB,h2,GG,lV,hsS⟩:=xG S [] uC (fun _ _=>rfl) (fun _ _ h=>by cases h) h (fun i v hv=>by cases hv)
 obtain ⟨Rs,h3,lY,hsE⟩:=xH E [] uD (fun _ _=>rfl) h2 (fun i R hR=>by cases hR)
 simp only [lk,reduceCtorEq,exists_false,or_false] at lV lY
 have rU:∀ i R,lk Rs i=some R→lk aB i=none:=fun i R hR=>by
  cases hv:lk aB i with
  | none=>rfl
  | some v=>exact absurd rfl (LU i ((lV i).1 ⟨v,hv⟩) i (List.mem_append_left _ ((lY i).1 ⟨R,hR⟩)))
 let kd:Nat→Kd:=fun i=>match lk Rs i with | some R=>.e R | none=>match lk aB i with | some v=>.s v | none=>.d
 have iW:∀ i R,kd i=.e R↔lk Rs i=some R:=fun i R=>by
  show (match lk Rs i with | some R=>Kd.e R | none=>match lk aB i with | some v=>.s v | none=>.d)=_↔_
  cases lk Rs i with
  | some R'=>simp
  | none=>cases lk aB i<;>simp
 have xJ:∀ i v,kd i=.s v→lk Rs i=none∧lk aB i=some v:=fun i v=>by
  show (match lk Rs i with | some R=>Kd.e R | none=>match lk aB i with | some v=>.s v | none=>.d)=_→_
  cases lk Rs i with
  | some R'=>simp
  | none=>cases lk aB i<;>simp
 have GH:∀ i,kd i=.d→lk Rs i=none∧lk aB i=none:=fun i=>by
  show (match lk Rs i with | some R=>Kd.e R | none=>match lk aB i with | some v=>.s v | none=>.d)=_→_
  cases lk Rs i with
  | some R'=>simp
  | none=>cases lk aB i<;>simp
 have yV:∀ i R,lk Rs i=some R→(i,R)∈Rs:=fun i R h=>gB h
 have hvalid:∀ c,Valid kd k c→vN c Rs:=fun c hc=>tu Rs fun p hp=>by
  obtain ⟨i,R⟩:=p
  have h1:=(hsE i R hp).1
  exact hc i (hlt' i (List.mem_append_left _ (List.mem_append_right _ ((lY i).1 ⟨R,h1⟩)))) R ((iW i R).2 h1)
 have hex:∀ c,Valid kd k c→∃ pG,fU P n w0 mu ops.toArray ds l [] (fun iH=>fD P n w0 mu ops.toArray ds l [] iH (fun aK hc=>Ops P n w0 mu ops.toArray [] (aO ds (aK++iH)++l) hc Q) C [] (qN E c k++hp)) D2 pG∧Uq pG∧iU (oN c Rs++aB) pG∧(∀ i,(∃ v,lk pG i=some v)↔i∈D∨∃ v,lk (oN c Rs++aB) i=some v)∧∀ i v,lk pG i=some v→lk (oN c Rs++aB) i=some v∨∃ o aU,ops.toArray[i]?=some o∧iU aU pG∧vM P n w0 mu (au ds aU o.after.toList++l) [] o v:=fun c hc=>
  pF D (oN c Rs++aB) AU (fun i hi=>by
   rw [bG]
   have e1:lk Rs i=none:=by
    cases hR:lk Rs i with
    | none=>rfl
    | some R=>exact absurd rfl (Pj i ((lY i).1 ⟨R,hR⟩) i hi)
   rw [e1]
   cases hv:lk aB i with
   | none=>rfl
   | some v=>exact absurd rfl (LU i ((lV i).1 ⟨v,hv⟩) i (List.mem_append_right _ hi))) (fun i v hv=>by
   rw [bG]
   rcases List.mem_append.1 hv with hv | hv
   ·obtain ⟨rfl,R,hR⟩:=pI Rs hv
    rw [(hsE i R hR).1]
   ·have h1:=GG i v hv
    cases hR:lk Rs i with
    | none=>exact h1
    | some R=>rw [rU i R hR] at h1;cases h1) (fun _ _ h=>h) (h3 c (hvalid c hc)) (fun i v hv=>.inl hv)
 have hch:∃ F:Ch→Fm,∀ c,Valid kd k c→fU P n w0 mu ops.toArray ds l [] (fun iH=>fD P n w0 mu ops.toArray ds l [] iH (fun aK hc=>Ops P n w0 mu ops.toArray [] (aO ds (aK++iH)++l) hc Q) C [] (qN E c k++hp)) D2 (F c)∧Uq (F c)∧iU (oN c Rs++aB) (F c)∧(∀ i,(∃ v,lk (F c) i=some v)↔i∈D∨∃ v,lk (oN c Rs++aB) i=some v)∧∀ i v,lk (F c) i=some v→lk (oN c Rs++aB) i=some v∨∃ o aU,ops.toArray[i]?=some o∧iU aU (F c)∧vM P n w0 mu (au ds aU o.after.toList++l) [] o v:=by
  classical
  refine ⟨fun c=>if hc:Valid kd k c then Classical.choose (hex c hc) else [],fun c hc=>?_⟩
  simp only [hc,dif_pos]
  exact Classical.choose_spec (hex c hc)
 obtain ⟨F,hF⟩:=hch
 let val:Ch→Nat→Value:=fun c i=>match kd i with | .s v=>v | .e _=>(c i).1 | .d=>(lk (F c) i).getD undef
 have mM:∀ c,Valid kd k c→∀ i v,lk (F c) i=some v→val c i=v:=fun c hc i v hv=>by
  obtain ⟨_,_,hmo,_,_⟩:=hF c hc
  show (match kd i with | .s v=>v | .e _=>(c i).1 | .d=>(lk (F c) i).getD undef)=v
  cases hkd:kd i with
  | s u=>
   obtain ⟨e1,e2⟩:=xJ i u hkd
   have:=hmo i u (by rw [bG,e1];exact e2)
   rw [hv] at this;cases this;rfl
  | e R=>
   have e1:=(iW i R).1 hkd
   have:=hmo i (c i).1 (by rw [bG,e1])
   rw [hv] at this;cases this;rfl
  | d=>rw [hv];rfl
 have pJ:∀ c,Valid kd k c→∀ i,i<k→∃ v,lk (F c) i=some v:=fun c hc i hi=>by
  obtain ⟨_,_,_,hkk,_⟩:=hF c hc
  rw [hkk i]
  rcases jZ i hi with h | h | h
  ·obtain ⟨v,hv⟩:=(lV i).2 h
   right
   rw [bG]
   cases lk Rs i with
   | some R=>exact ⟨_,rfl⟩
   | none=>exact ⟨v,hv⟩
  ·obtain ⟨R,hR⟩:=(lY i).2 h
   right
   rw [bG,hR]
   exact ⟨_,rfl⟩
  ·exact .inl h
 have iY:∀ i v,lk aB i=some v→i<k∧∀ c,val c i=v:=fun i v hv=>by
  refine ⟨hlt' i (List.mem_append_left _ (List.mem_append_left _ ((lV i).1 ⟨v,hv⟩))),fun c=>?_⟩
  show (match kd i with | .s v=>v | .e _=>(c i).1 | .d=>(lk (F c) i).getD undef)=v
  have:kd i=.s v:=by
   show (match lk Rs i with | some R=>Kd.e R | none=>match lk aB i with | some v=>.s v | none=>.d)=_
   cases hR:lk Rs i with
   | some R=>rw [rU i R hR] at hv;cases hv
   | none=>rw [hv]
  rw [this]
 cases C with
 | nil=>simp [pW] at hB
 | cons t0 C'=>
 simp only [pW,Bool.and_eq_true,decide_eq_true_eq] at hB
 obtain ⟨⟨⟨⟨⟨⟨⟨⟨⟨⟨hks,hd⟩,QY⟩,hback⟩,pX⟩,dN⟩,hSt⟩,TJ⟩,hge⟩,oJ⟩,hwt⟩:=hB
 simp only [lN,Bool.and_eq_true,decide_eq_true_eq] at pX
 obtain ⟨⟨NU,NV⟩,Ic⟩:=pX
 have Bg:∀ j,j∈D2++t0::C'→k≤j:=fun j hj=>by have:=List.all_eq_true.1 hge j hj;simpa using this
 have jg:∀ i d,lk ds i=some d→aA ops.toArray i=some d:=fun i d h=>by rw [← hds] at h;have:=(fV ops 0 i d h).2;simpa [aA] using this
 have xI:∃ c0:Ch,Valid kd k c0:=by
  have h1:∀ i,∃ x:Value × Hp,∀ R,kd i=.e R→R x.1 x.2:=fun i=>by
   cases hR:lk Rs i with
   | none=>exact ⟨(undef,[]),fun R h=>by rw [(iW i R).1 h] at hR;cases hR⟩
   | some R=>
    obtain ⟨_,o,_,_,v,hn,hv⟩:=hsE i R (yV i R hR)
    exact ⟨(v,hn),fun R' h=>by rw [(iW i R').1 h] at hR;cases hR;exact hv⟩
  exact ⟨fun i=>Classical.choose (h1 i),fun i hi R hR=>Classical.choose_spec (h1 i) R hR⟩
 obtain ⟨c0,hc0⟩:=xI
 have inv0:HeadInv .any ops.toArray k (Array.replicate ops.toArray.size false):=
  ⟨by simp,fun j oj _ hl=>UD,fun t _ ht=>getD_in U7 (getD_replicate_false _ _)⟩
 have hleft:leftOf k (Array.replicate ops.toArray.size false)=k:=by
  unfold leftOf
  rw [List.filter_eq_self.2]
  ·simp
  ·intro i hi
   have hi':i<k:=by simpa using hi
   have:(Array.replicate ops.toArray.size false).getD i true=false:=getD_in U8 (getD_replicate_false _ _)
   simp only [this,Bool.not_false]
 have GI:∀ m,gK kd c0 (Array.replicate ops.toArray.size false) m=[]:=by
  intro m
  induction m with
  | zero=>rfl
  | succ m ih=>simp only [gK,ih,jm,getD_replicate_false,Bool.and_false,cond_false,List.append_nil]
 have qO:∀ i,i<k→oM (kd i)=mem E i:=fun i hi=>by
  cases hkd:kd i with
  | e R=>rw [mem_of ((lY i).1 ⟨R,(iW i R).1 hkd⟩)];rfl
  | s v=>
   cases hmm:mem E i with
   | false=>rfl
   | true=>obtain ⟨R,hR⟩:=(lY i).2 (bC hmm);rw [(iW i R).2 hR] at hkd;cases hkd
  | d=>
   cases hmm:mem E i with
   | false=>rfl
   | true=>obtain ⟨R,hR⟩:=(lY i).2 (bC hmm);rw [(iW i R).2 hR] at hkd;cases hkd
 have key:=Be jg (P:=P) (n:=n) (w0:=w0) (mu:=mu) (l:=l) (hp:=hp) (all:=ops.toArray) (kd:=kd) (val:=val) (k:=k) (g:=ops.toArray.size - k) (Q':=QQ n w0 mu Q) hks hd hf1 hback
  (fun i o v hi ho hkd=>by
   obtain ⟨e1,e2⟩:=xJ i v hkd
   obtain ⟨o',aU,h1,h2,h3⟩:=hsS i v e2
   rw [ho] at h1;cases h1
   exact ⟨(iY i v e2).2,aU,fun j u hu=>iY j u (h2 j u UM),h3⟩)
  (fun i o R hi ho hkd=>by
   have e1:=(iW i R).1 hkd
   obtain ⟨_,o',h1,h2,_⟩:=hsE i R (yV i R e1)
   rw [ho] at h1;cases h1
   refine ⟨fun c=>?_,aB,fun j u hu=>iY j u UM,h2⟩
   show (match kd i with | .s v=>v | .e _=>(c i).1 | .d=>(lk (F c) i).getD undef)=_
   rw [hkd])
  (fun c hcv i o hi ho hkd=>by
   obtain ⟨e1,e2⟩:=GH i hkd
   obtain ⟨v,hv⟩:=pJ c hcv i hi
   obtain ⟨_,_,_,_,hsp⟩:=hF c hcv
   rw [mM c hcv i v hv]
   rcases hsp i v hv with h0 | ⟨o',aU,h1,h2,h3⟩
   ·rw [bG,e1] at h0;rw [e2] at h0;cases h0
   ·rw [ho] at h1;cases h1
    refine ⟨aU,fun j u hu=>?_,Ia h3⟩
    have hj:=h2 j u UM
    refine ⟨?_,mM c hcv j u hj⟩
    obtain ⟨_,_,_,hkk,_⟩:=hF c hcv
    rcases (hkk j).1 ⟨u,hj⟩ with h | ⟨v',h⟩
    ·exact hlt' j (List.mem_append_right _ h)
    ·rw [bG] at h
     cases hR:lk Rs j with
     | some R=>exact hlt' j (List.mem_append_left _ (List.mem_append_right _ ((lY j).1 ⟨R,hR⟩)))
     | none=>rw [hR] at h;exact (iY j v' h).1)
  (fun f c listed hlf inv kU a w hmid=>?_)
  (fun listed inv i hi hie hun t ht=>?_)
  k c0 _ a { w with drawn:=w.drawn + 1 } hleft inv0 ⟨hk.size,hk.defers,hk.has,hc0,by rw [GI];exact hG.drawn _,fun i _ hl=>UD⟩
 ·have e:k + (ops.toArray.size - k)=ops.toArray.size:=by omega
  rw [e] at key
  exact key
 ·obtain ⟨hX,Pm,hmo,hkk,hsp1⟩:=hF c hmid.valid
  have NW:∀ i v,lk (F c) i=some v→i<k:=fun i v hv=>by
   rcases (hkk i).1 ⟨v,hv⟩ with h | ⟨v',h⟩
   ·exact hlt' i (List.mem_append_right _ h)
   ·rw [bG] at h
    cases hR:lk Rs i with
    | some R=>exact hlt' i (List.mem_append_left _ (List.mem_append_right _ ((lY i).1 ⟨R,hR⟩)))
    | none=>rw [hR] at h;exact (iY i v' h).1
  have zo:=NU
  rw [List.nodup_append,List.nodup_append] at zo
  obtain ⟨⟨_,Ie,QZ⟩,xR,Q3⟩:=zo
  obtain ⟨iH,hY,hu2,xX,Bh,hsp2⟩:=pF (base:=F c) D2 (F c) Ie (fun i hi=>by
   cases hv:lk (F c) i with
   | none=>rfl
   | some v=>
    have h1:=NW i v hv
    have h2:=Bg i (List.mem_append_left _ hi)
    omega) Pm (fun _ _ h=>h) hX (fun i v hv=>.inl hv)
  have uT:∀ j,k≤j→j<ops.toArray.size→listed.getD j true=false:=fun j h1 h2=>inv.tail j h1 h2
  have uU:∀ i∈(S++E++D++D2)++t0::C',i<ops.toArray.size:=fun i hi=>by have:=List.all_eq_true.1 NV i hi;simpa using this
  have qM:∀ i v,lk iH i=some v→i<ops.toArray.size:=fun i v hv=>by
   rcases (Bh i).1 ⟨v,hv⟩ with h | ⟨v',h⟩
   ·exact uU i (List.mem_append_left _ (List.mem_append_right _ h))
   ·have:=NW i v' h;omega
  have invK:HeadInv .any ops.toArray ops.toArray.size listed:=⟨inv.size,inv.closed,fun t h1 h2=>by omega⟩
  have NY:leftOf ops.toArray.size listed=f + (ops.toArray.size - k):=by rw [rV hks uT,hlf]
  have hbe:∀ m,m≤k→gK kd c listed m=qN E c m:=by
   intro m
   induction m with
   | zero=>intro _;rfl
   | succ m ih=>
    intro hm
    simp only [gK,qN,jm]
    rw [ih Uz,qO m Uz]
    cases hme:mem E m with
    | false=>rfl
    | true=>
     have h1:=kU m Uz (by rw [qO m Uz];exact hme)
     have h2:listed.getD m false=true:=by
      cases hcc:listed.getD m false with
      | true=>rfl
      | false=>rw [getD_in UF hcc] at h1;cases h1
     rw [h2];rfl
  have hgood:Good w0 mu (qN E c k++hp) w:=by rw [← hbe k (Nat.le_refl _)];exact hmid.good
  have Ig:l7 n w0 mu ops.toArray l iH [] (qN E c k++hp) listed a w:=by
   refine ⟨hmid.size,hmid.defers,hmid.has,hgood,fun i v hv hl d hdd=>?_,fun i v hv=>by cases hv⟩
   have hik:i<k:=by
    rcases Nat.lt_or_ge i k with h | h
    ·exact h
    ·have h1:=uT i h (qM i v hv)
     rw [getD_both h1] at hl;cases hl
   obtain ⟨v',hv'⟩:=pJ c hmid.valid i hik
   have h1:=xX i v' hv'
   rw [hv] at h1;cases h1
   rw [hmid.done i hik hl c hmid.valid (fun _ _ _ _=>rfl) d hdd]
   exact mM c hmid.valid i v hv'
  have NZ:=uS jg (P:=P) (n:=n) (w0:=w0) (mu:=mu) (l:=l) (hp:=hp) (h0:=[]) (all:=ops.toArray) (aB:=iH) (k:=ops.toArray.size) (t0:=t0) (g:=0) (Q':=QQ n w0 mu Q) (X:=fun aK hc=>Ops P n w0 mu ops.toArray [] (aO ds (aK++iH)++l) hc Q) (dn:=mem E) (Nat.le_refl _) QY hf hback (dQ fun b=>by simp [jU])
   (fun i hi hdn=>by
    have:=List.all_eq_true.1 oJ i (List.mem_range.2 hi)
    rw [hdn] at this
    simp only [Option.isSome_none,Bool.false_or,Bool.or_eq_true] at this
    rcases this with h | h
    ·exact .inl (Nat.eq_of_beq_eq_true h)
    ·exact .inr h)
   (fun i v hv=>⟨qM i v hv,fun hne=>?_⟩)
   (fun aK h listed inv hall hX a w hmid hEk=>?_)
   (fun listed inv i hi hun t ht hr=>by
    obtain ⟨_,o,ho,_⟩:=mem_ready.1 hr
    have:=(Array.getElem?_eq_some_iff.1 ho).1
    omega)
   (f + (ops.toArray.size - k)) (t0::C') [] (qN E c k++hp) listed a w NY invK (fun i hi=>kU i (hlt' i (List.mem_append_left _ (List.mem_append_right _ (bC hi)))) UY) Ig (fun i v hv=>by cases hv)
   (fun i hi=>⟨uU i (List.mem_append_right _ hi),uT i (Bg i (List.mem_append_right _ hi)) (uU i (List.mem_append_right _ hi)),?_⟩) xR dN (fun i hi hl=>?_) (dQ fun b=>by simp [jU]) (fun _=>aI.right _ _) hY
  ·exact NZ
  ·rcases hsp2 i v hv with h0 | ⟨o,aU,h1,h2,h3⟩
   ·rcases hsp1 i v h0 with h0 | ⟨o,aU,h1,h2,h3⟩
    ·rw [bG] at h0
     cases hR:lk Rs i with
     | some R=>
      rw [mem_of ((lY i).1 ⟨R,hR⟩)] at hne;cases hne
     | none=>
      rw [hR] at h0
      obtain ⟨o,aU,h1,h2,h3⟩:=hsS i v h0
      refine ⟨o,aU,h1,fun j u hu=>?_,fun hx=>?_⟩
      ·refine xX j u (hmo j u ?_)
       have h4:=h2 j u hu
       rw [bG]
       cases hR2:lk Rs j with
       | some R2=>rw [rU j R2 hR2] at h4;cases h4
       | none=>exact h4
      ·rw [List.all_eq_true.1 hSt i ((lV i).1 ⟨v,h0⟩)]
       exact h3 hx
    ·exact ⟨o,aU,h1,fun j u hu=>xX j u (h2 j u hu),fun hx=>CY h3⟩
   ·exact ⟨o,aU,h1,h2,fun hx=>CY h3⟩
  ·have lS:Knows n (aO ds (aK++iH)++l) a:=by
    refine ⟨hmid.size,hmid.defers,fun t v ht=>?_⟩
    rcases bI ht with ht | ⟨_,ht⟩
    ·obtain ⟨j,h1,h2⟩:=eP (dF ht)
     rcases List.mem_append.1 h1 with h1 | h1
     ·exact (hmid.jP j v h1).2 t (jg _ _ h2)
     ·have hj:=hu2 j v h1
      have hjk:=qM j v hj
      refine hmid.lX j v hj ?_ t (jg _ _ h2)
      have h5:=hall j hjk
      cases hcc:listed.getD j false with
      | true=>rfl
      | false=>rw [getD_in UF hcc] at h5;cases h5
    ·exact hmid.has t v ht
   refine ⟨?_,hX a w lS hmid.good⟩
   rw [List.eq_nil_iff_forall_not_mem]
   intro i hi
   obtain ⟨hun,o,ho,_⟩:=mem_ready.1 hi
   rw [hall i (Array.getElem?_eq_some_iff.1 ho).1] at hun;cases hun
  ·cases hv:lk iH i with
   | none=>rfl
   | some v=>
    exfalso
    have h2:=Bg i (List.mem_append_right _ hi)
    rcases (Bh i).1 ⟨v,hv⟩ with h | ⟨v',h⟩
    ·exact Q3 i (List.mem_append_right _ h) i hi rfl
    ·have:=NW i v' h;omega
  ·have h1:=bC (List.all_eq_true.1 Ic i (List.mem_range.2 hi))
   rcases List.mem_append.1 h1 with h1 | h1
   ·left
    rcases List.mem_append.1 h1 with h1 | h1
    ·obtain ⟨v,hv⟩:=pJ c hmid.valid i (hlt' i h1)
     exact ⟨v,xX i v hv⟩
    ·exact (Bh i).2 (.inl h1)
   ·exact .inr h1
 ·intro hr
  obtain ⟨_,o,ho,hall⟩:=mem_ready.1 hr
  have hts:t<ops.toArray.size:=(Array.getElem?_eq_some_iff.1 ho).1
  have hwl:∀ j,Region.waitsFor .any ops.toArray t j=true→listed.getD j false=true:=fun j hj=>by
   obtain ⟨oj,h6,e,he,hb,heq⟩:=Region.waitsFor_spec hj
   rw [ho] at h6;cases h6
   rw [← heq];exact hall e he hb
  have h1:=List.all_eq_true.1 hwt t (List.mem_range.2 hts)
  simp only [Bool.or_eq_true] at h1
  rcases h1 with (h1 | h1) | h1
  ·have:t<k:=by simpa using h1
   omega
  ·have h2:=hwl i (List.all_eq_true.1 h1 i (bC (by rw [← qO i hi];exact hie)))
   rw [getD_both hun] at h2;cases h2
  ·obtain ⟨j,hj,h2⟩:=List.any_eq_true.1 h1
   rw [Bool.and_eq_true] at h2
   have h3:=hwl j h2.2
   rw [getD_both (inv.tail j (by simpa using h2.1) (List.mem_range.1 hj))] at h3;cases h3
theorem Eo {ops:List Oper} (k:Nat) (S E D D2 C:List Nat) (hB:pW ops.toArray n k S E D D2 C=true) (hf:aS l (dstsOf ops.toArray ops.toArray.size)=true) (hf1:aS l (dstsOf ops.toArray k)=true) (hsp:splitB k S E D=true) (hds:aY ops 0=ds)
  (h:iK P n w0 mu ops.toArray ds l hp (fun aB=>iE P n w0 mu ops.toArray ds l hp aB (fun Rs=>DN (fun iv bl=>fU P n w0 mu ops.toArray ds l [] (fun Ib=>fU P n w0 mu ops.toArray ds l [] (fun iH=>fD P n w0 mu ops.toArray ds l [] iH (fun aK hc=>Ops P n w0 mu ops.toArray [] (aO ds (aK++iH)++l) hc Q) C [] (bl++hp)) D2 Ib) D (iv++aB)) Rs) E []) S []):iV P n w0 mu ops.toArray l hp Q:=by
 refine Bf k S E D D2 C hB hf hf1 hsp hds (uF (fun aB h2=>uG E [] (fun Rs e h3 c hc=>?_) h2) S [] h)
 have:=JW Rs _ c h3 hc
 have he:qN E c k=AV c (Rs.map (·.1)):=by
  simp only [splitB,Bool.and_eq_true,decide_eq_true_eq] at hsp
  rw [xK,← hsp.1.1.1,e];simp
 rw [he]
 exact this
end
section
variable {n : Nat} {w0 : World} {mu : List Nat} {l : Fm} {hp : Hp} {Q : Exit → Fm → Hp → Prop} {ds : List (Nat × Nat)}
theorem Bi {id:Nat} {ops:List Oper} (k:Nat) (S E D D2 C:List Nat) (h:iK Tryz.prog n w0 mu ops.toArray ds l hp (fun aB=>iE Tryz.prog n w0 mu ops.toArray ds l hp aB (fun Rs=>DN (fun iv bl=>fU Tryz.prog n w0 mu ops.toArray ds l [] (fun Ib=>fU Tryz.prog n w0 mu ops.toArray ds l [] (fun iH=>fD Tryz.prog n w0 mu ops.toArray ds l [] iH (fun aK hc=>Ops Tryz.prog n w0 mu ops.toArray [] (aO ds (aK++iH)++l) hc Q) C [] (bl++hp)) D2 Ib) D (iv++aB)) Rs) E []) S [])
  (hds:aY ops 0=ds:=by (simp only [aY,Nat.reduceAdd,Nat.zero_add];rfl)) (hm:Tryz.prog.follows .mixedOrders=true:=by kernel_rfl) (hB:pW ops.toArray n k S E D D2 C=true:=by decide +kernel) (hf:aS l (dstsOf ops.toArray ops.toArray.size)=true:=by rfl) (hf1:aS l (dstsOf ops.toArray k)=true:=by rfl) (hsp:splitB k S E D=true:=by decide +kernel):St Tryz.prog n w0 mu (.region id ops.toArray true) l hp Q:=
 oH hm (Eo k S E D D2 C hB hf hf1 hsp hds h)
end
end
def l9 (n:Nat):Nat:=18446744073709551615 >>> (64 - n)
theorem Kw {n:Nat} (h:n≤64):l9 n=2 ^ n - 1:=by
 have:∀ n,n≤64→l9 n=2 ^ n - 1:=by decide
 exact this n h
theorem tJ (n:Nat):l9 n<18446744073709551616:=by
 unfold l9
 rw [Nat.shiftRight_eq_div_pow]
 exact Nat.lt_of_le_of_lt (Nat.div_le_self _ _) UA
theorem uX {v n:Nat} (hn:n≤64) (hv:v<2 ^ n):v &&& (18446744073709551615 - l9 n)=0:=by
 have e:18446744073709551615 - l9 n=(2 ^ (64 - n) - 1) * 2 ^ n:=by
  have:∀ n,n≤64→18446744073709551615 - l9 n=(2 ^ (64 - n) - 1) * 2 ^ n:=by decide
  exact this n hn
 rw [e]
 apply Nat.eq_of_testBit_eq
 intro i
 rw [Nat.testBit_and,Nat.zero_testBit,Nat.testBit_mul_two_pow]
 by_cases hi:n≤i
 ·rw [Nat.testBit_lt_two_pow (Nat.lt_of_lt_of_le hv (Nat.pow_le_pow_right UA hi))];rfl
 ·simp [hi]
def bg (w a n:Nat):Nat:=(w >>> a) &&& l9 n
structure og where
 a:Nat
 n:Nat
 v:Nat
deriving Inhabited
abbrev Ad (f:og):List Value:=[.int .i64 (f.a:Int),.int .i64 (f.n:Int),.int .u64 (f.v:Int)]
structure og.Ok (f:og):Prop where
 n1:1≤f.n
 an:f.a + f.n≤64
 v:f.v<2 ^ f.n
theorem og.Ok.v64 {f:og} (h:f.Ok):f.v<18446744073709551616:=
 Nat.lt_of_lt_of_le h.v (Nat.le_trans (Nat.pow_le_pow_right UA (show f.n≤64 by have:=h.an;omega)) UA)
def og.mask (f:og):Nat:=(l9 f.n <<< f.a) % 18446744073709551616
def og.bits (f:og):Nat:=(f.v <<< f.a) % 18446744073709551616
theorem og.nP (f:og):f.mask<18446744073709551616:=Nat.mod_lt _ UA
theorem og.tK (f:og):f.bits<18446744073709551616:=Nat.mod_lt _ UA
def joinL:List og→Nat→Nat→Option (Nat × Nat)
 | [],w,t=>some (w,t)
 | f::r,w,t=>bif decide (t &&& f.mask=0) then joinL r (w ||| f.bits) (t ||| f.mask) else none
def wJ (r:Option (Nat × Nat)):Nat:=match r with | some x=>x.1 | none=>0
def zq (r:Option (Nat × Nat)):Int:=match r with | some _=>0 | none=>4
def Mc (r:Option (Nat × Nat)):Nat:=match r with | some x=>x.2 | none=>0
section
attribute [local irreducible] Hy St Ops DH fE
theorem Bj (f:og) (h:f.Ok) (w:World):Fn Tryz.prog 222 [.agg #[.int .i64 (f.a:Int),.int .i64 (f.n:Int),.int .u64 (f.v:Int)]].toArray w [] (fun u _=>u=.int .u64 (l9 f.n:Int)):=by
 have h1:=h.n1
 have h2:=h.an
 refine enter Tryz.func222 ?_
 refine run ?_
 intro B
 refine run ?_
 refine lU UB (xQ rfl rfl 18446744073709551615 (64 - f.n) UB Uz Uz) ?_
 refine run ?_
 exact fin1 rfl
theorem CZ (f:og) (h:f.Ok) (w:World):Fn Tryz.prog 213 [.agg #[.int .i64 (f.a:Int),.int .i64 (f.n:Int),.int .u64 (f.v:Int)]].toArray w [] (fun u _=>u=.int .u64 (f.mask:Int)):=by
 have h1:=h.n1
 have h2:=h.an
 refine enter Tryz.func213 ?_
 refine run ?_
 intro B
 refine run ?_
 refine ja 6 ?_
 refine gp ?_
 refine nY (fun wc hG=>Bj f h wc) ?_
 refine gp ?_
 refine A7 (qY rfl rfl (l9 f.n) f.a UB UB Uz) ?_
 refine gp ?_
 refine run ?_
 refine run ?_
 exact fin1 rfl
theorem Ih (f:og) (h:f.Ok) (w:World):Fn Tryz.prog 212 [.agg #[.int .i64 (f.a:Int),.int .i64 (f.n:Int),.int .u64 (f.v:Int)]].toArray w [] (fun u _=>u=.bool true):=by
 have h1:=h.n1
 have h2:=h.an
 have h3:=h.v64
 have h4:=uX (show f.n≤64 by omega) h.v
 have c1:decide ((1:Int)≤(f.n:Int))=true:=decide_eq_true Uz
 have c2:decide ((f.n:Int)≤64)=true:=decide_eq_true Uz
 have c3:decide ((0:Int)≤(f.a:Int))=true:=decide_eq_true Uz
 have c4:decide ((f.a:Int)≤64 - (f.n:Int))=true:=decide_eq_true Uz
 refine enter Tryz.func212 ?_
 refine run ?_
 intro B
 refine aG ?_
 refine ja 35 ?_
 refine gy ?_
 refine ji (fun hg wc hG=>Bj f h wc) ?_
 refine Ej (hy:=fun hg=>wH UH UH f.v (l9 f.n) UB UB h3 (tJ _)) (h:=?_)
 rw [h4]
 refine gy ?_
 refine run ?_
 refine fin1 ?_
 simp [c1,c2,c3,c4]
theorem N7 (v a n:Nat) (hn:1≤n) (PU:a + n≤64) (hv:v<18446744073709551616) (w:World):Fn Tryz.prog 223 [.int .u64 (v:Int),.int .i64 (a:Int),.int .i64 (n:Int)].toArray w [] (fun u _=>u=.tuple #[.int .u64 (bg v a n:Int),.int .i64 0]):=by
 have hok:og.Ok ⟨a,n,0⟩:=⟨hn,PU,Nat.pos_of_ne_zero UC⟩
 refine enter Tryz.func223 ?_
 refine run ?_
 intro B
 refine run ?_
 refine ax (fun wc hG=>Ih ⟨a,n,0⟩ hok wc) ?_
 refine ig ?_
 refine ja 8 ?_
 refine gp ?_
 refine A7 (xQ rfl rfl v a UB UB Uz) ?_
 refine gp ?_
 refine nY (fun wc hG=>Bj ⟨a,n,0⟩ hok wc) ?_
 refine A7 (uO rfl rfl (v >>> a) (l9 n) UB UB (Nat.lt_of_le_of_lt UX hv) (tJ _)) ?_
 refine gp ?_
 refine run ?_
 exact fin2 rfl
theorem uY {xs:List og} {k:Nat} (hk:k<xs.length) (w t:Nat):joinL (xs.drop k) w t=bif decide (t &&& (xs.getD k default).mask=0) then joinL (xs.drop (k + 1)) (w ||| (xs.getD k default).bits) (t ||| (xs.getD k default).mask) else none:=by
 rw [List.drop_eq_getElem_cons hk,joinL,List.getD_eq_getElem?_getD,List.getElem?_eq_getElem hk];rfl
theorem tN {a b:Nat} (ha:a<18446744073709551616) (hb:b<18446744073709551616):a ||| b<18446744073709551616:=Nat.or_lt_two_pow (n:=64) ha hb
theorem Ep (xs:List og) (hx:∀ f∈xs,f.Ok) {w:World} {v:Value} (h:aF w v 3 (xs.map Ad)):Fn Tryz.prog 191 [v].toArray w [] (fun u _=>u=.tuple #[.int .u64 (wJ (joinL xs 0 0):Int),.int .u64 (Mc (joinL xs 0 0):Int),.int .i64 (zq (joinL xs 0 0))]):=by
 obtain ⟨a,ac,rfl,Es,hal⟩:=h.opened
 have hok:∀ k,k<xs.length→(xs.getD k default).Ok:=fun k hk=>hx _ U5
 refine enter Tryz.func191 ?_
 refine run ?_
 refine eF (σ:=Nat) (fun k=>[(12,.int .i64 (k:Int))]) (fun _=>[]) (fun k=>k≤xs.length) (fun k=>xs.length - k) 0 (Nat.zero_le _) ?_
 rintro k m hm hk
 refine run ?_
 refine ah _ rfl (fun hc=>?_) (fun hc=>?_)
 ·have hlt:k<xs.length:=by simp at hc;omega
  obtain ⟨b,o,rfl⟩:=Es Va
  have hr:=h.row hlt
  have hf:=hok k hlt
  generalize xs.getD k default=x at hr hf
  refine run ?_
  intro F
  refine run ?_
  refine ax (fun wc hG=>Ih x hf wc) ?_
  refine ig ?_
  exact dG (k + 1) hlt
 ·refine run ?_
  clear hc
  refine eF (σ:=Nat × Nat × Nat) (fun s=>[(23,.int .i64 (s.1:Int)),(2,.int .u64 (s.2.1:Int)),(3,.int .u64 (s.2.2:Int))]) (fun _=>[]) (fun s=>s.1≤xs.length∧s.2.1<18446744073709551616∧s.2.2<18446744073709551616∧joinL (xs.drop s.1) s.2.1 s.2.2=joinL xs 0 0) (fun s=>xs.length - s.1) (0,0,0) ⟨Nat.zero_le _,by decide,by decide,rfl⟩ ?_
  rintro ⟨k2,wd,tk⟩ m2 hm2 ⟨hk2,hw,ht,hj⟩
  dsimp only at hm2 hk2 hw ht hj ⊢
  refine run ?_
  refine ah _ rfl (fun hc=>?_) (fun hc=>?_)
  ·have hlt:k2<xs.length:=by simp at hc;omega
   obtain ⟨b,o,rfl⟩:=Es Va
   have hr:=h.row hlt
   have hf:=hok k2 hlt
   rw [uY hlt] at hj
   generalize xs.getD k2 default=x at hr hf hj
   refine run ?_
   intro F
   refine run ?_
   intro X
   refine ax (fun wc hG=>CZ x hf wc) ?_
   refine lU UB (uO rfl rfl tk x.mask UB UB ht x.nP) ?_
   refine run ?_
   refine ah _ rfl (fun hq=>?_) (fun hq=>?_)
   ·have hq':decide (tk &&& x.mask=0)=false:=by simpa using hq
    rw [hq'] at hj
    rw [← hj]
    refine run ?_
    exact J8 rfl
   ·have hq':decide (tk &&& x.mask=0)=true:=by simpa using hq
    rw [hq'] at hj
    refine run ?_
    refine late 13 9 ?_
    refine PG 13 12 ?_
    refine ND 13 [0,1,2,3,4,5,6,7,8,9,10,11,12] [] [] ?_
    refine fJ ?_
    refine fB rfl (fun hx2=>qY rfl rfl x.v x.a UB UB (by have:=hf.an;omega)) ?_
    refine fB rfl (fun hx2=>CU rfl rfl wd x.bits UB UB hw x.tK) ?_
    refine fJ ?_
    refine fB rfl (fun hx2=>cZ (di 213 rfl) rfl (fun wc hG=>CZ x hf wc)) ?_
    refine fB rfl (fun hx2=>CU rfl rfl tk x.mask UB UB ht x.nP) ?_
    refine fJ ?_
    refine kM ?_
    simp only [DN]
    refine lK ?_
    refine xO ?_
    simp only [List.cons_append,List.nil_append,List.append_nil]
    refine run ?_
    exact dG (k2 + 1,wd ||| x.bits,tk ||| x.mask) ⟨hlt,tN hw x.tK,tN ht x.nP,hj⟩
  ·have hk0:k2=xs.length:=by simp at hc;omega
   subst hk0
   rw [List.drop_length] at hj
   rw [← hj]
   refine run ?_
   exact J8 rfl
theorem Ky (xs:List og) (hx:∀ f∈xs,f.Ok) {w:World} {v:Value} (h:aF w v 3 (xs.map Ad)):Fn Tryz.prog 143 [v].toArray w [] (fun u _=>u=.tuple #[.int .u64 (wJ (joinL xs 0 0):Int),.int .i64 (zq (joinL xs 0 0))]):=by
 obtain ⟨a,ac,rfl,Es,hal⟩:=h.opened
 refine enter Tryz.func143 ?_
 refine run ?_
 refine ax (fun wc hG=>Ep xs hx (h.good hG)) ?_
 refine run ?_
 exact fin2 rfl
theorem xY (n:Nat) (hn:n≤64) (w:World):Fn Tryz.prog 162 [.int .i64 (n:Int)].toArray w [] (fun u _=>u=.int .u64 (l9 n:Int)):=by
 refine enter Tryz.func162 ?_
 refine run ?_
 refine ah _ rfl (fun hc=>?_) (fun hc=>?_)
 ·have:n=64:=by simp at hc;omega
  subst this
  refine run ?_
  exact fin1 rfl
 ·have hlt:n<64:=by simp at hc;omega
  refine run ?_
  refine lU UB (qY rfl rfl 1 n UB UB Uz) ?_
  have e:∀ n,n<64→((1 <<< n) % 18446744073709551616:Nat)=2 ^ n∧1≤2 ^ n∧2 ^ n≤18446744073709551615:=by decide
  obtain ⟨e1,e2,e3⟩:=e n hlt
  rw [e1]
  refine run ?_
  refine fin1 ?_
  rw [Kw hn,IntKind.wrap_u64]
  generalize 2 ^ n=z at e2 e3
  congr 1
  omega
theorem xZ (v a n:Nat) (hn:n≤64) (PU:a≤64) (hv:v<18446744073709551616) (w:World):Fn Tryz.prog 105 [.int .u64 (v:Int),.int .i64 (a:Int),.int .i64 (n:Int)].toArray w [] (fun u _=>u=.int .u64 (bg v a n:Int)):=by
 refine enter Tryz.func105 ?_
 refine run ?_
 refine ja 6 ?_
 refine gp ?_
 refine A7 (xQ rfl rfl v a UB UB Uz) ?_
 refine gp ?_
 refine nY (fun wc hG=>xY n hn wc) ?_
 refine A7 (uO rfl rfl (v >>> a) (l9 n) UB UB (Nat.lt_of_le_of_lt UX hv) (tJ _)) ?_
 refine gp ?_
 refine run ?_
 exact fin1 rfl
theorem Kz (a n:Nat) (hn:1≤n) (PU:a + n≤64) (w:World):Fn Tryz.prog 216 [.int .i64 (a:Int),.int .i64 (n:Int)].toArray w [] (fun u _=>u=.bool true):=by
 refine enter Tryz.func216 ?_
 refine aG ?_
 refine fin1 ?_
 have c1:decide ((0:Int)≤(a:Int))=true:=decide_eq_true Uz
 have c2:decide ((a:Int)≤63)=true:=decide_eq_true Uz
 have c3:decide ((1:Int)≤(n:Int))=true:=decide_eq_true Uz
 have c4:decide ((n:Int)≤64 - (a:Int))=true:=decide_eq_true Uz
 simp [c1,c2,c3,c4]
theorem Ii (f:og) (h:f.Ok) (w:World):Fn Tryz.prog 199 [.agg #[.int .i64 (f.a:Int),.int .i64 (f.n:Int),.int .u64 (f.v:Int)]].toArray w [] (fun u _=>u=.bool true):=by
 have h1:=h.n1
 have h2:=h.an
 have h3:=h.v64
 have h4:=uX (show f.n≤64 by omega) h.v
 refine enter Tryz.func199 ?_
 refine run ?_
 intro B
 refine run ?_
 refine ja 14 ?_
 refine gy ?_
 refine nY (fun wc hG=>Kz f.a f.n h1 h2 wc) ?_
 refine gy ?_
 refine ji (fun hg wc hG=>xY f.n Uz wc) ?_
 refine Ej (hy:=fun hg=>wH UH UH f.v (l9 f.n) UB UB h3 (tJ _)) (h:=?_)
 rw [h4]
 refine gy ?_
 refine run ?_
 refine fin1 ?_
 rfl
theorem x8 (xs:List og) (hx:∀ f∈xs,f.Ok) {w:World} {v:Value} (h:aF w v 3 (xs.map Ad)):Fn Tryz.prog 164 [v].toArray w [] (fun u _=>u=.tuple #[.int .u64 (wJ (joinL xs 0 0):Int),.int .u64 (Mc (joinL xs 0 0):Int),.int .i64 (zq (joinL xs 0 0))]):=by
 obtain ⟨a,ac,rfl,Es,hal⟩:=h.opened
 have hok:∀ k,k<xs.length→(xs.getD k default).Ok:=fun k hk=>hx _ U5
 refine enter Tryz.func164 ?_
 refine run ?_
 refine eF (σ:=Nat) (fun k=>[(5,.int .i64 (k:Int))]) (fun _=>[]) (fun k=>k≤xs.length) (fun k=>xs.length - k) 0 (Nat.zero_le _) ?_
 rintro k m hm hk
 refine run ?_
 refine ah _ rfl (fun hc=>?_) (fun hc=>?_)
 ·have hlt:k<xs.length:=by simp at hc;omega
  obtain ⟨b,o,rfl⟩:=Es Va
  have hr:=h.row hlt
  have hf:=hok k hlt
  generalize xs.getD k default=x at hr hf
  refine run ?_
  refine ax (fun wc hG=>Ii x hf wc) ?_
  refine ig ?_
  exact dG (k + 1) hlt
 ·refine run ?_
  clear hc
  refine eF (σ:=Nat × Nat × Nat) (fun s=>[(8,.int .i64 (s.1:Int)),(6,.int .u64 (s.2.1:Int)),(7,.int .u64 (s.2.2:Int))]) (fun _=>[]) (fun s=>s.1≤xs.length∧s.2.1<18446744073709551616∧s.2.2<18446744073709551616∧joinL (xs.drop s.1) s.2.1 s.2.2=joinL xs 0 0) (fun s=>xs.length - s.1) (0,0,0) ⟨Nat.zero_le _,by decide,by decide,rfl⟩ ?_
  rintro ⟨k2,wd,tk⟩ m2 hm2 ⟨hk2,hw,ht,hj⟩
  dsimp only at hm2 hk2 hw ht hj ⊢
  refine run ?_
  refine ah _ rfl (fun hc=>?_) (fun hc=>?_)
  ·have hlt:k2<xs.length:=by simp at hc;omega
   obtain ⟨b,o,rfl⟩:=Es Va
   have hr:=h.row hlt
   have hf:=hok k2 hlt
   rw [uY hlt] at hj
   generalize xs.getD k2 default=x at hr hf hj
   have hr0:=dD hr
   have hr1:=pU (k:=1) hr rfl
   have hr2:=pU (k:=2) hr rfl
   refine run ?_
   refine ja 12 ?_
   refine gp ?_
   refine nY (fun wc hG=>xY x.n (by have:=hf.an;omega) wc) ?_
   refine gp ?_
   refine A7 (qY rfl rfl (l9 x.n) x.a UB UB (by have:=hf.an;omega)) ?_
   refine gp ?_
   refine run ?_
   refine lU UB (uO rfl rfl tk x.mask UB UB ht x.nP) ?_
   refine run ?_
   refine ah _ rfl (fun hq=>?_) (fun hq=>?_)
   ·have hq':decide (tk &&& x.mask=0)=false:=by simpa using hq
    rw [hq'] at hj
    rw [← hj]
    refine run ?_
    exact J8 rfl
   ·have hq':decide (tk &&& x.mask=0)=true:=by simpa using hq
    rw [hq'] at hj
    refine run ?_
    refine lU UB (CU rfl rfl tk x.mask UB UB ht x.nP) ?_
    refine run ?_
    refine ja 13 ?_
    refine gp ?_
    refine A7 (qY rfl rfl x.v x.a UB UB (by have:=hf.an;omega)) ?_
    refine A7 (CU rfl rfl wd x.bits UB UB hw x.tK) ?_
    refine gp ?_
    refine run ?_
    exact dG (k2 + 1,wd ||| x.bits,tk ||| x.mask) ⟨hlt,tN hw x.tK,tN ht x.nP,hj⟩
  ·have hk0:k2=xs.length:=by simp at hc;omega
   subst hk0
   rw [List.drop_length] at hj
   rw [← hj]
   refine run ?_
   exact J8 rfl
end
structure DsD where
 kind:Int
 frame:Int
 r:Bool
 w:Bool
 x:Bool
 af:Bool
 ng:Bool
 soft:Int
 note:Int
deriving Inhabited
abbrev Qw (d:DsD):Array Value:=#[.int .i64 d.kind,.int .i64 d.frame,.bool d.r,.bool d.w,.bool d.x,.bool d.af,.bool d.ng,.int .i64 d.soft,.int .i64 d.note]
abbrev FH (d:DsD):Value:=.agg (Qw d)
def x9:DsD:=⟨0,0,false,false,false,false,false,0,0⟩
def jr (level:Nat):Nat:=3 * (3 - level)
def ay (level:Nat):Nat:=1 <<< jr level
def iM (level page:Nat):Nat:=(page >>> jr level) % 8
theorem Bl {level:Nat} (h:level<4):ay level=[512,64,8,1].getD level 0:=by
 have:∀ l,l<4→ay l=[512,64,8,1].getD l 0:=by decide
 exact this level h
section
attribute [local irreducible] Hy St Ops DH fE
theorem Ij (stage level:Int) (w:World):Fn Tryz.prog 189 [.agg #[.int .i64 stage,.int .i64 level]].toArray w [] (fun u _=>u=.bool ((decide (stage=1) || decide (stage=2)) && decide (0≤level) && decide (level<4))):=by
 refine enter Tryz.func189 ?_
 refine run ?_
 intro B
 refine aG ?_
 exact fin1 rfl
theorem nR (stage:Int) (hs:stage=1∨stage=2) (level:Nat) (h:level<4) (w:World):Fn Tryz.prog 189 [.agg #[.int .i64 stage,.int .i64 (level:Int)]].toArray w [] (fun u _=>u=.bool true):=by
 refine Fn.mono (Ij stage level w) fun v hp e=>?_
 rw [e]
 have c1:decide ((0:Int)≤(level:Int))=true:=decide_eq_true Uz
 have c2:decide ((level:Int)<4)=true:=decide_eq_true Uz
 rw [c1,c2]
 rcases hs with rfl | rfl<;>rfl
theorem tV (stage:Int) (level:Nat) (h:level<4) (w:World):Fn Tryz.prog 193 [.agg #[.int .i64 stage,.int .i64 (level:Int)]].toArray w [] (fun u _=>u=.int .i64 (jr level:Int)):=by
 refine enter Tryz.func193 ?_
 refine run ?_
 intro B
 refine run ?_
 refine fin1 ?_
 unfold jr
 congr 1
 omega
theorem fP {level:Nat} (h:level<4):jr level≤9∧ay level≤512∧1≤ay level:=by
 have:∀ l,l<4→jr l≤9∧ay l≤512∧1≤ay l:=by decide
 exact this level h
theorem wK (level:Nat) (h:level<4) (w:World):Fn Tryz.prog 148 [.int .i64 (level:Int)].toArray w [] (fun u _=>u=.tuple #[.int .i64 (ay level:Int),.int .i64 0]):=by
 have h9:=fP h
 refine enter Tryz.func148 ?_
 refine run ?_
 intro B
 refine run ?_
 refine ax (fun wc hG=>nR 1 (.inl rfl) level h wc) ?_
 refine ig ?_
 refine ax (fun wc hG=>tV 1 level h wc) ?_
 refine lU UB (uP rfl rfl 1 (jr level) UB UB Uz (Nat.lt_of_le_of_lt h9.2.1 UA)) ?_
 refine run ?_
 exact fin2 rfl
theorem Ik (level:Nat) (h:level<4) (page:Nat) (hp:page≤4095) (w:World):Fn Tryz.prog 177 [.int .i64 (level:Int),.int .i64 (page:Int)].toArray w [] (fun u _=>u=.tuple #[.int .i64 (iM level page:Int),.int .i64 0]):=by
 have h9:=fP h
 have c1:decide ((page:Int)<0)=false:=decide_eq_false Uz
 have c2:decide ((4095:Int)<(page:Int))=false:=decide_eq_false Uz
 refine enter Tryz.func177 ?_
 refine run ?_
 intro B
 refine run ?_
 refine ax (fun wc hG=>nR 1 (.inl rfl) level h wc) ?_
 refine aG ?_
 refine ah _ rfl (fun hq=>absurd hq (by simp [c1,c2])) (fun _=>?_)
 refine run ?_
 refine ax (fun wc hG=>tV 1 level h wc) ?_
 refine lU UB (Hw rfl rfl page (jr level) UB UB Uz) ?_
 refine lU UB (jM rfl rfl (page >>> jr level) 8 UB UB UA) ?_
 refine run ?_
 exact fin2 rfl
theorem kV (level:Nat) (h:level<4) (w:World):Fn Tryz.prog 30 [.int .i64 (level:Int)].toArray w [] (fun u _=>u=.int .i64 (ay level:Int)):=by
 have h9:=fP h
 have hn:nth ([.int .i64 512,.int .i64 64,.int .i64 8,.int .i64 1]:List Value) level=some (.int .i64 (ay level:Int)):=by
  rcases level with _ | _ | _ | _ | l
  ·rfl
  ·rfl
  ·rfl
  ·rfl
  ·omega
 refine enter Tryz.func30 ?_
 refine run ?_
 intro T
 refine run ?_
 exact fin1 rfl
theorem Il (level:Nat) (h:level<4) (page:Nat) (hp:page≤4095) (w:World):Fn Tryz.prog 58 [.int .i64 (level:Int),.int .i64 (page:Int)].toArray w [] (fun u _=>u=.int .i64 (iM level page:Int)):=by
 refine enter Tryz.func58 ?_
 refine run ?_
 have h9:=fP h
 have e:page / ay level=page >>> jr level:=by rw [Nat.shiftRight_eq_div_pow,ay,Nat.shiftLeft_eq,Nat.one_mul]
 refine ax (fun wc hG=>kV level h wc) ?_
 refine lU UB (uQ rfl rfl page (ay level) UB UB Uz Uz) ?_
 refine lU UB (jM rfl rfl (page / ay level) 8 UB UB UA) ?_
 rw [e]
 refine run ?_
 exact fin1 rfl
theorem tX (v a n:Nat) (hn:n≤62):bg v a n<4611686018427387904:=by
 unfold bg
 refine Nat.lt_of_le_of_lt Nat.and_le_right ?_
 have:∀ n,n≤62→l9 n<4611686018427387904:=by decide
 exact this n hn
theorem Io {v a:Nat} (hv:v<18446744073709551616):v >>> a<18446744073709551616:=Nat.lt_of_le_of_lt UX hv
theorem PV {x:Nat}:decide ((x:Int)=1)=decide (x=1):=by
 rw [Bool.eq_iff_iff,decide_eq_true_eq,decide_eq_true_eq];omega
theorem pY (v a n:Nat) (hn:1≤n) (hn2:n≤62) (PU:a + n≤64) (hv:v<18446744073709551616) (w:World):Fn Tryz.prog 215 [.int .u64 (v:Int),.int .i64 (a:Int),.int .i64 (n:Int)].toArray w [] (fun u _=>u=.int .i64 (bg v a n:Int)):=by
 refine enter Tryz.func215 ?_
 refine run ?_
 refine ax (fun wc hG=>N7 v a n hn PU hv wc) ?_
 refine run ?_
 have hb:=tX v a n hn2
 refine lU UB (sU aj rfl rfl rfl Uz Uz) ?_
 refine run ?_
 exact fin1 rfl
theorem PW (v a:Nat) (ha:a≤63) (hv:v<18446744073709551616) (B:Nat) (w:World) (hB:w.cell? ⟨B,0,none⟩=some (.int .u64 (v:Int))):Fn Tryz.prog 214 [.int .i64 (a:Int),.pointer (some ⟨B,0,none⟩)].toArray w [] (fun u _=>u=.bool (decide (bg v a 1=1))):=by
 refine enter Tryz.func214 ?_
 refine run ?_
 refine ax (fun wc hG=>pY v a 1 UA UA Uz hv wc) ?_
 refine run ?_
 refine fin1 ?_
 rw [PV]
theorem mZ (v a:Nat) (ha:a≤63) (hv:v<18446744073709551616) (w:World):Fn Tryz.prog 104 [.int .u64 (v:Int),.int .i64 (a:Int)].toArray w [] (fun u _=>u=.bool (decide (bg v a 1=1))):=by
 refine enter Tryz.func104 ?_
 refine run ?_
 refine lU UB (xQ rfl rfl v a UB UB Uz) ?_
 refine lU UB (uO rfl rfl (v >>> a) 1 UB UB (Io hv) UA) ?_
 refine run ?_
 refine fin1 ?_
 rw [← PV]
 rfl
theorem ni (a:Nat) (b:Bool) (w:World):Fn Tryz.prog 163 [.int .i64 (a:Int),.bool b].toArray w [] (fun u _=>u=.agg #[.int .i64 (a:Int),.int .i64 1,.int .u64 (bif b then 1 else 0)]):=by
 refine enter Tryz.func163 ?_
 refine run ?_
 intro F
 refine run ?_
 cases b<;>simp only [cond_true,cond_false]
 ·intro G
  refine ig ?_
  exact jh rfl
 ·intro G
  refine ig ?_
  exact jh rfl
theorem ny (a:Nat) (b:Bool) (w:World):Fn Tryz.prog 192 [.int .i64 (a:Int),.bool b].toArray w [] (fun u _=>u=.agg #[.int .i64 (a:Int),.int .i64 1,.int .u64 (bif b then 1 else 0)]):=by
 refine enter Tryz.func192 ?_
 refine run ?_
 intro F
 refine run ?_
 cases b<;>simp only [cond_true,cond_false]
 ·intro G
  refine ig ?_
  exact jh rfl
 ·intro G
  refine ig ?_
  exact jh rfl
end
namespace DsD
def bare (d:DsD):Bool:=!d.r && !d.w && !d.x && !d.af && !d.ng && decide (d.soft=0)
def may (stage:Int) (level:Nat) (d:DsD):Bool:=
 bif decide (d.kind=0) then decide (d.frame=0) && d.bare && (decide (d.note=0) || (decide (stage=2) && PtD.bH d.note 0 15))
 else bif decide (d.kind=1) then d.bare && decide (d.note=0) && decide (level<3) && PtD.bH d.frame 0 4095
 else bif decide (d.kind=2) then decide (d.note=0) && (bif decide (stage=1) then d.r && decide (d.soft=0) else !d.ng && PtD.bH d.soft 0 15) && decide (0<level) && PtD.bH d.frame 0 4095 && decide (d.frame.toNat % ay level=0)
 else false
end DsD
section
attribute [local irreducible] Hy St Ops DH fE
theorem ru (stage:Int) (level:Nat) (d:DsD) (o:Nat) (ho:0<o) (ho2:o<1000) (w:World):Fn Tryz.prog 211 [.agg #[.int .i64 stage,.int .i64 (level:Int),.int .i64 d.kind,.int .i64 d.frame,.bool d.r,.bool d.w,.bool d.x,.bool d.af,.bool d.ng,.int .i64 d.soft,.int .i64 d.note],.int .i64 (o:Int)].toArray w [] (fun u _=>u=.bool (PtD.bH d.frame 0 4095 && decide (d.frame.toNat % o=0))):=by
 refine enter Tryz.func211 ?_
 refine run ?_
 intro B
 refine aG ?_
 refine NJ (hy:=fun hg=>jM UH UH d.frame.toNat o (by simp [eX] at hg;omega) UB ho) (h:=?_)
 refine aG ?_
 refine fin1 ?_
 rw [PtD.bH]
 congr 2
 rw [Bool.eq_iff_iff,decide_eq_true_eq,decide_eq_true_eq]
 omega
theorem N8 (a b:DsD):aQ [.int .i64 a.kind,.int .i64 a.frame,.bool a.r,.bool a.w,.bool a.x,.bool a.af,.bool a.ng,.int .i64 a.soft,.int .i64 a.note] [.int .i64 b.kind,.int .i64 b.frame,.bool b.r,.bool b.w,.bool b.x,.bool b.af,.bool b.ng,.int .i64 b.soft,.int .i64 b.note]=(decide (a.kind=b.kind) && decide (a.frame=b.frame) && (a.r == b.r) && (a.w == b.w) && (a.x == b.x) && (a.af == b.af) && (a.ng == b.ng) && decide (a.soft=b.soft) && decide (a.note=b.note)):=by
 simp only [aQ,kK,Bool.and_true,Bool.and_assoc]
theorem uZ (d:DsD) (k f n:Int) (hk:d.kind=k):aQ [.int .i64 d.kind,.int .i64 d.frame,.bool d.r,.bool d.w,.bool d.x,.bool d.af,.bool d.ng,.int .i64 d.soft,.int .i64 d.note] [.int .i64 k,.int .i64 f,.bool false,.bool false,.bool false,.bool false,.bool false,.int .i64 0,.int .i64 n]=(decide (d.frame=f) && d.bare && decide (d.note=n)):=by
 rw [N8 d ⟨k,f,false,false,false,false,false,0,n⟩,decide_eq_true hk]
 unfold DsD.bare
 cases d.r<;>cases d.w<;>cases d.x<;>cases d.af<;>cases d.ng<;>simp
theorem N9 (stage:Int) (hs:stage=1∨stage=2) (level:Nat) (hl:level<4) (d:DsD) (w:World):Fn Tryz.prog 190 [.agg #[.int .i64 stage,.int .i64 (level:Int),.int .i64 d.kind,.int .i64 d.frame,.bool d.r,.bool d.w,.bool d.x,.bool d.af,.bool d.ng,.int .i64 d.soft,.int .i64 d.note]].toArray w [] (fun u _=>u=.bool (d.may stage level)):=by
 have hlv:decide ((level:Int)<3)=decide (level<3):=by rw [Bool.eq_iff_iff,decide_eq_true_eq,decide_eq_true_eq];omega
 have hlp:decide ((0:Int)<(level:Int))=decide (0<level):=by rw [Bool.eq_iff_iff,decide_eq_true_eq,decide_eq_true_eq];omega
 have h9:=fP hl
 refine enter Tryz.func190 ?_
 refine run ?_
 intro B
 refine run ?_
 intro C
 refine run ?_
 refine ah _ rfl (fun hk=>?_) (fun hk=>?_)
 ·have hk0:d.kind=0:=by simpa using hk
  refine aG ?_
  refine ah _ rfl (fun hn=>?_) (fun hn=>?_)
  ·refine aG ?_
   refine fin1 ?_
   rw [uZ d d.kind 0 d.note rfl]
   simp only [Bool.and_eq_true,decide_eq_true_eq] at hn
   simp [DsD.may,hk0,hn.1.1,PtD.bH,hn.1.2,hn.2]
  ·refine aG ?_
   refine fin1 ?_
   rw [uZ d d.kind 0 0 rfl]
   simp only [DsD.may,hk0,decide_true,cond_true,PtD.bH]
   cases hz:decide (d.note=0)
   ·have:(decide (stage=2) && (decide (0≤d.note) && decide (d.note≤15)))=false:=by
     rw [← Bool.and_assoc];simpa using hn
    rw [this];simp
   ·simp
 ·have hk0:decide (d.kind=0)=false:=by simpa using hk
  refine run ?_
  refine ah _ rfl (fun hk1=>?_) (fun hk1=>?_)
  ·have jB:d.kind=1:=by simpa using hk1
   refine aG ?_
   refine bz (fun hg1 wc hG=>ru stage level d 1 UA UA wc) ?_
   refine aG ?_
   refine fin1 ?_
   rw [uZ d d.kind d.frame 0 rfl,hlv]
   simp only [DsD.may,jB,decide_true,cond_true,show decide ((1:Int)=0)=false from rfl,cond_false,Nat.mod_one,Bool.and_true,Bool.true_and]
  ·have jB:decide (d.kind=1)=false:=by simpa using hk1
   refine run ?_
   refine ah _ rfl (fun hk2=>?_) (fun hk2=>?_)
   ·have zu:d.kind=2:=by simpa using hk2
    refine run ?_
    refine uK 7 [⟨B,#[.int .i64 stage,.int .i64 (level:Int),.int .i64 d.kind,.int .i64 d.frame,.bool d.r,.bool d.w,.bool d.x,.bool d.af,.bool d.ng,.int .i64 d.soft,.int .i64 d.note],262⟩] ?_
    refine Hf ?_
    refine run ?_
    refine ah _ rfl (fun h1=>?_) (fun h1=>?_)
    ·refine aG ?_
     refine ja 32 ?_
     refine gy ?_
     refine ji (fun hg wc hG=>tV stage level hl wc) ?_
     refine Ej (hy:=fun hg=>uP rfl UH 1 (jr level) UB UB Uz (Nat.lt_of_le_of_lt h9.2.1 UA)) (h:=?_)
     refine ji (fun hg wc hG=>ru stage level d (ay level) Uz Uz wc) ?_
     refine gy ?_
     refine run ?_
     refine run ?_
     refine fin1 ?_
     rw [hlp,N8 d ⟨d.kind,d.frame,true,d.w,d.x,d.af,d.ng,0,0⟩]
     have h1':stage=1:=by simpa using h1
     simp only [DsD.may,zu,h1',decide_true,cond_true,PtD.bH,show decide ((2:Int)=0)=false from rfl,show decide ((2:Int)=1)=false from rfl,cond_false,beq_self_eq_true,Bool.and_true,Bool.true_and]
     cases d.r<;>by_cases hz:d.soft=0<;>simp [hz,Bool.and_assoc]
    ·refine aG ?_
     refine ja 32 ?_
     refine gy ?_
     refine ji (fun hg wc hG=>tV stage level hl wc) ?_
     refine Ej (hy:=fun hg=>uP rfl UH 1 (jr level) UB UB Uz (Nat.lt_of_le_of_lt h9.2.1 UA)) (h:=?_)
     refine ji (fun hg wc hG=>ru stage level d (ay level) Uz Uz wc) ?_
     refine gy ?_
     refine run ?_
     refine run ?_
     refine fin1 ?_
     rw [hlp,N8 d ⟨d.kind,d.frame,d.r,d.w,d.x,d.af,false,d.soft,0⟩]
     have h1':decide (stage=1)=false:=by simpa using h1
     simp only [DsD.may,zu,h1',decide_true,cond_true,PtD.bH,show decide ((2:Int)=0)=false from rfl,show decide ((2:Int)=1)=false from rfl,cond_false,beq_self_eq_true,Bool.and_true,Bool.true_and]
     cases d.ng<;>cases decide (d.note=0)<;>cases decide (0<level)<;>simp [Bool.and_assoc]
   ·refine run ?_
    refine fin1 ?_
    have zu:decide (d.kind=2)=false:=by simpa using hk2
    simp [DsD.may,hk0,jB,zu]
end
def b1 (b:Bool):Nat:=bif b then 1 else 0
theorem PX (b:Bool):b1 b<2 ^ 1:=by cases b<;>decide
def DsD.fields (stage:Int) (level:Nat) (d:DsD):List og:=
 bif decide (d.kind=0) then [⟨4,4,d.note.toNat⟩]
 else bif decide (d.kind=1) then [⟨0,1,1⟩,⟨1,1,1⟩,⟨12,12,d.frame.toNat⟩]
 else bif decide (stage=1) then [⟨0,1,1⟩,⟨1,1,b1 (decide (level=3))⟩,⟨12,12,d.frame.toNat⟩,⟨10,1,b1 d.af⟩,⟨54,1,b1 (!d.x)⟩,⟨7,1,b1 (!d.w)⟩,⟨11,1,b1 d.ng⟩]
 else [⟨0,1,1⟩,⟨1,1,b1 (decide (level=3))⟩,⟨12,12,d.frame.toNat⟩,⟨10,1,b1 d.af⟩,⟨54,1,b1 (!d.x)⟩,⟨6,1,b1 d.r⟩,⟨7,1,b1 d.w⟩,⟨55,4,d.soft.toNat⟩]
def DsD.word (stage:Int) (level:Nat) (d:DsD):Nat:=wJ (joinL (d.fields stage level) 0 0)
def apart:List Nat→Nat→Bool
 | [],_=>true
 | m::r,t=>decide (t &&& m=0) && apart r (t ||| m)
theorem Bo:∀ (l:List og) (w t:Nat),apart (l.map og.mask) t=true→zq (joinL l w t)=0∧wJ (joinL l w t)=l.foldl (fun a f=>a ||| f.bits) w:=by
 intro l
 induction l with
 | nil=>intro w t _;exact ⟨rfl,rfl⟩
 | cons f r ih=>
  intro w t h
  simp only [List.map_cons,apart,Bool.and_eq_true] at h
  rw [joinL,h.1,cond_true,List.foldl_cons]
  exact ih _ _ h.2
theorem DsD.yc (stage:Int) (level:Nat) (d:DsD):zq (joinL (d.fields stage level) 0 0)=0:=by
 refine (Bo _ _ _ ?_).1
 unfold DsD.fields
 cases decide (d.kind=0)<;>cases decide (d.kind=1)<;>cases decide (stage=1)<;>simp only [cond_true,cond_false,List.map_cons,List.map_nil,og.mask]<;>decide +kernel
theorem DsD.Et (stage:Int) (level:Nat) (d:DsD) (h:d.kind=0):d.word stage level=(d.note.toNat <<< 4) % 18446744073709551616:=by
 simp [DsD.word,DsD.fields,h,joinL,wJ,og.bits]
theorem jF {z:Int} {b:Nat} (h:PtD.bH z 0 b=true):((z.toNat:Nat):Int)=z∧z.toNat≤b:=by
 simp only [PtD.bH,Bool.and_eq_true,decide_eq_true_eq] at h
 omega
theorem DsD.nS {stage:Int} {level:Nat} {d:DsD} (h:d.may stage level=true):∀ f∈d.fields stage level,f.Ok:=by
 have key:∀ l:List og,l.all (fun f=>decide (1≤f.n) && decide (f.a + f.n≤64) && decide (f.v<2 ^ f.n))=true→∀ f∈l,f.Ok:=by
  intro l hl f hf
  have:=List.all_eq_true.1 hl f hf
  simp only [Bool.and_eq_true,decide_eq_true_eq] at this
  exact ⟨this.1.1,this.1.2,this.2⟩
 apply key
 unfold DsD.may at h
 unfold DsD.fields
 by_cases h0:d.kind=0
 ·simp only [h0,decide_true,cond_true,Bool.and_eq_true,Bool.or_eq_true,decide_eq_true_eq] at h ⊢
  have:d.note.toNat<2 ^ 4:=by
   rcases h.2 with e | ⟨_,e⟩
   ·rw [e];decide
   ·have:=(jF (b:=15) e).2;omega
  simp [this]
 ·by_cases h1:d.kind=1
  ·simp only [h1,decide_true,cond_true,Bool.and_eq_true,decide_eq_true_eq,show decide ((1:Int)=0)=false from rfl,cond_false] at h ⊢
   have:d.frame.toNat<2 ^ 12:=by have:=(jF (b:=4095) h.2).2;omega
   simp [this]
  ·by_cases h2:d.kind=2
   ·simp only [h2,decide_true,cond_true,Bool.and_eq_true,decide_eq_true_eq,show decide ((2:Int)=0)=false from rfl,show decide ((2:Int)=1)=false from rfl,cond_false] at h ⊢
    have:d.frame.toNat<2 ^ 12:=by have:=(jF (b:=4095) h.1.2).2;omega
    have b:=PX
    by_cases hs:stage=1
    ·simp only [hs,decide_true,cond_true]
     simp [this,b,b1]
     cases decide (level=3)<;>cases d.af<;>cases d.x<;>cases d.w<;>cases d.ng<;>decide
    ·simp only [hs,decide_false,cond_false,Bool.and_eq_true] at h ⊢
     have h4:d.soft.toNat<2 ^ 4:=by have:=(jF (b:=15) h.1.1.1.2.2).2;omega
     simp [this,h4,b1]
     cases decide (level=3)<;>cases d.af<;>cases d.x<;>cases d.w<;>cases d.r<;>decide
   ·simp [h0,h1,h2] at h
def dA (stage:Int) (level:Nat) (w:Nat):DsD:=
 bif !decide (bg w 0 1=1) then { x9 with note:=(bg w 4 4:Int) }
 else bif decide (bg w 1 1=1) && !decide (level=3) then { x9 with kind:=1,frame:=(bg w 12 12:Int) }
 else bif decide (stage=1) then { x9 with kind:=2,frame:=(bg w 12 12:Int),af:=decide (bg w 10 1=1),x:=!decide (bg w 54 1=1),r:=true,w:=!decide (bg w 7 1=1),ng:=decide (bg w 11 1=1) }
 else { x9 with kind:=2,frame:=(bg w 12 12:Int),af:=decide (bg w 10 1=1),x:=!decide (bg w 54 1=1),r:=decide (bg w 6 1=1),w:=decide (bg w 7 1=1),soft:=(bg w 55 4:Int) }
def C9 (stage:Int) (level:Nat) (w:Nat):DsD:=bif (dA stage level w).may stage level && decide ((dA stage level w).word stage level=w) then dA stage level w else x9
theorem zx (stage:Int) (level:Nat):x9.may stage level=true:=by simp [DsD.may,x9,DsD.bare]
theorem KA (stage:Int) (level:Nat) (w:Nat):(C9 stage level w).may stage level=true:=by
 unfold C9
 cases h:(dA stage level w).may stage level
 ·rw [Bool.false_and,cond_false];exact zx _ _
 ·rw [Bool.true_and]
  cases decide ((dA stage level w).word stage level=w)
  ·exact zx _ _
  ·exact h
def bM (n:Nat) (f:Int):Bool:=decide (0≤f) && decide (f<((n / 8:Nat):Int))
def fF (f:Int) (level page:Nat):Nat:=f.toNat * 8 + iM level page
structure SC where
 fs:List Int
 d:DsD
 ok:Bool
deriving Inhabited
def SC.lv (w:SC):Nat:=w.fs.length - 1
theorem ry (level page:Nat):iM level page<8:=Nat.mod_lt _ UA
theorem kW {n:Nat} {f:Int} (h:bM n f=true):0≤f∧f.toNat<n / 8∧(f.toNat:Int)=f:=by
 simp only [bM,Bool.and_eq_true,decide_eq_true_eq] at h
 omega
theorem Oa {n:Nat} {f:Int} {level page:Nat} (h:bM n f=true):fF f level page<n:=by
 have h1:=kW h
 have h2:=ry level page
 unfold fF
 omega
theorem fA {stage:Int} {level:Nat} {d:DsD} (h:d.may stage level=true):(d.kind=0∨d.kind=1∨d.kind=2)∧(d.kind=0→d.frame=0∧0≤d.note∧d.note≤15)∧(d.kind=1→level<3∧0≤d.frame∧d.frame≤4095∧d.note=0)∧(d.kind=2→0<level∧0≤d.frame∧d.frame≤4095∧d.note=0∧d.frame.toNat % ay level=0):=by
 unfold DsD.may at h
 by_cases h0:d.kind=0
 ·simp only [h0,decide_true,cond_true,Bool.and_eq_true,Bool.or_eq_true,decide_eq_true_eq] at h
  refine ⟨.inl h0,fun _=>⟨h.1.1,?_⟩,fun e=>absurd e Uz,fun e=>absurd e Uz⟩
  rcases h.2 with e | ⟨_,e⟩
  ·omega
  ·simp only [PtD.bH,Bool.and_eq_true,decide_eq_true_eq] at e;omega
 ·by_cases h1:d.kind=1
  ·simp only [h1,decide_true,cond_true,Bool.and_eq_true,decide_eq_true_eq,show decide ((1:Int)=0)=false from rfl,cond_false,PtD.bH] at h
   refine ⟨.inr (.inl h1),fun e=>absurd e Uz,fun _=>⟨h.1.2,h.2.1,h.2.2,h.1.1.2⟩,fun e=>absurd e Uz⟩
  ·by_cases h2:d.kind=2
   ·simp only [h2,decide_true,cond_true,Bool.and_eq_true,decide_eq_true_eq,show decide ((2:Int)=0)=false from rfl,show decide ((2:Int)=1)=false from rfl,cond_false,PtD.bH] at h
    refine ⟨.inr (.inr h2),fun e=>absurd e Uz,fun e=>absurd e Uz,fun _=>⟨h.1.1.2,h.1.2.1,h.1.2.2,h.1.1.1.1,h.2⟩⟩
   ·simp [h0,h1,h2] at h
section
attribute [local irreducible] Hy St Ops DH fE
abbrev TK (stage:Int) (level:Nat) (d:DsD):Value:=.agg #[.int .i64 stage,.int .i64 (level:Int),.int .i64 d.kind,.int .i64 d.frame,.bool d.r,.bool d.w,.bool d.x,.bool d.af,.bool d.ng,.int .i64 d.soft,.int .i64 d.note]
def zy (xs:List og):List Value:=(xs.map Ad).flatten
theorem kC (xs:List og):∀ c∈xs.map Ad,c.length=3∧c.all (·.oneCell')=true:=by
 intro c hc
 obtain ⟨x,_,rfl⟩:=List.mem_map.1 hc
 exact ⟨rfl,rfl⟩
theorem tY (T n:Nat) (xs:List og) (hn:xs.length=n:=by rfl) (hm:n≤1000:=by decide):Own 283 3 (.slice (some ⟨T,0,none⟩) n n) [⟨T,(zy xs).toArray,283⟩] (xs.map Ad):=by
 subst hn
 refine ⟨kC xs,.inr ⟨T,xs.length,_,by rw [List.length_map],rfl,?_⟩⟩
 have hl:=bD (xs.map Ad) (fun c hc=>(kC xs c hc).1)
 refine ⟨hl,by simp,Nat.le_trans hm UA,by simpa [zy] using hl,?_⟩
 rw [List.take_of_length_le (by simp [zy,hl])];rfl
theorem Dc {e t:Nat} (T cap:Nat) (cs:List Value) {xs:List (List Value)} {sz n:Nat} (h:xs.flatten=cs) (ht:e=t) (hall:∀ c∈xs,c.length=sz∧c.all (·.oneCell')=true) (hn:xs.length=n:=by rfl) (hc:xs.length=cap:=by rfl) (hcap:cap≤maxLen:=by decide):Own e sz (.slice (some ⟨T,0,none⟩) n cap) [⟨T,cs.toArray,t⟩] xs:=by
 subst ht hn hc h
 refine ⟨hall,.inr ⟨T,_,_,rfl,rfl,?_⟩⟩
 have hl:=bD xs (fun c hc=>(hall c hc).1)
 exact ⟨hl,Nat.le_refl _,hcap,by simp [hl],by rw [List.take_of_length_le (by simp [hl])]⟩
theorem DsD.Bq (stage:Int) (level:Nat) (d:DsD):(d.fields stage level).length≤8:=by
 unfold DsD.fields
 cases decide (d.kind=0)<;>cases decide (d.kind=1)<;>cases decide (stage=1)<;>simp
theorem zA {stage:Int} {level:Nat} {d:DsD} (hm:d.may stage level=true) (hk:d.kind=2) (h1:decide (stage=1)=false):0≤d.soft∧d.soft≤15:=by
 simp only [DsD.may,hk,h1,decide_true,cond_true,Bool.and_eq_true,decide_eq_true_eq,show decide ((2:Int)=0)=false from rfl,show decide ((2:Int)=1)=false from rfl,cond_false,PtD.bH] at hm
 exact hm.1.1.1.2.2
theorem Eu (stage:Int) (hs:stage=1∨stage=2) (level:Nat) (hl:level<4) (d:DsD) (hm:d.may stage level=true) (w:World):Fn Tryz.prog 144 [TK stage level d].toArray w [] (fun u hn=>∃ h1,Own 283 3 u h1 ((d.fields stage level).map Ad)∧aI h1 hn):=by
 have hlv:decide ((level:Int)=3)=decide (level=3):=by rw [Bool.eq_iff_iff,decide_eq_true_eq,decide_eq_true_eq];omega
 obtain ⟨k1,k2,k3,k4⟩:=fA hm
 have hf:0≤d.frame∧d.frame≤4095:=by
  rcases k1 with e | e | e
  ·have:=k2 e;omega
  ·have:=k3 e;omega
  ·have:=k4 e;omega
 have hf0:=hf.1
 have hf1:=hf.2
 have hfz:((d.frame.toNat:Nat):Int)=d.frame:=by omega
 refine enter Tryz.func144 ?_
 refine run ?_
 intro B
 refine run ?_
 refine ah _ rfl (fun hk=>?_) (fun hk=>?_)
 ·have hk0:d.kind=0:=by simpa using hk
  have hn0:=(k2 hk0).2.1
  have hn1:=(k2 hk0).2.2
  have hnz:((d.note.toNat:Nat):Int)=d.note:=by omega
  refine run ?_
  intro T
  refine fin1 ?_
  have e:d.fields stage level=[⟨4,4,d.note.toNat⟩]:=by simp [DsD.fields,hk0]
  rw [e]
  refine ⟨_,Dc T 1 [.int .i64 4,.int .i64 4,.int .u64 d.note] (by simp [Ad,hnz]) rfl (by simp [Ad,Value.oneCell']),?_⟩
  (exact ak)
 ·have hk0:decide (d.kind=0)=false:=by simpa using hk
  refine run ?_
  refine drawM 15 [0,1,2,3,4,5,6,7,8,9,10,11,12,13] [14] [] ?_
  refine fB rfl (fun hx2=>cZ (di 192 rfl) rfl (fun wc hG=>ny 0 true wc)) ?_
  refine fJ ?_
  refine NK (hy:=fun hx2 hg=>uw rfl) (h:=?_)
  refine fJ ?_
  refine fB rfl (fun hx2=>cZ (di 192 rfl) rfl (fun wc hG=>ny 1 _ wc)) ?_
  refine fJ ?_
  refine L6 (zy [⟨0,1,1⟩,⟨1,1,b1 (decide (d.kind=1) || decide (level=3))⟩,⟨12,12,d.frame.toNat⟩]) (h:=?_) (hn:=?_)
  ·refine kM ?_
   simp only [DN]
   rintro _ hn ⟨T,rfl,rfl⟩
   refine lK ?_
   refine xO ?_
   simp only [List.cons_append,List.nil_append,List.append_nil]
   refine run ?_
   refine ah _ rfl (fun hk1=>?_) (fun hk1=>?_)
   ·have jB:decide (d.kind=1)=true:=hk1
    refine run ?_
    refine fin1 ?_
    have e:d.fields stage level=[⟨0,1,1⟩,⟨1,1,1⟩,⟨12,12,d.frame.toNat⟩]:=by simp only [DsD.fields,hk0,jB,cond_false,cond_true]
    rw [e]
    simp only [jB,Bool.true_or,show b1 true=1 from rfl]
    refine ⟨_,tY T 3 _,?_⟩
    (exact ak)
   ·have jB:decide (d.kind=1)=false:=by simpa using hk1
    have hk2:d.kind=2:=by
     simp at hk0 jB
     rcases k1 with e | e | e
     ·exact absurd e hk0
     ·exact absurd e jB
     ·exact e
    simp only [jB,Bool.false_or]
    refine run ?_
    refine drawM 13 [0,1,2,3,4,5,6,7,8,9,10,11] [12] [] ?_
    refine fJ ?_
    refine fB rfl (fun hx2=>cZ (di 192 rfl) rfl (fun wc hG=>ny 10 _ wc)) ?_
    refine fJ ?_
    refine fB rfl (fun hx2=>cZ (di 192 rfl) rfl (fun wc hG=>ny 54 _ wc)) ?_
    refine fJ ?_
    refine L6 (zy [⟨10,1,b1 d.af⟩,⟨54,1,b1 (!d.x)⟩]) (h:=?_) (hn:=by cases d.af<;>cases d.x<;>rfl)
    refine kM ?_
    simp only [DN]
    rintro _ hn ⟨T2,rfl,rfl⟩
    refine lK ?_
    refine xO ?_
    simp only [List.cons_append,List.nil_append,List.append_nil]
    refine nO (m:=2) ([⟨10,1,b1 d.af⟩,⟨54,1,b1 (!d.x)⟩].map Ad) [⟨T2,(zy [⟨10,1,b1 d.af⟩,⟨54,1,b1 (!d.x)⟩]).toArray,283⟩,⟨B,#[.int .i64 stage,.int .i64 (level:Int),.int .i64 d.kind,.int .i64 d.frame,.bool d.r,.bool d.w,.bool d.x,.bool d.af,.bool d.ng,.int .i64 d.soft,.int .i64 d.note],262⟩] (tY T 3 [⟨0,1,1⟩,⟨1,1,b1 (decide (level=3))⟩,⟨12,12,d.frame.toNat⟩]) UC (fun v' ha' hA'=>?_) UC rfl (kC _) (dP (m:=6) mh rfl) (hperm:=by (exact az))
    refine aZ (⟨B,#[.int .i64 stage,.int .i64 (level:Int),.int .i64 d.kind,.int .i64 d.frame,.bool d.r,.bool d.w,.bool d.x,.bool d.af,.bool d.ng,.int .i64 d.soft,.int .i64 d.note],262⟩::ha') ak ?_
    obtain ⟨q,cap,rfl⟩:=hA'.opened
    refine run ?_
    refine ah _ rfl (fun h1=>?_) (fun h1=>?_)
    ·have h1':decide (stage=1)=true:=h1
     refine run ?_
     refine drawM 13 [0,1,2,3,4,5,6,7,8,9,10,11] [12] [] ?_
     refine fJ ?_
     refine fB rfl (fun hx2=>cZ (di 192 rfl) rfl (fun wc hG=>ny 7 _ wc)) ?_
     refine fJ ?_
     refine fB rfl (fun hx2=>cZ (di 192 rfl) rfl (fun wc hG=>ny 11 _ wc)) ?_
     refine fJ ?_
     refine L6 (zy [⟨7,1,b1 (!d.w)⟩,⟨11,1,b1 d.ng⟩]) (h:=?_) (hn:=by cases d.w<;>cases d.ng<;>rfl)
     refine kM ?_
     simp only [DN]
     rintro _ hn ⟨T3,rfl,rfl⟩
     refine lK ?_
     refine xO ?_
     simp only [List.cons_append,List.nil_append,List.append_nil]
     refine nO (m:=2) ([⟨7,1,b1 (!d.w)⟩,⟨11,1,b1 d.ng⟩].map Ad) [⟨T3,(zy [⟨7,1,b1 (!d.w)⟩,⟨11,1,b1 d.ng⟩]).toArray,283⟩,⟨B,#[.int .i64 stage,.int .i64 (level:Int),.int .i64 d.kind,.int .i64 d.frame,.bool d.r,.bool d.w,.bool d.x,.bool d.af,.bool d.ng,.int .i64 d.soft,.int .i64 d.note],262⟩] hA' UC (fun v2 ha2 hA2=>?_) UC rfl (kC _) (dP (m:=6) mh rfl) (hperm:=by (exact az))
     refine run ?_
     refine fin1 ?_
     have e:d.fields stage level=[⟨0,1,1⟩,⟨1,1,b1 (decide (level=3))⟩,⟨12,12,d.frame.toNat⟩,⟨10,1,b1 d.af⟩,⟨54,1,b1 (!d.x)⟩,⟨7,1,b1 (!d.w)⟩,⟨11,1,b1 d.ng⟩]:=by simp only [DsD.fields,hk0,jB,h1',cond_false,cond_true]
     rw [e]
     exact ⟨ha2,hA2,by (exact ak)⟩
    ·have h1':decide (stage=1)=false:=by simpa using h1
     have hso:=zA hm hk2 h1'
     have hs0:=hso.1
     have hs1:=hso.2
     have hsz:((d.soft.toNat:Nat):Int)=d.soft:=by omega
     refine run ?_
     refine drawM 18 [0,1,2,3,4,5,6,7,8,9,10,11,12,13,14,15,16] [17] [] ?_
     refine fJ ?_
     refine fB rfl (fun hx2=>cZ (di 192 rfl) rfl (fun wc hG=>ny 6 _ wc)) ?_
     refine fJ ?_
     refine fB rfl (fun hx2=>cZ (di 192 rfl) rfl (fun wc hG=>ny 7 _ wc)) ?_
     refine fJ ?_
     refine L6 (zy [⟨6,1,b1 d.r⟩,⟨7,1,b1 d.w⟩,⟨55,4,d.soft.toNat⟩]) (h:=?_) (hn:=by rw [← hsz];cases d.r<;>cases d.w<;>rfl)
     refine kM ?_
     simp only [DN]
     rintro _ hn ⟨T3,rfl,rfl⟩
     refine lK ?_
     refine xO ?_
     simp only [List.cons_append,List.nil_append,List.append_nil]
     refine nO (m:=3) ([⟨6,1,b1 d.r⟩,⟨7,1,b1 d.w⟩,⟨55,4,d.soft.toNat⟩].map Ad) [⟨T3,(zy [⟨6,1,b1 d.r⟩,⟨7,1,b1 d.w⟩,⟨55,4,d.soft.toNat⟩]).toArray,283⟩,⟨B,#[.int .i64 stage,.int .i64 (level:Int),.int .i64 d.kind,.int .i64 d.frame,.bool d.r,.bool d.w,.bool d.x,.bool d.af,.bool d.ng,.int .i64 d.soft,.int .i64 d.note],262⟩] hA' UC (fun v2 ha2 hA2=>?_) UC rfl (kC _) (dP (m:=9) mh rfl) (hperm:=by (exact az))
     refine run ?_
     refine fin1 ?_
     have e:d.fields stage level=[⟨0,1,1⟩,⟨1,1,b1 (decide (level=3))⟩,⟨12,12,d.frame.toNat⟩,⟨10,1,b1 d.af⟩,⟨54,1,b1 (!d.x)⟩,⟨6,1,b1 d.r⟩,⟨7,1,b1 d.w⟩,⟨55,4,d.soft.toNat⟩]:=by simp only [DsD.fields,hk0,jB,h1',cond_false,cond_true]
     rw [e]
     exact ⟨ha2,hA2,by (exact ak)⟩
  ·rw [hlv,← hfz]
   cases decide (d.kind=1)<;>cases decide (level=3)<;>rfl
theorem Ip (stage:Int) (hs:stage=1∨stage=2) (level:Nat) (hl:level<4) (d:DsD) (w:World):Fn Tryz.prog 142 [.int .i64 stage,.int .i64 (level:Int),FH d].toArray w [] (fun u _=>u=.int .i64 (bif d.may stage level then 0 else 1)):=by
 refine enter Tryz.func142 ?_
 refine run ?_
 intro B C
 refine aG ?_
 refine ax (fun wc hG=>nR stage hs level hl wc) ?_
 refine aG ?_
 refine bz (fun hg wc hG=>N9 stage hs level hl d wc) ?_
 refine aG ?_
 refine ah _ rfl (fun hc=>?_) (fun hc=>?_)
 ·refine run ?_
  refine fin1 ?_
  have:d.may stage level=false:=by simpa using hc
  rw [this];rfl
 ·refine run ?_
  refine fin1 ?_
  have:d.may stage level=true:=by simpa using hc
  rw [this];rfl
theorem KC (stage:Int) (hs:stage=1∨stage=2) (level:Nat) (hl:level<4) (d:DsD) (w:World):Fn Tryz.prog 85 [.int .i64 stage,.int .i64 (level:Int),FH d].toArray w [] (fun u _=>u=.tuple #[.int .u64 (bif d.may stage level then (d.word stage level:Int) else 0),.int .i64 (bif d.may stage level then 0 else 1)]):=by
 refine enter Tryz.func85 ?_
 refine run ?_
 intro B
 refine ax (fun wc hG=>Ip stage hs level hl d wc) ?_
 cases hm:d.may stage level with
 | false=>
  simp only [cond_false]
  refine ig ?_
  exact fin2 rfl
 | true=>
  simp only [cond_true]
  refine ig ?_
  refine jJ (fun wc hG=>Eu stage hs level hl d hm wc) ?_
  rintro v hn ⟨h1,hO,hle⟩
  refine aZ h1 (cnt1 hle) ?_
  refine ax (fun wc hG=>Ky _ (DsD.nS hm) (hO.lie hG.here (by rw [List.length_map];exact Nat.le_trans (DsD.Bq stage level d) UA))) ?_
  rw [DsD.yc]
  refine run ?_
  exact fin2 rfl
theorem zB (ai:Int) (v a:Nat) (hai:ai=(a:Int)) (ha:a≤63) (hv:v<18446744073709551616) (B:Nat) (w:World) (hB:w.cell? ⟨B,0,none⟩=some (.int .u64 (v:Int))):Fn Tryz.prog 214 [.int .i64 ai,.pointer (some ⟨B,0,none⟩)].toArray w [] (fun u _=>u=.bool (decide (bg v a 1=1))):=by
 subst hai
 exact PW v a ha hv B w hB
theorem Good.cell1 {w0 w:World} {mu:List Nat} {hp:Hp} (hG:Good w0 mu hp w) {b t:Nat} {v:Value} (h:(⟨b,#[v],t⟩:jY)∈hp):w.cell? ⟨b,0,none⟩=some v:=by
 rw [cell_of_block (hG.here _ h)];rfl
theorem Iq (stage:Int) (hs:stage=1∨stage=2) (level:Nat) (hl:level<4) (v:Nat) (hv:v<18446744073709551616) (w:World):Fn Tryz.prog 194 [.agg #[.int .i64 stage,.int .i64 (level:Int)],.int .u64 (v:Int)].toArray w [] (fun u _=>u=FH (dA stage level v)):=by
 have hlv:decide ((level:Int)=3)=decide (level=3):=by rw [Bool.eq_iff_iff,decide_eq_true_eq,decide_eq_true_eq];omega
 refine enter Tryz.func194 ?_
 refine run ?_
 intro B C D
 refine pO (fs:=[]) (vs:=[.int .i64 0]) (us:=[.pointer (some ⟨C,0,none⟩)]) (fun wc hG=>zB 0 v 0 rfl UA hv C wc (hG.cell1 (t:=79) UC)) ?_
 refine run ?_
 refine ah _ rfl (fun h0=>?_) (fun h0=>?_)
 ·have h0':(!decide (bg v 0 1=1))=true:=h0
  refine run ?_
  refine ax (fun wc hG=>pY v 4 4 UA UA UA hv wc) ?_
  refine run ?_
  refine jh ?_
  rw [dA,h0',cond_true]
  rfl
 ·have h0':(!decide (bg v 0 1=1))=false:=by simpa using h0
  refine run ?_
  refine pO (fs:=[]) (vs:=[.int .i64 1]) (us:=[.pointer (some ⟨C,0,none⟩)]) (fun wc hG=>zB 1 v 1 rfl UA hv C wc (hG.cell1 (t:=79) UC)) ?_
  refine aG ?_
  refine ah _ rfl (fun h1=>?_) (fun h1=>?_)
  ·rw [hlv] at h1
   refine run ?_
   refine ax (fun wc hG=>pY v 12 12 UA UA UA hv wc) ?_
   refine run ?_
   refine jh ?_
   rw [dA,h0',cond_false,h1]
   rfl
  ·have h1':(decide (bg v 1 1=1) && !decide ((level:Int)=3))=false:=by simpa using h1
   rw [hlv] at h1'
   refine run ?_
   refine ax (fun wc hG=>pY v 12 12 UA UA UA hv wc) ?_
   refine run ?_
   refine pO (fs:=[]) (vs:=[.int .i64 10]) (us:=[.pointer (some ⟨C,0,none⟩)]) (fun wc hG=>zB 10 v 10 rfl UA hv C wc (hG.cell1 (t:=79) UC)) ?_
   refine run ?_
   refine pO (fs:=[]) (vs:=[.int .i64 54]) (us:=[.pointer (some ⟨C,0,none⟩)]) (fun wc hG=>zB 54 v 54 rfl UA hv C wc (hG.cell1 (t:=79) UC)) ?_
   refine run ?_
   intro E
   refine run ?_
   refine ah _ rfl (fun hst=>?_) (fun hst=>?_)
   ·have hst':decide (stage=1)=true:=hst
    refine run ?_
    refine pO (fs:=[]) (vs:=[.int .i64 7]) (us:=[.pointer (some ⟨C,0,none⟩)]) (fun wc hG=>zB 7 v 7 rfl UA hv C wc (hG.cell1 (t:=79) UC)) ?_
    refine run ?_
    refine pO (fs:=[]) (vs:=[.int .i64 11]) (us:=[.pointer (some ⟨C,0,none⟩)]) (fun wc hG=>zB 11 v 11 rfl UA hv C wc (hG.cell1 (t:=79) UC)) ?_
    refine run ?_
    refine jh ?_
    rw [dA,h0',cond_false,h1',cond_false,hst',cond_true]
    rfl
   ·have hst':decide (stage=1)=false:=by simpa using hst
    refine run ?_
    refine uK 8 [⟨D,#[.int .i64 0,.int .i64 0,.bool false,.bool false,.bool false,.bool false,.bool false,.int .i64 0,.int .i64 0],93⟩,⟨C,#[.int .u64 (v:Int)],79⟩,⟨B,#[.int .i64 stage,.int .i64 (level:Int)],260⟩] ?_
    refine Hf ?_
    refine CP UB (by decide +kernel) (xA (fs:=[]) (vs:=[.int .i64 6]) (us:=[.pointer (some ⟨C,0,none⟩)]) (di 214 rfl) rfl rfl (fun wc hG=>zB 6 v 6 rfl UA hv C wc (hG.cell1 (t:=79) UC))) ?_
    refine Hf ?_
    refine He UB (by decide +kernel) (fun hx=>xA (fs:=[]) (vs:=[.int .i64 7]) (us:=[.pointer (some ⟨C,0,none⟩)]) (di 214 rfl) rfl rfl (fun wc hG=>zB 7 v 7 rfl UA hv C wc (hG.cell1 (t:=79) UC))) ?_
    refine Hf ?_
    refine NC (fun wc hG=>pY v 55 4 UA UA UA hv wc) ?_
    refine Hf ?_
    refine run ?_
    refine jh ?_
    rw [dA,h0',cond_false,h1',cond_false,hst',cond_false]
    rfl
theorem PY (stage:Int) (hs:stage=1∨stage=2) (level:Nat) (hl:level<4) (v:Nat) (hv:v<18446744073709551616) (w:World):Fn Tryz.prog 149 [.int .i64 stage,.int .i64 (level:Int),.int .u64 (v:Int)].toArray w [] (fun u _=>u=.tuple #[FH (C9 stage level v),.int .i64 0]):=by
 refine enter Tryz.func149 ?_
 refine run ?_
 intro B C
 refine ax (fun wc hG=>nR stage hs level hl wc) ?_
 refine ig ?_
 refine ax (fun wc hG=>Iq stage hs level hl v hv wc) ?_
 refine run ?_
 intro D
 refine run ?_
 refine ax (fun wc hG=>KC stage hs level hl _ wc) ?_
 refine aG ?_
 have hm2:∀ b:Bool,decide ((bif b then (0:Int) else 1)=0)=b:=by decide
 refine ah _ rfl (fun hc=>?_) (fun hc=>?_)
 ·refine run ?_
  refine jo ?_
  have:C9 stage level v=x9:=by
   unfold C9
   rw [hm2] at hc
   cases hm:(dA stage level v).may stage level
   ·rfl
   ·rw [hm] at hc
    have hne:¬ (dA stage level v).word stage level=v:=by simpa [Int.ofNat_inj] using hc
    simp [hne]
  rw [this]
  rfl
 ·refine run ?_
  refine jo ?_
  have:C9 stage level v=dA stage level v:=by
   unfold C9
   rw [hm2] at hc
   cases hm:(dA stage level v).may stage level
   ·rw [hm] at hc;simp at hc
   ·rw [hm] at hc
    have he:(dA stage level v).word stage level=v:=by simpa [Int.ofNat_inj] using hc
    simp [he]
  rw [this]
end
abbrev uV (x:Nat):List Value:=[.int .u64 (x:Int)]
section
attribute [local irreducible] Hy St Ops DH fE
theorem zC {w:World} (xs:List Int) (u v:Value) (hu:aF w u 1 (xs.map dH)) (hv:aF w v 1 (xs.map dH)):Fn Tryz.prog 12 [u,v].toArray w [] (fun r _=>r=.bool true):=by
 obtain ⟨q,cap,rfl,hne,hle⟩:=hu.opened
 obtain ⟨q2,cap2,rfl,hne2,_⟩:=hv.opened
 refine enter Tryz.func12 ?_
 refine run ?_
 refine ah _ rfl (fun hc=>absurd hc UC) (fun hc=>?_)
 refine run ?_
 refine eF (σ:=Nat) (fun k=>[(5,.int .i64 (k:Int))]) (fun _=>[]) (fun k=>k≤xs.length) (fun k=>xs.length - k) 0 (Nat.zero_le _) ?_
 rintro k m hm hk
 refine run ?_
 refine ah _ rfl (fun hc=>?_) (fun hc=>?_)
 ·have hlt:k<xs.length:=by simp at hc;omega
  obtain ⟨b,o,rfl⟩:=hne UK
  obtain ⟨b2,o2,rfl⟩:=hne2 UK
  have h1:=dD (hu.row hlt)
  have h2:=dD (hv.row hlt)
  simp only [dH,Nat.mul_one] at h1 h2
  refine run ?_
  refine lJ ?_
  refine gp ?_
  refine run ?_
  refine ah _ rfl (fun hp=>?_) (fun hp=>?_)
  ·simp [aQ,kK] at hp
  ·refine run ?_
   exact dG (k + 1) hlt
 ·refine run ?_
  exact fin1 rfl
theorem yf {w:World} (v:Value) (xs:List (List Value)) (h:aF w v 1 xs) (hall:∀ c∈xs,c.length=1∧c.all (·.oneCell')=true) (hl:xs.length<1000000):Fn Tryz.prog 204 [v].toArray w [] (fun u hn=>Own 79 1 u hn xs):=by
 obtain ⟨⟨q,cap,rfl,hne⟩,_⟩:=h
 refine enter Tryz.func204 ?_
 refine run ?_
 refine lU UB (A8 aj rfl rfl) ?_
 refine run ?_
 refine ah _ rfl (fun hp=>?_) (fun hp=>?_)
 ·obtain rfl:xs=[]:=by
   rcases Classical.em (xs=[]) with h | h
   ·exact h
   ·obtain ⟨b,o,rfl,_⟩:=hne h;cases hp
  refine run ?_
  refine fin1 ?_
  exact ⟨by simp,.inl ⟨rfl,rfl,rfl⟩⟩
 refine run ?_
 refine qX aj UB UB (fun g=>?_)
 refine run ?_
 rcases Classical.em (xs=[]) with rfl | hx
 ·cases q with
  | none=>cases hp
  | some q=>
  refine lU UB (qW aj (iP:=0) rfl rfl rfl (Nat.le_refl _)) ?_
  refine run ?_
  refine fin1 ?_
  exact ⟨by simp,.inr ⟨g,0,#[],rfl,rfl,⟨rfl,Nat.le_refl _,by decide,rfl,rfl⟩⟩⟩
 ·obtain ⟨b,o,rfl,hr⟩:=hne hx
  refine mQ aj UB rfl ⟨rfl,Nat.le_refl _,by decide,rfl,rfl⟩ rfl rfl rfl rfl rfl rfl (.refl _) rfl hall hr UC hl (fun v' ha' hA=>?_)
  refine run ?_
  refine fin1 ?_
  rw [List.append_nil]
  exact hA
theorem zD (n m:Int) (w:World):Fn Tryz.prog 54 [.int .i64 n,.int .i64 m].toArray w [] (fun u _=>u=.bool (decide (0≤n) && decide (n≤m))):=by
 refine enter Tryz.func54 ?_
 refine aG ?_
 exact fin1 rfl
def dL (n:Nat):Bool:=decide (8≤n) && decide (n≤512) && decide (n % 8=0)
theorem cO {n:Nat} (h:dL n=true):8≤n∧n≤512∧n / 8 * 8=n∧n / 8≤64:=by
 simp only [dL,Bool.and_eq_true,decide_eq_true_eq] at h
 omega
theorem Ob (n cap:Nat) (q:Option Addr) (w:World):Fn Tryz.prog 6 [.agg #[.slice q n cap]].toArray w [] (fun u _=>u=.bool (dL n)):=by
 refine enter Tryz.func6 ?_
 refine run ?_
 intro B
 refine aG ?_
 refine NJ (hy:=fun hg=>jM UH rfl n 8 UB UB UA) (h:=?_)
 refine aG ?_
 refine fin1 ?_
 congr 1
 unfold dL
 have c1:decide ((8:Int)≤(n:Int))=decide (8≤n):=by rw [Bool.eq_iff_iff,decide_eq_true_eq,decide_eq_true_eq];omega
 have c2:decide ((n:Int)≤512)=decide (n≤512):=by rw [Bool.eq_iff_iff,decide_eq_true_eq,decide_eq_true_eq];omega
 have c3:decide (((n % 8:Nat):Int)=0)=decide (n % 8=0):=by rw [Bool.eq_iff_iff,decide_eq_true_eq,decide_eq_true_eq];omega
 rw [c1,c2,c3]
theorem rC (n cap:Nat) (hn:n<4611686018427387904) (q:Option Addr) (w:World):Fn Tryz.prog 55 [.agg #[.slice q n cap]].toArray w [] (fun u _=>u=.int .i64 ((n / 8:Nat):Int)):=by
 refine enter Tryz.func55 ?_
 refine run ?_
 intro B
 refine run ?_
 refine lU UB (uQ rfl rfl n 8 UB UB UA Uz) ?_
 refine run ?_
 exact fin1 rfl
theorem Ir (n cap:Nat) (hn:n<4611686018427387904) (q:Option Addr) (w:World):Fn Tryz.prog 165 [.agg #[.slice q n cap]].toArray w [] (fun u _=>u=.bool (dL n)):=by
 refine enter Tryz.func165 ?_
 refine run ?_
 intro B
 refine aG ?_
 refine NJ (hy:=fun hg=>jM UH rfl n 8 UB UB UA) (h:=?_)
 refine aG ?_
 refine NJ (hy:=fun hg=>uQ UH rfl n 8 UB UB UA Uz) (h:=?_)
 refine aG ?_
 refine fin1 ?_
 congr 1
 unfold dL
 have c1:decide ((0:Int)<(n:Int))=decide (0<n):=by rw [Bool.eq_iff_iff,decide_eq_true_eq,decide_eq_true_eq];omega
 have c2:decide (((n / 8:Nat):Int)≤64)=decide (n / 8≤64):=by rw [Bool.eq_iff_iff,decide_eq_true_eq,decide_eq_true_eq];omega
 have c3:decide (((n % 8:Nat):Int)=0)=decide (n % 8=0):=by rw [Bool.eq_iff_iff,decide_eq_true_eq,decide_eq_true_eq];omega
 rw [c1,c2,c3,Bool.eq_iff_iff]
 simp only [Bool.and_eq_true,decide_eq_true_eq]
 omega
theorem qc (n cap:Nat) (hn:n<4611686018427387904) (q:Option Addr) (w:World):Fn Tryz.prog 108 [.agg #[.slice q n cap]].toArray w [] (fun u _=>u=.int .i64 (bif dL n then 0 else 1)):=by
 refine enter Tryz.func108 ?_
 refine run ?_
 intro B
 refine run ?_
 refine ax (fun wc hG=>Ir n cap hn q wc) ?_
 refine run ?_
 refine ah _ rfl (fun hc=>?_) (fun hc=>?_)
 ·refine run ?_
  refine fin1 ?_
  have:dL n=false:=by simpa using hc
  rw [this];rfl
 ·refine run ?_
  refine fin1 ?_
  have:dL n=true:=by simpa using hc
  rw [this];rfl
end
end Go.Proofs.YtiggoglimlnmmaaGreat
