/- Texts of one's own, merged: the engine, what the functions do, plain laws. -/
import Derived.Test.YtndklbjnofdgeaaGreatPw5
namespace Go.Proofs.YtndklbjnofdgeaaGreat
open Go.RowKit
set_option linter.unusedVariables false
set_option linter.unusedSimpArgs false
set_option maxRecDepth 200000
def wwL (n:Nat):List InD:=[⟨1,1,0,0,n⟩,⟨1,2,0,0,1536⟩,⟨10,0,1,0,4⟩,⟨8,1,2,2,0⟩,⟨1,3,0,0,1⟩,⟨3,1,1,3,0⟩,⟨9,0,0,0,-5⟩]
def wwW (n:Nat):List Nat:=codeK (leafsL 32) 20 (wwL n) 7
def wwR:RgD:=⟨0,0,0,0,0,0,0,0,1280,0,0,256,0,0,0⟩
def wwP (k:Nat):PkD:=⟨0,false,decide (k % 3=0),false,-1,decide (k % 2=0)⟩
def RgD.nums (r:RgD):List Nat:=[r.x0,r.x1,r.x2,r.x3,r.x4,r.x5,r.x6,r.x7,r.pc,r.ttbr,r.sctlr,r.vbar,r.elr,r.esr,r.far]
def wwGood (ws:List Nat) (ls:List (List EnD × List IvD)) (r:RgD):Bool:=mayS ws.length ls 0 ⟨true,0,0⟩ && ((ws++r.nums).all fun x=>decide (x<18446744073709551616))
theorem wwGood_ok {ws:List Nat} {ls:List (List EnD × List IvD)} {r:RgD} (h:wwGood ws ls r=true):mayS ws.length ls 0 ⟨true,0,0⟩=true∧W64 ws∧r.Ok:=by
 unfold wwGood at h
 rw [Bool.and_eq_true,List.all_eq_true] at h
 obtain ⟨h1,h2⟩:=h
 have h3:∀ x∈ws++r.nums,x<18446744073709551616:=fun x hx=>of_decide_eq_true (h2 x hx)
 have h4:∀ x∈r.nums,W64n x:=fun x hx=>h3 x (List.mem_append_right _ hx)
 refine ⟨h1,fun x hx=>h3 x (List.mem_append_left _ hx),?_⟩
 unfold RgD.nums at h4
 constructor<;>(apply h4;simp)
def wwEnd (k:Nat) (ws:List Nat) (ls:List (List EnD × List IvD)) (r:RgD):Bool:=decide (r.pc=1308) && decide (r.x1=0) && memOk ws.length && decide (readN ws 1536 4=1) && match stepP (s0P ws ls r ⟨0,false,false,false,-1,false⟩) 0 ⟨true,0,0⟩ with | S=>decide (S.kind=1) && decide (S.r.pc=256) && decide (S.r.elr=1308) && decide (S.r.esr=33554432)
def wwRun:Nat→Nat→List Nat→List (List EnD × List IvD)→RgD→Bool
 | 0,k,ws,ls,r=>wwGood ws ls r && wwEnd k ws ls r
 | f + 1,k,ws,ls,r=>wwGood ws ls r && !decide (r.pc=1308) && match stepP (s0P ws ls r (wwP k)) 0 ⟨true,0,0⟩ with | S=>decide (S.kind=0) && decide (S.ws.length=ws.length) && decide (S.ls.length=1) && wwRun f (k + 1) S.ws S.ls S.r
theorem wwRun_good {f k:Nat} {ws:List Nat} {ls:List (List EnD × List IvD)} {r:RgD} (h:wwRun f k ws ls r=true):wwGood ws ls r=true:=by
 cases f with
 | zero=>unfold wwRun at h;rw [Bool.and_eq_true] at h;exact h.1
 | succ f=>unfold wwRun at h;rw [Bool.and_eq_true,Bool.and_eq_true] at h;exact h.1.1
theorem wwRun_next {f k:Nat} {ws:List Nat} {ls:List (List EnD × List IvD)} {r:RgD} (h:wwRun f k ws ls r=true) (hpc:r.pc ≠ 1308) {S:PS} (hS:stepP (s0P ws ls r (wwP k)) 0 ⟨true,0,0⟩=S):∃ f',f=f' + 1∧S.kind=0∧S.ws.length=ws.length∧S.ls.length=1∧wwRun f' (k + 1) S.ws S.ls S.r=true:=by
 cases f with
 | zero=>simp [wwRun,wwEnd,hpc] at h
 | succ f=>
  unfold wwRun at h
  rw [hS] at h
  simp only [Bool.and_eq_true,decide_eq_true_eq] at h
  exact ⟨f,rfl,h.2.1.1.1,h.2.1.1.2,h.2.1.2,h.2.2⟩
theorem wwRun_end {f k:Nat} {ws:List Nat} {ls:List (List EnD × List IvD)} {r:RgD} (h:wwRun f k ws ls r=true) (hpc:r.pc=1308) {S:PS} (hS:stepP (s0P ws ls r ⟨0,false,false,false,-1,false⟩) 0 ⟨true,0,0⟩=S):f=0∧r.x1=0∧memOk ws.length=true∧readN ws 1536 4=1∧S.kind=1∧S.r.pc=256∧S.r.elr=1308∧S.r.esr=33554432:=by
 cases f with
 | zero=>
  unfold wwRun wwEnd at h
  rw [hS] at h
  simp only [Bool.and_eq_true,decide_eq_true_eq] at h
  exact ⟨rfl,h.2.1.1.1.2,h.2.1.1.2,h.2.1.2,h.2.2.1.1.1,h.2.2.1.1.2,h.2.2.1.2,h.2.2.2⟩
 | succ f=>simp [wwRun,hpc] at h
theorem wwAll:((List.range 9).all fun i=>wwRun (8 + 5 * i) 0 (wwW (i + 1)) [([],[])] wwR)=true:=by decide +kernel
theorem wwL_may:∀ i,i<9→∀ x∈wwL (i + 1),x.may=true:=by decide +kernel
theorem leafs32_w64:W64 (leafsL 32):=by unfold W64;decide +kernel
theorem leafs32_len:(leafsL 32).length=256:=by decide +kernel
theorem wwW_len (i:Nat):(wwW i).length=256:=by unfold wwW;rw [codeK_len,leafs32_len]
structure WwS where
 k:Nat
 ws:List Nat
 ls:List (List EnD × List IvD)
 r:RgD
 L:ML
structure WwI (i:Nat) (s:WwS):Prop where
 k:s.k≤8 + 5 * i
 run:wwRun (8 + 5 * i - s.k) s.k s.ws s.ls s.r=true
 wl:s.ws.length=256
 ll:s.ls.length=1
 w:Own 25 1 s.L.wv s.L.hw (s.ws.map uV)
 l:Own 77 2 s.L.lv s.L.hl (s.L.ts.map tlV)
 t:TlsW s.L.ts s.L.ht
 p:s.L.ts.map TlD.p=s.ls
 wc:∃ q c,s.L.wv=.slice q s.ws.length c∧s.ws.length≤c
attribute [local irreducible] Hy St Ops DH DHF DE1 DE2 DE3 DS DCh DWF DE2D
theorem ownStep_e {ws:List Nat} {ls:List (List EnD × List IvD)} {r:RgD} {L:ML} (hw:Own 25 1 L.wv L.hw (ws.map uV)) (hl:Own 77 2 L.lv L.hl (L.ts.map tlV)) (ht:TlsW L.ts L.ht) (hp:L.ts.map TlD.p=ls) (hsz:ws.length<1000000) (hts:L.ts.length<100000) (h64:W64 ws) (hr:r.Ok) {cpu:Int} {two:RtD} (pk:PkD) (hmay:mayS ws.length ls cpu two=true) {wc:World} (hH:Here (L.hw++L.hl++L.ht) wc):
  Fn Tryz.prog 16 [.agg #[L.wv],.agg (rgV r).toArray,L.lv,.int .i64 cpu,.agg (rtV two).toArray,.agg (pkV pk).toArray].toArray wc [] (fun u hn=>SRet cpu (stepP (s0P ws ls r pk) cpu.toNat two) u hn):=by
 obtain ⟨q,c,hwv,hcc⟩:=hw.openedC
 rw [List.length_map] at hwv hcc
 have h1:SlAt wc L.wv 1 (ws.map uV):=hw.lie (fun e he=>hH e (by simp [he])) (by rw [List.length_map];omega)
 rw [hwv] at h1 ⊢
 have hti:=ht.i
 refine (sStep_e ws h64 hsz c hcc L.ts r hr cpu two pk h1 ⟨hl.lie (fun e he=>hH e (by simp [he])) (by rw [List.length_map];omega),fun t hm=>((hti t hm).1 wc (fun e he=>hH e (by simp [he]))).1,fun t hm=>((hti t hm).1 wc (fun e he=>hH e (by simp [he]))).2⟩ (fun t hm=>(hti t hm).2) hts).mono (fun u hn hu=>?_)
 rw [hp,hmay,cond_true] at hu
 exact hu
theorem lawStepWorks_e (wv lv pv:Value) (r:RgD) (cpu:Int) (two:RtD) (ps:List PkD) {w:World} (hsp:SlAt w pv 6 (ps.map pkV)) (hpl:ps.length≤281474976710656):Fn Tryz.prog 5 [.agg (scV wv lv pv r cpu two)].toArray w [] (fun u _=>u=.bool true):=by
 obtain ⟨qp,cp,rfl,_⟩:=id hsp.opened
 refine enter Tryz.func5 ?_
 refine runNB ?_
 intro B
 refine callE (fun wc hG=>within_e wc ps.length 9 (by omega) (by omega)) ?_
 have hi:wthn ps.length 9<9:=wthn_lt _ (by decide)
 obtain ⟨i,hie⟩:∃ i,i=wthn ps.length 9:=⟨_,rfl⟩
 rw [← hie] at hi ⊢
 refine ops_le [] (by (refine hpLe_cnt fun a=>?_;simp only [cntB_app,cntB_cons,cntB_nil]<;>omega)) ?_
 refine run ?_
 refine callB (fun wc hG=>leafs_e 32 (by decide) (by decide) wc) ?_
 rintro _ hn1 ⟨v1,h1,rfl,hA1,hle1⟩
 obtain ⟨q1,c1,x1⟩:=hA1.opened
 rw [List.length_map] at x1
 subst x1
 refine ops_le h1 (by (refine hpLe_cnt fun a=>?_;have:=HpLe.cnt hle1 a;simp only [cntB_app,cntB_cons,cntB_nil] at *;omega)) ?_
 rw [show ((1:Int) + ((i:Nat):Int))=((i + 1:Nat):Int) by omega]
 refine runNS ?_
 refine bsliceK ((wwL (i + 1)).map isV).flatten.toArray ((wwL (i + 1)).map isV).flatten (fun I=>?_) rfl
 refine run ?_
 refine callB (fun wc hG=>code_e (leafsL 32) leafs32_w64 (by rw [leafs32_len];decide) 20 (wwL (i + 1)) (show (0:Nat)<7 by decide) (show 7≤200 by decide) (wwL_may i hi) (by rw [leafs32_len];exact (show 20 * 64 + 4 * 7≤8 * 256 by decide)) (hA1.lie (fun e he=>hG.here e (by simp [he])) (by rw [List.length_map,leafs32_len];decide)) (lie_rows (xs:=(wwL (i + 1)).map isV) (hG.here _ mh) (fun c hc=>by obtain ⟨x,_,rfl⟩:=List.mem_map.1 hc;rfl) (by rw [List.length_map];exact (show 7≤281474976710656 by decide)))) ?_
 rintro _ hn2 ⟨v2,h2,rfl,hA2,hle2⟩
 replace hA2:Own 25 1 v2 h2 ((wwW (i + 1)).map uV):=hA2
 refine ops_le h2 (by (refine hpLe_cnt fun a=>?_;have:=HpLe.cnt hle2 a;simp only [cntB_app,cntB_cons,cntB_nil] at *;omega)) ?_
 obtain ⟨q2,c2,x2⟩:=hA2.openedC
 rw [List.length_map] at x2
 obtain ⟨x2,hcc⟩:=x2
 subst x2
 refine runNB ?_
 intro M
 refine buildK (rgV wkR).toArray ?_
 refine runNB ?_
 intro R
 refine ops_le (⟨R,(rgV wwR).toArray,30⟩::⟨M,#[.slice q2 (wwW (i + 1)).length c2],24⟩::h2) (HpLe.refl _) ?_
 refine make (m:=1) (fun T=>?_) (by decide)
 refine run ?_
 have hO1:Own 77 2 (.slice (some ⟨T,0,none⟩) 1 1) [⟨T,madeCells (Value.agg #[.slice none 0 0,.slice none 0 0]).cells (1 * 2),77⟩] ([default].map tlV):=by
  rw [show madeCells (Value.agg #[.slice none 0 0,.slice none 0 0]).cells (1 * 2)=((List.replicate 1 [Value.slice none 0 0,Value.slice none 0 0]).flatten).toArray from made_rows [.slice none 0 0,.slice none 0 0] 1 2 rfl (by decide)]
  exact own_row T 1 _ rfl rfl (fun c hc=>by simp at hc;subst hc;exact ⟨rfl,rfl⟩) rfl rfl (by decide)
 have hW:TlsW [default] []:=⟨[],[],[],⟨Own.nil _ _,Own.nil _ _,Nat.zero_le _,Nat.zero_le _⟩,trivial,HpLe.refl _⟩
 refine loopS (σ:=WwS) (fun s=>[(7,.int .i64 (s.k:Int)),(6,s.L.lv)]) (fun s=>⟨R,(rgV s.r).toArray,30⟩::⟨M,#[s.L.wv],24⟩::(s.L.hw++s.L.hl++s.L.ht)) (WwI i) (fun s=>8 + 5 * i - s.k) ⟨0,wwW (i + 1),[([],[])],wwR,⟨.slice q2 (wwW (i + 1)).length c2,.slice none 0 0,.slice (some ⟨T,0,none⟩) 1 1,[default],h2,[],[⟨T,madeCells (Value.agg #[.slice none 0 0,.slice none 0 0]).cells (1 * 2),77⟩],[]⟩⟩ ⟨Nat.zero_le _,List.all_eq_true.1 wwAll i (List.mem_range.2 hi),wwW_len _,rfl,hA2,hO1,hW,rfl,⟨_,_,rfl,hcc⟩⟩ ?_ (hh:=by dsimp only;(refine hpLe_cnt fun a=>?_;simp only [cntB_app,cntB_cons,cntB_nil]<;>omega))
 rintro ⟨k,ws,ls,r,L⟩ m hm hI
 obtain ⟨hk,hrun,hwl,hll,hw,hl,ht,hp,q3,c3,hwv,hcc3⟩:=hI
 dsimp only at hm hk hrun hwl hll hw hl ht hp hwv hcc3 ⊢
 have hgo:mayS ws.length ls 0 ⟨true,0,0⟩=true∧W64 ws∧r.Ok:=wwGood_ok (wwRun_good hrun)
 rw [hwv] at hw ⊢
 refine runG ?_
 refine st_cond _ rfl (fun hc=>?_) (fun hc=>?_)
 ·refine run ?_
  refine op1 (by rfl) (x_remN rfl rfl k 2 rfl rfl (by omega)) ?_
  refine run ?_
  refine op1 (by rfl) (x_remN rfl rfl k 3 rfl rfl (by omega)) ?_
  refine runNB ?_
  rw [show decide (((k % 2:Nat):Int)=0)=decide (k % 2=0) from decide_eq_decide.2 (by omega),show decide (((k % 3:Nat):Int)=0)=decide (k % 3=0) from decide_eq_decide.2 (by omega)]
  refine buildK (pkV (wwP k)).toArray ?_
  rw [← hwv] at hw ⊢
  refine callB (fun wc hG=>ownStep_e (r:=r) (two:=⟨true,0,0⟩) hw hl ht hp (by omega) (by rw [← List.length_map (f:=TlD.p),hp];omega) hgo.2.1 hgo.2.2 (wwP k) hgo.1 (fun e he=>hG.here e (by simp at he ⊢;rcases he with he | he | he<;>simp [he]))) ?_
  obtain ⟨S,hS⟩:∃ S,stepP (s0P ws ls r (wwP k)) (0:Int).toNat ⟨true,0,0⟩=S:=⟨_,rfl⟩
  rw [hS]
  obtain ⟨f',hf',hSk,hSw,hSl,hSr⟩:=wwRun_next hrun (by simp at hc;omega) hS
  rintro u hn ⟨L2,hM,rfl,hle⟩
  obtain ⟨a1,b1,e1,hb1⟩:=hM.w.openedC
  obtain ⟨a2,b2,e2⟩:=hM.l.opened
  obtain ⟨a3,b3,e3⟩:=hM.q.opened
  rw [List.length_map] at e1 e2 e3 hb1
  rw [e1,e2,e3]
  have hL2:L2.ts.length=1:=by rw [← hSl,← hM.p,List.length_map]
  rw [hL2,hwv]
  refine run ?_
  intro X Y O
  refine ops_le (⟨O,obC 0 (.slice a3 S.seen.length b3) S,46⟩::⟨Y,(rgV S.r).toArray,30⟩::⟨X,#[.slice a1 S.ws.length b1],24⟩::(hn++(⟨R,(rgV r).toArray,30⟩::⟨M,#[.slice q3 ws.length c3],24⟩::(L.hw++L.hl++L.ht)))) (HpLe.refl _) ?_
  refine callE (fun wc hG=>num15_e 0 wc) ?_
  refine runG ?_
  rw [hSk]
  refine runG ?_
  rw [hSw]
  refine runG ?_
  refine st_cond _ rfl (fun hc=>absurd hc (by simp)) (fun _=>?_)
  refine run ?_
  refine drawC 5 3 [0,1,2] [3,4] [⟨Y,(rgV S.r).toArray,30⟩] ?_
  refine runZ ?_
  refine cPut (b:=M) (tb:=24) (cs:=#[.slice q3 ws.length c3]) (cs':=#[.slice a1 ws.length b1]) (hp':=⟨O,obC 0 (.slice a3 S.seen.length b3) S,46⟩::⟨Y,(rgV S.r).toArray,30⟩::⟨X,#[.slice a1 ws.length b1],24⟩::(hn++(⟨R,(rgV r).toArray,30⟩::(L.hw++L.hl++L.ht)))) ?_ (hput:=rfl) (hperm:=by (refine perm_cnt fun a=>?_;simp only [cntB_app,cntB_cons,cntB_nil]<;>omega))
  refine cCell (b:=R) (tb:=30) (cs:=(rgV r).toArray) (vs:=rgV S.r) (hvc:=rfl) (rgV S.r).toArray (hp':=⟨M,#[.slice a1 ws.length b1],24⟩::⟨O,obC 0 (.slice a3 S.seen.length b3) S,46⟩::⟨Y,(rgV S.r).toArray,30⟩::⟨X,#[.slice a1 ws.length b1],24⟩::(hn++(L.hw++L.hl++L.ht))) ?_ (hperm:=by (refine perm_cnt fun a=>?_;simp only [cntB_app,cntB_cons,cntB_nil]<;>omega))
  refine dc_nil ?_
  refine opsC ?_
  refine run ?_
  rw [hSw] at e1 hb1
  have o1:=hM.w
  have o2:=hM.l
  rw [e1] at o1
  rw [e2,hL2] at o2
  exact nextS ⟨k + 1,S.ws,S.ls,S.r,⟨.slice a1 ws.length b1,.slice none 0 0,.slice a2 1 b2,L2.ts,L2.hw,[],L2.hl,L2.ht⟩⟩ (hm:=by dsimp only;omega) ⟨by dsimp only;omega,by dsimp only;rw [show 8 + 5 * i - (k + 1)=f' by omega];exact hSr,by dsimp only;omega,hSl,o1,o2,hM.t,hM.p,⟨_,_,by dsimp only;rw [hSw],by dsimp only;omega⟩⟩ (h2:=by dsimp only;(refine hpLe_cnt fun a=>?_;have:=HpLe.cnt hle a;simp only [cntB_app,cntB_cons,cntB_nil] at *;omega))
 ·have hpc:r.pc=1308:=by simp at hc;omega
  obtain ⟨S,hS⟩:∃ S,stepP (s0P ws ls r ⟨0,false,false,false,-1,false⟩) (0:Int).toNat ⟨true,0,0⟩=S:=⟨_,rfl⟩
  obtain ⟨hf0,hx1,hmo,hrd,hSk,hSp,hSe,hSs⟩:=wwRun_end hrun hpc hS
  obtain rfl:k=8 + 5 * i:=by omega
  refine run ?_
  refine runG ?_
  refine callEG (fun _ wc hG=>rMem_e ws.length c3 q3 wc) ?_
  rw [hmo,hx1]
  refine runG ?_
  have hpl:PlOk ws 1536 4:=⟨hgo.2.1,by omega,by omega,by omega,.inr (.inr (.inl rfl)),by omega⟩
  refine callEG (fun _ wc hG=>rRead_e ws 1536 4 hpl (hw.lie (fun e he=>hG.here e (by simp [he])) (by rw [List.length_map];omega))) ?_
  rw [hrd]
  refine runG ?_
  refine st_cond _ rfl (fun hc=>absurd hc (by simp;omega)) (fun _=>?_)
  refine runNB ?_
  refine buildK (rtV ⟨true,0,0⟩).toArray ?_
  refine runNB ?_
  refine buildK (pkV ⟨0,false,false,false,-1,false⟩).toArray ?_
  rw [← hwv] at hw ⊢
  refine callB (fun wc hG=>ownStep_e (r:=r) (two:=⟨true,0,0⟩) hw hl ht hp (by omega) (by rw [← List.length_map (f:=TlD.p),hp];omega) hgo.2.1 hgo.2.2 ⟨0,false,false,false,-1,false⟩ hgo.1 (fun e he=>hG.here e (by simp at he ⊢;rcases he with he | he | he<;>simp [he]))) ?_
  rw [hS]
  rintro u hn ⟨L2,hM,rfl,hle⟩
  obtain ⟨a1,b1,e1⟩:=hM.w.opened
  obtain ⟨a2,b2,e2⟩:=hM.l.opened
  obtain ⟨a3,b3,e3⟩:=hM.q.opened
  rw [e1,e2,e3]
  refine run ?_
  intro X Y O
  refine ops_le (⟨O,obC 0 (.slice a3 (List.map inV S.seen).length b3) S,46⟩::⟨Y,(rgV S.r).toArray,30⟩::⟨R,(rgV r).toArray,30⟩::[]) (by first | exact HpLe.refl _ | exact hpLe_cnt fun a=>by simp only [obC,rgV,List.map_cons,List.map_nil,cntB_app,cntB]<;>omega) ?_
  refine callE (fun wc hG=>num15_e 0 wc) ?_
  refine runG ?_
  rw [hSk]
  refine runG ?_
  rw [hSp]
  refine runG ?_
  rw [hSe,hpc]
  refine runG ?_
  rw [hSs]
  refine runG ?_
  refine callEG (fun _ wc hG=>wakes15_e wc) ?_
  refine runG ?_
  exact fin1 rfl
theorem lawStepWorks_s {w:World} {wv lv pv:Value} {ws:List Nat} {ts:List TlD} {ps:List PkD} {r:RgD} {cpu:Int} {two:RtD} (h:Sk15 w wv lv pv ws ts ps r):Fn Tryz.prog 5 [.agg (scV wv lv pv r cpu two)].toArray w [] (fun u _=>u=.bool true):=lawStepWorks_e wv lv pv r cpu two ps h.sp h.pl
end Go.Proofs.YtndklbjnofdgeaaGreat
