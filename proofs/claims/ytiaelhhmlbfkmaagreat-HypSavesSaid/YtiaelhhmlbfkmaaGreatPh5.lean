/- Texts of one's own, merged: the engine, what the functions do, plain laws. -/
import Derived.Test.YtiaelhhmlbfkmaaGreatPh4
namespace Go.Proofs.YtiaelhhmlbfkmaaGreat
open Go.RowKit
set_option linter.unusedVariables false
set_option linter.unusedSimpArgs false
set_option maxRecDepth 20000
section
attribute [local irreducible] Hy St Ops DH dG je iI gJ DS gY mP
theorem ac0 (xs:List Nat):∀ c∈xs.map uV,c.length=1∧c.all (·.oneCell')=true:=by
 intro c hc
 obtain ⟨x,_,rfl⟩:=List.mem_map.1 hc
 exact ⟨rfl,rfl⟩
theorem NQ (n cap:Nat) (hn:n<4611686018427387904) (q:Option Addr) (w:World):Fn Tryz.prog 149 [.agg #[.slice q n cap]].toArray w [] (fun u _=>u=.int .i64 ((n / 8:Nat):Int)):=by
 refine enter Tryz.func149 ?_
 refine run ?_
 intro B
 refine run ?_
 refine ja be8 (uj rfl rfl n 8 be8 be8 be6 be5) ?_
 refine run ?_
 exact fin1 rfl
theorem Zp (n cap:Nat) (hn:n<4611686018427387904) (q:Option Addr) (f:Int) (B:Nat) (w:World) (hB:w.cell? ⟨B,0,none⟩=some (.slice q n cap)):Fn Tryz.prog 354 ([]++[Value.int .i64 f]++[Value.pointer (some ⟨B,0,none⟩)]).toArray w [] (fun u _=>u=.bool (!dm n f)):=by
 have hr:w.rangeAt B 0 [.slice q n cap]:=fun j v hj=>by
  cases j with
  | zero=>simp at hj;subst hj;exact hB
  | succ j=>simp at hj
 refine enter Tryz.func354 ?_
 refine aI ?_
 refine dO (fun _ wc hG=>NQ n cap hn q wc) ?_
 refine aI ?_
 refine fin1 ?_
 unfold dm
 rw [Bool.not_and]
 congr 1
 rw [← decide_not,← decide_not]
 congr 1<;>(rw [Bool.eq_iff_iff,decide_eq_true_eq,decide_eq_true_eq];omega)
theorem ak6 (n cap:Nat) (hn:n<4611686018427387904) (q:Option Addr) (xs:List Int) {w:World} {v:Value} (h:aF w v 1 (xs.map dA)):Fn Tryz.prog 331 [.agg #[.slice q n cap],v].toArray w [] (fun u _=>u=.bool (xs.all (dm n))):=by
 refine enter Tryz.func331 ?_
 refine run ?_
 intro B
 refine run ?_
 refine ak (fun wc hG=>oV (us:=[.pointer (some ⟨B,0,none⟩)]) (fun x=>!dm n x) xs _ (h.good hG) (fun x _ w' ha=>Zp n cap hn q x B w' ?_)) ?_
 ·obtain ⟨hp,hg⟩:=ha
  exact hg.cell bi8 be7
 refine run ?_
 refine fin1 ?_
 rw [← List.not_all_eq_any_not,Bool.not_not]
theorem ak7 (n cap:Nat) (hn:n<4611686018427387904) (q:Option Addr) (xs:List Int) {w:World} {v:Value} (h:aF w v 1 (xs.map dA)):Fn Tryz.prog 286 [.agg #[.slice q n cap],v].toArray w [] (fun u _=>u=.int .i64 (bif !fK n then 1 else bif xs.all (dm n) then 0 else 2)):=by
 have h':=h
 obtain ⟨qv,cv,rfl,_,_⟩:=h.opened
 refine enter Tryz.func286 ?_
 refine run ?_
 intro B
 refine run ?_
 refine ak (fun wc hG=>U6 n cap hn q wc) ?_
 refine run ?_
 refine ah _ rfl (fun hc=>?_) (fun hc=>?_)
 ·refine run ?_
  refine fin1 ?_
  rw [hc];rfl
 ·refine run ?_
  refine ak (fun wc hG=>ak6 n cap hn q xs (h'.good hG)) ?_
  refine run ?_
  rw [hc,cond_false]
  refine ah _ rfl (fun hc2=>?_) (fun hc2=>?_)
  ·refine run ?_
   refine fin1 ?_
   rw [show xs.all (dm n)=false by simpa using hc2];rfl
  ·refine run ?_
   refine fin1 ?_
   rw [show xs.all (dm n)=true by simpa using hc2];rfl
theorem ax0 (n cap f:Nat) (hf:f * 8 + 8≤n) (hc:n≤cap) (hn:n<1000000) (b o:Nat) (w:World):Fn Tryz.prog 288 [.agg #[.slice (some ⟨b,o,none⟩) n cap],.int .i64 (f:Int)].toArray w [] (fun u _=>u=.slice (some ⟨b,o + f * 8,none⟩) 8 (cap - f * 8)):=by
 refine enter Tryz.func288 ?_
 refine run ?_
 intro B
 refine run ?_
 refine ja be8 (uX ay rfl rfl rfl be8 be5 be5 be5 be5 (o':=o + f * 8) be5 (m':=8) be5 (c':=cap - f * 8) be5) ?_
 refine run ?_
 exact fin1 rfl
theorem RJ (ws:List Nat) (hl:ws.length<1000000) {w:World} {v:Value} (hm:aF w v 1 (ws.map uV)):Fn Tryz.prog 287 [.agg #[v]].toArray w [] (fun u hn=>∃ v' h',u=.agg #[v']∧Own 47 1 v' h' (ws.map uV)∧aC h' hn):=by
 obtain ⟨q,cap,rfl,_⟩:=id hm.opened
 refine enter Tryz.func287 ?_
 refine run ?_
 intro B
 refine run ?_
 intro X
 refine dJ (fun wc hG=>oz _ (ws.map uV) (hm.good hG) (ac0 ws) (by simpa using hl)) ?_
 intro u hn hO
 obtain ⟨q2,c2,e2⟩:=hO.opened
 subst e2
 refine aP (⟨X,#[.slice none 0 0],236⟩::⟨B,#[.slice q ws.length cap],24⟩::hn) aj ?_
 refine run ?_
 refine eF ?_
 exact ⟨_,hn,rfl,hO,by (exact aj)⟩
def nO (ws:List Nat) (l:List Int):List Nat:=l.foldl jO ws
theorem wI (l:List Int):∀ ws:List Nat,(nO ws l).length=ws.length:=by
 induction l with
 | nil=>intro ws;rfl
 | cons f l ih=>intro ws;rw [nO,List.foldl_cons,← nO,ih,iP]
theorem J5 (ws:List Nat) (l:List Int) (f:Int):nO ws (l++[f])=jO (nO ws l) f:=by
 unfold nO
 rw [List.foldl_append];rfl
theorem Zq (ws:List Nat) {w:World} {v vl:Value} (h:aF w v 1 (ws.map uV)) (l:List Int) (hv:aF w vl 1 (l.map dA)) (hmm:fK ws.length=true) (hl:l.all (dm ws.length)=true):
  Fn Tryz.prog 221 [.agg #[v],vl].toArray w [] (fun u hn=>ah9 ⟨nO ws l,[],0⟩ u hn):=by
 have Au:=dh hmm
 have h':=h
 obtain ⟨q,cap,rfl,_,hcap⟩:=h.opened
 obtain ⟨q2,cap2,rfl,hne2,_⟩:=hv.opened
 refine enter Tryz.func221 ?_
 refine run ?_
 intro Mb Rb
 refine run ?_
 refine ak (fun wc hG=>ak7 ws.length cap be5 q l (hv.good hG)) ?_
 rw [hmm,hl]
 refine az ?_
 refine dJ (fun wc hG=>RJ ws be5 (h'.good hG)) ?_
 rintro u hn ⟨v1,h1,rfl,hO,hle⟩
 obtain ⟨g,cap1,cur,rfl,rfl,hrow⟩:=hO.row (n:=ws.length) be7 be5
 refine aP [⟨Rb,#[.slice none 0 0],24⟩,⟨g,cur,47⟩] (cnt1 hle) ?_
 refine run ?_
 intro Xb
 refine run ?_
 refine aX (σ:=Nat × Array Value) (fun s=>[(21,.int .i64 (s.1:Int))]) (fun s=>[⟨Xb,#[.slice (some ⟨g,0,none⟩) ws.length cap1],236⟩,⟨Rb,#[.slice none 0 0],24⟩,⟨g,s.2,47⟩]) (fun s=>s.1≤l.length∧Own 47 1 (.slice (some ⟨g,0,none⟩) ws.length cap1) [⟨g,s.2,47⟩] ((nO ws (l.take s.1)).map uV)) (fun s=>l.length - s.1) (0,cur) ⟨Nat.zero_le _,hO⟩ ?_
 rintro ⟨k,cu⟩ m hm ⟨hk,hU⟩
 dsimp only at hm hk hU ⊢
 have hcap1:=hrow.le
 refine run ?_
 refine ah _ rfl (fun hc=>?_) (fun hc=>?_)
 ·have hlt:k<l.length:=by simpa using hc
  obtain ⟨b2,o2,rfl⟩:=hne2 be'
  have hr:=au (hv.row hlt)
  have hf:=jd (List.all_eq_true.1 hl _ (getD_mem hlt))
  have htn:=iM hlt
  generalize l.getD k default=f at hr hf htn
  simp only [Nat.mul_one] at hr
  refine run ?_
  refine ak (fun wc hG=>by have h:=ax0 ws.length cap1 f.toNat be5 be5 be5 g 0 wc;rw [hf.2.2] at h;exact h) ?_
  obtain ⟨ai1,_,_,_⟩:=hU.vH (k:=ws.length - 1) (by rw [wI];omega)
  have hUz:Own 47 1 (.slice (some ⟨g,0,none⟩) ws.length cap1) [⟨g,putAt cu (0 + f.toNat * 8) (List.replicate 8 (.int .u64 0)),47⟩] ((nO ws (l.take (k + 1))).map uV):=by
   rw [htn,J5,Nat.zero_add]
   exact hU.zeros 8 (by rw [wI];omega)
  refine Js ay (hp':=[⟨Xb,#[.slice (some ⟨g,0,none⟩) ws.length cap1],236⟩,⟨Rb,#[.slice none 0 0],24⟩]) rfl rfl rfl rfl rfl rfl be6 p2 be5 ?_
  generalize hcz:putAt cu (0 + f.toNat * 8) (List.replicate 8 (.int .u64 0))=cz at hUz ⊢
  clear hcz
  refine run ?_
  exact aK (k + 1,cz) ⟨hlt,hUz⟩ (hm:=by dsimp only;omega)
 ·have hge:k=l.length:=by simp at hc;omega
  subst hge
  rw [List.take_length] at hU
  have hop:=hU.opened
  rw [List.length_map,wI] at hop
  refine run ?_
  refine jl ?_
  obtain ⟨p3,c3,e3⟩:=hop
  exact ⟨_,[⟨g,cu,47⟩],rfl,hU,by (exact aj)⟩
end
section
attribute [local irreducible] Hy St Ops DH dG
theorem H8 {w:World} (v:Value) (xs:List (List Value)) (h:aF w v 1 xs) (hall:∀ c∈xs,c.length=1∧c.all (·.oneCell')=true) (hl:xs.length<1000000):Fn Tryz.prog 119 [v].toArray w [] (fun u hn=>Own 3 1 u hn xs):=by
 obtain ⟨⟨q,cap,rfl,hne⟩,_⟩:=h
 refine enter Tryz.func119 ?_
 refine run ?_
 refine ja be8 (lW ay rfl rfl) ?_
 refine run ?_
 refine ah _ rfl (fun hp=>?_) (fun hp=>?_)
 ·obtain rfl:xs=[]:=by
   rcases Classical.em (xs=[]) with h | h
   ·exact h
   ·obtain ⟨b,o,rfl,_⟩:=hne h;cases hp
  refine run ?_
  refine fin1 ?_
  exact ⟨by simp,.inl ⟨rfl,rfl,rfl⟩⟩
 refine run ?_
 refine gI ay be8 be8 (fun g=>?_)
 refine run ?_
 rcases Classical.em (xs=[]) with rfl | hx
 ·cases q with
  | none=>cases hp
  | some q=>
  refine ja be8 (gG ay (iE:=0) rfl rfl rfl (Nat.le_refl _)) ?_
  refine run ?_
  refine fin1 ?_
  exact ⟨by simp,.inr ⟨g,0,#[],rfl,rfl,⟨rfl,Nat.le_refl _,by decide,rfl,rfl⟩⟩⟩
 ·obtain ⟨b,o,rfl,hr⟩:=hne hx
  refine dZ ay be8 rfl ⟨rfl,Nat.le_refl _,by decide,rfl,rfl⟩ rfl rfl rfl rfl rfl rfl (.refl _) rfl hall hr be7 hl (fun v' ha' hA=>?_)
  refine run ?_
  refine fin1 ?_
  rw [List.append_nil]
  exact hA
theorem H9 {w:World} (v:Value) (xs:List (List Value)) (h:aF w v 2 xs) (hall:∀ c∈xs,c.length=2∧c.all (·.oneCell')=true) (hl:xs.length<1000000):Fn Tryz.prog 195 [v].toArray w [] (fun u hn=>Own 70 2 u hn xs):=by
 obtain ⟨⟨q,cap,rfl,hne⟩,_⟩:=h
 refine enter Tryz.func195 ?_
 refine run ?_
 refine ja be8 (lW ay rfl rfl) ?_
 refine run ?_
 refine ah _ rfl (fun hp=>?_) (fun hp=>?_)
 ·obtain rfl:xs=[]:=by
   rcases Classical.em (xs=[]) with h | h
   ·exact h
   ·obtain ⟨b,o,rfl,_⟩:=hne h;cases hp
  refine run ?_
  refine fin1 ?_
  exact ⟨by simp,.inl ⟨rfl,rfl,rfl⟩⟩
 refine run ?_
 refine gI ay be8 be8 (fun g=>?_)
 refine run ?_
 rcases Classical.em (xs=[]) with rfl | hx
 ·cases q with
  | none=>cases hp
  | some q=>
  refine ja be8 (gG ay (iE:=0) rfl rfl rfl (Nat.le_refl _)) ?_
  refine run ?_
  refine fin1 ?_
  exact ⟨by simp,.inr ⟨g,0,#[],rfl,rfl,⟨rfl,Nat.le_refl _,by decide,rfl,rfl⟩⟩⟩
 ·obtain ⟨b,o,rfl,hr⟩:=hne hx
  refine dZ ay be8 rfl ⟨rfl,Nat.le_refl _,by decide,rfl,rfl⟩ rfl rfl rfl rfl rfl rfl (.refl _) rfl hall hr be7 hl (fun v' ha' hA=>?_)
  refine run ?_
  refine fin1 ?_
  rw [List.append_nil]
  exact hA
theorem Ia {w:World} (v:Value) (xs:List (List Value)) (h:aF w v 2 xs) (hall:∀ c∈xs,c.length=2∧c.all (·.oneCell')=true) (hl:xs.length<1000000):Fn Tryz.prog 197 [v].toArray w [] (fun u hn=>Own 133 2 u hn xs):=by
 obtain ⟨⟨q,cap,rfl,hne⟩,_⟩:=h
 refine enter Tryz.func197 ?_
 refine run ?_
 refine ja be8 (lW ay rfl rfl) ?_
 refine run ?_
 refine ah _ rfl (fun hp=>?_) (fun hp=>?_)
 ·obtain rfl:xs=[]:=by
   rcases Classical.em (xs=[]) with h | h
   ·exact h
   ·obtain ⟨b,o,rfl,_⟩:=hne h;cases hp
  refine run ?_
  refine fin1 ?_
  exact ⟨by simp,.inl ⟨rfl,rfl,rfl⟩⟩
 refine run ?_
 refine gI ay be8 be8 (fun g=>?_)
 refine run ?_
 rcases Classical.em (xs=[]) with rfl | hx
 ·cases q with
  | none=>cases hp
  | some q=>
  refine ja be8 (gG ay (iE:=0) rfl rfl rfl (Nat.le_refl _)) ?_
  refine run ?_
  refine fin1 ?_
  exact ⟨by simp,.inr ⟨g,0,#[],rfl,rfl,⟨rfl,Nat.le_refl _,by decide,rfl,rfl⟩⟩⟩
 ·obtain ⟨b,o,rfl,hr⟩:=hne hx
  refine dZ ay be8 rfl ⟨rfl,Nat.le_refl _,by decide,rfl,rfl⟩ rfl rfl rfl rfl rfl rfl (.refl _) rfl hall hr be7 hl (fun v' ha' hA=>?_)
  refine run ?_
  refine fin1 ?_
  rw [List.append_nil]
  exact hA
theorem J6 {w:World} (v:Value) (xs:List (List Value)) (h:aF w v 2 xs) (hall:∀ c∈xs,c.length=2∧c.all (·.oneCell')=true) (hl:xs.length<1000000):Fn Tryz.prog 198 [v].toArray w [] (fun u hn=>Own 148 2 u hn xs):=by
 obtain ⟨⟨q,cap,rfl,hne⟩,_⟩:=h
 refine enter Tryz.func198 ?_
 refine run ?_
 refine ja be8 (lW ay rfl rfl) ?_
 refine run ?_
 refine ah _ rfl (fun hp=>?_) (fun hp=>?_)
 ·obtain rfl:xs=[]:=by
   rcases Classical.em (xs=[]) with h | h
   ·exact h
   ·obtain ⟨b,o,rfl,_⟩:=hne h;cases hp
  refine run ?_
  refine fin1 ?_
  exact ⟨by simp,.inl ⟨rfl,rfl,rfl⟩⟩
 refine run ?_
 refine gI ay be8 be8 (fun g=>?_)
 refine run ?_
 rcases Classical.em (xs=[]) with rfl | hx
 ·cases q with
  | none=>cases hp
  | some q=>
  refine ja be8 (gG ay (iE:=0) rfl rfl rfl (Nat.le_refl _)) ?_
  refine run ?_
  refine fin1 ?_
  exact ⟨by simp,.inr ⟨g,0,#[],rfl,rfl,⟨rfl,Nat.le_refl _,by decide,rfl,rfl⟩⟩⟩
 ·obtain ⟨b,o,rfl,hr⟩:=hne hx
  refine dZ ay be8 rfl ⟨rfl,Nat.le_refl _,by decide,rfl,rfl⟩ rfl rfl rfl rfl rfl rfl (.refl _) rfl hall hr be7 hl (fun v' ha' hA=>?_)
  refine run ?_
  refine fin1 ?_
  rw [List.append_nil]
  exact hA
theorem EC {w:World} (v:Value) (xs:List (List Value)) (h:aF w v 5 xs) (hall:∀ c∈xs,c.length=5∧c.all (·.oneCell')=true) (hl:xs.length<1000000):Fn Tryz.prog 196 [v].toArray w [] (fun u hn=>Own 129 5 u hn xs):=by
 obtain ⟨⟨q,cap,rfl,hne⟩,_⟩:=h
 refine enter Tryz.func196 ?_
 refine run ?_
 refine ja be8 (lW ay rfl rfl) ?_
 refine run ?_
 refine ah _ rfl (fun hp=>?_) (fun hp=>?_)
 ·obtain rfl:xs=[]:=by
   rcases Classical.em (xs=[]) with h | h
   ·exact h
   ·obtain ⟨b,o,rfl,_⟩:=hne h;cases hp
  refine run ?_
  refine fin1 ?_
  exact ⟨by simp,.inl ⟨rfl,rfl,rfl⟩⟩
 refine run ?_
 refine gI ay be8 be8 (fun g=>?_)
 refine run ?_
 rcases Classical.em (xs=[]) with rfl | hx
 ·cases q with
  | none=>cases hp
  | some q=>
  refine ja be8 (gG ay (iE:=0) rfl rfl rfl (Nat.le_refl _)) ?_
  refine run ?_
  refine fin1 ?_
  exact ⟨by simp,.inr ⟨g,0,#[],rfl,rfl,⟨rfl,Nat.le_refl _,by decide,rfl,rfl⟩⟩⟩
 ·obtain ⟨b,o,rfl,hr⟩:=hne hx
  refine dZ ay be8 rfl ⟨rfl,Nat.le_refl _,by decide,rfl,rfl⟩ rfl rfl rfl rfl rfl rfl (.refl _) rfl hall hr be7 hl (fun v' ha' hA=>?_)
  refine run ?_
  refine fin1 ?_
  rw [List.append_nil]
  exact hA
structure GB where
 vv:Value
 mv:Value
 hv:Hp
 hm:Hp
def wP (G:Nat→GB):Nat→Hp
 | 0=>[]
 | n + 1=>wP G n++((G n).hv++(G n).hm)
theorem FD {G G':Nat→GB}:∀ n,(∀ i,i<n→G' i=G i)→wP G' n=wP G n:=by
 intro n
 induction n with
 | zero=>intro _;rfl
 | succ n ih=>intro h;rw [wP,wP,ih (fun i hi=>h i be5),h n be5]
theorem Wh {i:Nat}:∀ (n:Nat) (G:Nat→GB),i<n→∃ r,∀ G':Nat→GB,(∀ j,j ≠ i→G' j=G j)→(wP G' n).Perm ((G' i).hv++((G' i).hm++r)):=by
 intro n
 induction n with
 | zero=>intro G h;omega
 | succ n ih=>
  intro G hi
  rcases Nat.lt_succ_iff_lt_or_eq.1 hi with h | rfl
  ·obtain ⟨r,hr⟩:=ih G h
   refine ⟨r++((G n).hv++(G n).hm),fun G' hG=>?_⟩
   rw [wP,hG n be5]
   refine ((hr G' hG).append_right _).trans ?_
   rw [List.append_assoc,List.append_assoc]
  ·refine ⟨wP G i,fun G' hG=>?_⟩
   rw [wP,FD i (fun j hj=>hG j be5),← List.append_assoc (G' i).hv]
   exact List.perm_append_comm
structure Lay where
 pb:Nat
 ED:Nat
 gb:Nat
 Ic:Nat
 ob:Nat
 Ie:Nat
 pc:Array Value
 gc:Array Value
 oc:Array Value
 G:Nat→GB
def ku (P:PtD) (G:Nat→GB) (i:Nat):List Value:=[.bool (P.gs i).live,.bool (P.gs i).dying,.int .i64 (P.gs i).first,(G i).vv,(G i).mv]
structure bJ (P:PtD) (Y:Lay):Prop where
 pg:Row Y.pb Y.ED Y.pc 2 P.pages.length (P.pages.map qI).flatten
 gs:Row Y.gb Y.Ic Y.gc 5 P.aA.length ((List.range P.aA.length).map (ku P Y.G)).flatten
 on:Row Y.ob Y.Ie Y.oc 2 P.on.length (P.on.map Eh).flatten
 vc:∀ i,i<4→Own 3 1 (Y.G i).vv (Y.G i).hv ((P.gs i).aN.map dA)
 mp:∀ i,i<4→Own 148 2 (Y.G i).mv (Y.G i).hm ((P.gs i).maps.map dS)
 wf:P.Wf
 n:P.Len
 sm:P.Small 1000
abbrev Lay.pv (Y:Lay) (P:PtD):Value:=.slice (some ⟨Y.pb,0,none⟩) P.pages.length Y.ED
abbrev Lay.gv (Y:Lay) (P:PtD):Value:=.slice (some ⟨Y.gb,0,none⟩) P.aA.length Y.Ic
abbrev Lay.ov (Y:Lay) (P:PtD):Value:=.slice (some ⟨Y.ob,0,none⟩) P.on.length Y.Ie
abbrev Lay.in (Y:Lay):Hp:=⟨Y.pb,Y.pc,70⟩::⟨Y.gb,Y.gc,129⟩::⟨Y.ob,Y.oc,133⟩::wP Y.G 4
def Lay.L (Y:Lay):Iw:=⟨Y.pb,0,Y.ED,Y.gb,0,Y.Ic,Y.ob,0,Y.Ie,fun i=>(Y.G i).vv,fun i=>(Y.G i).mv⟩
theorem BA {G:Nat→GB} {i:Nat} {e:o8}:∀ n,i<n→(e∈(G i).hv∨e∈(G i).hm)→e∈wP G n:=by
 intro n
 induction n with
 | zero=>intro h;omega
 | succ n ih=>
  intro hi he
  rw [wP,List.mem_append,List.mem_append]
  rcases Nat.lt_succ_iff_lt_or_eq.1 hi with h | rfl
  ·exact .inl (ih h he)
  ·exact .inr he
theorem su {P:PtD} {i:Nat} (hi:i<P.pages.length):(P.pages.map qI)[i]?=some [.int .i64 (P.pg i).own,.int .i64 (P.pg i).wit]:=by
 rw [List.getElem?_map,PtD.pg,List.getD_eq_getElem?_getD,List.getElem?_eq_getElem hi];rfl
theorem J7 {P:PtD} {i:Nat} (hi:i<P.on.length):(P.on.map Eh)[i]?=some [.int .i64 (P.st i).vm,.int .i64 (P.st i).cpu]:=by
 rw [List.getElem?_map,PtD.st,List.getD_eq_getElem?_getD,List.getElem?_eq_getElem hi];rfl
theorem lZ {xs:List sF}:∀ c∈xs.map qI,c.length=2:=fun c hc=>by obtain ⟨x,_,rfl⟩:=List.mem_map.1 hc;rfl
theorem st_len {xs:List OH}:∀ c∈xs.map Eh,c.length=2:=fun c hc=>by obtain ⟨x,_,rfl⟩:=List.mem_map.1 hc;rfl
theorem jk {P:PtD} {G:Nat→GB} {n:Nat}:∀ c∈(List.range n).map (ku P G),c.length=5:=fun c hc=>by obtain ⟨x,_,rfl⟩:=List.mem_map.1 hc;rfl
theorem bJ.ac1 {P:PtD} {Y:Lay} (h:bJ P Y) {w:World} (hh:Here Y.in w):jm w Y.L P:=by
 have h4:=h.n.g4
 have hsm:=h.sm
 have hp:=hh _ (List.mem_cons_self ..)
 have hg:=hh _ (List.mem_cons_of_mem _ (List.mem_cons_self ..))
 have ho:=hh _ (List.mem_cons_of_mem _ (List.mem_cons_of_mem _ (List.mem_cons_self ..)))
 have hr:∀ e∈wP Y.G 4,w.heap[e.b]?=some (.cells e.cs e.t (0,0)):=fun e he=>hh e (List.mem_cons_of_mem _ (List.mem_cons_of_mem _ (List.mem_cons_of_mem _ he)))
 refine ⟨fun i hi=>h.pg.range lZ hp (su hi),fun i hi=>h.gs.range jk hg (iL _ hi),fun i hi=>?_,fun i hi=>?_,fun i hi=>h.on.range st_len ho (J7 hi),h.wf⟩
 ·have:=hsm.vc i hi
  exact (h.vc i be5).lie (fun e he=>hr e (BA 4 be5 (.inl he))) be9
 ·have:=hsm.vc i hi
  exact (h.mp i be5).lie (fun e he=>hr e (BA 4 be5 (.inr he))) be9
theorem bJ.J8 {P:PtD} {Y:Lay} (h:bJ P Y) {w:World} {bx tx:Nat} (hh:Here (⟨bx,#[Y.pv P,Y.gv P,Y.ov P],tx⟩::Y.in) w):qh w bx Y.L P:=by
 have h0:=hh _ (List.mem_cons_self ..)
 exact ⟨h.ac1 fun e he=>hh e (List.mem_cons_of_mem _ he),h.n,by rw [cell_of_block h0];rfl,by rw [cell_of_block h0];rfl,by rw [cell_of_block h0];rfl⟩
theorem bJ.ax5 {P:PtD} {Y:Lay} (h:bJ P Y) {w:World} (hh:Here Y.in w):fD w (Y.pv P) (Y.gv P) (Y.ov P) P:=by
 have hv:=h.ac1 hh
 have hsm:=h.sm
 refine ⟨?_,⟨fun i=>(Y.G i).vv,fun i=>(Y.G i).mv,aF.yY (α:=Nat) (by have:=hsm.gs;omega) (fun i hi=>hv.gs i hi),fun i hi=>⟨hv.vc i hi,hv.mp i hi⟩⟩,?_,h.wf⟩
 ·have:=aF.yY (α:=Nat) (cap:=Y.ED) (by have:=hsm.pg;omega) (fun i hi=>hv.pg i hi)
  rw [← map_range P.pages qI]
  exact this
 ·have:=aF.yY (α:=Nat) (cap:=Y.Ie) (by have:=hsm.on;omega) (fun i hi=>hv.st i hi)
  rw [← map_range P.on Eh]
  exact this
theorem Wi {xs:List sF}:∀ c∈xs.map qI,c.length=2∧c.all (·.oneCell')=true:=fun c hc=>by obtain ⟨x,_,rfl⟩:=List.mem_map.1 hc;exact ⟨rfl,rfl⟩
theorem st_all {xs:List OH}:∀ c∈xs.map Eh,c.length=2∧c.all (·.oneCell')=true:=fun c hc=>by obtain ⟨x,_,rfl⟩:=List.mem_map.1 hc;exact ⟨rfl,rfl⟩
theorem lG {xs:List jv}:∀ c∈xs.map dS,c.length=2∧c.all (·.oneCell')=true:=fun c hc=>by obtain ⟨x,_,rfl⟩:=List.mem_map.1 hc;exact ⟨rfl,rfl⟩
theorem aF.one {w:World} {v:Value} {sz:Nat} {xs:List (List Value)} (h:aF w v sz xs):v.oneCell'=true:=by
 obtain ⟨⟨q,cap,rfl,_⟩,_⟩:=h;rfl
theorem Own.one {e sz:Nat} {v:Value} {h:Hp} {xs:List (List Value)} (hA:Own e sz v h xs):v.oneCell'=true:=by
 obtain ⟨q,cap,rfl⟩:=hA.opened;rfl
def oZ (G:Nat→GB) (i:Nat) (b:GB):Nat→GB:=fun j=>if j=i then b else G j
theorem kR (G:Nat→GB) (i:Nat) (b:GB):oZ G i b i=b:=by simp [oZ]
theorem oJ (G:Nat→GB) (i:Nat) (b:GB) {j:Nat} (h:j ≠ i):oZ G i b j=G j:=by simp [oZ,h]
theorem vO {α:Type} {f g:Nat→α} {n k:Nat} (hk:k<n) (h:∀ j,j ≠ k→g j=f j):((List.range n).map f).set k (g k)=(List.range n).map g:=by
 apply List.ext_getElem?
 intro i
 by_cases hi:i=k
 ·subst hi;simp [hk]
 ·rw [List.getElem?_set_ne (Ne.symm hi)]
  by_cases hn:i<n
  ·simp [hn,h i hi]
  ·simp [hn]
theorem Ig {g cap n k:Nat} {gc:Array Value} {P:PtD} {G:Nat→GB} (h:Row g cap gc 5 n ((List.range n).map (ku P G)).flatten) (hk:k<n) (b:GB):Row g cap (putAt gc (k * 5 + 3) [b.vv,b.mv]) 5 n ((List.range n).map (ku P (oZ G k b))).flatten:=by
 have:=h.put jk (iL _ hk) (k:=3) (vs:=[b.vv,b.mv]) be7
 rw [← vO (f:=ku P G) (g:=ku P (oZ G k b)) hk (fun j hj=>by simp only [ku,oJ _ _ _ hj])]
 have e:(ku P G k).take 3++[b.vv,b.mv]++(ku P G k).drop (3 + [b.vv,b.mv].length)=ku P (oZ G k b) k:=by simp only [ku,kR];rfl
 rwa [e] at this
theorem Wj {w:World} {pv gv ov:Value} {P:PtD} (h:fD w pv gv ov P) (hn:P.Len) (hs:P.Small 1000):Fn Tryz.prog 111 [.agg #[pv,gv,ov]].toArray w [] (fun u hn=>∃ Y bx,u=.pointer (some ⟨bx,0,none⟩)∧bJ P Y∧aC (⟨bx,#[Y.pv P,Y.gv P,Y.ov P],158⟩::Y.in) hn):=by
 obtain ⟨L,rfl,rfl,rfl,hv⟩:=h.open hn
 obtain ⟨vv,mv,hg1,hg2⟩:=h.aA
 have ac2:∀ c∈(List.range P.aA.length).map (fun i=>[Value.bool (P.gs i).live,.bool (P.gs i).dying,.int .i64 (P.gs i).first,vv i,mv i]),c.length=5∧c.all (·.oneCell')=true:=fun c hc=>by
  obtain ⟨i,hi,rfl⟩:=List.mem_map.1 hc
  have:=hg2 i (List.mem_range.1 hi)
  exact ⟨rfl,by simp only [List.all_cons,List.all_nil,this.1.one,this.2.one];rfl⟩
 have g4:=hn.g4
 have l1:(P.pages.map qI).length≤64:=by have:=hn.p1;simpa using this
 have l2:(P.on.map Eh).length≤3:=by have:=hn.o1;simpa using this
 have l3:((List.range P.aA.length).map (fun i=>[Value.bool (P.gs i).live,.bool (P.gs i).dying,.int .i64 (P.gs i).first,vv i,mv i])).length=4:=by simp [g4]
 refine enter Tryz.func111 ?_
 refine run ?_
 intro B
 refine run ?_
 refine drawM 11 [0,1,3,4,6,7] [2,5,8] [9,10] ?_
 refine fU ?_
 refine jB (fun wc hG=>H9 _ _ (h.pages.good hG) Wi be5) (dU Wi be5) ?_
 refine jB (fun wc hG=>EC _ _ (hg1.good hG) ac2 be5) (dU ac2 be5) ?_
 refine jB (fun wc hG=>Ia _ _ (h.on.good hG) st_all be5) (dU st_all be5) ?_
 refine jS ?_
 rintro _ _ hO _ _ hGu _ _ hPg
 obtain ⟨ob,Ie,oc,rfl,rfl,ro⟩:=hO.row (n:=P.on.length) be7 (by have:=hn.o0;omega)
 obtain ⟨gb,Ic,gc,rfl,rfl,rg⟩:=hGu.row (n:=P.aA.length) be7 be5
 obtain ⟨pb,ED,pc,rfl,rfl,rp⟩:=hPg.row (n:=P.pages.length) be7 (by have:=hn.p0;omega)
 refine tN ?_
 refine tN ?_
 refine iW ?_
 refine qU ?_
 simp only [List.cons_append,List.nil_append]
 refine run ?_
 intro X
 refine run ?_
 refine aX (σ:=Nat × (Nat→GB) × Array Value) (fun s=>[(24,.int .i64 (s.1:Int))]) (fun s=>⟨X,#[.slice (some ⟨pb,0,none⟩) P.pages.length ED,.slice (some ⟨gb,0,none⟩) P.aA.length Ic,.slice (some ⟨ob,0,none⟩) P.on.length Ie],158⟩::⟨ob,oc,133⟩::⟨gb,s.2.2,129⟩::⟨pb,pc,70⟩::wP s.2.1 s.1)
  (fun s=>s.1≤4∧Row gb Ic s.2.2 5 P.aA.length ((List.range P.aA.length).map (ku P s.2.1)).flatten∧(∀ i,i<s.1→Own 3 1 (s.2.1 i).vv (s.2.1 i).hv ((P.gs i).aN.map dA)∧Own 148 2 (s.2.1 i).mv (s.2.1 i).hm ((P.gs i).maps.map dS))∧∀ i,s.1≤i→i<4→(s.2.1 i).vv=vv i∧(s.2.1 i).mv=mv i) (fun s=>4 - s.1) (0,fun i=>⟨vv i,mv i,[],[]⟩,gc) ⟨by simp,rg,fun i hi=>absurd hi be7,fun i _ _=>⟨rfl,rfl⟩⟩ ?_
 rintro ⟨k,G,gc⟩ m hm ⟨hk,hrow,hown,hold⟩
 dsimp only at hm hk hrow hown hold ⊢
 refine run ?_
 refine ah _ rfl (fun hc=>?_) (fun hc=>?_)
 ·have hlt:k<4:=by simp at hc;omega
  obtain ⟨hvk,hmk⟩:=hg2 k be5
  have hat:((List.range P.aA.length).map (ku P G))[k]?=some (ku P G k):=iL _ be5
  have n3:=hrow.nth jk hat (k:=3) rfl
  have n4:=hrow.nth jk hat (k:=4) rfl
  rw [(hold k (Nat.le_refl _) hlt).1] at n3
  rw [(hold k (Nat.le_refl _) hlt).2] at n4
  refine run ?_
  refine late 14 1 ?_
  refine UC 13 1 ?_
  refine UC 12 1 ?_
  refine yT 12 [0,1,2,3,4,5,7,8,9,10] [6,11] [] ?_
  refine fU ?_
  have sv:=(hs.vc k be5).1
  have sm:=(hs.vc k be5).2
  refine jB (fun wc hG=>H8 _ _ (hvk.good hG) CB bf2) (dU CB bf2) ?_
  refine jB (fun wc hG=>J6 _ _ (hmk.good hG) lG bf2) (dU lG bf2) ?_
  refine jS ?_
  rintro mv' hm' hM vv' hv' hV
  simp only [DN]
  refine iW ?_
  refine qU ?_
  refine fJ ([_,_,_,_]++(wP G k++(hv'++hm'))) ((List.Perm.append_left _ (List.Perm.append_left _ List.perm_append_comm)).trans (by rw [List.append_nil];exact UI _ _ _)) ?_
  obtain ⟨q1,c1,rfl⟩:=hV.opened
  obtain ⟨q2,c2,rfl⟩:=hM.opened
  simp only [List.cons_append,List.nil_append]
  have hgz:20≤gc.size:=by have:=hrow.size;have:=hrow.le;omega
  refine run ?_
  refine aK (k + 1,oZ G k ⟨(.slice q1 ((P.gs k).aN.map dA).length c1),(.slice q2 ((P.gs k).maps.map dS).length c2),hv',hm'⟩,putAt gc (k * 5 + 3) [(.slice q1 ((P.gs k).aN.map dA).length c1),(.slice q2 ((P.gs k).maps.map dS).length c2)]) ⟨by dsimp only;omega,Ig hrow be5 ⟨(.slice q1 ((P.gs k).aN.map dA).length c1),(.slice q2 ((P.gs k).maps.map dS).length c2),hv',hm'⟩,fun i hi=>?_,fun i h1 h2=>?_⟩ (h2:=?_)
  ·dsimp only at hi ⊢
   rcases Nat.lt_succ_iff_lt_or_eq.1 hi with hi | rfl
   ·rw [oJ _ _ _ be5];exact hown i hi
   ·rw [kR];exact ⟨hV,hM⟩
  ·dsimp only at h1 ⊢
   rw [oJ _ _ _ be5];exact hold i be5 h2
  ·dsimp only
   rw [wP,FD (G:=G) k (fun i hi=>oJ _ _ _ be5),kR]
   simp only [putAt]
   (repeat (first | exact True.intro | exact aC.refl _ | (with_reducible exact aC.left _ _) | (with_reducible exact aC.right _ _) | (refine Exists.intro _ (And.intro bf7 ?_)) | (with_reducible apply aC.app) | (with_reducible apply aC.skip)))
 have hk4:k=4:=by simp at hc;omega
 subst hk4
 refine run ?_
 refine fin1 ?_
 refine ⟨⟨pb,ED,gb,Ic,ob,Ie,pc,gc,oc,G⟩,X,rfl,⟨rp,hrow,ro,fun i hi=>(hown i hi).1,fun i hi=>(hown i hi).2,h.wf,hn,hs⟩,?_⟩
 (repeat (first | exact True.intro | exact aC.refl _ | (with_reducible exact aC.left _ _) | (with_reducible exact aC.right _ _) | (refine Exists.intro _ (And.intro bf7 ?_)) | (with_reducible apply aC.app) | (with_reducible apply aC.skip)))
end
section
attribute [local irreducible] Hy St Ops DH dG
namespace PtD
def fA (P:PtD) (f:Nat) (x:sF):PtD:={ P with pages:=P.pages.set f x }
def eU (P:PtD) (i:Nat) (g:Yr):PtD:={ P with aA:=P.aA.set i g }
def setSt (P:PtD) (c:Nat) (s:OH):PtD:={ P with on:=P.on.set c s }
variable (P : PtD)
theorem J9 (f:Nat) (x:sF) (hf:f<P.pages.length) (k:Nat):(P.fA f x).pg k=if k=f then x else P.pg k:=by
 unfold fA pg
 simp only [List.getD_eq_getElem?_getD,List.getElem?_set]
 by_cases h:f=k
 ·subst h;simp [hf]
 ·simp [h,Ne.symm h]
theorem Wl (i:Nat) (g:Yr) (hi:i<P.aA.length) (k:Nat):(P.eU i g).gs k=if k=i then g else P.gs k:=by
 unfold eU gs
 simp only [List.getD_eq_getElem?_getD,List.getElem?_set]
 by_cases h:i=k
 ·subst h;simp [hi]
 ·simp [h,Ne.symm h]
theorem Wn (c:Nat) (s:OH) (hc:c<P.on.length) (k:Nat):(P.setSt c s).st k=if k=c then s else P.st k:=by
 unfold setSt st
 simp only [List.getD_eq_getElem?_getD,List.getElem?_set]
 by_cases h:c=k
 ·subst h;simp [hc]
 ·simp [h,Ne.symm h]
end PtD
theorem Wp {h r:Hp} (hp:h.Perm r):aC h r:=bu fun a=>by rw [uT hp];exact Nat.le_refl _
theorem bJ.Ih {P:PtD} {Y:Lay} (h:bJ P Y) {f:Nat} (hf:f<P.pages.length) (x:sF) {pc:Array Value} (hr:Row Y.pb Y.ED pc 2 P.pages.length ((P.pages.map qI).set f (qI x)).flatten) (hx:I64 x.own∧I64 x.wit):bJ (P.fA f x) { Y with pc:=pc }:=by
 have hl:(P.fA f x).pages.length=P.pages.length:=by simp [PtD.fA]
 refine ⟨?_,h.gs,h.on,h.vc,h.mp,⟨fun k hk=>?_,h.wf.gs,h.wf.st⟩,⟨by rw [hl];exact h.n.p0,by rw [hl];exact h.n.p1,h.n.g4,h.n.o0,h.n.o1⟩,⟨by rw [hl];exact h.sm.pg,h.sm.gs,h.sm.on,h.sm.vc⟩⟩
 ·rw [hl]
  simpa [PtD.fA,List.map_set] using hr
 ·rw [hl] at hk
  rw [PtD.J9 P f x hf]
  split
  ·exact hx
  ·exact h.wf.pg k hk
theorem bJ.aH2 {P:PtD} {Y:Lay} (h:bJ P Y) {c:Nat} (hc:c<P.on.length) (x:OH) {oc:Array Value} (hr:Row Y.ob Y.Ie oc 2 P.on.length ((P.on.map Eh).set c (Eh x)).flatten) (hx:I64 x.vm∧I64 x.cpu):bJ (P.setSt c x) { Y with oc:=oc }:=by
 have hl:(P.setSt c x).on.length=P.on.length:=by simp [PtD.setSt]
 refine ⟨h.pg,h.gs,?_,h.vc,h.mp,⟨h.wf.pg,h.wf.gs,fun k hk=>?_⟩,⟨h.n.p0,h.n.p1,h.n.g4,by rw [hl];exact h.n.o0,by rw [hl];exact h.n.o1⟩,⟨h.sm.pg,h.sm.gs,by rw [hl];exact h.sm.on,h.sm.vc⟩⟩
 ·rw [hl]
  simpa [PtD.setSt,List.map_set] using hr
 ·rw [hl] at hk
  rw [PtD.Wn P c x hc]
  split
  ·exact hx
  ·exact h.wf.st k hk
theorem bJ.vH {P:PtD} {Y:Lay} (h:bJ P Y) {i:Nat} (hi:i<4) (g:Yr) (b:GB) {gc:Array Value} (hr:Row Y.gb Y.Ic gc 5 P.aA.length (((List.range P.aA.length).map (ku P Y.G)).set i [.bool g.live,.bool g.dying,.int .i64 g.first,b.vv,b.mv]).flatten)
  (hv:Own 3 1 b.vv b.hv (g.aN.map dA)) (hm:Own 148 2 b.mv b.hm (g.maps.map dS)) (hw:I64 g.first∧(∀ x∈g.aN,I64 x)∧∀ x∈g.maps,I64 x.mid∧I64 x.gU) (hs:g.aN.length≤1000∧g.maps.length≤1000):bJ (P.eU i g) { Y with gc:=gc,G:=oZ Y.G i b }:=by
 have g4:=h.n.g4
 have hl:(P.eU i g).aA.length=P.aA.length:=by simp [PtD.eU]
 have hg:∀ k,(P.eU i g).gs k=if k=i then g else P.gs k:=PtD.Wl P i g be5
 refine ⟨h.pg,?_,h.on,fun k hk=>?_,fun k hk=>?_,⟨h.wf.pg,fun k hk=>?_,h.wf.st⟩,⟨h.n.p0,h.n.p1,by rw [hl];exact g4,h.n.o0,h.n.o1⟩,⟨h.sm.pg,by rw [hl];exact h.sm.gs,h.sm.on,fun k hk=>?_⟩⟩
 ·rw [hl]
  have e:=vO (f:=ku P Y.G) (g:=ku (P.eU i g) (oZ Y.G i b)) (n:=P.aA.length) (k:=i) be5 (fun j hj=>by simp only [ku,oJ _ _ _ hj,hg j,if_neg hj])
  have e2:ku (P.eU i g) (oZ Y.G i b) i=[.bool g.live,.bool g.dying,.int .i64 g.first,b.vv,b.mv]:=by simp only [ku,kR,hg i,if_true]
  rw [e2] at e
  rw [← e]
  exact hr
 ·show Own _ 1 (oZ Y.G i b k).vv (oZ Y.G i b k).hv _
  rw [hg k]
  by_cases hk':k=i
  ·subst hk';rw [kR,if_pos rfl];exact hv
  ·rw [oJ _ _ _ hk',if_neg hk'];exact h.vc k hk
 ·show Own _ 2 (oZ Y.G i b k).mv (oZ Y.G i b k).hm _
  rw [hg k]
  by_cases hk':k=i
  ·subst hk';rw [kR,if_pos rfl];exact hm
  ·rw [oJ _ _ _ hk',if_neg hk'];exact h.mp k hk
 ·rw [hl] at hk
  rw [hg k]
  split
  ·exact hw
  ·exact h.wf.gs k hk
 ·rw [hl] at hk
  rw [hg k]
  split
  ·exact hs
  ·exact h.sm.vc k hk
abbrev Lay.hd (Y:Lay) (P:PtD) (bx tx:Nat):Hp:=⟨bx,#[Y.pv P,Y.gv P,Y.ov P],tx⟩::Y.in
theorem hdG (Y:Lay) (P:PtD) (i:Nat) (g:Yr) (gc:Array Value) (G:Nat→GB) (bx tx:Nat):Lay.hd { Y with gc:=gc,G:=G } (P.eU i g) bx tx=⟨bx,#[Y.pv P,Y.gv P,Y.ov P],tx⟩::⟨Y.pb,Y.pc,70⟩::⟨Y.gb,gc,129⟩::⟨Y.ob,Y.oc,133⟩::wP G 4:=by
 have:(P.eU i g).aA.length=P.aA.length:=by simp [PtD.eU]
 simp only [Lay.hd,Lay.in,Lay.pv,Lay.gv,Lay.ov,this]
 rfl
theorem hdP (Y:Lay) (P:PtD) (f:Nat) (x:sF) (pc:Array Value) (bx tx:Nat):Lay.hd { Y with pc:=pc } (P.fA f x) bx tx=⟨bx,#[Y.pv P,Y.gv P,Y.ov P],tx⟩::⟨Y.pb,pc,70⟩::⟨Y.gb,Y.gc,129⟩::⟨Y.ob,Y.oc,133⟩::wP Y.G 4:=by
 have:(P.fA f x).pages.length=P.pages.length:=by simp [PtD.fA]
 simp only [Lay.hd,Lay.in,Lay.pv,Lay.gv,Lay.ov,this]
 rfl
theorem FH (Y:Lay) (P:PtD) (bx tx:Nat):Lay.hd Y P bx tx=⟨bx,#[Y.pv P,Y.gv P,Y.ov P],tx⟩::⟨Y.pb,Y.pc,70⟩::⟨Y.gb,Y.gc,129⟩::⟨Y.ob,Y.oc,133⟩::wP Y.G 4:=rfl
def dR (bx tx:Nat) (r:Except Int PtD) (u:Value) (hn:Hp):Prop:=match r with
 | .error e=>u=.int .i64 e
 | .ok P=>u=.int .i64 0∧∃ Y:Lay,bJ P Y∧aC (Y.hd P bx tx) hn
section
variable {P : PtD} {Y : Lay} {bx tx : Nat} {w : World}
theorem lH (h:bJ P Y) (hh:Here (Y.hd P bx tx) w) {n:Int} (hn:1≤n∧n≤4):Fn Tryz.prog 157 [.pointer (some ⟨bx,0,none⟩),.int .i64 n].toArray w [] (fun u _=>u=.pointer (some ⟨Y.gb,(n - 1).toNat * 5,none⟩)):=by
 refine Fn.mono (rJ (h.J8 hh) (n - 1).toNat bg9 n be5) fun v hp e=>?_
 rw [e]
 show Value.pointer (some ⟨Y.gb,0 + (n - 1).toNat * 5,none⟩)=_
 rw [Nat.zero_add]
theorem bJ.wJ (h:bJ P Y) {i:Nat} (hi:i<4):((List.range P.aA.length).map (ku P Y.G))[i]?=some [.bool (P.gs i).live,.bool (P.gs i).dying,.int .i64 (P.gs i).first,(Y.G i).vv,(Y.G i).mv]:=iL _ bg9
theorem bJ.g0 (h:bJ P Y) {i:Nat} (hi:i<4):nth Y.gc.toList (i * 5)=some (.bool (P.gs i).live):=h.gs.nth jk (h.wJ hi) (k:=0) rfl
theorem bJ.g1 (h:bJ P Y) {i:Nat} (hi:i<4):nth Y.gc.toList (i * 5 + 1)=some (.bool (P.gs i).dying):=h.gs.nth jk (h.wJ hi) (k:=1) rfl
theorem bJ.g2 (h:bJ P Y) {i:Nat} (hi:i<4):nth Y.gc.toList (i * 5 + 2)=some (.int .i64 (P.gs i).first):=h.gs.nth jk (h.wJ hi) (k:=2) rfl
theorem bJ.g3 (h:bJ P Y) {i:Nat} (hi:i<4):nth Y.gc.toList (i * 5 + 3)=some (Y.G i).vv:=h.gs.nth jk (h.wJ hi) (k:=3) rfl
theorem bJ.g4' (h:bJ P Y) {i:Nat} (hi:i<4):nth Y.gc.toList (i * 5 + 4)=some (Y.G i).mv:=h.gs.nth jk (h.wJ hi) (k:=4) rfl
theorem bJ.p0' (h:bJ P Y) {i:Nat} (hi:i<P.pages.length):nth Y.pc.toList (i * 2)=some (.int .i64 (P.pg i).own):=h.pg.nth lZ (su hi) (k:=0) rfl
theorem bJ.p1' (h:bJ P Y) {i:Nat} (hi:i<P.pages.length):nth Y.pc.toList (i * 2 + 1)=some (.int .i64 (P.pg i).wit):=h.pg.nth lZ (su hi) (k:=1) rfl
theorem bJ.s0 (h:bJ P Y) {i:Nat} (hi:i<P.on.length):nth Y.oc.toList (i * 2)=some (.int .i64 (P.st i).vm):=h.on.nth st_len (J7 hi) (k:=0) rfl
theorem bJ.s1 (h:bJ P Y) {i:Nat} (hi:i<P.on.length):nth Y.oc.toList (i * 2 + 1)=some (.int .i64 (P.st i).cpu):=h.on.nth st_len (J7 hi) (k:=1) rfl
theorem bJ.aH3 (h:bJ P Y) {i:Nat} (hi:i<P.on.length):(Y.oc.toList.drop (i * 2)).take 2=[.int .i64 (P.st i).vm,.int .i64 (P.st i).cpu]:=h.on.cut st_len (J7 hi)
theorem bJ.BG (h:bJ P Y):20≤Y.gc.size:=by have:=h.gs.size;have:=h.gs.le;have:=h.n.g4;omega
theorem bJ.Zr (h:bJ P Y):P.pages.length * 2≤Y.pc.size:=by rw [h.pg.size];exact Nat.mul_le_mul_right _ h.pg.le
theorem bJ.osz (h:bJ P Y):P.on.length * 2≤Y.oc.size:=by rw [h.on.size];exact Nat.mul_le_mul_right _ h.on.le
end
theorem pI (G:Nat→GB) {i:Nat} (hi:i<4):∃ r,aC ((G i).hv++((G i).hm++r)) (wP G 4)∧∀ vv mv hv hm,aC (wP (oZ G i ⟨vv,mv,hv,hm⟩) 4) (hv++(hm++r)):=by
 obtain ⟨r,hr⟩:=Wh 4 G hi
 refine ⟨r,Wp (hr G (fun _ _=>rfl)).symm,fun vv mv hv hm=>?_⟩
 have:=Wp (hr (oZ G i ⟨vv,mv,hv,hm⟩) (fun j hj=>oJ _ _ _ hj))
 rwa [kR] at this
theorem fE (b:Bool) (e:Int) (w:World):Fn Tryz.prog 268 [.bool b,.int .i64 e].toArray w [] (fun u _=>u=.int .i64 (bif b then 0 else e)):=by
 refine enter Tryz.func268 ?_
 refine run ?_
 refine ah _ rfl (fun h=>?_) (fun h=>?_)
 ·refine run ?_
  refine fin1 ?_
  rw [h];rfl
 ·refine run ?_
  refine fin1 ?_
  rw [h];rfl
theorem o6 (n:Int) (w:World):Fn Tryz.prog 270 [.int .i64 n].toArray w [] (fun u _=>u=.int .i64 (bif PtD.di n 1 4 then 0 else 2)):=by
 refine enter Tryz.func270 ?_
 refine run ?_
 refine ak (fun wc hG=>fG _ _ _ wc) ?_
 refine run ?_
 refine ak (fun wc hG=>fE _ _ wc) ?_
 refine run ?_
 exact fin1 rfl
theorem zx (n:Int) (w:World):Fn Tryz.prog 265 [.int .i64 n].toArray w [] (fun u _=>u=.int .i64 (bif PtD.di n 0 15 then 0 else 2)):=by
 refine enter Tryz.func265 ?_
 refine run ?_
 refine ak (fun wc hG=>fG _ _ _ wc) ?_
 refine run ?_
 refine ak (fun wc hG=>fE _ _ wc) ?_
 refine run ?_
 exact fin1 rfl
def cZ:List Int→Int
 | []=>0
 | x::r=>bif decide (x=0) then cZ r else x
theorem RN:∀ (l:List Int) (k:Nat),k<l.length→(∀ j,j<k→l.getD j 0=0)→l.getD k 0 ≠ 0→cZ l=l.getD k 0:=by
 intro l
 induction l with
 | nil=>intro k h;simp at h
 | cons x r ih=>
  intro k hk hj hn
  cases k with
  | zero=>simp at hn ⊢;simp [cZ,hn]
  | succ k=>
   have h0:=hj 0 be5
   simp at h0
   subst h0
   have:=ih k (by simpa using hk) (fun j hj'=>by have:=hj (j + 1) be5;simpa using this) (by simpa using hn)
   simpa [cZ] using this
theorem Ko:∀ (l:List Int),(∀ j,j<l.length→l.getD j 0=0)→cZ l=0:=by
 intro l
 induction l with
 | nil=>intro _;rfl
 | cons x r ih=>
  intro h
  have h0:=h 0 be7
  simp at h0
  subst h0
  have:=ih fun j hj=>by have:=h (j + 1) (by simpa using hj);simpa using this
  simpa [cZ] using this
theorem mG {w:World} (xs:List Int) (v:Value) (h:aF w v 1 (xs.map dA)):Fn Tryz.prog 267 [v].toArray w [] (fun u _=>u=.int .i64 (cZ xs)):=by
 obtain ⟨q,cap,rfl,hne,hle⟩:=h.opened
 refine enter Tryz.func267 ?_
 refine run ?_
 refine aX (σ:=Nat) (fun k=>[(7,.int .i64 (k:Int))]) (fun _=>[]) (fun k=>k≤xs.length∧∀ j,j<k→xs.getD j 0=0) (fun k=>xs.length - k) 0 ⟨Nat.zero_le _,fun j hj=>absurd hj be5⟩ ?_
 rintro k m hm ⟨hk,hno⟩
 refine run ?_
 refine ah _ rfl (fun hc=>?_) (fun hc=>?_)
 ·have hlt:k<xs.length:=by simp at hc;omega
  obtain ⟨b,o,rfl⟩:=hne be'
  have hr:=au (h.row hlt)
  simp only [Nat.mul_one] at hr
  have e0:xs.getD k default=xs.getD k 0:=rfl
  rw [e0] at hr
  refine run ?_
  refine ah _ rfl (fun hp=>?_) (fun hp=>?_)
  ·refine run ?_
   refine fin1 ?_
   rw [RN xs k hlt hno (by simpa using hp)]
  ·refine run ?_
   refine aK (k + 1) ⟨hlt,fun j hj=>?_⟩
   rcases Nat.lt_succ_iff_lt_or_eq.1 hj with hj | rfl
   ·exact hno j hj
   ·simpa using hp
 ·have hge:k=xs.length:=by simp at hc;omega
  subst hge
  refine run ?_
  refine fin1 ?_
  rw [Ko xs hno]
theorem lits {w0 w:World} {mu:List Nat} {hp:Hp} (hG:Good w0 mu hp w) {b t n cap:Nat} {cs:Array Value} (hm:(⟨b,cs,t⟩:o8)∈hp) (xs:List Int) (hx:cs=((xs.map dA).flatten).toArray) (hn:n=xs.length) (hl:xs.length≤1000):aF w (.slice (some ⟨b,0,none⟩) n cap) 1 (xs.map dA):=by
 subst hx hn
 have:=gV (w:=w) (cap:=cap) (sz:=1) (xs:=xs.map dA) (hG.here _ hm) (fun c hc=>by obtain ⟨x,_,rfl⟩:=List.mem_map.1 hc;rfl) be9
 rwa [List.length_map] at this
section
variable {P : PtD} {Y : Lay} {bx tx : Nat} {w : World}
theorem uI (h:bJ P Y) (hh:Here (Y.hd P bx tx) w) (f:Int):Fn Tryz.prog 269 [.pointer (some ⟨bx,0,none⟩),.int .i64 f].toArray w [] (fun u _=>u=.int .i64 (bif PtD.di f 16 ((P.pages.length:Int) - 1) then 0 else 2)):=by
 have hc:=(h.J8 hh).cp
 have:=h.n.p1
 refine enter Tryz.func269 ?_
 refine run ?_
 refine ak (fun wc hG=>fG _ _ _ wc) ?_
 refine run ?_
 refine ak (fun wc hG=>fE _ _ wc) ?_
 refine run ?_
 exact fin1 rfl
end
end
section
attribute [local irreducible] Hy St Ops DH dG
structure wQ where
 kind:Int
 vm:Int
 frame:Int
 mid:Int
 iy:Int
 l9:Int
abbrev pY (c:wQ):Value:=.agg #[.int .i64 c.kind,.int .i64 c.vm,.int .i64 c.frame,.int .i64 c.mid,.int .i64 c.iy,.int .i64 c.l9]
structure wQ.Wf (c:wQ):Prop where
 vm:I64 c.vm
 frame:I64 c.frame
 mid:I64 c.mid
 iy:I64 c.iy
def ix (n:Int):Nat:=(n - 1).toNat
theorem vP {n:Int} (h:1≤n∧n≤4):ix n<4:=by unfold ix;omega
namespace PtD
def moreL (P:PtD) (vm:Int):Except Int PtD:=
 bif !di vm 1 4 then .error 2 else bif !(P.gs (ix vm)).live then .error 3 else bif decide (2≤(P.gs (ix vm)).aN.length) then .error 5
 else .ok (P.eU (ix vm) { P.gs (ix vm) with aN:=(P.gs (ix vm)).aN++[-1] })
end PtD
section
variable {P : PtD} {Y : Lay} {bx tx : Nat} {w : World}
theorem ak8 (h:bJ P Y) (hN:dD (Y.hd P bx 158) w) (c:wQ):Fn Tryz.prog 207 [.pointer (some ⟨bx,0,none⟩),pY c].toArray w ((Y.hd P bx 158).map (·.b)) (dR bx 158 (P.moreL c.vm)):=by
 refine bU _ hN Tryz.func207 ?_
 refine run ?_
 intro B
 refine run ?_
 refine ak (fun wc hG=>o6 _ wc) ?_
 cases hb:PtD.di c.vm 1 4
 ·refine az ?_
  refine fin1 ?_
  simp [dR,PtD.moreL,hb]
 refine az ?_
 have hb':=hb
 simp only [PtD.di,Bool.and_eq_true,decide_eq_true_eq] at hb'
 have hi:ix c.vm<4:=vP hb'
 refine ak (fun wc hG=>lH (bx:=bx) (tx:=158) h (hG.here' aj) hb') ?_
 obtain ⟨i,hi'⟩:∃ i,i=ix c.vm:=⟨_,rfl⟩
 rw [← hi'] at hi
 rw [show (c.vm - 1).toNat=i from hi'.symm]
 obtain ⟨q,cap,ev⟩:=(h.vc i hi).opened
 have n0:=h.g0 hi
 have n3:=h.g3 hi
 rw [ev,List.length_map] at n3
 have hz:=h.BG
 refine run ?_
 refine dL 12 ?_
 refine bZ ?_
 refine dM (fun wc hG=>fE _ _ wc) ?_
 refine bZ ?_
 refine dM (fun wc hG=>fE _ _ wc) ?_
 refine bZ ?_
 refine run ?_
 intro F
 refine ak (fun wc hG=>mG [_,_] _ (lits hG mh [_,_] rfl rfl be7)) ?_
 have key:P.moreL c.vm=bif decide (cZ [bif (P.gs i).live then 0 else 3,bif decide (((P.gs i).aN.length:Int)<2) then 0 else 5]=0) then .ok (P.eU i { P.gs i with aN:=(P.gs i).aN++[-1] }) else .error (cZ [bif (P.gs i).live then 0 else 3,bif decide (((P.gs i).aN.length:Int)<2) then 0 else 5]):=by
  have e:decide (((P.gs i).aN.length:Int)<2)=!decide (2≤(P.gs i).aN.length):=by rw [Bool.eq_iff_iff];simp;omega
  rw [e,PtD.moreL,hb,← hi']
  cases (P.gs i).live<;>cases decide (2≤(P.gs i).aN.length)<;>rfl
 generalize hE:cZ [bif (P.gs i).live then 0 else 3,bif decide (((P.gs i).aN.length:Int)<2) then 0 else 5]=E at key
 refine run ?_
 refine ah _ rfl (fun hp=>?_) (fun hp=>?_)
 ·refine run ?_
  refine fin1 ?_
  simp at hp
  rw [key]
  simp [dR,hp]
 simp only [Bool.not_eq_false',decide_eq_true_eq] at hp
 subst hp
 have hlen:(P.gs i).aN.length<2:=by
  cases hl:(P.gs i).live<;>cases hd:decide (((P.gs i).aN.length:Int)<2)<;>rw [hl,hd] at hE<;>simp [cZ] at hE
  simp at hd;omega
 refine run ?_
 intro T
 obtain ⟨r,g1,g2⟩:=pI Y.G hi
 have hA:=h.vc i hi
 rw [ev,List.length_map] at hA
 refine aP (⟨T,#[.int .i64 (-1)],3⟩::⟨Y.gb,Y.gc,129⟩::⟨bx,#[Y.pv P,Y.gv P,Y.ov P],158⟩::⟨Y.pb,Y.pc,70⟩::⟨Y.ob,Y.oc,133⟩::((Y.G i).hv++((Y.G i).hm++r))) (cnt1 g1) ?_
 refine xM (c:=dA (-1)) (⟨T,#[.int .i64 (-1)],3⟩::⟨Y.gb,Y.gc,129⟩::⟨bx,#[Y.pv P,Y.gv P,Y.ov P],158⟩::⟨Y.pb,Y.pc,70⟩::⟨Y.ob,Y.oc,133⟩::((Y.G i).hm++r)) hA (fun v' ha' hA'=>?_) bf2 (bQ (m:=1) mh rfl) aJ
 obtain ⟨q',cap',ev'⟩:=hA'.opened
 subst ev'
 refine fJ (_++ha') List.perm_append_comm ?_
 simp only [List.cons_append]
 refine run ?_
 refine fin1 ?_
 rw [key]
 have hf:=(h.wf.gs i bg9)
 have hs:=h.sm.vc i bg9
 refine ⟨rfl,_,h.vH hi { P.gs i with aN:=(P.gs i).aN++[-1] } ⟨(.slice q' ((P.gs i).aN.map dA++[dA (-1)]).length cap'),(Y.G i).mv,ha',(Y.G i).hm⟩ (h.gs.put jk (h.wJ hi) (k:=3) (vs:=[_]) be7) (by rw [List.map_append];exact hA') (h.mp i hi) ⟨hf.1,fun x hx=>?_,hf.2.2⟩ ⟨by simp;omega,hs.2⟩,?_⟩
 ·rcases List.mem_append.1 hx with hx | hx
  ·exact hf.2.1 x hx
  ·simp at hx;subst hx;exact ⟨by decide,by decide⟩
 ·have g3:=g2 (.slice q' ((P.gs i).aN.map dA++[dA (-1)]).length cap') (Y.G i).mv ha' (Y.G i).hm
  rw [hdG]
  simp only [putAt]
  (exact cnt1 g3)
end
end
section
attribute [local irreducible] Hy St Ops DH dG
def DoR (r:Except Int PtD) (u:Value) (hn:Hp):Prop:=match r with
 | .error e=>u=.tuple #[.agg #[.slice none 0 0,.slice none 0 0,.slice none 0 0],.int .i64 e]
 | .ok P=>∃ Y:Lay,u=.tuple #[.agg #[Y.pv P,Y.gv P,Y.ov P],.int .i64 0]∧bJ P Y∧aC Y.in hn
section
variable {P : PtD} {w : World} {pv gv ov : Value}
theorem Zt (h:fD w pv gv ov P):Fn Tryz.prog 39 [.agg #[pv,gv,ov]].toArray w [] (fun u _=>u=.int .i64 (bif P.may then 0 else 1)):=by
 obtain ⟨p,pc,g,gc,o,oc,rfl,rfl,rfl,_⟩:=h.slices
 refine enter Tryz.func39 ?_
 refine run ?_
 intro B X
 refine ak (fun wc hG=>VO h hG mh) ?_
 refine run ?_
 refine ah _ rfl (fun hc=>?_) (fun hc=>?_)
 ·refine run ?_
  refine fin1 ?_
  simp at hc;rw [hc];rfl
 ·refine run ?_
  refine fin1 ?_
  simp at hc;rw [hc];rfl
set_option maxHeartbeats 4000000 in
theorem Wq (h:fD w pv gv ov P) (hs:P.Small 1000) (cpu:Nat) (hc:cpu<P.on.length) (c:wQ) (r:Except Int PtD) (hr:∀ e,r=.error e→e ≠ 0)
  (hH:P.may=true→(P.st cpu).vm=0→∀ Y bx w,bJ P Y→dD (Y.hd P bx 158) w→Fn Tryz.prog 113 [.pointer (some ⟨bx,0,none⟩),.int .i64 (cpu:Int),pY c].toArray w ((Y.hd P bx 158).map (·.b)) (dR bx 158 r))
  (hU:P.may=true→(P.st cpu).vm ≠ 0→∀ Y bx w,bJ P Y→dD (Y.hd P bx 158) w→Fn Tryz.prog 112 [.pointer (some ⟨bx,0,none⟩),.int .i64 (cpu:Int),pY c].toArray w ((Y.hd P bx 158).map (·.b)) (dR bx 158 r)):
  Fn Tryz.prog 56 [.agg #[pv,gv,ov],.int .i64 (cpu:Int),pY c].toArray w [] (DoR (bif P.may then r else .error 1)):=by
 obtain ⟨p,pc,g,gc,o,oc,rfl,rfl,rfl,_⟩:=h.slices
 have hlo:=hs.on
 refine enter Tryz.func56 ?_
 refine run ?_
 intro B C R
 refine run ?_
 refine ak (fun wc hG=>Zt (h.good hG)) ?_
 cases hm:P.may
 ·refine az ?_
  refine jl ?_
  rfl
 have hb:PtD.di (cpu:Int) 0 ((P.on.length:Int) - 1)=true:=by simp only [PtD.di,Bool.and_eq_true,decide_eq_true_eq];omega
 refine az ?_
 refine dO (fun hg wc hG=>fG _ _ _ wc) ?_
 rw [hb]
 refine az ?_
 refine dJ (fun wc hG=>Wj (h.good hG) (Bq hm) hs) ?_
 rintro _ hn ⟨Y,bx,rfl,hO,hle⟩
 refine aP (⟨R,#[.slice none 0 0,.slice none 0 0,.slice none 0 0],38⟩::⟨C,#[.int .i64 c.kind,.int .i64 c.vm,.int .i64 c.frame,.int .i64 c.mid,.int .i64 c.iy,.int .i64 c.l9],63⟩::⟨B,#[.slice p P.pages.length pc,.slice g P.aA.length gc,.slice o P.on.length oc],38⟩::Y.hd P bx 158) (by rw [FH];(exact cnt1 hle)) ?_
 obtain ⟨L,e1,e2,e3,hV⟩:=h.open (Bq hm)
 cases e1
 cases e2
 cases e3
 have hst:=hV.st0 hc
 refine az ?_
 refine ah _ rfl (fun hv=>?_) (fun hv=>?_)
 ·simp only [decide_eq_true_eq] at hv
  refine az ?_
  refine UB (fs:=[.pointer (some ⟨bx,0,none⟩)]) (vs:=[.int .i64 (cpu:Int),pY c]) (us:=[]) (Y.hd P bx 158) [⟨R,#[.slice none 0 0,.slice none 0 0,.slice none 0 0],38⟩,⟨C,#[.int .i64 c.kind,.int .i64 c.vm,.int .i64 c.frame,.int .i64 c.mid,.int .i64 c.iy,.int .i64 c.l9],63⟩,⟨B,#[.slice (some ⟨L.pb,L.po,none⟩) P.pages.length L.pc,.slice (some ⟨L.gb,L.go,none⟩) P.aA.length L.gc,.slice (some ⟨L.ob,L.oo,none⟩) P.on.length L.oc],38⟩] (fun wc hG=>hH hm hv Y bx wc hO hG.fV) (fun v hn2 hR=>?_) bf'
  cases hrr:r with
  | error e=>
   rw [hrr] at hR
   obtain rfl:v=.int .i64 e:=hR
   have he:decide (e=0)=false:=by simp [hr e hrr]
   refine aP [⟨R,#[.slice none 0 0,.slice none 0 0,.slice none 0 0],38⟩] aj ?_
   refine run ?_
   refine ah _ rfl (fun hp=>?_) (fun hp=>by rw [he] at hp;cases hp)
   refine run ?_
   refine jl ?_
   rfl
  | ok P'=>
   rw [hrr] at hR
   obtain ⟨rfl,Y',hO',hle'⟩:=hR
   refine aP (⟨R,#[.slice none 0 0,.slice none 0 0,.slice none 0 0],38⟩::Y'.hd P' bx 158) (by rw [FH];rw [FH] at hle';(exact cnt1 hle')) ?_
   refine az ?_
   refine jl ?_
   refine ⟨Y',rfl,hO',?_⟩
   simp only [FH]
   (exact aj)
 ·simp only [decide_eq_false_iff_not] at hv
  refine az ?_
  refine UB (fs:=[.pointer (some ⟨bx,0,none⟩)]) (vs:=[.int .i64 (cpu:Int),pY c]) (us:=[]) (Y.hd P bx 158) [⟨R,#[.slice none 0 0,.slice none 0 0,.slice none 0 0],38⟩,⟨C,#[.int .i64 c.kind,.int .i64 c.vm,.int .i64 c.frame,.int .i64 c.mid,.int .i64 c.iy,.int .i64 c.l9],63⟩,⟨B,#[.slice (some ⟨L.pb,L.po,none⟩) P.pages.length L.pc,.slice (some ⟨L.gb,L.go,none⟩) P.aA.length L.gc,.slice (some ⟨L.ob,L.oo,none⟩) P.on.length L.oc],38⟩] (fun wc hG=>hU hm hv Y bx wc hO hG.fV) (fun v hn2 hR=>?_) bf'
  cases hrr:r with
  | error e=>
   rw [hrr] at hR
   obtain rfl:v=.int .i64 e:=hR
   have he:decide (e=0)=false:=by simp [hr e hrr]
   refine aP [⟨R,#[.slice none 0 0,.slice none 0 0,.slice none 0 0],38⟩] aj ?_
   refine run ?_
   refine ah _ rfl (fun hp=>?_) (fun hp=>by rw [he] at hp;cases hp)
   refine run ?_
   refine jl ?_
   rfl
  | ok P'=>
   rw [hrr] at hR
   obtain ⟨rfl,Y',hO',hle'⟩:=hR
   refine aP (⟨R,#[.slice none 0 0,.slice none 0 0,.slice none 0 0],38⟩::Y'.hd P' bx 158) (by rw [FH];rw [FH] at hle';(exact cnt1 hle')) ?_
   refine az ?_
   refine jl ?_
   refine ⟨Y',rfl,hO',?_⟩
   simp only [FH]
   (exact aj)
end
end
section
attribute [local irreducible] Hy St Ops DH dG
structure DK where
 cpu:Int
 kind:Int
 vm:Int
 frame:Int
 mid:Int
 iy:Int
 l9:Int
 stop:Bool
deriving Inhabited
def Ws (x:DK):List Value:=[.int .i64 x.cpu,.int .i64 x.kind,.int .i64 x.vm,.int .i64 x.frame,.int .i64 x.mid,.int .i64 x.iy,.int .i64 x.l9,.bool x.stop]
structure DK.Wf (x:DK):Prop where
 cpu:I64 x.cpu
 kind:I64 x.kind
 vm:I64 x.vm
 frame:I64 x.frame
 mid:I64 x.mid
 iy:I64 x.iy
 l9:I64 x.l9
structure ak9 (w:World) (v:Value) (P:PtD) (A:List DK):Prop where
 is:∃ pv gv ov lv,v=.agg #[pv,gv,ov,lv]∧fD w pv gv ov P∧aF w lv 8 (A.map Ws)
 wf:∀ x∈A,x.Wf
theorem Vm.cases {f c:Int} {v:Value} {hn:Hp} (h:Vm f c v hn):(Bd f c=true∧∃ pv gv ov,v=.tuple #[.agg #[pv,gv,ov],.int .i64 0]∧∀ w,Here hn w→fD w pv gv ov (fO f.toNat c.toNat))∨(Bd f c=false∧v=.tuple #[.agg #[.slice none 0 0,.slice none 0 0,.slice none 0 0],.int .i64 1]):=by
 unfold Vm at h
 cases hm:Bd f c with
 | true=>rw [hm] at h;exact .inl ⟨rfl,h⟩
 | false=>rw [hm] at h;exact .inr ⟨rfl,h⟩
end
section
attribute [local irreducible] Hy St Ops DH dG
theorem dR.le {bx tx:Nat} {r:Except Int PtD} {v:Value} {hn hn':Hp} (h:dR bx tx r v hn) (hl:aC hn hn'):dR bx tx r v hn':=by
 cases r with
 | error e=>exact h
 | ok P=>obtain ⟨e,Y,hO,hle⟩:=h;exact ⟨e,Y,hO,bu fun a=>Nat.le_trans (hle.cnt a) (hl.cnt a)⟩
theorem DL {P:PtD} (hm:P.may=true) {cpu:Nat} (hc:cpu<P.on.length) (hv:(P.st cpu).vm ≠ 0):1≤(P.st cpu).vm∧(P.st cpu).vm≤4∧(P.gs (ix (P.st cpu).vm)).live=true∧0≤(P.st cpu).cpu∧(P.st cpu).cpu.toNat<(P.gs (ix (P.st cpu).vm)).aN.length∧(P.gs (ix (P.st cpu).vm)).aN.getD (P.st cpu).cpu.toNat 0=(cpu:Int):=by
 have h:=(PtD.uh.1 hm).seat cpu hc
 simp only [PtD.seated,hv,decide_false,cond_false,PtD.lives,PtD.di,Bool.and_eq_true,decide_eq_true_eq] at h
 obtain ⟨⟨⟨⟨h1,h2⟩,h3⟩,h4,h5⟩,h6⟩:=h
 exact ⟨h1,h2,h3,h4,by unfold ix;omega,h6⟩
section
variable {P : PtD} {Y : Lay} {bx : Nat} {w : World}
theorem DR (h:bJ P Y) (hN:dD (Y.hd P bx 158) w) (cpu vm fr mid vc cc:Int):Fn Tryz.prog 113 [.pointer (some ⟨bx,0,none⟩),.int .i64 cpu,pY ⟨7,vm,fr,mid,vc,cc⟩].toArray w ((Y.hd P bx 158).map (·.b)) (dR bx 158 (P.moreL vm)):=by
 refine bU _ hN Tryz.func113 ?_
 refine run ?_
 intro C
 refine az ?_
 refine gB (Y.hd P bx 158) [⟨C,#[.int .i64 7,.int .i64 vm,.int .i64 fr,.int .i64 mid,.int .i64 vc,.int .i64 cc],63⟩] (fun wc hG=>ak8 h hG.fV ⟨7,vm,fr,mid,vc,cc⟩) (fun v hn hR=>?_) bf'
 refine az ?_
 refine fin1 ?_
 exact hR.le aj
theorem DT (h:bJ P Y) (hN:dD (Y.hd P bx 158) w) (k vm fr mid vc cc:Int) (cpu:Nat) (hc:cpu<P.on.length) (h10:decide (k=10)=false) (h11:decide (k=11)=false) (h9:decide (k=9)=false):Fn Tryz.prog 112 [.pointer (some ⟨bx,0,none⟩),.int .i64 (cpu:Int),pY ⟨k,vm,fr,mid,vc,cc⟩].toArray w ((Y.hd P bx 158).map (·.b)) (dR bx 158 (.error 9)):=by
 have hs0:=h.s0 hc
 refine bU _ hN Tryz.func112 ?_
 refine run ?_
 intro C
 refine az ?_
 refine ah _ rfl (fun hp=>by rw [h10] at hp;cases hp) (fun _=>?_)
 refine az ?_
 refine ah _ rfl (fun hp=>by rw [h11] at hp;cases hp) (fun _=>?_)
 refine az ?_
 refine ah _ rfl (fun hp=>by rw [h9] at hp;cases hp) (fun _=>?_)
 refine az ?_
 refine fin1 ?_
 rfl
end
end
section
attribute [local irreducible] Hy St Ops DH dG
theorem ak9.good {w w':World} {hp:Hp} {v:Value} {P:PtD} {A:List DK} (h:ak9 w v P A) (hG:Good w [] hp w'):ak9 w' v P A:=by
 obtain ⟨⟨pv,gv,ov,lv,e,hp,hl⟩,hwf⟩:=h
 exact ⟨⟨pv,gv,ov,lv,e,hp.good hG,hl.good hG⟩,hwf⟩
end
section
open Go.ChangeShapes Go.WideShapes Go.ChangeAt Go.RowKit
theorem ak' {cs:List Value} (h:kY [.i .i64,.i .i64,.i .i64,.i .i64,.i .i64,.i .i64,.i .i64,.b] cs=true):∃ x:DK,cs=Ws x∧x.Wf:=by
 obtain ⟨_,_,rfl,h1,h⟩:=jC h
 obtain ⟨_,_,rfl,h2,h⟩:=jC h
 obtain ⟨_,_,rfl,h3,h⟩:=jC h
 obtain ⟨_,_,rfl,h4,h⟩:=jC h
 obtain ⟨_,_,rfl,h5,h⟩:=jC h
 obtain ⟨_,_,rfl,h6,h⟩:=jC h
 obtain ⟨_,_,rfl,h7,h⟩:=jC h
 obtain ⟨_,_,rfl,h8,h⟩:=jC h
 obtain rfl:=Qj h
 obtain ⟨a1,rfl,b1⟩:=Cm h1
 obtain ⟨a2,rfl,b2⟩:=Cm h2
 obtain ⟨a3,rfl,b3⟩:=Cm h3
 obtain ⟨a4,rfl,b4⟩:=Cm h4
 obtain ⟨a5,rfl,b5⟩:=Cm h5
 obtain ⟨a6,rfl,b6⟩:=Cm h6
 obtain ⟨a7,rfl,b7⟩:=Cm h7
 obtain ⟨a8,rfl⟩:=ar' h8
 exact ⟨⟨a1,a2,a3,a4,a5,a6,a7,a8⟩,rfl,⟨b1,b2,b3,b4,b5,b6,b7⟩⟩
section
variable {H : Type} {enc : TypeId × Value → H} {w : World} {base : Nat} {spare : Nat → Bool} {held : Bool}
theorem RP {fuel:Nat} {cs:List Value} {x:DataW H × List MemPlace} (h:DataW.trod enc Tryz.prog w base spare held fuel 57 cs=some x) (hz:Yq Tryz.prog 57 x.1):∃ v,∃ xs:List DK,cs=[v]∧aF w v 8 (xs.map Ws)∧∀ a∈xs,a.Wf:=
 Ql (ks:=[.i .i64,.i .i64,.i .i64,.i .i64,.i .i64,.i .i64,.i .i64,.b]) Tryz.underlying57 bj7 bj7 be6 bj7 (fun cs h=>ak' h) h hz
end
end
section
attribute [local irreducible] Hy St Ops DH dG
section
variable {n : Nat} {w0 : World} {mu : List Nat} {l : Fm} {hp : Hp} {Q : Exit → Fm → Hp → Prop} {all : Array Oper} {rest : List Oper} {ty : TypeId} {pos : String} {af : Array Edge}
theorem Zu {f d j dj:Nat} {want b:Bool} {x:Operand} {xs:List Operand} {vs fs us:List Value} {tys:Array TypeId} {v:Value} (hc:iH b want=true→∀ w,Good w0 mu hp w→Fn Tryz.prog f (fs++vs++us).toArray w [] (fun u _=>u=v)) (h:Ops Tryz.prog n w0 mu all rest ((d,gv (iH b want) v)::l) hp Q)
  (hj:(all[j]?).bind (·.dst)=some dj:=by rfl) (hb:look l dj=some (.bool b):=by rfl) (hdj:Nat.blt dj n=true:=by rfl) (hx:iH b want=true→ev l x=some (.func (.func f) fs.toArray us.toArray):=by (intro hg1;(try simp only [hg1,bG,Bool.true_and]);rfl)) (bH:mem iF f=true:=by rfl) (hd:Nat.blt d n=true:=by rfl) (hv:iH b want=true→evs l xs=some vs:=by (intro hg1;(try simp only [hg1,bG,Bool.true_and]);rfl)):Ops Tryz.prog n w0 mu all (⟨some d,.call { callee:=.value x,args:=xs.toArray,argTypes:=tys },ty,pos,af,some (j,want)⟩::rest) l hp Q:=
 P6 hd hj hb hdj (fun hg=>xw (fC f bH) (hx hg) (hv hg) (hc hg)) h
end
theorem Kq (x:jv) (mid:Int) (h1:0≤x.mid∧x.mid≤15) (h2:0≤mid∧mid≤15) (w:World):Fn Tryz.prog 324 ([]++[Value.agg #[.int .i64 x.mid,.int .i64 x.gU],.int .i64 mid]++[]).toArray w [] (fun u _=>u=.int .i64 (x.mid - mid)):=by
 refine enter Tryz.func324 ?_
 refine run ?_
 intro b
 refine run ?_
 exact fin1 rfl
theorem Ii {w:World} (xs:List jv) (mid:Int) (v:Value) (h:aF w v 2 (xs.map dS)) (h2:0≤mid∧mid≤15) (hx:∀ k,k<xs.length→0≤(xs.getD k default).mid∧(xs.getD k default).mid≤15) (hs:PtD.Sorted xs) (hl:xs.length≤1000000):
  Fn Tryz.prog 323 [v,.int .i64 mid,.func (.func 324) [].toArray [].toArray].toArray w [] (fun u _=>u=.tuple #[.int .i64 (PtD.jW xs mid),.bool (PtD.pO xs mid)]):=by
 obtain ⟨q,cap,rfl,hne,hle⟩:=h.opened
 have hlb:=PtD.AV xs mid
 refine enter Tryz.func323 ?_
 refine run ?_
 refine aX (σ:=Nat × Nat) (fun s=>[(9,.int .i64 (s.1:Int)),(10,.int .i64 (s.2:Int))]) (fun _=>[]) (fun s=>s.1≤s.2∧s.2≤xs.length∧(∀ j,j<s.1→(xs.getD j default).mid<mid)∧∀ j,s.2≤j→j<xs.length→mid≤(xs.getD j default).mid) (fun s=>s.2 - s.1) (0,xs.length) ⟨Nat.zero_le _,Nat.le_refl _,fun j hj=>absurd hj be7,fun j h1 h2=>absurd h1 be5⟩ ?_
 rintro ⟨i,j⟩ m hm ⟨hij,hj,ha,hb⟩
 dsimp only at hm hij hj ha hb ⊢
 refine run ?_
 refine ah _ rfl (fun hc=>?_) (fun hc=>?_)
 ·have hlt:i<j:=by simpa using hc
  obtain ⟨b,o,rfl⟩:=hne (by intro e;subst e;simp at hj;omega)
  have hlt2:(i + j) / 2<xs.length:=by omega
  have hr:=h.row hlt2
  simp only [dS] at hr
  refine run ?_
  refine ja be8 (ag1 (q:=(((i + j) / 2:Nat):Int)) rfl rfl be5 be5 be7) ?_
  refine run ?_
  refine jM (fun wc hG=>Kq (xs.getD ((i + j) / 2) default) mid (hx _ hlt2) h2 wc) ?_
  refine run ?_
  refine ah _ rfl (fun hp=>?_) (fun hp=>?_)
  ·have hp':(xs.getD ((i + j) / 2) default).mid<mid:=by simp only [decide_eq_true_eq] at hp;omega
   refine run ?_
   refine aK ((i + j) / 2 + 1,j) ⟨by dsimp only;omega,hj,fun t ht=>?_,hb⟩
   dsimp only at ht
   rcases Nat.lt_succ_iff_lt_or_eq.1 ht with h3 | rfl
   ·have:=hs _ _ h3 hlt2;omega
   ·exact hp'
  ·have hp':mid≤(xs.getD ((i + j) / 2) default).mid:=by simp only [decide_eq_false_iff_not] at hp;omega
   refine run ?_
   refine aK (i,(i + j) / 2) ⟨by dsimp only;omega,by dsimp only;omega,ha,fun t h3 h4=>?_⟩
   dsimp only at h3
   rcases Nat.lt_or_ge ((i + j) / 2) t with h5 | h5
   ·have:=hs _ _ h5 h4;omega
   ·rw [show t=(i + j) / 2 by omega];exact hp'
 ·have hij':i=j:=by simp at hc;omega
  subst hij'
  have hlow:=PtD.Qh hs hj ha hb
  rcases Nat.lt_or_ge i xs.length with hi | hi
  ·obtain ⟨b,o,rfl⟩:=hne (by intro e;subst e;simp at hi)
   have hr:=h.row hi
   simp only [dS] at hr
   have hxi:=hx i hi
   refine aI ?_
   refine Zu (fun hg wc hG=>Kq (xs.getD i default) mid hxi h2 wc) ?_
   refine aI ?_
   refine fin2 ?_
   have e:decide ((i:Int)<(xs.length:Int))=true:=by simp;omega
   have e2:decide (i<xs.length)=true:=by simp;omega
   have e3:decide ((xs.getD i default).mid - mid=0)=decide ((xs.getD i default).mid=mid):=by rw [decide_eq_decide];omega
   rw [← hlow,PtD.pO,← hlow,e,e2,e3]
  ·refine run ?_
   have e2:decide (i<xs.length)=false:=by simp;omega
   rw [show decide ((i:Int)<(xs.length:Int))=false by simp;omega]
   refine aI ?_
   refine fin2 ?_
   rw [← hlow,PtD.pO,← hlow,e2]
   rfl
theorem Pq {w:World} (xs:List jv) (mid:Int) (b o:Nat) (v:Value) (hv:w.cell? ⟨b,o + 4,none⟩=some v) (h:aF w v 2 (xs.map dS)) (h2:0≤mid∧mid≤15) (hx:∀ k,k<xs.length→0≤(xs.getD k default).mid∧(xs.getD k default).mid≤15) (hs:PtD.Sorted xs) (hl:xs.length≤1000000):
  Fn Tryz.prog 266 [.pointer (some ⟨b,o,none⟩),.int .i64 mid].toArray w [] (fun u _=>u=.tuple #[.int .i64 (PtD.jW xs mid),.bool (PtD.pO xs mid)]):=by
 refine enter Tryz.func266 ?_
 refine run ?_
 refine ak (fun wc hG=>Ii xs mid v (h.good hG) h2 hx hs hl) ?_
 refine run ?_
 exact fin2 rfl
end
section
attribute [local irreducible] Hy St Ops DH dG
namespace PtD
def Ij (P:PtD) (cpu:Nat) (vm vc:Int):Except Int PtD:=
 bif !di vm 1 4 then .error 2 else bif !(P.gs (ix vm)).live || !di vc 0 (((P.gs (ix vm)).aN.length:Int) - 1) then .error 3 else bif !decide ((P.gs (ix vm)).aN.getD vc.toNat 0=-1) then .error 6
 else .ok ((P.eU (ix vm) { P.gs (ix vm) with aN:=(P.gs (ix vm)).aN.set vc.toNat (cpu:Int) }).setSt cpu ⟨vm,vc⟩)
end PtD
section
variable {P : PtD} {Y : Lay} {bx tx : Nat} {w : World}
theorem bJ.ac3 (h:bJ P Y) {i k cpu:Nat} (hi:i<4) (hk:k<(P.gs i).aN.length) (hc:cpu<P.on.length) (z:Int) (hz:I64 z) (s:OH) (hs:I64 s.vm∧I64 s.cpu) {g:Nat} {cur:Array Value} (hv:Own 3 1 (Y.G i).vv [⟨g,cur,3⟩] (((P.gs i).aN.set k z).map dA)):
  bJ ((P.eU i { P.gs i with aN:=(P.gs i).aN.set k z }).setSt cpu s) { Y with oc:=putAt Y.oc (cpu * 2) (Eh s),G:=oZ Y.G i ⟨(Y.G i).vv,(Y.G i).mv,[⟨g,cur,3⟩],(Y.G i).hm⟩ }:=by
 have g4:=h.n.g4
 have hf:=h.wf.gs i be5
 have hsm:=h.sm.vc i be5
 have hg:=h.vH hi { P.gs i with aN:=(P.gs i).aN.set k z } ⟨(Y.G i).vv,(Y.G i).mv,[⟨g,cur,3⟩],(Y.G i).hm⟩ (gc:=Y.gc) (by
  rw [jY (h.wJ hi)]
  exact h.gs) hv (h.mp i hi) ⟨hf.1,fun x hx=>?_,hf.2.2⟩ ⟨by simpa using hsm.1,hsm.2⟩
 ·have hon:(P.eU i { P.gs i with aN:=(P.gs i).aN.set k z }).on=P.on:=rfl
  have:=hg.aH2 (c:=cpu) (by rw [hon];exact hc) s (oc:=putAt Y.oc (cpu * 2) (Eh s)) (by
   have:=h.on.put st_len (J7 hc) (k:=0) (vs:=Eh s) (by simp [Eh])
   have e:([Value.int .i64 (P.st cpu).vm,.int .i64 (P.st cpu).cpu]).take 0++Eh s++([Value.int .i64 (P.st cpu).vm,.int .i64 (P.st cpu).cpu]).drop (0 + (Eh s).length)=Eh s:=rfl
   rw [e] at this
   exact this) hs
  exact this
 ·rcases List.mem_or_eq_of_mem_set hx with hx | rfl
  ·exact hf.2.1 x hx
  ·exact hz
theorem ax6 (Y:Lay) (P:PtD) (i cpu:Nat) (g:Yr) (s:OH) (oc:Array Value) (G:Nat→GB) (bx tx:Nat):Lay.hd { Y with oc:=oc,G:=G } ((P.eU i g).setSt cpu s) bx tx=⟨bx,#[Y.pv P,Y.gv P,Y.ov P],tx⟩::⟨Y.pb,Y.pc,70⟩::⟨Y.gb,Y.gc,129⟩::⟨Y.ob,oc,133⟩::wP G 4:=by
 have h1:((P.eU i g).setSt cpu s).aA.length=P.aA.length:=by simp [PtD.eU,PtD.setSt]
 have h2:((P.eU i g).setSt cpu s).on.length=P.on.length:=by simp [PtD.eU,PtD.setSt]
 simp only [Lay.hd,Lay.in,Lay.pv,Lay.gv,Lay.ov,h1,h2]
 rfl
theorem ax7 (h:bJ P Y) (hN:dD (Y.hd P bx 158) w) (cpu:Nat) (hc:cpu<P.on.length) (c:wQ) (hw:c.Wf):Fn Tryz.prog 208 [.pointer (some ⟨bx,0,none⟩),.int .i64 (cpu:Int),pY c].toArray w ((Y.hd P bx 158).map (·.b)) (dR bx 158 (P.Ij cpu c.vm c.iy)):=by
 refine bU _ hN Tryz.func208 ?_
 refine run ?_
 intro C
 refine run ?_
 refine ak (fun wc hG=>o6 _ wc) ?_
 cases hb:PtD.di c.vm 1 4
 ·refine az ?_
  refine fin1 ?_
  simp [dR,PtD.Ij,hb]
 refine az ?_
 have hb':=hb
 simp only [PtD.di,Bool.and_eq_true,decide_eq_true_eq] at hb'
 have hi:ix c.vm<4:=vP hb'
 refine ak (fun wc hG=>lH (bx:=bx) (tx:=158) h (hG.here' aj) hb') ?_
 rw [show (c.vm - 1).toNat=ix c.vm from rfl]
 obtain ⟨q,cap,ev⟩:=(h.vc _ hi).opened
 have n0:=h.g0 hi
 have n3:=h.g3 hi
 rw [ev,List.length_map] at n3
 have hz:=h.BG
 have hlen:=(h.sm.vc (ix c.vm) bg9).1
 refine az ?_
 refine dL 17 ?_
 refine bP ?_
 refine ig (fun hg wc hG=>fG _ _ _ wc) ?_
 refine bP ?_
 refine aI ?_
 refine ah _ rfl (fun hp=>?_) (fun hp=>?_)
 ·refine az ?_
  refine fin1 ?_
  simp only [PtD.Ij,hb,hp]
  rfl
 have hp':=hp
 simp only [Bool.or_eq_false_iff,Bool.not_eq_false',PtD.di,Bool.and_eq_true,decide_eq_true_eq] at hp'
 obtain ⟨hl,hv0,hv1⟩:=hp'
 have hk:c.iy.toNat<(P.gs (ix c.vm)).aN.length:=by omega
 obtain ⟨g,cap',cur,eg,eh,hn,hsz,hset⟩:=(h.vc _ hi).ag2 hk
 rw [ev,List.length_map] at eg
 cases eg
 obtain ⟨r,g1,g2⟩:=pI Y.G hi
 rw [eh] at g1
 refine tJ (⟨C,#[.int .i64 c.kind,.int .i64 c.vm,.int .i64 c.frame,.int .i64 c.mid,.int .i64 c.iy,.int .i64 c.l9],63⟩::⟨g,cur,3⟩::⟨bx,#[Y.pv P,Y.gv P,Y.ov P],158⟩::⟨Y.ob,Y.oc,133⟩::⟨Y.pb,Y.pc,70⟩::⟨Y.gb,Y.gc,129⟩::((Y.G (ix c.vm)).hm++r)) (cnt1 g1) ?_
 refine az ?_
 refine dL 9 ?_
 refine bZ ?_
 refine az ?_
 refine ah _ rfl (fun hp2=>?_) (fun hp2=>?_)
 ·refine az ?_
  refine fin1 ?_
  simp only [PtD.Ij,hb,hp]
  simp at hp2
  simp [hp2,dR]
 refine az ?_
 refine dL 7 ?_
 refine bZ ?_
 refine az ?_
 have aH5:=h.osz
 refine dL 11 ?_
 refine bZ ?_
 refine az ?_
 refine fin1 ?_
 have key:P.Ij cpu c.vm c.iy=.ok ((P.eU (ix c.vm) { P.gs (ix c.vm) with aN:=(P.gs (ix c.vm)).aN.set c.iy.toNat (cpu:Int) }).setSt cpu ⟨c.vm,c.iy⟩):=by
  simp only [PtD.Ij,hb,hp]
  simp only [Bool.not_eq_false'] at hp2
  rw [hp2]
  rfl
 rw [key]
 have yz:I64 (cpu:Int):=by have:=h.sm.on;unfold I64;omega
 refine ⟨rfl,_,h.ac3 hi hk hc (cpu:Int) yz ⟨c.vm,c.iy⟩ ⟨hw.vm,hw.iy⟩ (hset _),?_⟩
 have g3:=g2 (Y.G (ix c.vm)).vv (Y.G (ix c.vm)).mv [⟨g,cur.setIfInBounds c.iy.toNat (.int .i64 cpu),3⟩] (Y.G (ix c.vm)).hm
 rw [ax6]
 simp only [putAt,Eh]
 (exact cnt1 g3)
end
end
section
attribute [local irreducible] Hy St Ops DH dG
def PtD.Kr (P:PtD) (cpu:Nat):PtD:=(P.eU (ix (P.st cpu).vm) { P.gs (ix (P.st cpu).vm) with aN:=(P.gs (ix (P.st cpu).vm)).aN.set (P.st cpu).cpu.toNat (-1) }).setSt cpu ⟨0,0⟩
theorem zy (G:Nat→GB) (i:Nat):oZ G i (G i)=G:=by
 funext j
 by_cases hj:j=i
 ·subst hj;rw [kR]
 ·rw [oJ _ _ _ hj]
section
variable {P : PtD} {Y : Lay} {bx tx : Nat} {w : World}
theorem pW (h:bJ P Y) (hN:dD (Y.hd P bx 158) w) {K:Int} (hK:K=9∨K=10∨K=11) (vm fr mid vc cc cpu:Int):Fn Tryz.prog 113 [.pointer (some ⟨bx,0,none⟩),.int .i64 cpu,pY ⟨K,vm,fr,mid,vc,cc⟩].toArray w ((Y.hd P bx 158).map (·.b)) (dR bx 158 (.error 9)):=by
 rcases hK with rfl | rfl | rfl<;>(
 refine bU _ hN Tryz.func113 ?_
 refine run ?_
 intro C
 refine az ?_
 refine fin1 ?_
 rfl)
theorem al0 (h:bJ P Y) (hm:P.may=true) (hN:dD (Y.hd P bx 158) w) (cpu:Nat) (hc:cpu<P.on.length) (hv:(P.st cpu).vm ≠ 0):Fn Tryz.prog 200 [.pointer (some ⟨bx,0,none⟩),.int .i64 (cpu:Int)].toArray w ((Y.hd P bx 158).map (·.b)) (fun u hn=>u=.tuple #[]∧∃ Y',bJ (P.Kr cpu) Y'∧aC (Y'.hd (P.Kr cpu) bx 158) hn):=by
 have hs:=DL hm hc hv
 obtain ⟨b1,b2,hl,hk0,hk,he⟩:=hs
 have hs0:=h.s0 hc
 have hs1:=h.s1 hc
 have hrow:=h.aH3 hc
 have aH5:=h.osz
 have g4:=h.n.g4
 refine bU _ hN Tryz.func200 ?_
 refine az ?_
 intro S
 obtain ⟨g,cap',cur,eg,eh,hn,hsz,hset⟩:=(h.vc _ (vP ⟨b1,b2⟩)).ag2 hk
 obtain ⟨r,g1,g2⟩:=pI Y.G (vP ⟨b1,b2⟩)
 rw [eh] at g1
 have g0:=g2 (Y.G (ix (P.st cpu).vm)).vv (Y.G (ix (P.st cpu).vm)).mv (Y.G (ix (P.st cpu).vm)).hv (Y.G (ix (P.st cpu).vm)).hm
 rw [show oZ Y.G (ix (P.st cpu).vm) ⟨(Y.G (ix (P.st cpu).vm)).vv,(Y.G (ix (P.st cpu).vm)).mv,(Y.G (ix (P.st cpu).vm)).hv,(Y.G (ix (P.st cpu).vm)).hm⟩=Y.G from zy Y.G _,eh] at g0
 have n3:=h.g3 (vP ⟨b1,b2⟩)
 rw [eg] at n3
 have hz:=h.BG
 have hi:ix (P.st cpu).vm<4:=vP ⟨b1,b2⟩
 refine tJ (⟨S,#[.int .i64 (P.st cpu).vm,.int .i64 (P.st cpu).cpu],133⟩::⟨g,cur,3⟩::⟨bx,#[Y.pv P,Y.gv P,Y.ov P],158⟩::⟨Y.ob,Y.oc,133⟩::⟨Y.pb,Y.pc,70⟩::⟨Y.gb,Y.gc,129⟩::((Y.G (ix (P.st cpu).vm)).hm++r)) (cnt1 g1) ?_
 refine dL 9 ?_
 refine bZ ?_
 refine dM (fun wc hG=>lH (bx:=bx) (tx:=158) h (hG.here' (by (refine bu fun a=>?_;have:=aC.cnt g1 a;have:=aC.cnt g0 a;simp only [bV,aV,gQ] at *;omega))) ⟨b1,b2⟩) ?_
 rw [show ((P.st cpu).vm - 1).toNat=ix (P.st cpu).vm from rfl]
 refine bZ ?_
 refine az ?_
 refine fin0 ⟨rfl,_,h.ac3 hi hk hc (-1) ⟨by decide,by decide⟩ ⟨0,0⟩ ⟨⟨by decide,by decide⟩,⟨by decide,by decide⟩⟩ (hset _),?_⟩
 have g3:=g2 (Y.G (ix (P.st cpu).vm)).vv (Y.G (ix (P.st cpu).vm)).mv [⟨g,cur.setIfInBounds (P.st cpu).cpu.toNat (.int .i64 (-1)),3⟩] (Y.G (ix (P.st cpu).vm)).hm
 rw [PtD.Kr,ax6]
 simp only [putAt,Eh]
 (exact cnt1 g3)
theorem Ae (h:bJ P Y) (hm:P.may=true) (hN:dD (Y.hd P bx 158) w) (vm fr mid vc cc:Int) (cpu:Nat) (hc:cpu<P.on.length) (hv:(P.st cpu).vm ≠ 0):Fn Tryz.prog 112 [.pointer (some ⟨bx,0,none⟩),.int .i64 (cpu:Int),pY ⟨9,vm,fr,mid,vc,cc⟩].toArray w ((Y.hd P bx 158).map (·.b)) (dR bx 158 (.ok (P.Kr cpu))):=by
 have hs0:=h.s0 hc
 refine bU _ hN Tryz.func112 ?_
 refine run ?_
 intro C
 refine az ?_
 refine gB (Y.hd P bx 158) [⟨C,#[.int .i64 9,.int .i64 vm,.int .i64 fr,.int .i64 mid,.int .i64 vc,.int .i64 cc],63⟩] (fun wc hG=>al0 h hm hG.fV cpu hc hv) (fun v hn hR=>?_) bf'
 obtain ⟨rfl,Y',hO,hle⟩:=hR
 refine az ?_
 refine fin1 ?_
 exact ⟨rfl,Y',hO,bu fun a=>by have:=hle.cnt a;simp only [bV,aV,gQ] at *;omega⟩
end
end
section
attribute [local irreducible] Hy St Ops DH dG
namespace PtD
def vS (P:PtD) (n mid was is bad:Int):Except Int PtD:=
 bif !di mid 0 15 then .error 2 else bif !pO (P.gs (ix n)).maps mid then .error 3
 else bif !decide ((P.pg ((P.gs (ix n)).maps.getD (jW (P.gs (ix n)).maps mid) default).gU.toNat).own=n) then .error 7
 else bif !decide ((P.pg ((P.gs (ix n)).maps.getD (jW (P.gs (ix n)).maps mid) default).gU.toNat).wit=was) then .error bad
 else .ok (P.fA ((P.gs (ix n)).maps.getD (jW (P.gs (ix n)).maps mid) default).gU.toNat ⟨n,is⟩)
end PtD
section
variable {P : PtD} {Y : Lay} {bx tx : Nat} {w : World}
theorem bJ.slM (h:bJ P Y) {i:Nat} (hi:i<4) (hh:Here (Y.hd P bx tx) w):aF w (Y.G i).mv 2 ((P.gs i).maps.map dS):=by
 have:=h.sm.vc i bg9
 exact (h.mp i hi).lie (fun e he=>hh e (List.mem_cons_of_mem _ (List.mem_cons_of_mem _ (List.mem_cons_of_mem _ (List.mem_cons_of_mem _ (BA 4 hi (.inr he))))))) be9
theorem Wu (h:bJ P Y) (hm:P.may=true) (hN:dD (Y.hd P bx 158) w) (n mid was is bad:Int) (hn:1≤n∧n≤4) (his:I64 is) (hbad:bad ≠ 0):Fn Tryz.prog 199 [.pointer (some ⟨bx,0,none⟩),.int .i64 n,.int .i64 mid,.int .i64 was,.int .i64 is,.int .i64 bad].toArray w ((Y.hd P bx 158).map (·.b)) (dR bx 158 (P.vS n mid was is bad)):=by
 have hi:=vP hn
 have hn4:=h.g4' hi
 have hz:=h.BG
 have hlen:=(h.sm.vc (ix n) bg9).2
 refine bU _ hN Tryz.func199 ?_
 refine run ?_
 refine ak (fun wc hG=>zx mid wc) ?_
 cases hb:PtD.di mid 0 15
 ·refine az ?_
  refine fin1 ?_
  simp [dR,PtD.vS,hb]
 refine az ?_
 have hb':=hb
 simp only [PtD.di,Bool.and_eq_true,decide_eq_true_eq] at hb'
 refine ak (fun wc hG=>lH (bx:=bx) (tx:=158) h (hG.here' aj) hn) ?_
 rw [show (n - 1).toNat=ix n from rfl]
 refine az ?_
 refine ak (fun wc hG=>Pq (P.gs (ix n)).maps mid Y.gb (ix n * 5) (Y.G (ix n)).mv ?_ (h.slM (bx:=bx) (tx:=158) hi (hG.here' aj)) hb' (fun k hk=>⟨(PtD.qV hm hi hk).1,(PtD.qV hm hi hk).2.1⟩) (PtD.wo hm hi) be5) ?_
 ·have h1:=h.gs.range jk (hG.here ⟨Y.gb,Y.gc,129⟩ be7) (h.wJ hi)
  have:=fH (k:=4) h1 rfl
  rwa [Nat.zero_add] at this
 refine az ?_
 refine ah _ rfl (fun hp=>?_) (fun hp=>?_)
 ·refine az ?_
  refine fin1 ?_
  simp only [PtD.vS,hb,hp]
  rfl
 have ht:=hp
 simp only [Bool.not_eq_false'] at ht
 have ht':=ht
 simp only [PtD.pO,Bool.and_eq_true,decide_eq_true_eq] at ht'
 obtain ⟨hk,hmid⟩:=ht'
 obtain ⟨_,_,f0,f1⟩:=PtD.qV hm hi hk
 have hmap:((P.gs (ix n)).maps.map dS)[PtD.jW (P.gs (ix n)).maps mid]?=some [.int .i64 ((P.gs (ix n)).maps.getD (PtD.jW (P.gs (ix n)).maps mid) default).mid,.int .i64 ((P.gs (ix n)).maps.getD (PtD.jW (P.gs (ix n)).maps mid) default).gU]:=by
  rw [List.getElem?_map,List.getD_eq_getElem?_getD,List.getElem?_eq_getElem hk];rfl
 have hkey:P.vS n mid was is bad=bif !decide ((P.pg ((P.gs (ix n)).maps.getD (PtD.jW (P.gs (ix n)).maps mid) default).gU.toNat).own=n) then .error 7
   else bif !decide ((P.pg ((P.gs (ix n)).maps.getD (PtD.jW (P.gs (ix n)).maps mid) default).gU.toNat).wit=was) then .error bad
   else .ok (P.fA ((P.gs (ix n)).maps.getD (PtD.jW (P.gs (ix n)).maps mid) default).gU.toNat ⟨n,is⟩):=by
  rw [PtD.vS,hb,ht];rfl
 rw [hkey]
 generalize hK:PtD.jW (P.gs (ix n)).maps mid=K at *
 generalize hX:(P.gs (ix n)).maps.getD K default=X at *
 obtain ⟨g,cap,cur,ev,eh,hr⟩:=(h.mp _ hi).row (n:=(P.gs (ix n)).maps.length) be7 be5
 have hc1:=hr.nth (fun c hc=>(lG c hc).1) hmap (k:=1) rfl
 obtain ⟨r,g1,g2⟩:=pI Y.G hi
 rw [eh] at g1
 have g0:=g2 (Y.G (ix n)).vv (Y.G (ix n)).mv (Y.G (ix n)).hv (Y.G (ix n)).hm
 rw [show oZ Y.G (ix n) ⟨(Y.G (ix n)).vv,(Y.G (ix n)).mv,(Y.G (ix n)).hv,(Y.G (ix n)).hm⟩=Y.G from zy Y.G _,eh] at g0
 rw [ev] at hn4
 have hsz:K * 2 + 2≤cur.size:=by have:=hr.size;have:=hr.le;have:(K + 1) * 2≤cap * 2:=Nat.mul_le_mul_right _ be5;omega
 have hp0:=h.p0' f1
 have hp1:=h.p1' f1
 have Wv:=h.Zr
 refine tJ (⟨g,cur,148⟩::⟨bx,#[Y.pv P,Y.gv P,Y.ov P],158⟩::⟨Y.pb,Y.pc,70⟩::⟨Y.gb,Y.gc,129⟩::⟨Y.ob,Y.oc,133⟩::((Y.G (ix n)).hv++r)) (cnt1 g1) ?_
 refine az ?_
 refine dL 14 ?_
 refine bZ ?_
 refine az ?_
 refine dL 15 ?_
 refine bZ ?_
 refine dM (fun wc hG=>fE _ _ wc) ?_
 refine bZ ?_
 refine dM (fun wc hG=>fE _ _ wc) ?_
 refine bZ ?_
 refine run ?_
 intro F
 refine ak (fun wc hG=>mG [_,_] _ (lits hG mh [_,_] rfl rfl be7)) ?_
 cases hA:decide ((P.pg X.gU.toNat).own=n)
 ·rw [show cZ [bif false then 0 else 7,bif decide ((P.pg X.gU.toNat).wit=was) then 0 else bad]=7 from rfl]
  refine az ?_
  refine fin1 ?_
  rfl
 cases hB:decide ((P.pg X.gU.toNat).wit=was)
 ·rw [show cZ [bif true then 0 else 7,bif false then 0 else bad]=bad by simp [cZ,hbad]]
  have hbd2:decide (bad=0)=false:=by simp [hbad]
  refine run ?_
  refine ah _ rfl (fun hp=>by rw [hbd2] at hp;cases hp) (fun _=>?_)
  refine az ?_
  refine fin1 ?_
  rfl
 rw [show cZ [bif true then 0 else 7,bif true then 0 else bad]=0 from rfl]
 refine az ?_
 refine fin1 ?_
 have h1:=h.Ih f1 ⟨n,is⟩ (pc:=Y.pc.setIfInBounds (X.gU.toNat * 2 + 1) (.int .i64 is)) (by
  have:=h.pg.put lZ (su f1) (k:=1) (vs:=[.int .i64 is]) be7
  simp only [decide_eq_true_eq] at hA
  rw [hA] at this
  exact this) ⟨(show I64 n from ⟨by omega,by omega⟩),his⟩
 refine ⟨rfl,_,h1,?_⟩
 rw [hdP]
 (exact cnt1 g0)
theorem Af (h:bJ P Y) (hm:P.may=true) (hN:dD (Y.hd P bx 158) w) (vm fr mid vc cc:Int) (cpu:Nat) (hc:cpu<P.on.length) (hv:(P.st cpu).vm ≠ 0):Fn Tryz.prog 112 [.pointer (some ⟨bx,0,none⟩),.int .i64 (cpu:Int),pY ⟨10,vm,fr,mid,vc,cc⟩].toArray w ((Y.hd P bx 158).map (·.b)) (dR bx 158 (P.vS (P.st cpu).vm mid (-2) (0) 4)):=by
 obtain ⟨b1,b2,_⟩:=DL hm hc hv
 have hs0:=h.s0 hc
 refine bU _ hN Tryz.func112 ?_
 refine run ?_
 intro C
 refine az ?_
 refine gB (Y.hd P bx 158) [⟨C,#[.int .i64 10,.int .i64 vm,.int .i64 fr,.int .i64 mid,.int .i64 vc,.int .i64 cc],63⟩] (fun wc hG=>Wu h hm hG.fV (P.st cpu).vm mid (-2) (0) 4 ⟨b1,b2⟩ ⟨by decide,by decide⟩ be6) (fun v hn hR=>?_) bf'
 refine az ?_
 refine fin1 ?_
 exact hR.le aj
theorem Ag (h:bJ P Y) (hm:P.may=true) (hN:dD (Y.hd P bx 158) w) (vm fr mid vc cc:Int) (cpu:Nat) (hc:cpu<P.on.length) (hv:(P.st cpu).vm ≠ 0):Fn Tryz.prog 112 [.pointer (some ⟨bx,0,none⟩),.int .i64 (cpu:Int),pY ⟨11,vm,fr,mid,vc,cc⟩].toArray w ((Y.hd P bx 158).map (·.b)) (dR bx 158 (P.vS (P.st cpu).vm mid (0) (-2) 6)):=by
 obtain ⟨b1,b2,_⟩:=DL hm hc hv
 have hs0:=h.s0 hc
 refine bU _ hN Tryz.func112 ?_
 refine run ?_
 intro C
 refine az ?_
 refine gB (Y.hd P bx 158) [⟨C,#[.int .i64 11,.int .i64 vm,.int .i64 fr,.int .i64 mid,.int .i64 vc,.int .i64 cc],63⟩] (fun wc hG=>Wu h hm hG.fV (P.st cpu).vm mid (0) (-2) 6 ⟨b1,b2⟩ ⟨by decide,by decide⟩ be6) (fun v hn hR=>?_) bf'
 refine az ?_
 refine fin1 ?_
 exact hR.le aj
end
end
section
attribute [local irreducible] Hy St Ops DH dG
theorem Wx {w:World} {v:Value} {ha:Hp} (xs:List jv) (i:Nat) (x:jv) (vb tv:Nat) (hA:Own 148 2 v ha (xs.map dS)) (hN:dD ha w) (hvb:w.heap[vb]?=some (.cells (dS x).toArray tv (0,0))) (hne:vb ∉ ha.map (·.b)) (hi:i≤xs.length) (hl:xs.length<100000):
  Fn Tryz.prog 325 [v,.int .i64 (i:Int),.slice (some ⟨vb,0,none⟩) 1 1].toArray w (ha.map (·.b)) (fun u hn=>Own 148 2 u hn ((xs.take i++x::xs.drop i).map dS)):=by
 obtain ⟨q,cap,ev⟩:=hA.opened
 rw [List.length_map] at ev
 subst ev
 refine bU _ hN Tryz.func325 ?_
 have hrv:w.rangeAt vb 0 (dS x):=fun j u hj=>by rw [Nat.zero_add,cell_of_block hvb];simpa using hj
 refine az ?_
 refine ja be8 (yV ay rfl rfl rfl be5 be5) ?_
 refine az ?_
 refine ah _ rfl (fun hc=>?_) (fun hc=>?_)
 ·have hin:i=xs.length:=by simp at hc;omega
  subst hin
  refine az ?_
  refine xM (c:=dS x) [] hA (fun v' ha' hA'=>?_) be9 (xu hrv hne) (by rw [List.append_nil])
  refine az ?_
  refine fin1 ?_
  rw [List.append_nil,List.take_length,List.drop_length,List.map_append]
  exact hA'
 have hlt:i<xs.length:=by simp at hc;omega
 obtain ⟨g,cap',cur,ev,rfl,hr⟩:=hA.row (n:=xs.length) be7 be5
 cases ev
 have hsz:=hr.size
 have hcap:=hr.le
 have hmax:=hr.max
 have hall:=hA.1
 have hlen:(xs.map dS).flatten.length=xs.length * 2:=hr.len
 simp only [List.map_cons,List.map_nil,List.mem_singleton] at hne
 have hxs:(xs.map dS).flatten=((xs.take i).map dS).flatten++((xs.drop i).map dS).flatten:=by rw [← List.flatten_append,← List.map_append,List.take_append_drop]
 have hTl:((xs.take i).map dS).flatten.length=i * 2:=by rw [dB (sz:=2) _ (fun c hc=>(lG c hc).1),List.length_map,List.length_take,Nat.min_eq_left be5]
 have hDl:((xs.drop i).map dS).flatten.length=(xs.length - i) * 2:=by rw [dB (sz:=2) _ (fun c hc=>(lG c hc).1),List.length_map,List.length_drop]
 have hA0:cur.toList.take (i * 2)=((xs.take i).map dS).flatten:=by
  rw [← Nat.min_eq_left (show i * 2≤xs.length * 2 by omega),← List.take_take,hr.take,hxs]
  exact List.take_left' hTl
 have hD:(cur.toList.drop (i * 2)).take ((xs.length - i) * 2)=((xs.drop i).map dS).flatten:=by
  have h1:=hr.take
  rw [hxs] at h1
  have h2:(cur.toList.take (xs.length * 2)).drop (i * 2)=((xs.drop i).map dS).flatten:=by rw [h1];exact List.drop_left' hTl
  rw [List.drop_take] at h2
  rw [← h2];congr 1;omega
 have hD1:(((xs.drop i).map dS).flatten).all (·.oneCell')=true:=by
  rw [List.all_flatten,List.all_eq_true]
  exact fun c hc=>(lG c hc).2
 have hlen2:((xs.take i++x::xs.drop i).map dS).length=xs.length + 1:=by
  simp only [List.length_map,List.length_append,List.length_take,List.length_cons,List.length_drop];omega
 have hall':∀ c∈(xs.take i++x::xs.drop i).map dS,c.length=2∧c.all (·.oneCell')=true:=lG
 refine az ?_
 refine ja be8 (as2 ay rfl rfl) ?_
 refine az ?_
 refine ah _ rfl (fun hroom=>?_) (fun hroom=>?_)
 ·have hroom':cap<xs.length + 1:=by simp at hroom;omega
  refine az ?_
  refine ja be8 (mW ay rfl rfl rfl be5 be5 (m':=i) be7 (.inr ⟨_,_,rfl⟩)) ?_
  refine az ?_
  rw [show ((xs.length + 1:Nat):Int) - (i:Int)=((xs.length + 1 - i:Nat):Int) by omega]
  refine Qp (olds:=((xs.take i).map dS).flatten) ay be8 rfl rfl rfl rfl rfl rfl rfl rfl hTl (bQ (m:=i * 2) mh (by rw [List.drop_zero];exact hA0)) be5 be5 be5 be5 (fun g2 cap2 NR hs2 hc2 hm2 ht2=>?_)
  have hts:i + (xs.length + 1 - i)=xs.length + 1:=by omega
  rw [hts] at hc2 ⊢
  refine az ?_
  refine ja be8 (jX ay rfl rfl rfl be5 be5 be5 (o':=i * 2) (m':=xs.length + 1 - i) (c':=cap2 - i) be7 be7 be7) ?_
  refine az ?_
  refine Gv (news:=dS x) (cs:=NR) ay be8 rfl rfl rfl (.refl _) ?_ ?_ rfl ?_ ?_
  ·show 2=_;omega
  ·exact xu hrv bk0
  ·show i * 2 + 2≤_;omega
  refine az ?_
  refine dL 8 ?_
  refine bZ ?_
  refine Ls (jX ay rfl rfl rfl be5 be5 be5 (o':=i * 2 + 2) (m':=xs.length - i) (c':=cap2 - (i + 1)) be5 be5 be5) ?_
  refine bZ ?_
  refine Ls (jX ay rfl rfl rfl be5 be5 be5 (o':=i * 2) (m':=xs.length - i) (c':=cap - i) be5 be5 be5) ?_
  refine bZ ?_
  refine az ?_
  refine Gv (news:=((xs.drop i).map dS).flatten) ay be8 rfl rfl rfl (.refl _) ?_ (bQ (m:=(xs.length - i) * 2) (mt mh) hD) ?_ ?_ ?_
  ·rw [hDl];omega
  ·exact hD1
  ·rw [dP,hDl];omega
  refine aP [⟨g2,putAt (putAt NR (i * 2) (dS x)) (i * 2 + 2) ((xs.drop i).map dS).flatten,148⟩] aj ?_
  refine az ?_
  refine fin1 ?_
  have hfl:((xs.take i++x::xs.drop i).map dS).flatten=((xs.take i).map dS).flatten++dS x++((xs.drop i).map dS).flatten:=by simp
  have hb:=Lu (cs:=NR) (A:=((xs.take i).map dS).flatten) (c:=dS x) (D:=((xs.drop i).map dS).flatten) (by rw [hTl];exact ht2) (by rw [hTl,hDl];show i * 2 + 2 + _≤_;omega)
  rw [hTl,hDl,show (dS x).length=2 from rfl] at hb
  refine ⟨hall',.inr ⟨g2,cap2,_,by rw [hlen2],rfl,?_⟩⟩
  rw [hlen2]
  refine ⟨by rw [hfl,List.length_append,List.length_append,hTl,hDl];show i * 2 + 2 + _=_;omega,hc2,hm2,by rw [dP,dP];exact hs2,?_⟩
  rw [hfl,← hb]
  congr 1;omega
 ·have hroom':xs.length + 1≤cap:=by simp at hroom;omega
  refine az ?_
  refine ja be8 (mW ay rfl rfl rfl be5 be5 (m':=xs.length + 1) be5 (.inr ⟨_,_,rfl⟩)) ?_
  refine az ?_
  refine ja be8 (jX ay rfl rfl rfl be5 be5 be5 (o':=i * 2 + 2) (m':=xs.length - i) (c':=cap - (i + 1)) be5 be5 be5) ?_
  refine az ?_
  refine ja be8 (as1 (v:=.bool false) rfl (fun w' hG=>?_)) ?_
  ·have hg:=hG.here ⟨g,cur,148⟩ be7
   have hv':w'.heap[vb]?=some (.cells (dS x).toArray tv (0,0)):=by
    rw [hG.old vb ?_ bk0]
    ·exact hvb
    ·exact (Array.getElem?_eq_some_iff.1 hvb).1
   have hr:=Lib.run_overlaps_apart (P:=Tryz.prog) w' 121 4 148 (ay.wW (t:=121) (e:=148) (s:=2) rfl).1 2 (fun w=>run_sizeOf (ay.wW (t:=121) (e:=148) (s:=2) rfl).2 w) ⟨vb,0,none⟩ ⟨g,i * 2 + 2,none⟩ 1 1 (xs.length - i) (cap - (i + 1)) bk0 tv 148 2 cur.size (by simp only [World.shape?,hv'];rfl) (by simp only [World.shape?,hg]) be5 (eP hv') (eP hv')
   rw [run_callFunc_extern Tryz.func352 bj7 bj7 bj7 (e:=Extern.SlicesOverlaps.overlaps #[121,121] #[4]) bj7]
   rw [show ([Value.slice (some ⟨vb,0,none⟩) 1 1,.slice (some ⟨g,i * 2 + 2,none⟩) (xs.length - i) (cap - (i + 1))]:List Value).toArray=#[Value.slice (some ⟨vb,0,none⟩) 1 1,.slice (some ⟨g,i * 2 + 2,none⟩) (xs.length - i) (cap - (i + 1))] from rfl,hr]
   rfl
  refine az ?_
  refine dL 8 ?_
  refine bZ ?_
  refine Ls (jX ay rfl rfl rfl be5 be5 be5 (o':=i * 2 + 2) (m':=xs.length - i) (c':=cap - (i + 1)) be5 be5 be5) ?_
  refine bZ ?_
  refine Ls (jX ay rfl rfl rfl be5 be5 be5 (o':=i * 2) (m':=xs.length + 1 - i) (c':=cap - i) be5 be5 be5) ?_
  refine bZ ?_
  refine az ?_
  refine Gv (news:=((xs.drop i).map dS).flatten) ay be8 rfl rfl rfl (.refl _) ?_ (bQ (m:=(xs.length - i) * 2) mh hD) ?_ ?_ ?_
  ·rw [hDl];omega
  ·exact hD1
  ·rw [hDl];omega
  refine az ?_
  refine ja be8 (jX ay rfl rfl rfl be5 be5 be5 (o':=i * 2) (m':=xs.length + 1 - i) (c':=cap - i) be5 be5 be5) ?_
  refine az ?_
  refine Gv (news:=dS x) ay be8 rfl rfl rfl (.refl _) ?_ ?_ rfl ?_ ?_
  ·show 2=_;omega
  ·exact xu hrv bk0
  ·rw [dP];show i * 2 + 2≤_;omega
  refine az ?_
  refine fin1 ?_
  have hfl:((xs.take i++x::xs.drop i).map dS).flatten=((xs.take i).map dS).flatten++dS x++((xs.drop i).map dS).flatten:=by simp
  have hb:=Qq (cs:=cur) (A:=((xs.take i).map dS).flatten) (c:=dS x) (D:=((xs.drop i).map dS).flatten) (by rw [hTl];exact hA0) (by rw [hTl,hDl];show i * 2 + 2 + _≤_;omega)
  rw [hTl,hDl,show (dS x).length=2 from rfl] at hb
  refine ⟨hall',.inr ⟨g,cap,_,by rw [hlen2],rfl,?_⟩⟩
  rw [hlen2]
  refine ⟨by rw [hfl,List.length_append,List.length_append,hTl,hDl];show i * 2 + 2 + _=_;omega,hroom',hmax,by rw [dP,dP];exact hsz,?_⟩
  rw [hfl,← hb]
  congr 1;omega
theorem Kt (x:jv) (f:Int) (B:Nat) (w:World) (hB:w.cell? ⟨B,0,none⟩=some (.int .i64 f)):Fn Tryz.prog 327 ([]++[Value.agg #[.int .i64 x.mid,.int .i64 x.gU]]++[Value.pointer (some ⟨B,0,none⟩)]).toArray w [] (fun u _=>u=.bool (decide (x.gU=f))):=by
 refine enter Tryz.func327 ?_
 refine run ?_
 intro b
 exact fin1 rfl
theorem NS {w:World} {F:Nat} {us:List Value} (p:jv→Bool) (xs:List jv) (v:Value) (h:aF w v 2 (xs.map dS)) (hF:∀ x,∀ w',Aft w w'→Fn Tryz.prog F ([]++[Value.agg #[.int .i64 x.mid,.int .i64 x.gU]]++us).toArray w' [] (fun u _=>u=.bool (p x))) (bH:mem iF F=true:=by rfl):
  Fn Tryz.prog 211 [v,.func (.func F) [].toArray us.toArray].toArray w [] (fun u _=>u=.int .i64 (jb p xs)):=by
 obtain ⟨q,cap,rfl,hne,hle⟩:=h.opened
 refine enter Tryz.func211 ?_
 refine run ?_
 refine aX (σ:=Nat) (fun k=>[(8,.int .i64 (k:Int))]) (fun _=>[]) (fun k=>k≤xs.length∧∀ j,j<k→p (xs.getD j default)=false) (fun k=>xs.length - k) 0 ⟨Nat.zero_le _,fun j hj=>absurd hj be5⟩ ?_
 rintro k m rfl ⟨hk,hno⟩
 refine run ?_
 refine ah _ rfl (fun hc=>?_) (fun hc=>?_)
 ·have hlt:k<xs.length:=by simpa using hc
  obtain ⟨b,o,rfl⟩:=hne be'
  have hr:=h.row hlt
  simp only [dS] at hr
  refine run ?_
  refine jM (fun wc hG=>hF (xs.getD k default) wc ⟨_,hG⟩) (bH:=bH) ?_
  refine run ?_
  refine ah _ rfl (fun hp=>?_) (fun hp=>?_)
  ·refine run ?_
   refine fin1 ?_
   rw [fB hlt hp hno]
  ·refine run ?_
   refine aK (k + 1) ⟨hlt,fun j hj=>?_⟩
   rcases Nat.lt_succ_iff_lt_or_eq.1 hj with hj | rfl
   ·exact hno j hj
   ·exact hp
 ·have hge:k=xs.length:=by simp at hc;omega
  subst hge
  refine run ?_
  refine fin1 ?_
  rw [dF hno]
namespace PtD
def qG (l:List jv) (f:Int):List jv:=l.filter fun m=>!decide (m.gU=f)
theorem RQ {xs:List jv} {f:Int} {j:Nat} (hj:j<xs.length) (h:decide ((xs.getD j default).gU=f)=false):qG (xs.take (j + 1)) f=qG (xs.take j) f++[xs.getD j default]:=by
 rw [iM hj,qG,List.filter_append,qG,List.filter_cons,List.filter_nil,h];simp
theorem FI {xs:List jv} {f:Int} {j:Nat} (hj:j<xs.length) (h:decide ((xs.getD j default).gU=f)=true):qG (xs.take (j + 1)) f=qG (xs.take j) f:=by
 rw [iM hj,qG,List.filter_append,qG,List.filter_cons,List.filter_nil,h];simp
theorem FK {p:Nat→Bool}:∀ n,(∀ j,j<n→p j=false)∨∃ k,k<n∧p k=true∧∀ j,j<k→p j=false:=by
 intro n
 induction n with
 | zero=>exact .inl fun j hj=>absurd hj be5
 | succ n ih=>
  rcases ih with h | ⟨k,hk,h1,h2⟩
  ·cases hn:p n
   ·refine .inl fun j hj=>?_
    rcases Nat.lt_succ_iff_lt_or_eq.1 hj with hj | rfl
    ·exact h j hj
    ·exact hn
   ·exact .inr ⟨n,by omega,hn,h⟩
  ·exact .inr ⟨k,by omega,h1,h2⟩
theorem Ku {xs:List jv} {f:Int} (h:∀ j,j<xs.length→decide ((xs.getD j default).gU=f)=false):qG xs f=xs:=by
 rw [qG,List.filter_eq_self]
 intro x hx
 obtain ⟨j,hj,rfl⟩:=List.mem_iff_getElem.1 hx
 have:=h j hj
 rw [List.getD_eq_getElem?_getD,List.getElem?_eq_getElem hj] at this
 simpa using this
end PtD
theorem Wy {w:World} {v:Value} {ha:Hp} (xs:List jv) (f:Int) (B:Nat) (hA:Own 148 2 v ha (xs.map dS)) (hN:dD ha w) (hB:w.cell? ⟨B,0,none⟩=some (.int .i64 f)) (hne:B ∉ ha.map (·.b)) (hl:xs.length<100000):
  Fn Tryz.prog 326 [v,.func (.func 327) [].toArray [Value.pointer (some ⟨B,0,none⟩)].toArray].toArray w (ha.map (·.b)) (fun u hn=>Own 148 2 u hn ((PtD.qG xs f).map dS)):=by
 obtain ⟨q,cap,ev⟩:=hA.opened
 rw [List.length_map] at ev
 subst ev
 refine bU _ hN Tryz.func326 ?_
 refine az ?_
 refine ak (fun wc hG=>NS (us:=[Value.pointer (some ⟨B,0,none⟩)]) (fun m=>decide (m.gU=f)) xs _ ?_ (fun x w' hw=>Kt x f B w' ?_)) ?_
 ·exact hA.lie (w:=wc) (fun e he=>hG.here e he) be9
 ·obtain ⟨_,hg⟩:=hw
  exact hg.cell (hG.cell hB hne) be7
 rcases PtD.FK (p:=fun j=>decide ((xs.getD j default).gU=f)) xs.length with hno | ⟨k0,hk0,hf0,hall0⟩
 ·rw [dF hno]
  refine az ?_
  refine fin1 ?_
  rw [PtD.Ku hno]
  exact hA
 rw [fB hk0 hf0 hall0]
 obtain ⟨g,cap',cur,ev,rfl,hr⟩:=hA.row (n:=xs.length) be7 be5
 cases ev
 have hmax:=hr.max
 have hcap:=hr.le
 refine az ?_
 refine ah _ rfl (fun hp=>by simp at hp) (fun _=>?_)
 have al1:PtD.qG (xs.take k0) f=xs.take k0:=PtD.Ku fun j hj=>by
  rw [List.length_take] at hj
  have:=hall0 j be5
  rw [List.getD_eq_getElem?_getD,List.getElem?_take,if_pos be5,← List.getD_eq_getElem?_getD]
  exact this
 refine az ?_
 refine aX (σ:=Nat × Nat × Array Value × List jv) (fun s=>[(5,.int .i64 (s.1:Int)),(6,.int .i64 (s.2.1:Int))]) (fun s=>[⟨g,s.2.2.1,148⟩]) (fun s=>s.1<s.2.1∧s.2.1≤xs.length∧Row g cap s.2.2.1 2 xs.length (s.2.2.2.map dS).flatten∧s.2.2.2.length=xs.length∧s.2.2.2.take s.1=PtD.qG (xs.take s.2.1) f∧s.2.2.2.drop s.2.1=xs.drop s.2.1) (fun s=>xs.length - s.2.1) (k0,k0 + 1,cur,xs) ⟨Nat.lt_succ_self _,hk0,hr,rfl,by rw [PtD.FI hk0 hf0,al1],rfl⟩ ?_
 rintro ⟨i,j,cu,ys⟩ m hm ⟨hij,hj,hrow,hyl,htk,hdr⟩
 dsimp only at hm hij hj hrow hyl htk hdr ⊢
 have hys:=hrow.size
 refine az ?_
 refine ah _ rfl (fun hc=>?_) (fun hc=>?_)
 ·have hlt:j<xs.length:=by simp at hc;omega
  have hyj:ys.getD j default=xs.getD j default:=by
   have:=congrArg (fun l=>l[0]?) hdr
   simp only [List.getElem?_drop,Nat.add_zero] at this
   rw [List.getD_eq_getElem?_getD,List.getD_eq_getElem?_getD,this]
  have hat:(ys.map dS)[j]?=some (dS (xs.getD j default)):=by
   rw [← hyj,List.getElem?_map,List.getD_eq_getElem?_getD,List.getElem?_eq_getElem be5];rfl
  have hcut:=hrow.cut (fun c hc=>(lG c hc).1) hat
  simp only [dS] at hcut
  have hil:i<ys.length:=by omega
  have aH6:(ys.map dS)[i]?=some (dS (ys.getD i default)):=by
   rw [List.getElem?_map,List.getD_eq_getElem?_getD,List.getElem?_eq_getElem hil];rfl
  have hput:=hrow.put (fun c hc=>(lG c hc).1) aH6 (k:=0) (vs:=dS (xs.getD j default)) (by simp [dS])
  have ax8:Row g cap (putAt cu (i * 2) (dS (xs.getD j default))) 2 xs.length ((ys.set i (xs.getD j default)).map dS).flatten:=by
   rw [List.map_set];exact hput
  have hjs:j * 2 + 2≤cu.size:=by omega
  refine az ?_
  intro V
  refine jM (us:=[Value.pointer (some ⟨B,0,none⟩)]) (fun wc hG=>Kt (xs.getD j default) f B wc (hG.cell hB hne)) ?_
  refine az ?_
  refine ah _ rfl (fun hp=>?_) (fun hp=>?_)
  ·simp only [Bool.not_eq_true'] at hp
   refine az ?_
   refine aK (i + 1,j + 1,putAt cu (i * 2) (dS (xs.getD j default)),ys.set i (xs.getD j default)) (hm:=by dsimp only;omega) ⟨Nat.succ_lt_succ hij,hlt,ax8,by rw [List.length_set];exact hyl,?_,?_⟩
   ·dsimp only
    rw [PtD.RQ hlt hp,← htk,List.take_set,iM (show i<ys.length from hil)]
    have:(ys.take i).length=i:=by rw [List.length_take];omega
    rw [List.set_append,if_neg be5,this,Nat.sub_self]
    rfl
   ·dsimp only
    rw [List.drop_set_of_lt be5,← List.drop_drop,hdr,List.drop_drop]
  ·simp only [Bool.not_eq_false'] at hp
   refine az ?_
   refine aK (i,j + 1,cu,ys) (hm:=by dsimp only;omega) ⟨Nat.lt_succ_of_lt hij,hlt,hrow,hyl,?_,?_⟩
   ·dsimp only
    rw [PtD.FI hlt hp];exact htk
   ·dsimp only
    rw [← List.drop_drop,hdr,List.drop_drop]
 ·have hge:j=xs.length:=by simp at hc;omega
  subst hge
  rw [List.take_length] at htk
  have hil:i≤ys.length:=by omega
  have htl:(ys.take i).length=i:=by rw [List.length_take];omega
  have ax9:i=(PtD.qG xs f).length:=by rw [← htk,htl]
  refine az ?_
  refine ja be8 (jX ay rfl rfl rfl be5 be5 be5 (o':=i * 2) (m':=xs.length - i) (c':=cap - i) be5 be5 be5) ?_
  refine UH (cs:=cu) ay rfl rfl rfl rfl rfl be5 (.refl _) be5 (fun vs hvs=>?_)
  refine az ?_
  refine ja be8 (mW ay rfl rfl rfl be5 be5 (m':=i) be7 (.inr ⟨_,_,rfl⟩)) ?_
  refine az ?_
  refine fin1 ?_
  refine ⟨lG,.inr ⟨g,cap,_,by rw [List.length_map,← ax9],rfl,?_⟩⟩
  rw [List.length_map,← ax9,← htk]
  refine ⟨by rw [dB (sz:=2) _ (fun c hc=>(lG c hc).1),List.length_map,htl],by omega,hmax,by rw [dP];exact hys,?_⟩
  rw [kG _ _ _ (by rw [hvs];omega),List.append_assoc,List.take_append,List.take_take,Nat.min_self,List.length_take,show i * 2 - min (i * 2) cu.toList.length=0 by simp;omega,List.take_zero,List.append_nil]
  have h1:=hrow.take
  have h2:(ys.map dS).flatten=((ys.take i).map dS).flatten++((ys.drop i).map dS).flatten:=by rw [← List.flatten_append,← List.map_append,List.take_append_drop]
  rw [← Nat.min_eq_left (show i * 2≤xs.length * 2 by omega),← List.take_take,h1,h2]
  exact List.take_left' (by rw [dB (sz:=2) _ (fun c hc=>(lG c hc).1),List.length_map,htl])
end
section
attribute [local irreducible] Hy St Ops DH dG
namespace PtD
def nD (P:PtD) (f:Int):Except Int PtD:=
 bif !di f 16 ((P.pages.length:Int) - 1) then .error 2 else bif decide ((P.pg f.toNat).own<1) || !(P.gs (ix (P.pg f.toNat).own)).dying then .error 7
 else .ok ((P.fA f.toNat ⟨0,-2⟩).eU (ix (P.pg f.toNat).own) { P.gs (ix (P.pg f.toNat).own) with dying:=(P.fA f.toNat ⟨0,-2⟩).owns (P.pg f.toNat).own })
end PtD
section
variable {P : PtD} {Y : Lay} {bx tx : Nat} {w : World}
theorem bJ.al2 (h:bJ P Y) {i:Nat} (hi:i<4) (d:Bool):∃ Y',bJ (P.eU i { P.gs i with dying:=d }) Y'∧Y'.hd (P.eU i { P.gs i with dying:=d }) bx tx=⟨bx,#[Y.pv P,Y.gv P,Y.ov P],tx⟩::⟨Y.pb,Y.pc,70⟩::⟨Y.gb,putAt Y.gc (i * 5 + 1) [.bool d],129⟩::⟨Y.ob,Y.oc,133⟩::wP Y.G 4:=by
 have g4:=h.n.g4
 have hg:=h.vH hi { P.gs i with dying:=d } (Y.G i) (gc:=putAt Y.gc (i * 5 + 1) [.bool d]) (by
  have:=h.gs.put jk (h.wJ hi) (k:=1) (vs:=[.bool d]) be7
  exact this) (h.vc i hi) (h.mp i hi) (h.wf.gs i be5) (h.sm.vc i be5)
 rw [zy] at hg
 refine ⟨_,hg,?_⟩
 rw [hdG]
theorem RS (h:bJ P Y) (hm:P.may=true) (hN:dD (Y.hd P bx 158) w) (c:wQ) (hw:c.Wf):Fn Tryz.prog 204 [.pointer (some ⟨bx,0,none⟩),pY c].toArray w ((Y.hd P bx 158).map (·.b)) (dR bx 158 (P.nD c.frame)):=by
 refine bU _ hN Tryz.func204 ?_
 refine run ?_
 intro C
 refine run ?_
 refine ak (fun wc hG=>uI (bx:=bx) (tx:=158) h (hG.here' aj) c.frame) ?_
 cases hb:PtD.di c.frame 16 ((P.pages.length:Int) - 1)
 ·refine az ?_
  refine fin1 ?_
  simp [dR,PtD.nD,hb]
 refine az ?_
 have hb':=hb
 simp only [PtD.di,Bool.and_eq_true,decide_eq_true_eq] at hb'
 have hk:c.frame.toNat<P.pages.length:=by omega
 have hp0:=h.p0' hk
 have hp1:=h.p1' hk
 have hsm:=h.sm.pg
 have Wv:=h.Zr
 have hok:=PtD.uh.1 hm
 have hwho:=hok.who _ hk
 refine dL 10 ?_
 refine bZ ?_
 have hi2:iH (decide ((P.pg c.frame.toNat).own<1)) false=true→1≤(P.pg c.frame.toNat).own∧(P.pg c.frame.toNat).own≤4:=fun hd=>by
  simp [iH] at hd;omega
 refine aI ?_
 refine dO (fun hg wc hG=>lH (bx:=bx) (tx:=158) h (hG.here' aj) (hi2 hg)) ?_
 rw [show ((P.pg c.frame.toNat).own - 1).toNat=ix (P.pg c.frame.toNat).own from rfl]
 have hi:ix (P.pg c.frame.toNat).own<4:=by unfold ix;omega
 have hz:=h.BG
 have hgd:=h.g1 hi
 refine aI ?_
 refine ah _ rfl (fun hp=>?_) (fun hp=>?_)
 ·refine az ?_
  refine fin1 ?_
  simp only [PtD.nD,hb,hp]
  rfl
 have key:P.nD c.frame=.ok ((P.fA c.frame.toNat ⟨0,-2⟩).eU (ix (P.pg c.frame.toNat).own) { P.gs (ix (P.pg c.frame.toNat).own) with dying:=(P.fA c.frame.toNat ⟨0,-2⟩).owns (P.pg c.frame.toNat).own }):=by
  simp only [PtD.nD,hb,hp]
  rfl
 simp only [Bool.or_eq_false_iff,Bool.not_eq_false'] at hp
 obtain ⟨hp1',hd⟩:=hp
 have hown:=hi2 (by rw [hp1'];rfl)
 have h0:=h.Ih hk ⟨0,-2⟩ (pc:=(Y.pc.setIfInBounds (c.frame.toNat * 2) (.int .i64 0)).setIfInBounds (c.frame.toNat * 2 + 1) (.int .i64 (-2))) (by
  have:=h.pg.put lZ (su hk) (k:=0) (vs:=qI ⟨0,-2⟩) (by simp [qI])
  exact this) ⟨⟨by decide,by decide⟩,⟨by decide,by decide⟩⟩
 have hd0:=hdP Y P c.frame.toNat ⟨0,-2⟩ ((Y.pc.setIfInBounds (c.frame.toNat * 2) (.int .i64 0)).setIfInBounds (c.frame.toNat * 2 + 1) (.int .i64 (-2))) bx 158
 obtain ⟨Y1,eY⟩:∃ Y1,Y1=({ Y with pc:=(Y.pc.setIfInBounds (c.frame.toNat * 2) (.int .i64 0)).setIfInBounds (c.frame.toNat * 2 + 1) (.int .i64 (-2)) }:Lay):=⟨_,rfl⟩
 have e1:Y1.gb=Y.gb:=by rw [eY]
 have e2:Y1.gc=Y.gc:=by rw [eY]
 have e3:Y1.G=Y.G:=by rw [eY]
 rw [← eY] at h0 hd0
 refine az ?_
 refine dL 8 ?_
 refine bZ ?_
 refine dM (fun wc hG=>Hf wc) ?_
 refine bZ ?_
 refine az ?_
 refine ak (fun wc hG=>lH (bx:=bx) (tx:=158) h0 (hG.here' (by rw [hd0];(exact aj))) hown) ?_
 rw [show ((P.pg c.frame.toNat).own - 1).toNat=ix (P.pg c.frame.toNat).own from rfl,e1]
 refine az ?_
 refine ak (fun wc hG=>Nj (h0.J8 (bx:=bx) (tx:=158) (show Here (Lay.hd Y1 _ bx _) wc from hG.here' (by rw [hd0];(exact aj)))) _) ?_
 refine az ?_
 refine fin1 ?_
 rw [key]
 have hdy:=h0.al2 hi ((P.fA c.frame.toNat ⟨0,-2⟩).owns (P.pg c.frame.toNat).own) (bx:=bx) (tx:=158)
 obtain ⟨Y2,h2,hd2⟩:=hdy
 refine ⟨rfl,Y2,h2,CE hd2 ?_⟩
 rw [(List.cons.inj hd0).1,e1,e2,e3,eY]
 simp only [putAt]
 (exact aj)
theorem yA (h:bJ P Y) (hm:P.may=true) (hN:dD (Y.hd P bx 158) w) (cpu vm fr mid vc cc:Int) (hw:wQ.Wf ⟨4,vm,fr,mid,vc,cc⟩):Fn Tryz.prog 113 [.pointer (some ⟨bx,0,none⟩),.int .i64 cpu,pY ⟨4,vm,fr,mid,vc,cc⟩].toArray w ((Y.hd P bx 158).map (·.b)) (dR bx 158 (P.nD fr)):=by
 refine bU _ hN Tryz.func113 ?_
 refine run ?_
 intro C
 refine az ?_
 refine gB (Y.hd P bx 158) [⟨C,#[.int .i64 4,.int .i64 vm,.int .i64 fr,.int .i64 mid,.int .i64 vc,.int .i64 cc],63⟩] (fun wc hG=>RS h hm hG.fV ⟨4,vm,fr,mid,vc,cc⟩ hw) (fun v hn hR=>?_) bf'
 refine az ?_
 refine fin1 ?_
 exact hR.le aj
end
end
section
attribute [local irreducible] Hy St Ops DH dG
section
variable {n : Nat} {w0 : World} {mu : List Nat} {l : Fm} {hp : Hp} {all : Array Oper} {ty : TypeId} {pos : String} {af : Array Edge} {ds : List (Nat × Nat)} {iv : Fm} {i d : Nat} {E : List Nat} {Rs : List (Nat × RT)} {Z : List (Nat × RT) → Prop}
theorem Pv {t len e sz:Nat} {z:Value} {ps:List (Nat × Operand)} {vs:List (Nat × Value)} {zl:List Value} {out:Array Value} {out':List Value} (h:iI Tryz.prog n w0 mu all ds l hp iv Z E ((i,fun v hn=>∃ b,v=.slice (some ⟨b,0,none⟩) len len∧hn=[⟨b,out'.toArray,e⟩])::Rs)) (ho:all[i]?=some ⟨some d,.buildSlice t len ps.toArray,ty,pos,af,none⟩:=by rfl) (ht:lk Tb.sl t=some (e,sz):=by rfl) (hz:lk Tb.zs e=some z:=by rfl) (hzc:z.cells=zl.toArray:=by (first | ((simp only [Value.cells])<;>rfl) | rfl)) (hzs:Nat.beq zl.length sz=true:=by rfl) (hpos:(Nat.blt 0 (len * sz) && Nat.ble (len * sz) 16777216)=true:=by rfl) (hv:Ee (aG ds iv af.toList++l) ps=some vs:=by rfl) (hf:Z8 sz (rep zl len).toArray vs=some out:=by rfl) (hn:out=out'.toArray:=by (first | ((simp only [putAt,rep,Value.cells,Nat.reduceMul,Nat.zero_mul,Nat.one_mul,Nat.mul_one,List.toList_toArray,List.setIfInBounds_toArray,List.set_cons_zero,List.set_cons_succ,List.drop_succ_cons,List.drop_zero,List.take_succ_cons,List.take_zero,List.cons_append,List.nil_append,List.append_nil])<;>rfl) | rfl)):iI Tryz.prog n w0 mu all ds l hp iv Z (i::E) Rs:=
 IY ho (yX ay ht hz hzc hzs hpos hv hf hn) ⟨_,_,0,rfl,rfl⟩ h
end
namespace PtD
def Ik (l:List jv) (mid gU:Int):List jv:=l.take (jW l mid)++⟨mid,gU⟩::l.drop (jW l mid)
theorem WA (l:List jv) (mid gU:Int):(Ik l mid gU).length=l.length + 1:=by
 have:=AV l mid
 simp only [Ik,List.length_append,List.length_take,List.length_cons,List.length_drop];omega
theorem WB {l:List jv} {mid gU:Int} {x:jv} (h:x∈Ik l mid gU):x∈l∨x=⟨mid,gU⟩:=by
 rw [Ik,List.mem_append,List.mem_cons] at h
 rcases h with h | h | h
 ·exact .inl (List.mem_of_mem_take h)
 ·exact .inr h
 ·exact .inl (List.mem_of_mem_drop h)
theorem RU {l:List jv} (hs:Sorted l) (h0:∀ k,k<l.length→0≤(l.getD k default).mid):∀ k,k<l.length→(k:Int)≤(l.getD k default).mid:=by
 intro k
 induction k with
 | zero=>intro h;exact h0 0 h
 | succ k ih=>intro h;have:=ih be5;have:=hs k (k + 1) be5 h;omega
theorem NT {P:PtD} (hm:P.may=true) {i:Nat} (hi:i<4):(P.gs i).maps.length≤16:=by
 rcases Nat.lt_or_ge 16 (P.gs i).maps.length with h | h
 ·have h1:=RU (wo hm hi) (fun k hk=>(qV hm hi hk).1) 16 h
  have h2:=(qV hm hi h).2.1
  omega
 ·exact h
def yB (P:PtD) (vm fr mid:Int) (x:sF):Except Int PtD:=
 bif !P.lives vm then .error 3 else bif !decide ((P.pg fr.toNat).own=0) then .error 7 else bif !(decide ((P.pg fr.toNat).wit=-2) && !pO (P.gs (ix vm)).maps mid) then .error 4
 else .ok ((P.fA fr.toNat x).eU (ix vm) { P.gs (ix vm) with maps:=Ik (P.gs (ix vm)).maps mid fr })
end PtD
theorem Good.DU {w0 w:World} {mu:List Nat} {hi hp:Hp} (h:Good w0 mu (hi++hp) w) {e:o8} (he:e∈hp):e.b ∉ hi.map (·.b):=by
 have hn:=h.nodup
 rw [List.map_append,List.nodup_append] at hn
 intro hm
 exact hn.2.2 _ hm _ (List.mem_map.2 ⟨e,he,rfl⟩) rfl
section
variable {P : PtD} {Y : Lay} {bx tx : Nat} {w : World}
theorem bJ.ax' (h:bJ P Y) {i:Nat} (hi:i<4) (ms:List jv) {mv:Value} {hm:Hp} (hA:Own 148 2 mv hm (ms.map dS)) (hw:∀ x∈ms,I64 x.mid∧I64 x.gU) (hs:ms.length≤1000):∃ Y',bJ (P.eU i { P.gs i with maps:=ms }) Y'∧Y'.hd (P.eU i { P.gs i with maps:=ms }) bx tx=⟨bx,#[Y.pv P,Y.gv P,Y.ov P],tx⟩::⟨Y.pb,Y.pc,70⟩::⟨Y.gb,putAt Y.gc (i * 5 + 4) [mv],129⟩::⟨Y.ob,Y.oc,133⟩::wP (oZ Y.G i ⟨(Y.G i).vv,mv,(Y.G i).hv,hm⟩) 4:=by
 have g4:=h.n.g4
 have hf:=h.wf.gs i be5
 have hsm:=h.sm.vc i be5
 have hg:=h.vH hi { P.gs i with maps:=ms } ⟨(Y.G i).vv,mv,(Y.G i).hv,hm⟩ (gc:=putAt Y.gc (i * 5 + 4) [mv]) (by
  have:=h.gs.put jk (h.wJ hi) (k:=4) (vs:=[mv]) be7
  exact this) (h.vc i hi) hA ⟨hf.1,hf.2.1,hw⟩ ⟨hsm.1,hs⟩
 refine ⟨_,hg,?_⟩
 rw [hdG]
theorem bJ.ay0 (h:bJ P Y) {i:Nat} (hi:i<4) (ms:List jv) {mv:Value} {hm:Hp} (hA:Own 148 2 mv hm (ms.map dS)) (hw:∀ x∈ms,I64 x.mid∧I64 x.gU) (hs:ms.length≤1000):bJ (P.eU i { P.gs i with maps:=ms }) { Y with gc:=putAt Y.gc (i * 5 + 4) [mv],G:=oZ Y.G i ⟨(Y.G i).vv,mv,(Y.G i).hv,hm⟩ }:=by
 have g4:=h.n.g4
 have hf:=h.wf.gs i be5
 have hsm:=h.sm.vc i be5
 exact h.vH hi { P.gs i with maps:=ms } ⟨(Y.G i).vv,mv,(Y.G i).hv,hm⟩ (gc:=putAt Y.gc (i * 5 + 4) [mv]) (by
  have:=h.gs.put jk (h.wJ hi) (k:=4) (vs:=[mv]) be7
  exact this) (h.vc i hi) hA ⟨hf.1,hf.2.1,hw⟩ ⟨hsm.1,hs⟩
theorem Zv (h:bJ P Y) (hN:dD (Y.hd P bx tx) w) {i:Nat} (hi:i<4) (f:Int):Fn Tryz.prog 272 [.pointer (some ⟨Y.gb,i * 5,none⟩),.int .i64 f].toArray w ((Y.hd P bx tx).map (·.b)) (fun u hn=>u=.tuple #[]∧∃ gc G,bJ (P.eU i { P.gs i with maps:=PtD.qG (P.gs i).maps f }) { Y with gc:=gc,G:=G }∧aC (⟨bx,#[Y.pv P,Y.gv P,Y.ov P],tx⟩::⟨Y.pb,Y.pc,70⟩::⟨Y.gb,gc,129⟩::⟨Y.ob,Y.oc,133⟩::wP G 4) hn):=by
 have n4:=h.g4' hi
 have hz:=h.BG
 have g4:=h.n.g4
 have hlen:=(h.sm.vc i be5).2
 refine bU _ hN Tryz.func272 ?_
 refine run ?_
 intro B
 obtain ⟨r,g1,g2⟩:=pI Y.G hi
 refine az ?_
 refine aP ((Y.G i).hm++(⟨B,#[.int .i64 f],3⟩::⟨bx,#[Y.pv P,Y.gv P,Y.ov P],tx⟩::⟨Y.pb,Y.pc,70⟩::⟨Y.gb,Y.gc,129⟩::⟨Y.ob,Y.oc,133⟩::((Y.G i).hv++r))) (cnt1 g1) ?_
 refine gB (Y.G i).hm _ (fun wc hG=>Wy (P.gs i).maps f B (h.mp i hi) hG.fV ?_ (hG.DU mh) be5) (fun mv hm' hA=>?_) (.refl _)
 ·have:=hG.here ⟨B,#[.int .i64 f],3⟩ (List.mem_append_right _ mh)
  rw [cell_of_block this];rfl
 obtain ⟨q,cap,ev⟩:=hA.opened
 subst ev
 refine fJ (_++hm') List.perm_append_comm ?_
 simp only [List.cons_append,List.nil_append]
 refine az ?_
 have h2:=h.ay0 hi (PtD.qG (P.gs i).maps f) hA (fun x hx=>(h.wf.gs i be5).2.2 x ((List.mem_filter.1 hx).1)) (Nat.le_trans (List.length_filter_le _ _) hlen)
 refine fin0 ⟨rfl,_,_,h2,?_⟩
 have g3:=g2 (Y.G i).vv (.slice q (List.map dS (PtD.qG (P.gs i).maps f)).length cap) (Y.G i).hv hm'
 simp only [putAt]
 (exact cnt1 g3)
theorem WC (h:bJ P Y) (hm:P.may=true) (hN:dD (Y.hd P bx 158) w) (c:wQ) (hw:c.Wf) (x:sF) (hx:I64 x.own∧I64 x.wit) (hf:PtD.di c.frame 16 ((P.pages.length:Int) - 1)=true) (hmd:PtD.di c.mid 0 15=true):Fn Tryz.prog 271 [.pointer (some ⟨bx,0,none⟩),pY c,.agg #[.int .i64 x.own,.int .i64 x.wit]].toArray w ((Y.hd P bx 158).map (·.b)) (dR bx 158 (P.yB c.vm c.frame c.mid x)):=by
 simp only [PtD.di,Bool.and_eq_true,decide_eq_true_eq] at hf hmd
 have hk:c.frame.toNat<P.pages.length:=by omega
 have hp0:=h.p0' hk
 have hp1:=h.p1' hk
 have hsm:=h.sm.pg
 have Wv:=h.Zr
 have hz:=h.BG
 have g4:=h.n.g4
 refine bU _ hN Tryz.func271 ?_
 refine run ?_
 intro C
 refine run ?_
 intro D
 refine run ?_
 refine ak (fun wc hG=>Bl (h.J8 (bx:=bx) (tx:=158) (show Here (Lay.hd Y P bx _) wc from hG.here' aj)) _) ?_
 cases hb:P.lives c.vm
 ·refine az ?_
  refine fin1 ?_
  simp [dR,PtD.yB,hb]
 have hb':=hb
 simp only [PtD.lives,PtD.di,Bool.and_eq_true,decide_eq_true_eq] at hb'
 obtain ⟨hv,hl⟩:=hb'
 have hi:ix c.vm<4:=vP hv
 have hlen:=PtD.NT hm hi
 refine az ?_
 refine ak (fun wc hG=>lH (bx:=bx) (tx:=158) h (hG.here' aj) hv) ?_
 rw [show (c.vm - 1).toNat=ix c.vm from rfl]
 refine az ?_
 refine ak (fun wc hG=>Pq (P.gs (ix c.vm)).maps c.mid Y.gb (ix c.vm * 5) (Y.G (ix c.vm)).mv ?_ (h.slM (bx:=bx) (tx:=158) hi (hG.here' aj)) hmd (fun k hk=>⟨(PtD.qV hm hi hk).1,(PtD.qV hm hi hk).2.1⟩) (PtD.wo hm hi) be5) ?_
 ·have h1:=h.gs.range jk (hG.here ⟨Y.gb,Y.gc,129⟩ be7) (h.wJ hi)
  have:=fH (k:=4) h1 rfl
  rwa [Nat.zero_add] at this
 refine az ?_
 refine dL 8 ?_
 refine bZ ?_
 refine az ?_
 refine dL 16 ?_
 refine bP ?_
 refine dM (fun wc hG=>fE _ _ wc) ?_
 refine bP ?_
 refine dM (fun wc hG=>fE _ _ wc) ?_
 refine bP ?_
 refine run ?_
 intro F
 refine ak (fun wc hG=>mG [_,_] _ (lits hG mh [_,_] rfl rfl be7)) ?_
 have hkey:P.yB c.vm c.frame c.mid x=bif !decide ((P.pg c.frame.toNat).own=0) then .error 7 else bif !(decide ((P.pg c.frame.toNat).wit=-2) && !PtD.pO (P.gs (ix c.vm)).maps c.mid) then .error 4
   else .ok ((P.fA c.frame.toNat x).eU (ix c.vm) { P.gs (ix c.vm) with maps:=PtD.Ik (P.gs (ix c.vm)).maps c.mid c.frame }):=by
  rw [PtD.yB,hb];rfl
 rw [hkey]
 cases hA:decide ((P.pg c.frame.toNat).own=0)
 ·rw [show cZ [bif false then 0 else 7,bif (decide ((P.pg c.frame.toNat).wit=-2) && !PtD.pO (P.gs (ix c.vm)).maps c.mid) then 0 else 4]=7 from rfl]
  refine az ?_
  refine fin1 ?_
  rfl
 cases hB:(decide ((P.pg c.frame.toNat).wit=-2) && !PtD.pO (P.gs (ix c.vm)).maps c.mid)
 ·rw [show cZ [bif true then 0 else 7,bif false then 0 else 4]=4 from rfl]
  refine az ?_
  refine fin1 ?_
  rfl
 rw [show cZ [bif true then 0 else 7,bif true then 0 else 4]=0 from rfl]
 have h0:=h.Ih hk x (pc:=(Y.pc.setIfInBounds (c.frame.toNat * 2) (.int .i64 x.own)).setIfInBounds (c.frame.toNat * 2 + 1) (.int .i64 x.wit)) (by
  have:=h.pg.put lZ (su hk) (k:=0) (vs:=qI x) (by simp [qI])
  exact this) hx
 have hd0:=hdP Y P c.frame.toNat x ((Y.pc.setIfInBounds (c.frame.toNat * 2) (.int .i64 x.own)).setIfInBounds (c.frame.toNat * 2 + 1) (.int .i64 x.wit)) bx 158
 obtain ⟨Y1,eY⟩:∃ Y1,Y1=({ Y with pc:=(Y.pc.setIfInBounds (c.frame.toNat * 2) (.int .i64 x.own)).setIfInBounds (c.frame.toNat * 2 + 1) (.int .i64 x.wit) }:Lay):=⟨_,rfl⟩
 rw [← eY] at h0 hd0
 have hn4:=h.g4' hi
 refine az ?_
 refine late 12 0 ?_
 refine yT 12 [0,1,2,3,4,5,6,7,8,9,10] [11] [] ?_
 refine fU ?_
 refine Pv ?_
 refine jS ?_
 rintro _ _ ⟨V,rfl,rfl⟩
 simp only [DN]
 refine iW ?_
 refine qU ?_
 simp only [List.cons_append,List.nil_append]
 obtain ⟨r,g1,g2⟩:=pI Y.G hi
 refine aP ((Y.G (ix c.vm)).hm++(⟨V,#[.int .i64 c.mid,.int .i64 c.frame],148⟩::⟨bx,#[Y.pv P,Y.gv P,Y.ov P],158⟩::⟨Y.pb,(Y.pc.setIfInBounds (c.frame.toNat * 2) (.int .i64 x.own)).setIfInBounds (c.frame.toNat * 2 + 1) (.int .i64 x.wit),70⟩::⟨Y.gb,Y.gc,129⟩::⟨Y.ob,Y.oc,133⟩::((Y.G (ix c.vm)).hv++r))) (cnt1 g1) ?_
 refine gB (Y.G (ix c.vm)).hm _ (fun wc hG=>Wx (P.gs (ix c.vm)).maps (PtD.jW (P.gs (ix c.vm)).maps c.mid) ⟨c.mid,c.frame⟩ V _ (h.mp _ hi) hG.fV (hG.here ⟨V,#[.int .i64 c.mid,.int .i64 c.frame],148⟩ (List.mem_append_right _ mh)) (hG.DU mh) (PtD.AV _ _) be5) (fun mv hm' hI=>?_) (.refl _)
 have hI':Own 148 2 mv hm' ((PtD.Ik (P.gs (ix c.vm)).maps c.mid c.frame).map dS):=hI
 obtain ⟨q,cap,ev⟩:=hI'.opened
 subst ev
 refine fJ (_++hm') List.perm_append_comm ?_
 simp only [List.cons_append,List.nil_append]
 refine az ?_
 refine fin1 ?_
 have hwf:=(h.wf.gs _ (show ix c.vm<P.aA.length by omega)).2.2
 obtain ⟨Y2,h2,hd2⟩:=h0.ax' hi (PtD.Ik (P.gs (ix c.vm)).maps c.mid c.frame) hI' (fun y hy=>by
  rcases PtD.WB hy with h | rfl
  ·exact hwf y h
  ·exact ⟨hw.mid,hw.frame⟩) (by rw [PtD.WA];omega) (bx:=bx) (tx:=158)
 refine ⟨rfl,Y2,h2,CE hd2 ?_⟩
 have g3:=g2 (Y.G (ix c.vm)).vv (.slice q (List.map dS (PtD.Ik (P.gs (ix c.vm)).maps c.mid c.frame)).length cap) (Y.G (ix c.vm)).hv hm'
 rw [(List.cons.inj hd0).1,eY]
 simp only [putAt]
 (exact cnt1 g3)
end
end
section
attribute [local irreducible] Hy St Ops DH dG
namespace PtD
def rO (P:PtD) (vm fr mid:Int):Except Int PtD:=
 bif !di fr 16 ((P.pages.length:Int) - 1) then .error 2 else
 bif decide (vm=0) then (bif !decide ((P.pg fr.toNat).own=0) then .error 7 else bif !decide ((P.pg fr.toNat).wit=-2) then .error 4 else .ok (P.fA fr.toNat ⟨0,-1⟩))
 else bif !di vm 1 4 || !di mid 0 15 then .error 2 else P.yB vm fr mid ⟨0,vm⟩
def oK (P:PtD) (vm fr mid:Int):Except Int PtD:=
 bif !di vm 1 4 || !di fr 16 ((P.pages.length:Int) - 1) || !di mid 0 15 then .error 2 else P.yB vm fr mid ⟨vm,-2⟩
def lI (P:PtD) (fr:Int):Except Int PtD:=
 bif !di fr 16 ((P.pages.length:Int) - 1) then .error 2 else bif !decide ((P.pg fr.toNat).own=0) then .error 7 else bif decide ((P.pg fr.toNat).wit=-2) then .error 6
 else bif decide (0<(P.pg fr.toNat).wit) then .ok ((P.eU (ix (P.pg fr.toNat).wit) { P.gs (ix (P.pg fr.toNat).wit) with maps:=qG (P.gs (ix (P.pg fr.toNat).wit)).maps fr }).fA fr.toNat ⟨0,-2⟩)
 else .ok (P.fA fr.toNat ⟨0,-2⟩)
end PtD
section
variable {P : PtD} {Y : Lay} {bx tx : Nat} {w : World}
theorem Zw (h:bJ P Y) (hm:P.may=true) (hN:dD (Y.hd P bx 158) w) (c:wQ) (hw:c.Wf):Fn Tryz.prog 201 [.pointer (some ⟨bx,0,none⟩),pY c].toArray w ((Y.hd P bx 158).map (·.b)) (dR bx 158 (P.rO c.vm c.frame c.mid)):=by
 refine bU _ hN Tryz.func201 ?_
 refine run ?_
 intro C
 refine run ?_
 refine ak (fun wc hG=>uI (bx:=bx) (tx:=158) h (hG.here' aj) c.frame) ?_
 cases hb:PtD.di c.frame 16 ((P.pages.length:Int) - 1)
 ·refine az ?_
  refine fin1 ?_
  simp [dR,PtD.rO,hb]
 have hb':=hb
 simp only [PtD.di,Bool.and_eq_true,decide_eq_true_eq] at hb'
 have hk:c.frame.toNat<P.pages.length:=by omega
 have hp0:=h.p0' hk
 have hp1:=h.p1' hk
 have hsm:=h.sm.pg
 have Wv:=h.Zr
 refine az ?_
 refine ah _ rfl (fun hp=>?_) (fun hp=>?_)
 ·have hkey:P.rO c.vm c.frame c.mid=(bif !decide ((P.pg c.frame.toNat).own=0) then .error 7 else bif !decide ((P.pg c.frame.toNat).wit=-2) then .error 4 else .ok (P.fA c.frame.toNat ⟨0,-1⟩)):=by
   rw [PtD.rO,hb,hp];rfl
  rw [hkey]
  refine az ?_
  refine dL 8 ?_
  refine bZ ?_
  refine az ?_
  refine dL 12 ?_
  refine bZ ?_
  refine dM (fun wc hG=>fE _ _ wc) ?_
  refine bZ ?_
  refine dM (fun wc hG=>fE _ _ wc) ?_
  refine bZ ?_
  refine run ?_
  intro F
  refine ak (fun wc hG=>mG [_,_] _ (lits hG mh [_,_] rfl rfl be7)) ?_
  cases hA:decide ((P.pg c.frame.toNat).own=0)
  ·rw [show cZ [bif false then 0 else 7,bif decide ((P.pg c.frame.toNat).wit=-2) then 0 else 4]=7 from rfl]
   refine az ?_
   refine fin1 ?_
   rfl
  cases hB:decide ((P.pg c.frame.toNat).wit=-2)
  ·rw [show cZ [bif true then 0 else 7,bif false then 0 else 4]=4 from rfl]
   refine az ?_
   refine fin1 ?_
   rfl
  rw [show cZ [bif true then 0 else 7,bif true then 0 else 4]=0 from rfl]
  refine az ?_
  refine fin1 ?_
  have h1:=h.Ih hk ⟨0,-1⟩ (pc:=Y.pc.setIfInBounds (c.frame.toNat * 2 + 1) (.int .i64 (-1))) (by
   have:=h.pg.put lZ (su hk) (k:=1) (vs:=[.int .i64 (-1)]) be7
   simp only [decide_eq_true_eq] at hA
   rw [hA] at this
   exact this) ⟨⟨by decide,by decide⟩,⟨by decide,by decide⟩⟩
  refine ⟨rfl,_,h1,?_⟩
  rw [hdP]
  (exact aj)
 ·have hkey:P.rO c.vm c.frame c.mid=(bif !PtD.di c.vm 1 4 || !PtD.di c.mid 0 15 then .error 2 else P.yB c.vm c.frame c.mid ⟨0,c.vm⟩):=by
   rw [PtD.rO,hb,hp];rfl
  rw [hkey]
  refine az ?_
  refine dL 6 ?_
  refine bZ ?_
  refine dM (fun wc hG=>o6 _ wc) ?_
  refine bZ ?_
  refine dM (fun wc hG=>zx _ wc) ?_
  refine bZ ?_
  refine run ?_
  intro F
  refine ak (fun wc hG=>mG [_,_] _ (lits hG mh [_,_] rfl rfl be7)) ?_
  cases hA:PtD.di c.vm 1 4
  ·rw [show cZ [bif false then 0 else 2,bif PtD.di c.mid 0 15 then 0 else 2]=2 from rfl]
   refine az ?_
   refine fin1 ?_
   rfl
  cases hB:PtD.di c.mid 0 15
  ·rw [show cZ [bif true then 0 else 2,bif false then 0 else 2]=2 from rfl]
   refine az ?_
   refine fin1 ?_
   rfl
  rw [show cZ [bif true then 0 else 2,bif true then 0 else 2]=0 from rfl]
  have hA':=hA
  simp only [PtD.di,Bool.and_eq_true,decide_eq_true_eq] at hA'
  refine az ?_
  refine aP (Y.hd P bx 158++[⟨C,#[.int .i64 c.kind,.int .i64 c.vm,.int .i64 c.frame,.int .i64 c.mid,.int .i64 c.iy,.int .i64 c.l9],63⟩]) aj ?_
  refine gB (Y.hd P bx 158) [⟨C,#[.int .i64 c.kind,.int .i64 c.vm,.int .i64 c.frame,.int .i64 c.mid,.int .i64 c.iy,.int .i64 c.l9],63⟩] (fun wc hG=>WC h hm hG.fV c hw ⟨0,c.vm⟩ ⟨(show I64 0 from ⟨by decide,by decide⟩),hw.vm⟩ hb hB) (fun v hn hR=>?_) (.refl _)
  refine az ?_
  refine fin1 ?_
  exact hR.le aj
theorem WE (h:bJ P Y) (hm:P.may=true) (hN:dD (Y.hd P bx 158) w) (c:wQ) (hw:c.Wf):Fn Tryz.prog 203 [.pointer (some ⟨bx,0,none⟩),pY c].toArray w ((Y.hd P bx 158).map (·.b)) (dR bx 158 (P.oK c.vm c.frame c.mid)):=by
 refine bU _ hN Tryz.func203 ?_
 refine run ?_
 intro C
 refine run ?_
 refine dL 10 ?_
 refine bZ ?_
 refine dM (fun wc hG=>o6 _ wc) ?_
 refine bZ ?_
 refine dM (fun wc hG=>uI (bx:=bx) (tx:=158) h (hG.here' aj) c.frame) ?_
 refine bZ ?_
 refine dM (fun wc hG=>zx _ wc) ?_
 refine bZ ?_
 refine run ?_
 intro F
 refine ak (fun wc hG=>mG [_,_,_] _ (lits hG mh [_,_,_] rfl rfl be7)) ?_
 cases hA:PtD.di c.vm 1 4
 ·rw [show cZ [bif false then 0 else 2,bif PtD.di c.frame 16 ((P.pages.length:Int) - 1) then 0 else 2,bif PtD.di c.mid 0 15 then 0 else 2]=2 from rfl]
  refine az ?_
  refine fin1 ?_
  simp [dR,PtD.oK,hA]
 cases hb:PtD.di c.frame 16 ((P.pages.length:Int) - 1)
 ·rw [show cZ [bif true then 0 else 2,bif false then 0 else 2,bif PtD.di c.mid 0 15 then 0 else 2]=2 from rfl]
  refine az ?_
  refine fin1 ?_
  simp [dR,PtD.oK,hA,hb]
 cases hB:PtD.di c.mid 0 15
 ·rw [show cZ [bif true then 0 else 2,bif true then 0 else 2,bif false then 0 else 2]=2 from rfl]
  refine az ?_
  refine fin1 ?_
  simp [dR,PtD.oK,hA,hb,hB]
 rw [show cZ [bif true then 0 else 2,bif true then 0 else 2,bif true then 0 else 2]=0 from rfl]
 have hkey:P.oK c.vm c.frame c.mid=P.yB c.vm c.frame c.mid ⟨c.vm,-2⟩:=by rw [PtD.oK,hA,hb,hB];rfl
 rw [hkey]
 refine az ?_
 refine aP (Y.hd P bx 158++[⟨C,#[.int .i64 c.kind,.int .i64 c.vm,.int .i64 c.frame,.int .i64 c.mid,.int .i64 c.iy,.int .i64 c.l9],63⟩]) aj ?_
 refine gB (Y.hd P bx 158) [⟨C,#[.int .i64 c.kind,.int .i64 c.vm,.int .i64 c.frame,.int .i64 c.mid,.int .i64 c.iy,.int .i64 c.l9],63⟩] (fun wc hG=>WC h hm hG.fV c hw ⟨c.vm,-2⟩ ⟨hw.vm,(show I64 (-2) from ⟨by decide,by decide⟩)⟩ hb hB) (fun v hn hR=>?_) (.refl _)
 refine az ?_
 refine fin1 ?_
 exact hR.le aj
theorem RV (h:bJ P Y) (hm:P.may=true) (hN:dD (Y.hd P bx 158) w) (c:wQ) (hw:c.Wf):Fn Tryz.prog 202 [.pointer (some ⟨bx,0,none⟩),pY c].toArray w ((Y.hd P bx 158).map (·.b)) (dR bx 158 (P.lI c.frame)):=by
 refine bU _ hN Tryz.func202 ?_
 refine run ?_
 intro C
 refine run ?_
 refine ak (fun wc hG=>uI (bx:=bx) (tx:=158) h (hG.here' aj) c.frame) ?_
 cases hb:PtD.di c.frame 16 ((P.pages.length:Int) - 1)
 ·refine az ?_
  refine fin1 ?_
  simp [dR,PtD.lI,hb]
 have hb':=hb
 simp only [PtD.di,Bool.and_eq_true,decide_eq_true_eq] at hb'
 have hk:c.frame.toNat<P.pages.length:=by omega
 have hp0:=h.p0' hk
 have hp1:=h.p1' hk
 have hsm:=h.sm.pg
 have Wv:=h.Zr
 refine az ?_
 refine dL 8 ?_
 refine bZ ?_
 refine az ?_
 refine dL 12 ?_
 refine bZ ?_
 refine dM (fun wc hG=>fE _ _ wc) ?_
 refine bZ ?_
 refine dM (fun wc hG=>fE _ _ wc) ?_
 refine bZ ?_
 refine run ?_
 intro F
 refine ak (fun wc hG=>mG [_,_] _ (lits hG mh [_,_] rfl rfl be7)) ?_
 cases hA:decide ((P.pg c.frame.toNat).own=0)
 ·rw [show cZ [bif false then 0 else 7,bif !decide ((P.pg c.frame.toNat).wit=-2) then 0 else 6]=7 from rfl]
  refine az ?_
  refine fin1 ?_
  simp [dR,PtD.lI,hb,hA]
 cases hB:!decide ((P.pg c.frame.toNat).wit=-2)
 ·rw [show cZ [bif true then 0 else 7,bif false then 0 else 6]=6 from rfl]
  refine az ?_
  refine fin1 ?_
  have hB':decide ((P.pg c.frame.toNat).wit=-2)=true:=by simpa using hB
  simp only [PtD.lI,hb,hA,hB']
  rfl
 rw [show cZ [bif true then 0 else 7,bif true then 0 else 6]=0 from rfl]
 have hB:decide ((P.pg c.frame.toNat).wit=-2)=false:=by simpa using hB
 have hkey:P.lI c.frame=bif decide (0<(P.pg c.frame.toNat).wit) then .ok ((P.eU (ix (P.pg c.frame.toNat).wit) { P.gs (ix (P.pg c.frame.toNat).wit) with maps:=PtD.qG (P.gs (ix (P.pg c.frame.toNat).wit)).maps c.frame }).fA c.frame.toNat ⟨0,-2⟩) else .ok (P.fA c.frame.toNat ⟨0,-2⟩):=by
  rw [PtD.lI,hb,hA,hB];rfl
 rw [hkey]
 have hok:=PtD.uh.1 hm
 have hA':=hA
 simp only [decide_eq_true_eq] at hA'
 have ay5:=hok.host _ hk hA'
 refine az ?_
 refine ah _ rfl (fun hp=>?_) (fun hp=>?_)
 ·have hp':=hp
  simp only [decide_eq_true_eq] at hp'
  have hv:1≤(P.pg c.frame.toNat).wit∧(P.pg c.frame.toNat).wit≤4:=by
   rcases ay5 with h1 | h1 | h1
   ·omega
   ·omega
   ·simp only [PtD.lives,PtD.di,Bool.and_eq_true,decide_eq_true_eq] at h1;exact h1.1
  have hi:=vP hv
  rw [hp]
  refine az ?_
  refine dL 8 ?_
  refine bZ ?_
  refine dM (fun wc hG=>lH (bx:=bx) (tx:=158) h (hG.here' aj) hv) ?_
  rw [show ((P.pg c.frame.toNat).wit - 1).toNat=ix (P.pg c.frame.toNat).wit from rfl]
  refine bZ ?_
  refine az ?_
  refine aP (Y.hd P bx 158++[⟨C,#[.int .i64 c.kind,.int .i64 c.vm,.int .i64 c.frame,.int .i64 c.mid,.int .i64 c.iy,.int .i64 c.l9],63⟩]) aj ?_
  refine gB (Y.hd P bx 158) [⟨C,#[.int .i64 c.kind,.int .i64 c.vm,.int .i64 c.frame,.int .i64 c.mid,.int .i64 c.iy,.int .i64 c.l9],63⟩] (fun wc hG=>Zv h hG.fV hi c.frame) (fun v hn hR=>?_) (.refl _)
  obtain ⟨rfl,gc,G,h2,hle⟩:=hR
  refine aP (⟨bx,#[Y.pv P,Y.gv P,Y.ov P],158⟩::⟨Y.pb,Y.pc,70⟩::⟨Y.gb,gc,129⟩::⟨Y.ob,Y.oc,133⟩::wP G 4) (cnt1 hle) ?_
  refine az ?_
  refine ak (fun wc hG=>Hf wc) ?_
  refine az ?_
  refine fin1 ?_
  have h3:=h2.Ih (f:=c.frame.toNat) hk ⟨0,-2⟩ (pc:=(Y.pc.setIfInBounds (c.frame.toNat * 2) (.int .i64 0)).setIfInBounds (c.frame.toNat * 2 + 1) (.int .i64 (-2))) (by
   have:=h.pg.put lZ (su hk) (k:=0) (vs:=qI ⟨0,-2⟩) (by simp [qI])
   exact this) ⟨⟨by decide,by decide⟩,⟨by decide,by decide⟩⟩
  refine ⟨rfl,_,h3,CE (hdP _ _ _ _ _ _ _) ?_⟩
  rw [(List.cons.inj (hdG Y P (ix (P.pg c.frame.toNat).wit) { P.gs (ix (P.pg c.frame.toNat).wit) with maps:=PtD.qG (P.gs (ix (P.pg c.frame.toNat).wit)).maps c.frame } gc G bx 158)).1]
  (exact aj)
 ·rw [hp]
  refine az ?_
  refine ak (fun wc hG=>Hf wc) ?_
  refine az ?_
  refine fin1 ?_
  have h1:=h.Ih hk ⟨0,-2⟩ (pc:=(Y.pc.setIfInBounds (c.frame.toNat * 2) (.int .i64 0)).setIfInBounds (c.frame.toNat * 2 + 1) (.int .i64 (-2))) (by
   have:=h.pg.put lZ (su hk) (k:=0) (vs:=qI ⟨0,-2⟩) (by simp [qI])
   exact this) ⟨⟨by decide,by decide⟩,⟨by decide,by decide⟩⟩
  refine ⟨rfl,_,h1,?_⟩
  rw [hdP]
  (exact aj)
end
end
section
attribute [local irreducible] Hy St Ops DH dG
namespace PtD
def claim (P:PtD) (f:Nat):Nat→PtD
 | 0=>P
 | k + 1=>(claim P f k).fA (f + k) ⟨-1,-2⟩
theorem RX (P:PtD) (f k:Nat):(P.claim f k).pages.length=P.pages.length:=by
 induction k with
 | zero=>rfl
 | succ k ih=>rw [claim,fA];simpa using ih
theorem WG (P:PtD) (f k:Nat):(P.claim f k).aA=P.aA:=by
 induction k with
 | zero=>rfl
 | succ k ih=>rw [claim,fA];exact ih
theorem WH (P:PtD) (f k:Nat):(P.claim f k).on=P.on:=by
 induction k with
 | zero=>rfl
 | succ k ih=>rw [claim,fA];exact ih
abbrev idle (g:Yr):Bool:=!g.live && !g.dying
def five (P:PtD) (f:Nat):List sF:=(P.pages.drop f).take 5
def pJ (P:PtD) (fr:Int):Except Int PtD:=
 bif !di fr 16 ((P.pages.length:Int) - 1) || decide ((P.pages.length:Int) - 5<fr) then .error 2
 else bif (P.five fr.toNat).any (fun x=>!decide (x.own=0)) then .error 7 else bif (P.five fr.toNat).any (fun x=>!decide (x.wit=-2)) then .error 4
 else bif !decide (0≤jb idle P.aA) then .error 5
 else .ok ((P.claim fr.toNat 5).eU (jb idle P.aA).toNat ⟨true,false,fr,[],[]⟩)
end PtD
theorem Zx {α:Type} [Inhabited α] (p:α→Bool) (l:List α):jb p l<l.length∨l.length=0:=by
 rcases PtD.FK (p:=fun j=>p (l.getD j default)) l.length with h | ⟨k,hk,h1,h2⟩
 ·rw [dF h];omega
 ·rw [fB hk h1 h2];omega
theorem RY (l d:Bool) (fi:Int) (vv mv:Value) (w:World):Fn Tryz.prog 275 ([]++[Value.agg #[.bool l,.bool d,.int .i64 fi,vv,mv]]++[]).toArray w [] (fun u _=>u=.bool (!l && !d)):=by
 refine enter Tryz.func275 ?_
 refine run ?_
 intro b
 refine aI ?_
 exact fin1 rfl
theorem RZ (x:sF) (w:World):Fn Tryz.prog 277 ([]++[Value.agg #[.int .i64 x.own,.int .i64 x.wit]]++[]).toArray w [] (fun u _=>u=.bool (!decide (x.own=0))):=by
 refine enter Tryz.func277 ?_
 refine run ?_
 intro b
 refine run ?_
 exact fin1 rfl
theorem Si (x:sF) (w:World):Fn Tryz.prog 278 ([]++[Value.agg #[.int .i64 x.own,.int .i64 x.wit]]++[]).toArray w [] (fun u _=>u=.bool (!decide (x.wit=-2))):=by
 refine enter Tryz.func278 ?_
 refine run ?_
 intro b
 refine run ?_
 exact fin1 rfl
section
variable {P : PtD} {Y : Lay} {bx tx : Nat} {w : World}
theorem Il (h:bJ P Y) (hh:Here (Y.hd P bx tx) w):Fn Tryz.prog 274 [Y.gv P,.func (.func 275) [].toArray [].toArray].toArray w [] (fun u _=>u=.int .i64 (jb PtD.idle P.aA)):=by
 have g4:=h.n.g4
 have hb:=hh ⟨Y.gb,Y.gc,129⟩ be7
 refine enter Tryz.func274 ?_
 refine run ?_
 refine aX (σ:=Nat) (fun k=>[(8,.int .i64 (k:Int))]) (fun _=>[]) (fun k=>k≤P.aA.length∧∀ j,j<k→PtD.idle (P.aA.getD j default)=false) (fun k=>P.aA.length - k) 0 ⟨Nat.zero_le _,fun j hj=>absurd hj be5⟩ ?_
 rintro k m rfl ⟨hk,hno⟩
 refine run ?_
 refine ah _ rfl (fun hc=>?_) (fun hc=>?_)
 ·have hlt:k<P.aA.length:=by simp at hc;omega
  have hr:=h.gs.range jk hb (h.wJ (i:=k) be5)
  rw [Nat.zero_add] at hr
  refine run ?_
  refine jM (fun wc hG=>RY (P.gs k).live (P.gs k).dying (P.gs k).first (Y.G k).vv (Y.G k).mv wc) ?_
  refine run ?_
  refine ah _ rfl (fun hp=>?_) (fun hp=>?_)
  ·refine run ?_
   refine fin1 ?_
   rw [fB (p:=PtD.idle) hlt hp hno]
  ·refine run ?_
   refine aK (k + 1) ⟨hlt,fun j hj=>?_⟩
   rcases Nat.lt_succ_iff_lt_or_eq.1 hj with hj | rfl
   ·exact hno j hj
   ·exact hp
 ·have hge:k=P.aA.length:=by simp at hc;omega
  subst hge
  refine run ?_
  refine fin1 ?_
  rw [dF hno]
theorem bJ.slF (h:bJ P Y) (hh:Here (Y.hd P bx tx) w) (f:Nat) (hf:f + 5≤P.pages.length) (cap:Nat):aF w (.slice (some ⟨Y.pb,f * 2,none⟩) 5 cap) 2 ((P.five f).map qI):=by
 have hl:((P.five f).map qI).length=5:=by simp [PtD.five];omega
 have hb:=hh ⟨Y.pb,Y.pc,70⟩ be7
 refine ⟨⟨_,cap,by rw [hl],fun _=>⟨Y.pb,f * 2,rfl,fun i c hc=>?_⟩⟩,by rw [hl];omega⟩
 have hi:i<5:=by rw [← hl];exact (List.getElem?_eq_some_iff.1 hc).1
 rw [List.getElem?_map,PtD.five,List.getElem?_take,if_pos hi,List.getElem?_drop,← List.getElem?_map] at hc
 have:=h.pg.range lZ hb hc
 rwa [Nat.zero_add,Nat.add_mul] at this
theorem WI (h:bJ P Y) (hm:P.may=true) (hN:dD (Y.hd P bx 158) w) (c:wQ) (hw:c.Wf):Fn Tryz.prog 205 [.pointer (some ⟨bx,0,none⟩),pY c].toArray w ((Y.hd P bx 158).map (·.b)) (dR bx 158 (P.pJ c.frame)):=by
 have hp1:=h.n.p1
 refine bU _ hN Tryz.func205 ?_
 refine run ?_
 intro C
 refine run ?_
 refine kC ?_
 refine bP ?_
 refine dM (fun wc hG=>uI (bx:=bx) (tx:=158) h (hG.here' aj) c.frame) ?_
 refine bP ?_
 refine az ?_
 cases hb:PtD.di c.frame 16 ((P.pages.length:Int) - 1)
 ·refine ah _ rfl (fun _=>?_) (fun hp=>by simp at hp)
  refine az ?_
  refine fin1 ?_
  simp [dR,PtD.pJ,hb]
 cases hb5:decide ((P.pages.length:Int) - 5<c.frame)
 rotate_left
 ·refine az ?_
  refine fin1 ?_
  simp only [PtD.pJ,hb,hb5]
  rfl
 have hb':=hb
 simp only [PtD.di,Bool.and_eq_true,decide_eq_true_eq] at hb'
 have aH7:=hb5
 simp only [decide_eq_false_iff_not] at aH7
 have hf5:c.frame.toNat + 5≤P.pages.length:=by omega
 have aP6:=h.pg.le
 have hsm:=h.sm.pg
 have aV6:=h.pg.max
 have hkey:P.pJ c.frame=bif (P.five c.frame.toNat).any (fun x=>!decide (x.own=0)) then .error 7 else bif (P.five c.frame.toNat).any (fun x=>!decide (x.wit=-2)) then .error 4
   else bif !decide (0≤jb PtD.idle P.aA) then .error 5
   else .ok ((P.claim c.frame.toNat 5).eU (jb PtD.idle P.aA).toNat ⟨true,false,c.frame,[],[]⟩):=by
  rw [PtD.pJ,hb,hb5];rfl
 rw [hkey]
 refine az ?_
 refine dL 11 ?_
 refine bZ ?_
 refine Ls (uX ay rfl rfl rfl rfl be5 be5 be5 be5 (o':=c.frame.toNat * 2) (m':=5) (c':=Y.ED - c.frame.toNat) be5 be5 rfl) ?_
 refine bZ ?_
 refine az ?_
 refine ak (fun wc hG=>Il (bx:=bx) (tx:=158) h (hG.here' aj)) ?_
 refine az ?_
 refine ak (fun wc hG=>oW (us:=[]) (fun x=>!decide (x.own=0)) (P.five c.frame.toNat) _ (h.slF (bx:=bx) (tx:=158) (hG.here' aj) c.frame.toNat hf5 _) (fun x w' ha=>RZ x w')) ?_
 refine az ?_
 refine ak (fun wc hG=>oW (us:=[]) (fun x=>!decide (x.wit=-2)) (P.five c.frame.toNat) _ (h.slF (bx:=bx) (tx:=158) (hG.here' aj) c.frame.toNat hf5 _) (fun x w' ha=>Si x w')) ?_
 refine az ?_
 refine ak (fun wc hG=>fE _ _ wc) ?_
 refine az ?_
 refine ak (fun wc hG=>fE _ _ wc) ?_
 refine az ?_
 refine ak (fun wc hG=>fE _ _ wc) ?_
 refine az ?_
 intro F
 refine ak (fun wc hG=>mG [_,_,_] _ (lits hG mh [_,_,_] rfl rfl be7)) ?_
 cases hA:(P.five c.frame.toNat).any fun x=>!decide (x.own=0)
 rotate_left
 ·rw [show cZ [bif !true then 0 else 7,bif !((P.five c.frame.toNat).any fun x=>!decide (x.wit=-2)) then 0 else 4,bif decide (0≤jb PtD.idle P.aA) then 0 else 5]=7 from rfl]
  refine az ?_
  refine fin1 ?_
  rfl
 cases hB:(P.five c.frame.toNat).any fun x=>!decide (x.wit=-2)
 rotate_left
 ·rw [show cZ [bif !false then 0 else 7,bif !true then 0 else 4,bif decide (0≤jb PtD.idle P.aA) then 0 else 5]=4 from rfl]
  refine az ?_
  refine fin1 ?_
  rfl
 cases hC:decide (0≤jb PtD.idle P.aA)
 ·rw [show cZ [bif !false then 0 else 7,bif !false then 0 else 4,bif false then 0 else 5]=5 from rfl]
  refine az ?_
  refine fin1 ?_
  rfl
 rw [show cZ [bif !false then 0 else 7,bif !false then 0 else 4,bif true then 0 else 5]=0 from rfl]
 refine az ?_
 have g4:=h.n.g4
 refine aX (σ:=Nat × Array Value) (fun s=>[(65,.int .i64 (s.1:Int))]) (fun s=>⟨C,#[.int .i64 c.kind,.int .i64 c.vm,.int .i64 c.frame,.int .i64 c.mid,.int .i64 c.iy,.int .i64 c.l9],63⟩::⟨Y.pb,s.2,70⟩::⟨bx,#[Y.pv P,Y.gv P,Y.ov P],158⟩::⟨Y.gb,Y.gc,129⟩::⟨Y.ob,Y.oc,133⟩::wP Y.G 4) (fun s=>s.1≤5∧bJ (P.claim c.frame.toNat s.1) { Y with pc:=s.2 }) (fun s=>5 - s.1) (0,Y.pc) ⟨Nat.zero_le _,h⟩ (hh:=by (exact aj)) ?_
 rintro ⟨k,pc⟩ m hm' ⟨hk,hO⟩
 dsimp only at hm' hk hO ⊢
 have hcl:=PtD.RX P c.frame.toNat k
 refine az ?_
 refine ah _ rfl (fun hc=>?_) (fun hc=>?_)
 ·have hlt:k<5:=by simp at hc;omega
  have hps:=hO.Zr
  rw [hcl] at hps
  dsimp only at hps
  refine az ?_
  refine ak (fun wc hG=>MF wc) ?_
  refine az ?_
  have hfk:c.frame.toNat + k<(P.claim c.frame.toNat k).pages.length:=by rw [hcl];omega
  have h1:=hO.Ih hfk ⟨-1,-2⟩ (pc:=(pc.setIfInBounds (c.frame.toNat * 2 + k * 2) (.int .i64 (-1))).setIfInBounds (c.frame.toNat * 2 + k * 2 + 1) (.int .i64 (-2))) (by
   have:=hO.pg.put lZ (su hfk) (k:=0) (vs:=qI ⟨-1,-2⟩) (by simp [qI])
   rw [Nat.add_zero,Nat.add_mul] at this
   exact this) ⟨⟨by decide,by decide⟩,⟨by decide,by decide⟩⟩
  exact aK (k + 1,(pc.setIfInBounds (c.frame.toNat * 2 + k * 2) (.int .i64 (-1))).setIfInBounds (c.frame.toNat * 2 + k * 2 + 1) (.int .i64 (-2))) (hm:=by dsimp only;omega) ⟨hlt,h1⟩ (h2:=by (exact aj))
 ·have hk5:k=5:=by simp at hc;omega
  subst hk5
  have hlt4:=Zx PtD.idle P.aA
  have hC':=hC
  simp only [decide_eq_true_eq] at hC'
  have hi:(jb PtD.idle P.aA).toNat<4:=by omega
  have hz:=h.BG
  refine az ?_
  refine dL 9 ?_
  refine bZ ?_
  refine az ?_
  refine fin1 ?_
  have hrow:=hO.gs.put jk (hO.wJ hi) (k:=0) (vs:=[.bool true,.bool false,.int .i64 c.frame,.slice none 0 0,.slice none 0 0]) be7
  have h1:=hO.vH hi ⟨true,false,c.frame,[],[]⟩ ⟨.slice none 0 0,.slice none 0 0,[],[]⟩ (gc:=putAt Y.gc ((jb PtD.idle P.aA).toNat * 5) [.bool true,.bool false,.int .i64 c.frame,.slice none 0 0,.slice none 0 0]) hrow ⟨by simp,.inl ⟨rfl,rfl,rfl⟩⟩ ⟨by simp,.inl ⟨rfl,rfl,rfl⟩⟩ ⟨hw.frame,by simp,by simp⟩ ⟨by simp,by simp⟩
  refine ⟨rfl,_,h1,CE (hdG { Y with pc:=pc } _ _ _ _ _ _ _) ?_⟩
  obtain ⟨r,g1,g2⟩:=pI Y.G hi
  have g3:=g2 (.slice none 0 0) (.slice none 0 0) [] []
  have e1:Lay.pv { Y with pc:=pc } (P.claim c.frame.toNat 5)=Y.pv P:=by unfold Lay.pv;rw [hcl]
  have e2:Lay.gv { Y with pc:=pc } (P.claim c.frame.toNat 5)=Y.gv P:=by unfold Lay.gv;rw [PtD.WG]
  have e3:Lay.ov { Y with pc:=pc } (P.claim c.frame.toNat 5)=Y.ov P:=by unfold Lay.ov;rw [PtD.WH]
  rw [e1,e2,e3]
  simp only [putAt]
  (refine bu fun a=>?_;have:=aC.cnt g3 a;have:=aC.cnt g1 a;simp only [bV,aV,gQ] at *;omega)
end
end
section
attribute [local irreducible] Hy St Ops DH dG
namespace PtD
def FM (vm:Int) (x:sF):sF:=bif decide (x.own=vm) || (decide (x.own=0) && decide (x.wit=vm)) then ⟨x.own,-2⟩ else x
def sweep (P:PtD) (vm:Int):Nat→PtD
 | 0=>P
 | k + 1=>(sweep P vm k).fA k (FM vm (P.pg k))
def frees (P:PtD) (f:Nat):Nat→PtD
 | 0=>P
 | k + 1=>(frees P f k).fA (f + k) ⟨0,-2⟩
variable (P : PtD)
theorem FN (vm:Int) (k:Nat):(P.sweep vm k).pages.length=P.pages.length:=by
 induction k with
 | zero=>rfl
 | succ k ih=>rw [sweep,fA];simpa using ih
theorem WJ (vm:Int) (k:Nat):(P.sweep vm k).aA=P.aA:=by
 induction k with
 | zero=>rfl
 | succ k ih=>rw [sweep,fA];exact ih
theorem WL (vm:Int) (k:Nat):(P.sweep vm k).on=P.on:=by
 induction k with
 | zero=>rfl
 | succ k ih=>rw [sweep,fA];exact ih
theorem WM (vm:Int) (k:Nat) (hk:k≤P.pages.length) (j:Nat):(P.sweep vm k).pg j=if j<k then FM vm (P.pg j) else P.pg j:=by
 induction k with
 | zero=>rw [if_neg be5];rfl
 | succ k ih=>
  rw [sweep,J9 _ _ _ (by rw [FN];omega),ih be5]
  by_cases hj:j=k
  ·rw [if_pos hj,if_pos be5,hj]
  ·rw [if_neg hj]
   by_cases h2:j<k
   ·rw [if_pos h2,if_pos be5]
   ·rw [if_neg h2,if_neg be5]
theorem Sj (f k:Nat):(P.frees f k).pages.length=P.pages.length:=by
 induction k with
 | zero=>rfl
 | succ k ih=>rw [frees,fA];simpa using ih
theorem WN (f k:Nat):(P.frees f k).aA=P.aA:=by
 induction k with
 | zero=>rfl
 | succ k ih=>rw [frees,fA];exact ih
theorem WO (f k:Nat):(P.frees f k).on=P.on:=by
 induction k with
 | zero=>rfl
 | succ k ih=>rw [frees,fA];exact ih
theorem NU {P:PtD} {k:Nat} {x:sF} (hk:k<P.pages.length) (h:P.pg k=x):P.fA k x=P:=by
 unfold fA
 have:P.pages.set k x=P.pages:=jY (by
  rw [← h]
  show _=some (P.pages.getD k default)
  rw [List.getD_eq_getElem?_getD,List.getElem?_eq_getElem hk];rfl)
 rw [this]
def gone (P:PtD) (vm:Int):PtD:=(P.sweep vm P.pages.length).frees (P.gs (ix vm)).first.toNat 5
def o7 (P:PtD) (vm:Int):Except Int PtD:=
 bif !di vm 1 4 then .error 2 else bif !(P.gs (ix vm)).live then .error 3 else bif (P.gs (ix vm)).aN.any (fun x=>decide (0≤x)) then .error 6
 else .ok ((P.gone vm).eU (ix vm) ⟨false,(P.gone vm).owns vm,0,[],[]⟩)
end PtD
theorem NV (x:Int) (w:World):Fn Tryz.prog 279 ([]++[Value.int .i64 x]++[]).toArray w [] (fun u _=>u=.bool (decide (0≤x))):=by
 refine enter Tryz.func279 ?_
 refine run ?_
 exact fin1 rfl
theorem Kv {w:World} (xs:List Int) (v:Value) (h:aF w v 1 (xs.map dA)):
  Fn Tryz.prog 173 [v,.func (.func 279) [].toArray [].toArray].toArray w [] (fun u _=>u=.int .i64 (jb (fun x=>decide (0≤x)) xs)):=by
 obtain ⟨q,cap,rfl,hne,hle⟩:=h.opened
 refine enter Tryz.func173 ?_
 refine run ?_
 refine aX (σ:=Nat) (fun k=>[(8,.int .i64 (k:Int))]) (fun _=>[]) (fun k=>k≤xs.length∧∀ j,j<k→decide (0≤xs.getD j default)=false) (fun k=>xs.length - k) 0 ⟨Nat.zero_le _,fun j hj=>absurd hj be5⟩ ?_
 rintro k m rfl ⟨hk,hno⟩
 refine run ?_
 refine ah _ rfl (fun hc=>?_) (fun hc=>?_)
 ·have hlt:k<xs.length:=by simpa using hc
  obtain ⟨b,o,rfl⟩:=hne be'
  have hr:=au (h.row hlt)
  simp only [Nat.mul_one] at hr
  refine run ?_
  refine jM (fun wc hG=>NV (xs.getD k default) wc) ?_
  refine run ?_
  refine ah _ rfl (fun hp=>?_) (fun hp=>?_)
  ·refine run ?_
   refine fin1 ?_
   rw [fB hlt hp hno]
  ·refine run ?_
   refine aK (k + 1) ⟨hlt,fun j hj=>?_⟩
   rcases Nat.lt_succ_iff_lt_or_eq.1 hj with hj | rfl
   ·exact hno j hj
   ·exact hp
 ·have hge:k=xs.length:=by simp at hc;omega
  subst hge
  refine run ?_
  refine fin1 ?_
  rw [dF hno]
theorem DV {w:World} (xs:List Int) (v:Value) (h:aF w v 1 (xs.map dA)):
  Fn Tryz.prog 88 [v,.func (.func 279) [].toArray [].toArray].toArray w [] (fun u _=>u=.bool (xs.any fun x=>decide (0≤x))):=by
 refine enter Tryz.func88 ?_
 refine run ?_
 refine ak (fun wc hG=>Kv xs v (h.good hG)) ?_
 refine run ?_
 refine fin1 ?_
 rw [← iY]
section
variable {P : PtD} {Y : Lay} {bx tx : Nat} {w : World}
theorem bJ.slV (h:bJ P Y) {i:Nat} (hi:i<4) (hh:Here (Y.hd P bx tx) w):aF w (Y.G i).vv 1 ((P.gs i).aN.map dA):=by
 have:=h.sm.vc i bg9
 exact (h.vc i hi).lie (fun e he=>hh e (List.mem_cons_of_mem _ (List.mem_cons_of_mem _ (List.mem_cons_of_mem _ (List.mem_cons_of_mem _ (BA 4 hi (.inl he))))))) be9
theorem Sl (h:bJ P Y) (hm:P.may=true) (hN:dD (Y.hd P bx 158) w) (c:wQ) (hw:c.Wf):Fn Tryz.prog 206 [.pointer (some ⟨bx,0,none⟩),pY c].toArray w ((Y.hd P bx 158).map (·.b)) (dR bx 158 (P.o7 c.vm)):=by
 have hp1:=h.n.p1
 have g4:=h.n.g4
 have hz:=h.BG
 have hsm:=h.sm.pg
 have Wv:=h.Zr
 refine bU _ hN Tryz.func206 ?_
 refine run ?_
 intro C
 refine run ?_
 refine ak (fun wc hG=>o6 _ wc) ?_
 refine run ?_
 intro F0
 refine ak (fun wc hG=>mG [_] _ (lits hG mh [_] rfl rfl be7)) ?_
 cases hb:PtD.di c.vm 1 4
 ·rw [show cZ [bif false then 0 else 2]=2 from rfl]
  refine az ?_
  refine fin1 ?_
  simp [dR,PtD.o7,hb]
 rw [show cZ [bif true then 0 else 2]=0 from rfl]
 have hb':=hb
 simp only [PtD.di,Bool.and_eq_true,decide_eq_true_eq] at hb'
 have hi:ix c.vm<4:=vP hb'
 obtain ⟨q,cap,ev⟩:=(h.vc _ hi).opened
 have n0:=h.g0 hi
 have n2:=h.g2 hi
 have n3:=h.g3 hi
 refine az ?_
 refine ak (fun wc hG=>lH (bx:=bx) (tx:=158) h (hG.here' aj) hb') ?_
 rw [show (c.vm - 1).toNat=ix c.vm from rfl]
 refine az ?_
 refine ak (fun wc hG=>DV (P.gs (ix c.vm)).aN (Y.G (ix c.vm)).vv (h.slV (bx:=bx) (tx:=158) hi (hG.here' aj))) ?_
 refine az ?_
 refine ak (fun wc hG=>fE _ _ wc) ?_
 refine az ?_
 refine ak (fun wc hG=>fE _ _ wc) ?_
 refine az ?_
 intro F
 refine ak (fun wc hG=>mG [_,_] _ (lits hG mh [_,_] rfl rfl be7)) ?_
 have hkey:P.o7 c.vm=bif !(P.gs (ix c.vm)).live then .error 3 else bif (P.gs (ix c.vm)).aN.any (fun x=>decide (0≤x)) then .error 6
   else .ok ((P.gone c.vm).eU (ix c.vm) ⟨false,(P.gone c.vm).owns c.vm,0,[],[]⟩):=by
  rw [PtD.o7,hb];rfl
 rw [hkey]
 cases hA:(P.gs (ix c.vm)).live
 ·rw [show cZ [bif false then 0 else 3,bif !((P.gs (ix c.vm)).aN.any fun x=>decide (0≤x)) then 0 else 6]=3 from rfl]
  refine az ?_
  refine fin1 ?_
  rfl
 cases hB:(P.gs (ix c.vm)).aN.any fun x=>decide (0≤x)
 rotate_left
 ·rw [show cZ [bif true then 0 else 3,bif !true then 0 else 6]=6 from rfl]
  refine az ?_
  refine fin1 ?_
  rfl
 rw [show cZ [bif true then 0 else 3,bif !false then 0 else 6]=0 from rfl]
 refine az ?_
 refine aX (σ:=Nat × Array Value) (fun s=>[(49,.int .i64 (s.1:Int))]) (fun s=>⟨C,#[.int .i64 c.kind,.int .i64 c.vm,.int .i64 c.frame,.int .i64 c.mid,.int .i64 c.iy,.int .i64 c.l9],63⟩::⟨Y.pb,s.2,70⟩::⟨bx,#[Y.pv P,Y.gv P,Y.ov P],158⟩::⟨Y.gb,Y.gc,129⟩::⟨Y.ob,Y.oc,133⟩::wP Y.G 4) (fun s=>s.1≤P.pages.length∧bJ (P.sweep c.vm s.1) { Y with pc:=s.2 }) (fun s=>P.pages.length - s.1) (0,Y.pc) ⟨Nat.zero_le _,h⟩ (hh:=by (exact aj)) ?_
 rintro ⟨k,pc⟩ m hm' ⟨hk,hO⟩
 dsimp only at hm' hk hO ⊢
 have hcl:=PtD.FN P c.vm k
 refine run ?_
 refine ah _ rfl (fun hc=>?_) (fun hc=>?_)
 ·have hlt:k<P.pages.length:=by simp at hc;omega
  have hps:=hO.Zr
  rw [hcl] at hps
  dsimp only at hps
  have hkl:k<(P.sweep c.vm k).pages.length:=by rw [hcl];exact hlt
  have al3:(P.sweep c.vm k).pg k=P.pg k:=by rw [PtD.WM P c.vm k hk k,if_neg be5]
  have hp0:=hO.p0' hkl
  have hp1:=hO.p1' hkl
  rw [al3] at hp0 hp1
  dsimp only at hp0 hp1
  refine run ?_
  refine kC ?_
  refine bP ?_
  refine az ?_
  refine ah _ rfl (fun hq=>?_) (fun hq=>?_)
  ·refine az ?_
   have hsw:PtD.FM c.vm (P.pg k)=⟨(P.pg k).own,-2⟩:=by rw [PtD.FM,hq];rfl
   have h1:=hO.Ih hkl ⟨(P.pg k).own,-2⟩ (pc:=pc.setIfInBounds (k * 2 + 1) (.int .i64 (-2))) (by
    have:=hO.pg.put lZ (su hkl) (k:=1) (vs:=[.int .i64 (-2)]) be7
    rw [al3] at this
    exact this) ⟨(h.wf.pg k hlt).1,(show I64 (-2) from ⟨by decide,by decide⟩)⟩
   rw [← hsw] at h1
   exact aK (k + 1,pc.setIfInBounds (k * 2 + 1) (.int .i64 (-2))) (hm:=by dsimp only;omega) ⟨hlt,h1⟩ (h2:=by (exact aj))
  ·refine az ?_
   have hsw:PtD.FM c.vm (P.pg k)=P.pg k:=by rw [PtD.FM,hq];rfl
   have h1:bJ (P.sweep c.vm (k + 1)) { Y with pc:=pc }:=by
    rw [PtD.sweep,hsw,PtD.NU hkl al3];exact hO
   exact aK (k + 1,pc) (hm:=by dsimp only;omega) ⟨hlt,h1⟩ (h2:=by (exact aj))
 ·have hkn:k=P.pages.length:=by simp at hc;omega
  subst hkn
  obtain ⟨_,f0,f1,_⟩:=(PtD.uh.1 hm).liv _ hi hA
  refine run ?_
  refine dJ (fun wc hG=>DF Y.gb (ix c.vm * 5) (P.gs (ix c.vm)).first be5 be5 wc ?_) (fun v hv hT=>?_)
  ·have h1:=hG.here ⟨Y.gb,Y.gc,129⟩ be7
   rw [cell_of_block h1]
   have:=n2
   rw [lS] at this
   simpa using this
  obtain ⟨tb,tc,al4,rfl,rfl,hr⟩:=hT.own.row (n:=5) be7 be5
  simp only [List.cons_append,List.nil_append]
  obtain ⟨f,hf⟩:∃ f:Nat,(P.gs (ix c.vm)).first=f:=⟨(P.gs (ix c.vm)).first.toNat,by omega⟩
  rw [hf] at f0 f1 hr
  have htc:∀ k,k<5→nth al4.toList k=some (.int .i64 ((f + k:Nat):Int)):=by
   intro k hk5
   have:([(f:Int),f + 1,f + 2,f + 3,f + 4].map dA)[k]?=some (dA ((f + k:Nat):Int)):=by
    rcases k with _ | _ | _ | _ | _ | k
    ·rfl
    ·rfl
    ·rfl
    ·rfl
    ·rfl
    ·omega
   have h2:=hr.nth (fun c hc=>(CB c hc).1) this (k:=0) rfl
   simpa using h2
  have aV8:5≤al4.size:=by have:=hr.size;have:=hr.le;omega
  refine az ?_
  refine aX (σ:=Nat × Array Value) (fun s=>[(89,.int .i64 (s.1:Int))]) (fun s=>⟨tb,al4,3⟩::⟨C,#[.int .i64 c.kind,.int .i64 c.vm,.int .i64 c.frame,.int .i64 c.mid,.int .i64 c.iy,.int .i64 c.l9],63⟩::⟨Y.pb,s.2,70⟩::⟨bx,#[Y.pv P,Y.gv P,Y.ov P],158⟩::⟨Y.gb,Y.gc,129⟩::⟨Y.ob,Y.oc,133⟩::wP Y.G 4) (fun s=>s.1≤5∧bJ ((P.sweep c.vm P.pages.length).frees f s.1) { Y with pc:=s.2 }) (fun s=>5 - s.1) (0,pc) ⟨Nat.zero_le _,hO⟩ (hh:=by (exact aj)) ?_
  rintro ⟨k,pc2⟩ m2 hm2 ⟨hk2,hO2⟩
  dsimp only at hm2 hk2 hO2 ⊢
  have yC:((P.sweep c.vm P.pages.length).frees f k).pages.length=P.pages.length:=by rw [PtD.Sj];exact hcl
  refine az ?_
  refine ah _ rfl (fun hc2=>?_) (fun hc2=>?_)
  ·have hlt:k<5:=by simp at hc2;omega
   have hps:=hO2.Zr
   rw [yC] at hps
   dsimp only at hps
   have hte:=htc k hlt
   refine az ?_
   refine dL 7 ?_
   refine bZ ?_
   refine dM (fun wc hG=>Hf wc) ?_
   refine bZ ?_
   refine az ?_
   have hfk:f + k<((P.sweep c.vm P.pages.length).frees f k).pages.length:=by rw [yC];omega
   have h1:=hO2.Ih hfk ⟨0,-2⟩ (pc:=(pc2.setIfInBounds ((f + k) * 2) (.int .i64 0)).setIfInBounds ((f + k) * 2 + 1) (.int .i64 (-2))) (by
    have:=hO2.pg.put lZ (su hfk) (k:=0) (vs:=qI ⟨0,-2⟩) (by simp [qI])
    exact this) ⟨⟨by decide,by decide⟩,⟨by decide,by decide⟩⟩
   exact aK (k + 1,(pc2.setIfInBounds ((f + k) * 2) (.int .i64 0)).setIfInBounds ((f + k) * 2 + 1) (.int .i64 (-2))) (hm:=by dsimp only;omega) ⟨hlt,h1⟩ (h2:=by (exact aj))
  ·have hk5:k=5:=by simp at hc2;omega
   subst hk5
   have Px:P.gone c.vm=(P.sweep c.vm P.pages.length).frees f 5:=by rw [PtD.gone,hf];rfl
   rw [← Px] at hO2 yC
   have l2:(P.gone c.vm).aA.length=P.aA.length:=by rw [Px,PtD.WN,PtD.WJ]
   have l3:(P.gone c.vm).on.length=P.on.length:=by rw [Px,PtD.WO,PtD.WL]
   have hd2:∀ tx,Lay.hd { Y with pc:=pc2 } (P.gone c.vm) bx tx=⟨bx,#[Y.pv P,Y.gv P,Y.ov P],tx⟩::⟨Y.pb,pc2,70⟩::⟨Y.gb,Y.gc,129⟩::⟨Y.ob,Y.oc,133⟩::wP Y.G 4:=by
    intro tx
    simp only [Lay.hd,Lay.in,Lay.pv,Lay.gv,Lay.ov,yC,l2,l3]
   clear hO hr htc Px
   obtain ⟨Y2,eY⟩:∃ Y2,Y2=({ Y with pc:=pc2 }:Lay):=⟨_,rfl⟩
   rw [← eY] at hO2 hd2
   have e1:Y2.gb=Y.gb:=by rw [eY]
   have e2:Y2.gc=Y.gc:=by rw [eY]
   have e3:Y2.G=Y.G:=by rw [eY]
   refine az ?_
   refine ak (fun wc hG=>Nj (hO2.J8 (bx:=bx) (tx:=158) (show Here (Lay.hd Y2 _ bx _) wc from hG.here' (by rw [hd2];(exact aj)))) _) ?_
   refine az ?_
   refine fin1 ?_
   have hrow:=hO2.gs.put jk (hO2.wJ hi) (k:=0) (vs:=[.bool false,.bool ((P.gone c.vm).owns c.vm),.int .i64 0,.slice none 0 0,.slice none 0 0]) be7
   have h1:=hO2.vH hi ⟨false,(P.gone c.vm).owns c.vm,0,[],[]⟩ ⟨.slice none 0 0,.slice none 0 0,[],[]⟩ (gc:=putAt Y2.gc (ix c.vm * 5) [.bool false,.bool ((P.gone c.vm).owns c.vm),.int .i64 0,.slice none 0 0,.slice none 0 0]) hrow ⟨by simp,.inl ⟨rfl,rfl,rfl⟩⟩ ⟨by simp,.inl ⟨rfl,rfl,rfl⟩⟩ ⟨(show I64 0 from ⟨by decide,by decide⟩),by simp,by simp⟩ ⟨by simp,by simp⟩
   refine ⟨rfl,_,h1,CE (hdG Y2 _ _ _ _ _ _ _) ?_⟩
   obtain ⟨r,g1,g2⟩:=pI Y.G hi
   have g3:=g2 (.slice none 0 0) (.slice none 0 0) [] []
   rw [(List.cons.inj (hd2 158)).1,e2,e3,eY]
   simp only [putAt]
   (refine bu fun a=>?_;have:=aC.cnt g3 a;have:=aC.cnt g1 a;simp only [bV,aV,gQ] at *;omega)
end
end
section
attribute [local irreducible] Hy St Ops DH dG
section
variable {P : Program} {T : Tab} {n : Nat} {w0 : World} {mu : List Nat} {l : Fm} {hp : Hp} {dd : Option Tmp} {ty : TypeId} {pos : String} {af : Array Edge} {gg : Option (Nat × Bool)}
end
section
variable {n : Nat} {w0 : World} {mu : List Nat} {l : Fm} {hp : Hp} {Q : Exit → Fm → Hp → Prop} {all : Array Oper} {rest : List Oper} {ty : TypeId} {pos : String} {af : Array Edge} {ds : List (Nat × Nat)} {tail : List Oper} {i : Nat} {iv fr : Fm}
end
theorem aF.aH8 {w:World} {b o cap sz n:Nat} {xs:List (List Value)} (h:aF w (.slice (some ⟨b,o,none⟩) n cap) sz xs) {i:Nat} {c:List Value} (hi:xs[i]?=some c):w.rangeAt b (o + i * sz) c:=by
 obtain ⟨⟨p,cp,e,hr⟩,_⟩:=h
 cases e
 obtain ⟨b',o',e',hx⟩:=hr (by intro e;subst e;cases hi)
 cases e'
 exact hx i c hi
end
section
attribute [local irreducible] Hy St Ops DH dG
section
variable {P : PtD} {Y : Lay} {bx tx : Nat} {w : World}
theorem Ah (h:bJ P Y) (hm:P.may=true) (hN:dD (Y.hd P bx 158) w) (cpu vm fr mid vc cc:Int) (hw:wQ.Wf ⟨1,vm,fr,mid,vc,cc⟩):Fn Tryz.prog 113 [.pointer (some ⟨bx,0,none⟩),.int .i64 cpu,pY ⟨1,vm,fr,mid,vc,cc⟩].toArray w ((Y.hd P bx 158).map (·.b)) (dR bx 158 (P.rO vm fr mid)):=by
 refine bU _ hN Tryz.func113 ?_
 refine run ?_
 intro C
 refine az ?_
 refine gB (Y.hd P bx 158) [⟨C,#[.int .i64 1,.int .i64 vm,.int .i64 fr,.int .i64 mid,.int .i64 vc,.int .i64 cc],63⟩] (fun wc hG=>Zw h hm hG.fV ⟨1,vm,fr,mid,vc,cc⟩ hw) (fun v hn hR=>?_) bf'
 refine az ?_
 refine fin1 ?_
 exact hR.le aj
theorem yD (h:bJ P Y) (hm:P.may=true) (hN:dD (Y.hd P bx 158) w) (cpu vm fr mid vc cc:Int) (hw:wQ.Wf ⟨2,vm,fr,mid,vc,cc⟩):Fn Tryz.prog 113 [.pointer (some ⟨bx,0,none⟩),.int .i64 cpu,pY ⟨2,vm,fr,mid,vc,cc⟩].toArray w ((Y.hd P bx 158).map (·.b)) (dR bx 158 (P.lI fr)):=by
 refine bU _ hN Tryz.func113 ?_
 refine run ?_
 intro C
 refine az ?_
 refine gB (Y.hd P bx 158) [⟨C,#[.int .i64 2,.int .i64 vm,.int .i64 fr,.int .i64 mid,.int .i64 vc,.int .i64 cc],63⟩] (fun wc hG=>RV h hm hG.fV ⟨2,vm,fr,mid,vc,cc⟩ hw) (fun v hn hR=>?_) bf'
 refine az ?_
 refine fin1 ?_
 exact hR.le aj
theorem zA (h:bJ P Y) (hm:P.may=true) (hN:dD (Y.hd P bx 158) w) (cpu vm fr mid vc cc:Int) (hw:wQ.Wf ⟨3,vm,fr,mid,vc,cc⟩):Fn Tryz.prog 113 [.pointer (some ⟨bx,0,none⟩),.int .i64 cpu,pY ⟨3,vm,fr,mid,vc,cc⟩].toArray w ((Y.hd P bx 158).map (·.b)) (dR bx 158 (P.oK vm fr mid)):=by
 refine bU _ hN Tryz.func113 ?_
 refine run ?_
 intro C
 refine az ?_
 refine gB (Y.hd P bx 158) [⟨C,#[.int .i64 3,.int .i64 vm,.int .i64 fr,.int .i64 mid,.int .i64 vc,.int .i64 cc],63⟩] (fun wc hG=>WE h hm hG.fV ⟨3,vm,fr,mid,vc,cc⟩ hw) (fun v hn hR=>?_) bf'
 refine az ?_
 refine fin1 ?_
 exact hR.le aj
end
end
section
attribute [local irreducible] Hy St Ops DH dG
namespace PtD
end PtD
section
variable {P : PtD} {Y : Lay} {bx tx : Nat} {w : World}
theorem yE (h:bJ P Y) (hm:P.may=true) (hN:dD (Y.hd P bx 158) w) (cpu vm fr mid vc cc:Int) (hw:wQ.Wf ⟨6,vm,fr,mid,vc,cc⟩):Fn Tryz.prog 113 [.pointer (some ⟨bx,0,none⟩),.int .i64 cpu,pY ⟨6,vm,fr,mid,vc,cc⟩].toArray w ((Y.hd P bx 158).map (·.b)) (dR bx 158 (P.o7 vm)):=by
 refine bU _ hN Tryz.func113 ?_
 refine run ?_
 intro C
 refine az ?_
 refine gB (Y.hd P bx 158) [⟨C,#[.int .i64 6,.int .i64 vm,.int .i64 fr,.int .i64 mid,.int .i64 vc,.int .i64 cc],63⟩] (fun wc hG=>Sl h hm hG.fV ⟨6,vm,fr,mid,vc,cc⟩ hw) (fun v hn hR=>?_) bf'
 refine az ?_
 refine fin1 ?_
 exact hR.le aj
end
end
section
attribute [local irreducible] Hy St Ops DH dG
section
variable {P : PtD} {Y : Lay} {bx : Nat} {w : World}
theorem EE (h:bJ P Y) (hN:dD (Y.hd P bx 158) w) (cpu:Nat) (hc:cpu<P.on.length) (vm fr mid vc cc:Int) (hw:wQ.Wf ⟨8,vm,fr,mid,vc,cc⟩):Fn Tryz.prog 113 [.pointer (some ⟨bx,0,none⟩),.int .i64 (cpu:Int),pY ⟨8,vm,fr,mid,vc,cc⟩].toArray w ((Y.hd P bx 158).map (·.b)) (dR bx 158 (P.Ij cpu vm vc)):=by
 refine bU _ hN Tryz.func113 ?_
 refine run ?_
 intro C
 refine az ?_
 refine gB (Y.hd P bx 158) [⟨C,#[.int .i64 8,.int .i64 vm,.int .i64 fr,.int .i64 mid,.int .i64 vc,.int .i64 cc],63⟩] (fun wc hG=>ax7 h hG.fV cpu hc ⟨8,vm,fr,mid,vc,cc⟩ hw) (fun v hn hR=>?_) bf'
 refine az ?_
 refine fin1 ?_
 exact hR.le aj
end
end
namespace PtD
theorem getD_mem {α:Type} [Inhabited α] {l:List α} {k:Nat} (hk:k<l.length):l.getD k default∈l:=by
 rw [List.getD_eq_getElem?_getD,List.getElem?_eq_getElem hk];simp
end PtD
section
attribute [local irreducible] Hy St Ops DH dG
namespace PtD
end PtD
section
variable {P : PtD} {Y : Lay} {bx tx : Nat} {w : World}
theorem zB (h:bJ P Y) (hm:P.may=true) (hN:dD (Y.hd P bx 158) w) (cpu vm fr mid vc cc:Int) (hw:wQ.Wf ⟨5,vm,fr,mid,vc,cc⟩):Fn Tryz.prog 113 [.pointer (some ⟨bx,0,none⟩),.int .i64 cpu,pY ⟨5,vm,fr,mid,vc,cc⟩].toArray w ((Y.hd P bx 158).map (·.b)) (dR bx 158 (P.pJ fr)):=by
 refine bU _ hN Tryz.func113 ?_
 refine run ?_
 intro C
 refine az ?_
 refine gB (Y.hd P bx 158) [⟨C,#[.int .i64 5,.int .i64 vm,.int .i64 fr,.int .i64 mid,.int .i64 vc,.int .i64 cc],63⟩] (fun wc hG=>WI h hm hG.fV ⟨5,vm,fr,mid,vc,cc⟩ hw) (fun v hn hR=>?_) bf'
 refine az ?_
 refine fin1 ?_
 exact hR.le aj
end
end
namespace PtD
def WQ (P:PtD) (cpu:Nat) (c:wQ):Except Int PtD:=
 bif decide (c.kind=1) then P.rO c.vm c.frame c.mid else bif decide (c.kind=2) then P.lI c.frame else bif decide (c.kind=3) then P.oK c.vm c.frame c.mid
 else bif decide (c.kind=4) then P.nD c.frame else bif decide (c.kind=5) then P.pJ c.frame else bif decide (c.kind=6) then P.o7 c.vm
 else bif decide (c.kind=7) then P.moreL c.vm else bif decide (c.kind=8) then P.Ij cpu c.vm c.iy else .error 9
def NW (P:PtD) (cpu:Nat) (c:wQ):Except Int PtD:=
 bif decide (c.kind=10) then P.vS (P.st cpu).vm c.mid (-2) 0 4 else bif decide (c.kind=11) then P.vS (P.st cpu).vm c.mid 0 (-2) 6 else bif decide (c.kind=9) then .ok (P.Kr cpu) else .error 9
def Sm (P:PtD) (cpu:Nat) (c:wQ):Except Int PtD:=bif decide ((P.st cpu).vm=0) then P.WQ cpu c else P.NW cpu c
end PtD
section
def zU (vs:List qK) (n:Int):Bool:=vs.any fun v=>v.live && decide (v.aO=n)
def Py (vs:List qK):Nat→Int→Int
 | 0,n=>n
 | k + 1,n=>bif zU vs n then Py vs k (n + 1) else n
def yF (vs:List qK):Int:=Py vs (vs.length + 1) 1
def DX (vs:List qK) (n:Int):Nat:=(vs.filter fun v=>v.live && decide (n≤v.aO)).length
theorem DY {vs:List qK} {n:Int} (h:zU vs n=true):DX vs (n + 1)<DX vs n:=by
 unfold zU at h
 unfold DX
 induction vs with
 | nil=>simp at h
 | cons v vs ih=>
  rw [List.any_cons,Bool.or_eq_true] at h
  have hle:∀ l:List qK,(l.filter fun v=>v.live && decide (n + 1≤v.aO)).length≤(l.filter fun v=>v.live && decide (n≤v.aO)).length:=fun l=>by
   induction l with
   | nil=>exact Nat.le_refl _
   | cons x l ihl=>
    simp only [List.filter_cons]
    cases hx:(x.live && decide (n + 1≤x.aO)) with
    | true=>
     simp only [Bool.and_eq_true,decide_eq_true_eq] at hx
     rw [show (x.live && decide (n≤x.aO))=true by simp only [Bool.and_eq_true,decide_eq_true_eq];exact ⟨hx.1,by omega⟩]
     simpa using ihl
    | false=>
     simp only [Bool.false_eq_true,if_false]
     split
     ·exact Nat.le_succ_of_le ihl
     ·exact ihl
  simp only [List.filter_cons]
  rcases h with h | h
  ·simp only [Bool.and_eq_true,decide_eq_true_eq] at h
   rw [show (v.live && decide (n + 1≤v.aO))=false by rw [h.1,decide_eq_false be5];rfl,show (v.live && decide (n≤v.aO))=true by rw [h.1,decide_eq_true be5];rfl]
   simp only [if_true,Bool.false_eq_true,if_false,List.length_cons]
   exact Nat.lt_succ_of_le (hle vs)
  ·have h2:=ih h
   cases hx:(v.live && decide (n + 1≤v.aO)) with
   | true=>
    simp only [Bool.and_eq_true,decide_eq_true_eq] at hx
    rw [show (v.live && decide (n≤v.aO))=true by simp only [Bool.and_eq_true,decide_eq_true_eq];exact ⟨hx.1,by omega⟩]
    simpa using h2
   | false=>
    simp only [Bool.false_eq_true,if_false]
    split
    ·exact Nat.lt_succ_of_lt h2
    ·exact h2
theorem Kw {vs:List qK}:∀ (j k:Nat) (n:Int),DX vs n<k→(∀ i:Nat,i<j→zU vs (n + i)=true)→zU vs (n + j)=false→Py vs k n=n + j
 | 0,0,n,h,_,_=>absurd h (Nat.not_lt_zero _)
 | j,k + 1,n,h,h1,h2=>by
  rw [Py]
  cases j with
  | zero=>rw [show (n + ((0:Nat):Int))=n by omega] at h2 ⊢;rw [h2];rfl
  | succ j=>
   have h0:=h1 0 (Nat.succ_pos _)
   rw [show n + ((0:Nat):Int)=n by omega] at h0
   rw [h0,cond_true]
   have hc:=DY h0
   rw [Kw j k (n + 1) be5 (fun i hi=>by have:=h1 (i + 1) be5;rwa [show n + ((i + 1:Nat):Int)=n + 1 + (i:Int) by omega] at this) (by rwa [show n + ((j + 1:Nat):Int)=n + 1 + (j:Int) by omega] at h2)]
   omega
theorem Ky (vs:List qK) (n:Int):DX vs n≤vs.length:=List.length_filter_le ..
namespace HyD
variable (H : HyD)
def zC (D:Int→DsD):List Int→HyD→HyD
 | [],H=>H
 | f::r,H=>zC D r (H.hst f.toNat (D f))
def WR (i:Nat) (v:qK):HyD:={ H with vs:=H.vs.set i v }
def Zy (n:Int) (mid:Int) (d:DsD):HyD:=
 let i:=(n - 1).toNat
 let r:=Dh H.ws (H.vu i).root (H.vu i).fr mid d
 { H with ws:=r.ws,vs:=H.vs.set i { H.vu i with fr:=r.left } }
def Pz (l:List Int):HyD:={ H with ws:=nO H.ws l }
def Kz (cpu:Nat) (vm vc:Int):HyD:=
 let i:=(vm - 1).toNat
 ⟨H.ws,H.cs.set cpu { H.cu cpu with r:=((H.vu i).vs.getD vc.toNat default).r,vm:=vm,vc:=vc },H.vs.set i { H.vu i with vs:=(H.vu i).vs.set vc.toNat ⟨dK,(cpu:Int)⟩ },H.rs.set cpu (H.cu cpu).r⟩
def yG (cpu:Nat):HyD:=
 let i:=((H.cu cpu).vm - 1).toNat
 ⟨H.ws,H.cs.set cpu { H.cu cpu with r:=H.rs.getD cpu default,vm:=0,vc:=0 },H.vs.set i { H.vu i with vs:=(H.vu i).vs.set (H.cu cpu).vc.toNat ⟨(H.cu cpu).r,-1⟩ },H.rs.set cpu dK⟩
def PD (n:Int):HyD:=H.WR (n - 1).toNat { H.vu (n - 1).toNat with vs:=(H.vu (n - 1).toNat).vs++[⟨dK,-1⟩] }
def iC (f:Int):List Int:=[f,f + 1,f + 2,f + 3,f + 4]
def Sr (was is:PtD):Nat:=(List.range 4).foldl (fun a i=>bif (is.gs i).live && !(was.gs i).live then i else a) 0
def vC (f:Int) (a:Nat):HyD:=
 let G:=(zC (fun _=>jF 1) (iC f) H).Pz (iC f)
 G.WR a ⟨true,false,yF H.vs,iC f,(iC f).drop 1,[]⟩
def yH (vm f mid:Int):HyD:=(H.hst f.toNat (jF (1 + vm))).Zy vm mid (aU f 0)
end HyD
end
section
def EoD (P:Program) (n:Nat) (w0:World) (mu:List Nat) (all:Array Oper) (ds:List (Nat × Nat)) (l:Fm) (hp:Hp) (bK:Fm) (kd:Nat→Kd) (val:Ch→Nat→Value) (k i:Nat) (o:Oper) (R:RT):Prop:=
 zI P n w0 mu all (aG ds bK o.after.toList++l) hp o R∨∃ m Rm,m<k∧kd m=.e Rm∧(∀ c,val c m=(c m).1)∧Region.waitsFor .any all i m=true∧∀ v hn,Rm v hn→zI P n w0 mu all (aG ds ((m,v)::bK) o.after.toList++l) (hn++hp) o R
def Ai (P:Program) (n:Nat) (w0:World) (mu:List Nat) (all:Array Oper) (ds:List (Nat × Nat)) (l:Fm) (hp:Hp) (iv:Fm) (X:List (Nat × RT)→Prop):List Nat→List (Nat × RT)→Prop
 | [],Rs=>X Rs
 | i::E,Rs=>∃ o R,all[i]?=some o∧(zI P n w0 mu all (aG ds iv o.after.toList++l) hp o R∨∃ m Rm,lk Rs m=some Rm∧Region.waitsFor .any all i m=true∧∀ v hn,Rm v hn→zI P n w0 mu all (aG ds ((m,v)::iv) o.after.toList++l) (hn++hp) o R)∧(∃ v hn,R v hn)∧Ai P n w0 mu all ds l hp iv X E ((i,R)::Rs)
theorem WS {kd:Nat→Kd} {c:Ch} {listed:Array Bool} {m:Nat} (he:wM (kd m)=true) (hl:listed.getD m false=true):∀ k,m<k→∃ hx,(jK kd c listed k).Perm (hx++(c m).2):=by
 intro k
 induction k with
 | zero=>intro h;omega
 | succ k ih=>
  intro h
  simp only [jK]
  by_cases hmk:m=k
  ·subst hmk
   refine ⟨jK kd c listed m,?_⟩
   rw [show kV kd c listed m=(c m).2 by unfold kV;rw [he,hl];rfl]
   exact List.perm_append_comm
  ·obtain ⟨hx,hp⟩:=ih be5
   exact ⟨kV kd c listed k++hx,by rw [List.append_assoc];exact hp.append_left _⟩
section
variable {P : Program} {n : Nat} {w0 : World} {mu : List Nat} {l : Fm} {hp : Hp} {all : Array Oper} {ds : List (Nat × Nat)}
theorem WT {iv:Fm} {X:List (Nat × RT)→Prop}:∀ (E:List Nat) (Rs:List (Nat × RT)),E.Nodup→(∀ i∈E,lk Rs i=none)→Ai P n w0 mu all ds l hp iv X E Rs →
  (∀ i R,(i,R)∈Rs→lk Rs i=some R∧∃ o,all[i]?=some o∧(zI P n w0 mu all (aG ds iv o.after.toList++l) hp o R∨∃ m Rm,lk Rs m=some Rm∧Region.waitsFor .any all i m=true∧∀ v hn,Rm v hn→zI P n w0 mu all (aG ds ((m,v)::iv) o.after.toList++l) (hn++hp) o R)∧∃ v hn,R v hn) →
  ∃ RE,X RE∧(∀ i,(∃ R,lk RE i=some R)↔i∈E∨∃ R,lk Rs i=some R)∧∀ i R,(i,R)∈RE→lk RE i=some R∧∃ o,all[i]?=some o∧(zI P n w0 mu all (aG ds iv o.after.toList++l) hp o R∨∃ m Rm,lk RE m=some Rm∧Region.waitsFor .any all i m=true∧∀ v hn,Rm v hn→zI P n w0 mu all (aG ds ((m,v)::iv) o.after.toList++l) (hn++hp) o R)∧∃ v hn,R v hn:=by
 intro E
 induction E with
 | nil=>intro Rs _ _ h hs;exact ⟨Rs,h,fun i=>by simp,hs⟩
 | cons i E ih=>
  rintro Rs hnd hno ⟨o,R,ho,hy,Gm,h⟩ hs
  rw [List.nodup_cons] at hnd
  have hi:=hno i (List.mem_cons_self ..)
  have hmo:∀ m Rm,lk Rs m=some Rm→lk ((i,R)::Rs) m=some Rm:=fun m Rm hm=>by
   rw [bT,if_neg (by rintro rfl;rw [hi] at hm;cases hm)];exact hm
  obtain ⟨RE,hX,hk,hs2⟩:=ih ((i,R)::Rs) hnd.2 (fun j hj=>by rw [bT,if_neg bh8];exact hno j (List.mem_cons_of_mem _ hj)) h (fun j R' hj=>by
   rcases List.mem_cons.1 hj with hj | hj
   ·cases hj
    refine ⟨by rw [bT,if_pos rfl],o,ho,?_,Gm⟩
    rcases hy with hy | ⟨m,Rm,h1,h2⟩
    ·exact .inl hy
    ·exact .inr ⟨m,Rm,hmo m Rm h1,h2⟩
   ·obtain ⟨h1,o',h2,hy',h3⟩:=hs j R' hj
    refine ⟨hmo j R' h1,o',h2,?_,h3⟩
    rcases hy' with hy | ⟨m,Rm,h1,h2⟩
    ·exact .inl hy
    ·exact .inr ⟨m,Rm,hmo m Rm h1,h2⟩)
  refine ⟨RE,hX,fun j=>?_,hs2⟩
  rw [hk,List.mem_cons,bT]
  by_cases hij:i=j
  ·subst hij;simp
  ·rw [if_neg hij]
   constructor
   ·rintro (h | h)
    ·exact .inl (.inr h)
    ·exact .inr h
   ·rintro ((h | h) | h)
    ·exact absurd h.symm hij
    ·exact .inl h
    ·exact .inr h
theorem Su {iv:Fm} {X Y:List (Nat × RT)→Prop}:∀ (E:List Nat) (Rs:List (Nat × RT)) (Uf:∀ KU,KU.map (·.1)=E.reverse++Rs.map (·.1)→X KU→Y KU),Ai P n w0 mu all ds l hp iv X E Rs→Ai P n w0 mu all ds l hp iv Y E Rs:=by
 intro E
 induction E with
 | nil=>intro Rs Uf h;exact Uf Rs be7 h
 | cons i E ih=>
  rintro Rs Uf ⟨o,R,h1,h2,h3,h4⟩
  exact ⟨o,R,h1,h2,h3,ih _ (fun KU e=>Uf KU (by rw [e];simp)) h4⟩
end
section
variable {P : Program} {n : Nat} {w0 : World} {mu : List Nat} {l : Fm} {hp : Hp} {Q : Exit → Fm → Hp → Prop} {all : Array Oper} {kd : Nat → Kd} {val : Ch → Nat → Value} {k : Nat}
theorem NY {ds:List (Nat × Nat)} (hds:∀ k d,lk ds k=some d→aY all k=some d) {g:Nat} {Q':Exit→Act→World→Prop} (hk:k≤all.size) (hd:xg all k n=true) (hf:bI l (dstsOf all k)=true) (hback:nR all=true)
  (hS:∀ i o v,i<k→all[i]?=some o→kd i=.s v→(∀ c,val c i=v)∧∃ bK,(∀ j u,look bK j=some u→j<k∧∀ c,val c j=u)∧∀ hx,sQ P n w0 mu all (aG ds bK o.after.toList++l) (hx++hp) o v)
  (hE:∀ i o R,i<k→all[i]?=some o→kd i=.e R→(∀ c,val c i=(c i).1)∧∃ bK,(∀ j u,look bK j=some u→j<k∧∀ c,val c j=u)∧EoD P n w0 mu all ds l hp bK kd val k i o R)
  (hD:∀ c,Valid kd k c→∀ i o,i<k→all[i]?=some o→kd i=.d→∃ bK,(∀ j u,look bK j=some u→j<k∧val c j=u)∧zY P n w0 mu (aG ds bK o.after.toList++l) hp o (val c i))
  (htail:∀ f c listed,leftOf k listed=f→HeadInv .any all k listed→(∀ i,i<k→wM (kd i)=true→listed.getD i true=true)→∀ a w,zZ n w0 mu all l hp kd val k c listed a w→wpAny P .any all Q' (f + g) listed a w)
  (lQ:∀ listed,HeadInv .any all k listed→∀ i,i<k→wM (kd i)=true→listed.getD i true=false→∀ t,k≤t→t ∉ Region.ready .any all listed):
  ∀ f c listed a w,leftOf k listed=f→HeadInv .any all k listed→zZ n w0 mu all l hp kd val k c listed a w→wpAny P .any all Q' (f + g) listed a w:=by
 intro f
 induction f with
 | zero=>
  intro c listed a w hlf inv hm
  refine htail 0 c listed hlf inv (fun i hi _=>?_) a w hm
  cases hc:listed.getD i true with
  | true=>rfl
  | false=>
   exfalso
   have:i∈(List.range k).filter fun i=>!listed.getD i true:=List.mem_filter.2 ⟨List.mem_range.2 hi,by simp only [hc,Bool.not_false]⟩
   have h2:=List.length_pos_of_mem this
   unfold leftOf at hlf
   omega
 | succ f ih=>
  intro c listed a w hlf inv hm
  by_cases uu:∀ i,i<k→wM (kd i)=true→listed.getD i true=true
  ·exact htail (f + 1) c listed hlf inv uu a w hm
  obtain ⟨i0,nG,ah0,hi0⟩:∃ i,i<k∧wM (kd i)=true∧listed.getD i true=false:=by
   refine Classical.byContradiction fun hno=>uu fun i hi he=>?_
   cases hc:listed.getD i true with
   | true=>rfl
   | false=>exact absurd ⟨i,hi,he,hc⟩ hno
  rw [show f + 1 + g=(f + g) + 1 by omega]
  refine ⟨fun hnil=>?_,fun i hi=>?_⟩
  ·exfalso
   obtain ⟨i,⟨hik,hil⟩,hmin⟩:=exists_least (p:=fun i=>i<k∧listed.getD i true=false) ⟨i0,nG,hi0⟩
   have hr:i∈Region.ready .any all listed:=by
    rw [mem_ready]
    have hs:i<all.size:=by omega
    refine ⟨hil,all[i],by simp [hs],fun e he hb=>?_⟩
    have hb2:=List.all_eq_true.1 hback i (List.mem_range.2 hs)
    simp only [Array.getElem?_eq_getElem hs] at hb2
    have hb3:=(Array.all_eq_true_iff_forall_mem.1 hb2) e he
    simp only [hb,Bool.not_true,Bool.false_or,Nat.blt_eq] at hb3
    cases hc:listed.getD e.on false with
    | true=>rfl
    | false=>
     have h5:=hmin e.on ⟨by omega,getD_in bf1 hc⟩
     omega
   rw [hnil] at hr;cases hr
  ·have hik:i<k:=by
    rcases Nat.lt_or_ge i k with h | h
    ·exact h
    ·exact absurd hi (lQ listed inv i0 nG ah0 hi0 i h)
   obtain ⟨hun,o,ho,hall⟩:=mem_ready.1 hi
   have hsz:i<listed.size:=by rw [inv.size];omega
   have hself:∀ j,j<k→listed.getD j false=true→wM (kd j)=true→c j=c j:=fun _ _ _ _=>rfl
   have hgo:∀ c2 a' w',zZ n w0 mu all l hp kd val k c2 (listed.setIfInBounds i true) a' w'→wpAny P .any all Q' (f + g) (listed.setIfInBounds i true) a' w':=fun c2 a' w' h=>
    ih c2 _ _ _ bg5 (inv.set hi hik) h
   have zJ:Good w0 mu hp w:=hm.good.sub (List.sublist_append_right _ _)
   unfold wpOp
   simp only [ho]
   cases hkd:kd i with
   | s v=>
    obtain ⟨nP,bK,hiv,hy⟩:=hS i o v hik ho hkd
    have hkn:=dX (i:=i) hds hm hm.valid hself (fun j u hu=>⟨(hiv j u hu).1,(hiv j u hu).2 c⟩) hall
    have hE0:wM (kd i)=false:=by rw [hkd];rfl
    have hnext:∀ w',Good w0 mu (jK kd c listed k++hp) w'→wpAny P .any all Q' (f + g) (listed.setIfInBounds i true) (a.put o.dst v) w':=fun w' hG'=>
     hgo c _ _ (jL hm ho hik hun hsz hd hf hm.valid (fun _ _=>rfl) (by rw [oL hE0];exact hG') (fun c' _ _=>nP c'))
    have h3:=hy (jK kd c listed k)
    unfold sQ at h3
    cases hg:o.guard with
    | none=>
     rw [hg] at h3
     rw [if_pos bf5]
     exact .inl (h3 a w hkn hm.good _ _ hnext)
    | some jw=>
     obtain ⟨j,want⟩:=jw
     rw [hg] at h3
     obtain ⟨dj,c0,b,u,hj,hb,hdj,hy,hvv⟩:=h3
     have hw:=iJ hkn hg hj hb hdj
     cases hc:(c0 && iH b want) with
     | true=>
      rw [hc] at hw hvv
      rw [if_pos hw]
      rw [Bool.and_eq_true] at hc
      rw [show v=u from hvv] at hnext
      exact .inl (hy hc.1 hc.2 a w hkn hm.good _ _ hnext)
     | false=>
      rw [hc] at hw hvv
      rw [if_neg bh2]
      rw [show v=undef from hvv] at hnext
      exact hnext w hm.good
   | e R=>
    obtain ⟨nP,bK,hiv,hed⟩:=hE i o R hik ho hkd
    have hwl:∀ t,Region.waitsFor .any all i t=true→listed.getD t false=true:=fun t ht=>by
     obtain ⟨oj,h6,e,he,hb,heq⟩:=Region.waitsFor_spec ht
     rw [ho] at h6;cases h6
     rw [← heq]
     exact hall e he hb
    obtain ⟨hg,hy⟩:Region.wanted o (yielded all a.tmps)=true∧∀ (K:Act→World→Prop) (Q:Exit→Act→World→Prop),(∀ v hn w',R v hn→Good w0 mu (hn++(jK kd c listed k++hp)) w'→K (a.put o.dst v) w')→o.wp P a w K Q:=by
     rcases hed with ⟨hg,hy⟩ | ⟨m,Rm,hmk,hkm,hvm,hwm,hy⟩
     ·have hkn:=dX (i:=i) hds hm hm.valid hself (fun j u hu=>⟨(hiv j u hu).1,(hiv j u hu).2 c⟩) hall
      exact ⟨hg _ hkn,fun K Q h=>hy a w _ hkn hm.good K Q h⟩
     ·have hRm:=hm.valid m hmk Rm hkm
      obtain ⟨hg,hy⟩:=hy _ _ hRm
      have hkn:=dX (bK:=(m,(c m).1)::bK) (i:=i) hds hm hm.valid hself (fun j u hu=>by
       rw [fM,bT] at hu
       by_cases hmj:m=j
       ·subst hmj
        rw [if_pos rfl] at hu
        cases hu
        exact ⟨hmk,hvm c⟩
       ·rw [if_neg hmj,← fM] at hu
        exact ⟨(hiv j u hu).1,(hiv j u hu).2 c⟩) hall
      obtain ⟨hx,hpx⟩:=WS (kd:=kd) (c:=c) (listed:=listed) (m:=m) (by rw [hkm];rfl) (hwl m hwm) k hmk
      refine ⟨hg _ hkn,fun K Q h=>hy a w hx hkn (hm.good.perm (by rw [← List.append_assoc];exact (hpx.append_right _).symm)) K Q fun v hn w' hR hG'=>h v hn w' hR (hG'.perm (List.Perm.append_left _ (by rw [← List.append_assoc];exact hpx.append_right _)))⟩
    rw [if_pos hg]
    refine .inl (hy _ _ fun v hn w' hR hG'=>?_)
    refine hgo (fun t=>if t=i then (v,hn) else c t) _ _ (jL hm ho hik hun hsz hd hf ?_ (fun j hj=>by simp [hj]) ?_ ?_)
    ·intro j hj R' hR'
     by_cases hji:j=i
     ·subst hji
      rw [hkd] at hR'
      cases hR'
      simpa using hR
     ·simp only [hji,if_false]
      exact hm.valid j hj R' hR'
    ·refine hG'.perm ?_
     rw [← List.append_assoc]
     exact (BN bj9 hun hsz k hik).symm.append_right _
    ·intro c' hc' hag
     rw [nP c',hag i hik (by simp [hsz]) bj9]
     simp
   | d=>
    obtain ⟨bK,hiv,hg,hy⟩:=hD c hm.valid i o hik ho hkd
    have hE0:wM (kd i)=false:=by rw [hkd];rfl
    have hkn:=dX (i:=i) hds hm hm.valid hself hiv hall
    have hrun:=hy a w hkn zJ
    rw [if_pos bf5]
    refine .inl ?_
    unfold Oper.wp
    rw [hrun]
    refine hgo c _ _ (jL hm ho hik hun hsz hd hf hm.valid (fun _ _=>rfl) (by rw [oL hE0];exact hm.good) (fun c' hc' hag=>?_))
    obtain ⟨lJ,yR,hg2,hy2⟩:=hD c' hc' i o hik ho hkd
    have hag':∀ j,j<k→listed.getD j false=true→wM (kd j)=true→c' j=c j:=fun j hj hl he=>hag j hj (getD_set_true hl) he
    have hrun2:=hy2 a w (dX (i:=i) hds hm hc' hag' yR hall) zJ
    rw [hrun] at hrun2
    simp only [Result.ok.injEq,Next.value.injEq,and_true] at hrun2
    exact hrun2.symm
end
section
variable {P : Program} {n : Nat} {w0 : World} {mu : List Nat} {l : Fm} {hp : Hp} {Q : Exit → Fm → Hp → Prop} {ds : List (Nat × Nat)}
theorem NZ {ops:List Oper} (k:Nat) (S E D D2 C:List Nat) (hB:mD ops.toArray n k S E D D2 C=true) (hf:bI l (dstsOf ops.toArray ops.toArray.size)=true) (hf1:bI l (dstsOf ops.toArray k)=true) (hsp:splitB k S E D=true) (hds:bY ops 0=ds)
  (h:je P n w0 mu ops.toArray ds l hp (fun aH=>Ai P n w0 mu ops.toArray ds l hp aH (fun Rs=>∀ c,Ef c Rs→gJ P n w0 mu ops.toArray ds l [] (fun UU=>gJ P n w0 mu ops.toArray ds l [] (fun lJ=>gY P n w0 mu ops.toArray ds l [] lJ (fun aS hc=>Ops P n w0 mu ops.toArray [] (bC ds (aS++lJ)++l) hc Q) C [] (yS E c k++hp)) D2 UU) D (wO c Rs++aH)) E []) S []):jV P n w0 mu ops.toArray l hp Q:=by
 intro a w hk hG
 simp only [splitB,Bool.and_eq_true,decide_eq_true_eq] at hsp
 obtain ⟨⟨⟨_,hnd⟩,hlt⟩,hcov⟩:=hsp
 have hlt':∀ i∈S++E++D,i<k:=fun i hi=>by have:=List.all_eq_true.1 hlt i hi;simpa using this
 have oQ:∀ i,i<k→i∈S∨i∈E∨i∈D:=fun i hi=>by
  have:=dQ (List.all_eq_true.1 hcov i (List.mem_range.2 hi))
  simpa [or_assoc] using this
 rw [List.append_assoc,List.nodup_append] at hnd
 obtain ⟨BP,zK,hSx⟩:=hnd
 rw [List.nodup_append] at zK
 obtain ⟨BQ,Ll,hEx⟩:=zK
 obtain ⟨aH,h2,Qa,sS,hsS⟩:=Gj S [] BP (fun _ _=>rfl) (fun _ _ h=>by cases h) h (fun i v hv=>by cases hv)
 obtain ⟨Rs,h3,qg,hsE⟩:=WT E [] BQ (fun _ _=>rfl) h2 (fun i R hR=>by cases hR)
 simp only [lk,reduceCtorEq,exists_false,or_false] at sS qg
 have Xx:∀ i R,lk Rs i=some R→lk aH i=none:=fun i R hR=>by
  cases hv:lk aH i with
  | none=>rfl
  | some v=>exact absurd rfl (hSx i ((sS i).1 ⟨v,hv⟩) i (List.mem_append_left _ ((qg i).1 ⟨R,hR⟩)))
 let kd:Nat→Kd:=fun i=>match lk Rs i with | some R=>.e R | none=>match lk aH i with | some v=>.s v | none=>.d
 have lK:∀ i R,kd i=.e R↔lk Rs i=some R:=fun i R=>by
  show (match lk Rs i with | some R=>Kd.e R | none=>match lk aH i with | some v=>.s v | none=>.d)=_↔_
  cases lk Rs i with
  | some R'=>simp
  | none=>cases lk aH i<;>simp
 have IW:∀ i v,kd i=.s v→lk Rs i=none∧lk aH i=some v:=fun i v=>by
  show (match lk Rs i with | some R=>Kd.e R | none=>match lk aH i with | some v=>.s v | none=>.d)=_→_
  cases lk Rs i with
  | some R'=>simp
  | none=>cases lk aH i<;>simp
 have Uc:∀ i,kd i=.d→lk Rs i=none∧lk aH i=none:=fun i=>by
  show (match lk Rs i with | some R=>Kd.e R | none=>match lk aH i with | some v=>.s v | none=>.d)=_→_
  cases lk Rs i with
  | some R'=>simp
  | none=>cases lk aH i<;>simp
 have IX:∀ i R,lk Rs i=some R→(i,R)∈Rs:=fun i R h=>iK h
 have hvalid:∀ c,Valid kd k c→Ef c Rs:=fun c hc=>AU Rs fun p hp=>by
  obtain ⟨i,R⟩:=p
  have h1:=(hsE i R hp).1
  exact hc i (hlt' i (List.mem_append_left _ (List.mem_append_right _ ((qg i).1 ⟨R,h1⟩)))) R ((lK i R).2 h1)
 have hex:∀ c,Valid kd k c→∃ xy,gJ P n w0 mu ops.toArray ds l [] (fun lJ=>gY P n w0 mu ops.toArray ds l [] lJ (fun aS hc=>Ops P n w0 mu ops.toArray [] (bC ds (aS++lJ)++l) hc Q) C [] (yS E c k++hp)) D2 xy∧Uq xy∧nH (wO c Rs++aH) xy∧(∀ i,(∃ v,lk xy i=some v)↔i∈D∨∃ v,lk (wO c Rs++aH) i=some v)∧∀ i v,lk xy i=some v→lk (wO c Rs++aH) i=some v∨∃ o bK,ops.toArray[i]?=some o∧nH bK xy∧zY P n w0 mu (aG ds bK o.after.toList++l) [] o v:=fun c hc=>
  xx D (wO c Rs++aH) Ll (fun i hi=>by
   rw [dV]
   have e1:lk Rs i=none:=by
    cases hR:lk Rs i with
    | none=>rfl
    | some R=>exact absurd rfl (hEx i ((qg i).1 ⟨R,hR⟩) i hi)
   rw [e1]
   cases hv:lk aH i with
   | none=>rfl
   | some v=>exact absurd rfl (hSx i ((sS i).1 ⟨v,hv⟩) i (List.mem_append_right _ hi))) (fun i v hv=>by
   rw [dV]
   rcases List.mem_append.1 hv with hv | hv
   ·obtain ⟨rfl,R,hR⟩:=xA Rs hv
    rw [(hsE i R hR).1]
   ·have h1:=Qa i v hv
    cases hR:lk Rs i with
    | none=>exact h1
    | some R=>rw [Xx i R hR] at h1;cases h1) (fun _ _ h=>h) (h3 c (hvalid c hc)) (fun i v hv=>.inl hv)
 have hch:∃ F:Ch→Fm,∀ c,Valid kd k c→gJ P n w0 mu ops.toArray ds l [] (fun lJ=>gY P n w0 mu ops.toArray ds l [] lJ (fun aS hc=>Ops P n w0 mu ops.toArray [] (bC ds (aS++lJ)++l) hc Q) C [] (yS E c k++hp)) D2 (F c)∧Uq (F c)∧nH (wO c Rs++aH) (F c)∧(∀ i,(∃ v,lk (F c) i=some v)↔i∈D∨∃ v,lk (wO c Rs++aH) i=some v)∧∀ i v,lk (F c) i=some v→lk (wO c Rs++aH) i=some v∨∃ o bK,ops.toArray[i]?=some o∧nH bK (F c)∧zY P n w0 mu (aG ds bK o.after.toList++l) [] o v:=by
  classical
  refine ⟨fun c=>if hc:Valid kd k c then Classical.choose (hex c hc) else [],fun c hc=>?_⟩
  simp only [hc,dif_pos]
  exact Classical.choose_spec (hex c hc)
 obtain ⟨F,hF⟩:=hch
 let val:Ch→Nat→Value:=fun c i=>match kd i with | .s v=>v | .e _=>(c i).1 | .d=>(lk (F c) i).getD undef
 have tK:∀ c,Valid kd k c→∀ i v,lk (F c) i=some v→val c i=v:=fun c hc i v hv=>by
  obtain ⟨_,_,hmo,_,_⟩:=hF c hc
  show (match kd i with | .s v=>v | .e _=>(c i).1 | .d=>(lk (F c) i).getD undef)=v
  cases hkd:kd i with
  | s u=>
   obtain ⟨e1,e2⟩:=IW i u hkd
   have:=hmo i u (by rw [dV,e1];exact e2)
   rw [hv] at this;cases this;rfl
  | e R=>
   have e1:=(lK i R).1 hkd
   have:=hmo i (c i).1 (by rw [dV,e1])
   rw [hv] at this;cases this;rfl
  | d=>rw [hv];rfl
 have xB:∀ c,Valid kd k c→∀ i,i<k→∃ v,lk (F c) i=some v:=fun c hc i hi=>by
  obtain ⟨_,_,_,hkk,_⟩:=hF c hc
  rw [hkk i]
  rcases oQ i hi with h | h | h
  ·obtain ⟨v,hv⟩:=(sS i).2 h
   right
   rw [dV]
   cases lk Rs i with
   | some R=>exact ⟨_,rfl⟩
   | none=>exact ⟨v,hv⟩
  ·obtain ⟨R,hR⟩:=(qg i).2 h
   right
   rw [dV,hR]
   exact ⟨_,rfl⟩
  ·exact .inl h
 have mO:∀ i v,lk aH i=some v→i<k∧∀ c,val c i=v:=fun i v hv=>by
  refine ⟨hlt' i (List.mem_append_left _ (List.mem_append_left _ ((sS i).1 ⟨v,hv⟩))),fun c=>?_⟩
  show (match kd i with | .s v=>v | .e _=>(c i).1 | .d=>(lk (F c) i).getD undef)=v
  have:kd i=.s v:=by
   show (match lk Rs i with | some R=>Kd.e R | none=>match lk aH i with | some v=>.s v | none=>.d)=_
   cases hR:lk Rs i with
   | some R=>rw [Xx i R hR] at hv;cases hv
   | none=>rw [hv]
  rw [this]
 cases C with
 | nil=>simp [mD] at hB
 | cons t0 C'=>
 simp only [mD,Bool.and_eq_true,decide_eq_true_eq] at hB
 obtain ⟨⟨⟨⟨⟨⟨⟨⟨⟨⟨hks,hd⟩,hdK⟩,hback⟩,xO⟩,dH⟩,hSt⟩,hEt⟩,hge⟩,wB⟩,hwt⟩:=hB
 simp only [qW,Bool.and_eq_true,decide_eq_true_eq] at xO
 obtain ⟨⟨ah1,ah2⟩,UW⟩:=xO
 have LP:∀ j,j∈D2++t0::C'→k≤j:=fun j hj=>by have:=List.all_eq_true.1 hge j hj;simpa using this
 have nI:∀ i d,lk ds i=some d→aY ops.toArray i=some d:=fun i d h=>by rw [← hds] at h;have:=(jJ ops 0 i d h).2;simpa [aY] using this
 have Gm:∃ c0:Ch,Valid kd k c0:=by
  have h1:∀ i,∃ x:Value × Hp,∀ R,kd i=.e R→R x.1 x.2:=fun i=>by
   cases hR:lk Rs i with
   | none=>exact ⟨(undef,[]),fun R h=>by rw [(lK i R).1 h] at hR;cases hR⟩
   | some R=>
    obtain ⟨_,o,_,_,v,hn,hv⟩:=hsE i R (IX i R hR)
    exact ⟨(v,hn),fun R' h=>by rw [(lK i R').1 h] at hR;cases hR;exact hv⟩
  exact ⟨fun i=>Classical.choose (h1 i),fun i hi R hR=>Classical.choose_spec (h1 i) R hR⟩
 obtain ⟨c0,hc0⟩:=Gm
 have inv0:HeadInv .any ops.toArray k (Array.replicate ops.toArray.size false):=
  ⟨by simp,fun j oj _ hl=>bf0,fun t _ ht=>getD_in bi4 (getD_replicate_false _ _)⟩
 have hleft:leftOf k (Array.replicate ops.toArray.size false)=k:=by
  unfold leftOf
  rw [List.filter_eq_self.2]
  ·simp
  ·intro i hi
   have hi':i<k:=by simpa using hi
   have:(Array.replicate ops.toArray.size false).getD i true=false:=getD_in bj0 (getD_replicate_false _ _)
   simp only [this,Bool.not_false]
 have Ud:∀ m,jK kd c0 (Array.replicate ops.toArray.size false) m=[]:=by
  intro m
  induction m with
  | zero=>rfl
  | succ m ih=>simp only [jK,ih,kV,getD_replicate_false,Bool.and_false,cond_false,List.append_nil]
 have BR:∀ i,i<k→wM (kd i)=mem E i:=fun i hi=>by
  cases hkd:kd i with
  | e R=>rw [mem_of ((qg i).1 ⟨R,(lK i R).1 hkd⟩)];rfl
  | s v=>
   cases hmm:mem E i with
   | false=>rfl
   | true=>obtain ⟨R,hR⟩:=(qg i).2 (dQ hmm);rw [(lK i R).2 hR] at hkd;cases hkd
  | d=>
   cases hmm:mem E i with
   | false=>rfl
   | true=>obtain ⟨R,hR⟩:=(qg i).2 (dQ hmm);rw [(lK i R).2 hR] at hkd;cases hkd
 have key:=NY nI (P:=P) (n:=n) (w0:=w0) (mu:=mu) (l:=l) (hp:=hp) (all:=ops.toArray) (kd:=kd) (val:=val) (k:=k) (g:=ops.toArray.size - k) (Q':=QQ n w0 mu Q) hks hd hf1 hback
  (fun i o v hi ho hkd=>by
   obtain ⟨e1,e2⟩:=IW i v hkd
   obtain ⟨o',bK,h1,h2,h3⟩:=hsS i v e2
   rw [ho] at h1;cases h1
   exact ⟨(mO i v e2).2,bK,fun j u hu=>mO j u (h2 j u bf9),h3⟩)
  (fun i o R hi ho hkd=>by
   have e1:=(lK i R).1 hkd
   obtain ⟨_,o',h1,h2,_⟩:=hsE i R (IX i R e1)
   rw [ho] at h1;cases h1
   have hve:∀ i R,kd i=.e R→∀ c,val c i=(c i).1:=fun i R hkd c=>by
    show (match kd i with | .s v=>v | .e _=>(c i).1 | .d=>(lk (F c) i).getD undef)=_
    rw [hkd]
   refine ⟨hve i R hkd,aH,fun j u hu=>mO j u bf9,?_⟩
   rcases h2 with h2 | ⟨m,Rm,hlm,hwm,h2⟩
   ·exact .inl h2
   ·exact .inr ⟨m,Rm,hlt' m (List.mem_append_left _ (List.mem_append_right _ ((qg m).1 ⟨Rm,hlm⟩))),(lK m Rm).2 hlm,hve m Rm ((lK m Rm).2 hlm),hwm,h2⟩)
  (fun c hcv i o hi ho hkd=>by
   obtain ⟨e1,e2⟩:=Uc i hkd
   obtain ⟨v,hv⟩:=xB c hcv i hi
   obtain ⟨_,_,_,_,hsp⟩:=hF c hcv
   rw [tK c hcv i v hv]
   rcases hsp i v hv with h0 | ⟨o',bK,h1,h2,h3⟩
   ·rw [dV,e1] at h0;rw [e2] at h0;cases h0
   ·rw [ho] at h1;cases h1
    refine ⟨bK,fun j u hu=>?_,Jf h3⟩
    have hj:=h2 j u bf9
    refine ⟨?_,tK c hcv j u hj⟩
    obtain ⟨_,_,_,hkk,_⟩:=hF c hcv
    rcases (hkk j).1 ⟨u,hj⟩ with h | ⟨v',h⟩
    ·exact hlt' j (List.mem_append_right _ h)
    ·rw [dV] at h
     cases hR:lk Rs j with
     | some R=>exact hlt' j (List.mem_append_left _ (List.mem_append_right _ ((qg j).1 ⟨R,hR⟩)))
     | none=>rw [hR] at h;exact (mO j v' h).1)
  (fun f c listed hlf inv uu a w hmid=>?_)
  (fun listed inv i hi hie hun t ht=>?_)
  k c0 _ a { w with drawn:=w.drawn + 1 } hleft inv0 ⟨hk.size,hk.defers,hk.has,hc0,by rw [Ud];exact hG.drawn _,fun i _ hl=>bf0⟩
 ·have e:k + (ops.toArray.size - k)=ops.toArray.size:=by omega
  rw [e] at key
  exact key
 ·obtain ⟨hX,huq,hmo,hkk,hsp1⟩:=hF c hmid.valid
  have Xz:∀ i v,lk (F c) i=some v→i<k:=fun i v hv=>by
   rcases (hkk i).1 ⟨v,hv⟩ with h | ⟨v',h⟩
   ·exact hlt' i (List.mem_append_right _ h)
   ·rw [dV] at h
    cases hR:lk Rs i with
    | some R=>exact hlt' i (List.mem_append_left _ (List.mem_append_right _ ((qg i).1 ⟨R,hR⟩)))
    | none=>rw [hR] at h;exact (mO i v' h).1
  have Jh:=ah1
  rw [List.nodup_append,List.nodup_append] at Jh
  obtain ⟨⟨_,UX,aE0⟩,Gz,hCx⟩:=Jh
  obtain ⟨lJ,hY,hu2,GL,LQ,hsp2⟩:=xx (base:=F c) D2 (F c) UX (fun i hi=>by
   cases hv:lk (F c) i with
   | none=>rfl
   | some v=>
    have h1:=Xz i v hv
    have h2:=LP i (List.mem_append_left _ hi)
    omega) huq (fun _ _ h=>h) hX (fun i v hv=>.inl hv)
  have CS:∀ j,k≤j→j<ops.toArray.size→listed.getD j true=false:=fun j h1 h2=>inv.tail j h1 h2
  have CU:∀ i∈(S++E++D++D2)++t0::C',i<ops.toArray.size:=fun i hi=>by have:=List.all_eq_true.1 ah2 i hi;simpa using this
  have yR:∀ i v,lk lJ i=some v→i<ops.toArray.size:=fun i v hv=>by
   rcases (LQ i).1 ⟨v,hv⟩ with h | ⟨v',h⟩
   ·exact CU i (List.mem_append_left _ (List.mem_append_right _ h))
   ·have:=Xz i v' h;omega
  have invK:HeadInv .any ops.toArray ops.toArray.size listed:=⟨inv.size,inv.closed,fun t h1 h2=>by omega⟩
  have ah3:leftOf ops.toArray.size listed=f + (ops.toArray.size - k):=by rw [zL hks CS,hlf]
  have hbe:∀ m,m≤k→jK kd c listed m=yS E c m:=by
   intro m
   induction m with
   | zero=>intro _;rfl
   | succ m ih=>
    intro hm
    simp only [jK,yS,kV]
    rw [ih be5,BR m be5]
    cases hme:mem E m with
    | false=>rfl
    | true=>
     have h1:=uu m be5 (by rw [BR m be5];exact hme)
     have h2:listed.getD m false=true:=by
      cases hcc:listed.getD m false with
      | true=>rfl
      | false=>rw [getD_in bf1 hcc] at h1;cases h1
     rw [h2];rfl
  have hgood:Good w0 mu (yS E c k++hp) w:=by rw [← hbe k (Nat.le_refl _)];exact hmid.good
  have UY:qX n w0 mu ops.toArray l lJ [] (yS E c k++hp) listed a w:=by
   refine ⟨hmid.size,hmid.defers,hmid.has,hgood,fun i v hv hl d hdd=>?_,fun i v hv=>by cases hv⟩
   have hik:i<k:=by
    rcases Nat.lt_or_ge i k with h | h
    ·exact h
    ·have h1:=CS i h (yR i v hv)
     rw [getD_both h1] at hl;cases hl
   obtain ⟨v',hv'⟩:=xB c hmid.valid i hik
   have h1:=GL i v' hv'
   rw [hv] at h1;cases h1
   rw [hmid.done i hik hl c hmid.valid (fun _ _ _ _=>rfl) d hdd]
   exact tK c hmid.valid i v hv'
  have ah4:=CQ nI (P:=P) (n:=n) (w0:=w0) (mu:=mu) (l:=l) (hp:=hp) (h0:=[]) (all:=ops.toArray) (aH:=lJ) (k:=ops.toArray.size) (t0:=t0) (g:=0) (Q':=QQ n w0 mu Q) (X:=fun aS hc=>Ops P n w0 mu ops.toArray [] (bC ds (aS++lJ)++l) hc Q) (dn:=mem E) (Nat.le_refl _) hdK hf hback (bu fun b=>by simp [lM])
   (fun i hi hdn=>by
    have:=List.all_eq_true.1 wB i (List.mem_range.2 hi)
    rw [hdn] at this
    simp only [Option.isSome_none,Bool.false_or,Bool.or_eq_true] at this
    rcases this with h | h
    ·exact .inl (Nat.eq_of_beq_eq_true h)
    ·exact .inr h)
   (fun i v hv=>⟨yR i v hv,fun hne=>?_⟩)
   (fun aS h listed inv hall hX a w hmid hEk=>?_)
   (fun listed inv i hi hun t ht hr=>by
    obtain ⟨_,o,ho,_⟩:=mem_ready.1 hr
    have:=(Array.getElem?_eq_some_iff.1 ho).1
    omega)
   (f + (ops.toArray.size - k)) (t0::C') [] (yS E c k++hp) listed a w ah3 invK (fun i hi=>uu i (hlt' i (List.mem_append_left _ (List.mem_append_right _ (dQ hi)))) bh0) UY (fun i v hv=>by cases hv)
   (fun i hi=>⟨CU i (List.mem_append_right _ hi),CS i (LP i (List.mem_append_right _ hi)) (CU i (List.mem_append_right _ hi)),?_⟩) Gz dH (fun i hi hl=>?_) (bu fun b=>by simp [lM]) (fun _=>aC.right _ _) hY
  ·exact ah4
  ·rcases hsp2 i v hv with h0 | ⟨o,bK,h1,h2,h3⟩
   ·rcases hsp1 i v h0 with h0 | ⟨o,bK,h1,h2,h3⟩
    ·rw [dV] at h0
     cases hR:lk Rs i with
     | some R=>
      rw [mem_of ((qg i).1 ⟨R,hR⟩)] at hne;cases hne
     | none=>
      rw [hR] at h0
      obtain ⟨o,bK,h1,h2,h3⟩:=hsS i v h0
      refine ⟨o,bK,h1,fun j u hu=>?_,fun hx=>?_⟩
      ·refine GL j u (hmo j u ?_)
       have h4:=h2 j u hu
       rw [dV]
       cases hR2:lk Rs j with
       | some R2=>rw [Xx j R2 hR2] at h4;cases h4
       | none=>exact h4
      ·rw [List.all_eq_true.1 hSt i ((sS i).1 ⟨v,h0⟩)]
       exact h3 hx
    ·exact ⟨o,bK,h1,fun j u hu=>GL j u (h2 j u hu),fun hx=>Jg h3⟩
   ·exact ⟨o,bK,h1,h2,fun hx=>Jg h3⟩
  ·have qZ:Knows n (bC ds (aS++lJ)++l) a:=by
    refine ⟨hmid.size,hmid.defers,fun t v ht=>?_⟩
    rcases eX ht with ht | ⟨_,ht⟩
    ·obtain ⟨j,h1,h2⟩:=iV (gK ht)
     rcases List.mem_append.1 h1 with h1 | h1
     ·exact (hmid.mX j v h1).2 t (nI _ _ h2)
     ·have hj:=hu2 j v h1
      have hjk:=yR j v hj
      refine hmid.rV j v hj ?_ t (nI _ _ h2)
      have h5:=hall j hjk
      cases hcc:listed.getD j false with
      | true=>rfl
      | false=>rw [getD_in bf1 hcc] at h5;cases h5
    ·exact hmid.has t v ht
   refine ⟨?_,hX a w qZ hmid.good⟩
   rw [List.eq_nil_iff_forall_not_mem]
   intro i hi
   obtain ⟨hun,o,ho,_⟩:=mem_ready.1 hi
   rw [hall i (Array.getElem?_eq_some_iff.1 ho).1] at hun;cases hun
  ·cases hv:lk lJ i with
   | none=>rfl
   | some v=>
    exfalso
    have h2:=LP i (List.mem_append_right _ hi)
    rcases (LQ i).1 ⟨v,hv⟩ with h | ⟨v',h⟩
    ·exact hCx i (List.mem_append_right _ h) i hi rfl
    ·have:=Xz i v' h;omega
  ·have h1:=dQ (List.all_eq_true.1 UW i (List.mem_range.2 hi))
   rcases List.mem_append.1 h1 with h1 | h1
   ·left
    rcases List.mem_append.1 h1 with h1 | h1
    ·obtain ⟨v,hv⟩:=xB c hmid.valid i (hlt' i h1)
     exact ⟨v,GL i v hv⟩
    ·exact (LQ i).2 (.inl h1)
   ·exact .inr h1
 ·intro hr
  obtain ⟨_,o,ho,hall⟩:=mem_ready.1 hr
  have hts:t<ops.toArray.size:=(Array.getElem?_eq_some_iff.1 ho).1
  have hwl:∀ j,Region.waitsFor .any ops.toArray t j=true→listed.getD j false=true:=fun j hj=>by
   obtain ⟨oj,h6,e,he,hb,heq⟩:=Region.waitsFor_spec hj
   rw [ho] at h6;cases h6
   rw [← heq];exact hall e he hb
  have h1:=List.all_eq_true.1 hwt t (List.mem_range.2 hts)
  simp only [Bool.or_eq_true] at h1
  rcases h1 with (h1 | h1) | h1
  ·have:t<k:=by simpa using h1
   omega
  ·have h2:=hwl i (List.all_eq_true.1 h1 i (dQ (by rw [← BR i hi];exact hie)))
   rw [getD_both hun] at h2;cases h2
  ·obtain ⟨j,hj,h2⟩:=List.any_eq_true.1 h1
   rw [Bool.and_eq_true] at h2
   have h3:=hwl j h2.2
   rw [getD_both (inv.tail j (by simpa using h2.1) (List.mem_range.1 hj))] at h3;cases h3
theorem Sv {ops:List Oper} (k:Nat) (S E D D2 C:List Nat) (hB:mD ops.toArray n k S E D D2 C=true) (hf:bI l (dstsOf ops.toArray ops.toArray.size)=true) (hf1:bI l (dstsOf ops.toArray k)=true) (hsp:splitB k S E D=true) (hds:bY ops 0=ds)
  (h:je P n w0 mu ops.toArray ds l hp (fun aH=>Ai P n w0 mu ops.toArray ds l hp aH (fun Rs=>DN (fun iv bl=>gJ P n w0 mu ops.toArray ds l [] (fun UU=>gJ P n w0 mu ops.toArray ds l [] (fun lJ=>gY P n w0 mu ops.toArray ds l [] lJ (fun aS hc=>Ops P n w0 mu ops.toArray [] (bC ds (aS++lJ)++l) hc Q) C [] (bl++hp)) D2 UU) D (iv++aH)) Rs) E []) S []):jV P n w0 mu ops.toArray l hp Q:=by
 refine NZ k S E D D2 C hB hf hf1 hsp hds (BU (fun aH h2=>Su E [] (fun Rs e h3 c hc=>?_) h2) S [] h)
 have:=Yd Rs _ c h3 hc
 have he:yS E c k=Lm c (Rs.map (·.1)):=by
  simp only [splitB,Bool.and_eq_true,decide_eq_true_eq] at hsp
  rw [Gn,← hsp.1.1.1,e];simp
 rw [he]
 exact this
end
section
variable {n : Nat} {w0 : World} {mu : List Nat} {l : Fm} {hp : Hp} {Q : Exit → Fm → Hp → Prop} {ds : List (Nat × Nat)}
theorem al5 {id:Nat} {ops:List Oper} (k:Nat) (S E D D2 C:List Nat) (h:je Tryz.prog n w0 mu ops.toArray ds l hp (fun aH=>Ai Tryz.prog n w0 mu ops.toArray ds l hp aH (fun Rs=>DN (fun iv bl=>gJ Tryz.prog n w0 mu ops.toArray ds l [] (fun UU=>gJ Tryz.prog n w0 mu ops.toArray ds l [] (fun lJ=>gY Tryz.prog n w0 mu ops.toArray ds l [] lJ (fun aS hc=>Ops Tryz.prog n w0 mu ops.toArray [] (bC ds (aS++lJ)++l) hc Q) C [] (bl++hp)) D2 UU) D (iv++aH)) Rs) E []) S [])
  (hds:bY ops 0=ds:=by (simp only [bY,Nat.reduceAdd,Nat.zero_add];rfl)) (hm:Tryz.prog.follows .mixedOrders=true:=by kernel_rfl) (hB:mD ops.toArray n k S E D D2 C=true:=by decide +kernel) (hf:bI l (dstsOf ops.toArray ops.toArray.size)=true:=by rfl) (hf1:bI l (dstsOf ops.toArray k)=true:=by rfl) (hsp:splitB k S E D=true:=by decide +kernel):St Tryz.prog n w0 mu (.region id ops.toArray true) l hp Q:=
 vX hm (Sv k S E D D2 C hB hf hf1 hsp hds h)
end
section
variable {n : Nat} {w0 : World} {mu : List Nat} {l : Fm} {hp : Hp} {all : Array Oper} {iv : Fm} {i : Nat} {ds : List (Nat × Nat)} {Z : List (Nat × RT) → Prop} {E : List Nat} {Rs : List (Nat × RT)}
theorem mE (h:iI Tryz.prog n w0 mu all ds l hp iv (fun KU=>Ai Tryz.prog n w0 mu all ds l hp iv Z E KU) [i] Rs):Ai Tryz.prog n w0 mu all ds l hp iv Z (i::E) Rs:=by
 obtain ⟨o,R,h1,h2,h3,h4⟩:=h
 exact ⟨o,R,h1,.inl h2,h3,h4⟩
theorem mOn (m:Nat) {Rm R:RT} (he:∀ v hn,Rm v hn→iI Tryz.prog n w0 mu all ds l (hn++hp) ((m,v)::iv) (fun KU=>KU=[(i,R)]) [i] []) (hex:∃ v hn,Rm v hn) (h:Ai Tryz.prog n w0 mu all ds l hp iv Z E ((i,R)::Rs)) (hm:lk Rs m=some Rm:=by rfl) (hw:Region.waitsFor .any all i m=true:=by decide +kernel):Ai Tryz.prog n w0 mu all ds l hp iv Z (i::E) Rs:=by
 obtain ⟨v,hn,hv⟩:=hex
 obtain ⟨o,R',h1,h2,h3,h4⟩:=he v hn hv
 cases h4
 refine ⟨o,R,h1,.inr ⟨m,Rm,hm,hw,fun v hn hv=>?_⟩,h3,h⟩
 obtain ⟨o2,R2,g1,g2,g3,g4⟩:=he v hn hv
 cases g4
 rw [h1] at g1
 cases g1
 exact g2
theorem aH9 (h:Z Rs):Ai Tryz.prog n w0 mu all ds l hp iv Z [] Rs:=h
end
end
section
attribute [local irreducible] Hy St Ops DH dG je iI gJ DS gY mP
section
variable {n : Nat} {w0 : World} {mu : List Nat} {l : Fm} {hp hp' : Hp} {ty : TypeId} {pos : String} {af : Array Edge} {Q : Exit → Fm → Hp → Prop} {all : Array Oper} {rest : List Oper}
end
def HR (X:Nat) (tl:List Value) (ty:TypeId) (H:HyD) (u:Value) (hn:Hp):Prop:=u=.tuple #[]∧∃ L,yw L H∧aC (L.hp X tl ty) hn
theorem DZ:∀ (ls:List (List iU × List jZ)),(∀ t∈ls,t.1.length<100000∧t.2.length<100000)→∃ (ts:List oU) (h:Hp),iT Ad ts h∧ts.map oU.p=ls
 | [],_=>⟨[],[],trivial,rfl⟩
 | x::r,hx=>by
  obtain ⟨ts,h,h1,h2⟩:=DZ r fun t ht=>hx t (List.mem_cons_of_mem _ ht)
  obtain ⟨b1,b2⟩:=hx x (List.mem_cons_self ..)
  obtain ⟨a1,g1,o1⟩:=dU (e:=51) (xs:=x.1.map kE) rF be9
  obtain ⟨a2,g2,o2⟩:=dU (e:=194) (xs:=x.2.map rD) zo be9
  obtain ⟨q1,c1,e1⟩:=o1.opened
  obtain ⟨q2,c2,e2⟩:=o2.opened
  rw [List.length_map] at e1 e2
  subst e1 e2
  exact ⟨⟨x.1,x.2,q1,c1,q2,c2⟩::ts,(g1++g2)++h,⟨g1++g2,h,⟨g1,g2,o1,o2,⟨b1,b2⟩,aC.refl _⟩,h1,aC.refl _⟩,by rw [List.map_cons,h2]⟩
theorem w_all (xs:List Nat):∀ c∈xs.map uV,c.length=1∧c.all (·.oneCell')=true:=ac0 xs
theorem N7 (xs:List oU):∀ c∈xs.map XA,c.length=2∧c.all (·.oneCell')=true:=by
 intro c hc
 obtain ⟨x,_,rfl⟩:=List.mem_map.1 hc
 exact ⟨rfl,rfl⟩
theorem uJ {w:World} {X:Nat} {a b c d:Value} {tl:List Value} {ty:TypeId} (h:w.heap[X]?=some (.cells (a::b::c::d::tl).toArray ty (0,0))):w.rangeAt X 0 [a,b,c,d]:=by
 have:=bg (k:=0) (n:=4) (pG h) rfl
 simpa using this
theorem PE (ws:List Nat) (root:Int) (page level:Nat) (d:DsD):(eG ws root page level d).ws.length≤ws.length:=by
 unfold eG
 dsimp only
 cases (!(bz ws root page level).ok) with
 | true=>exact Nat.zero_le _
 | false=>
  rw [cond_false]
  cases (!decide ((bz ws root page level).lv=level)) with
  | true=>exact Nat.zero_le _
  | false=>exact Nat.le_of_eq (jG ..)
theorem Own.blk {e sz:Nat} {v:Value} {h:Hp} {xs:List (List Value)} (hA:Own e sz v h xs) {b o n k:Nat} (hv:v=.slice (some ⟨b,o,none⟩) n k):∃ x∈h,x.b=b:=by
 subst hv
 rcases hA.2 with ⟨_,h2,_⟩ | ⟨g,cap,cur,h2,rfl,_⟩
 ·cases h2
 ·cases h2
  exact ⟨_,List.mem_singleton.2 rfl,rfl⟩
theorem BB (cs:List qB) (ts:List oU):∀ k j,(Rj cs ts k)[j]?=(cs[j]?).map fun c=>if j<k then { c with t:=ts.getD j default } else c
 | 0,j=>by
  simp only [Rj,Nat.not_lt_zero,if_false]
  cases cs[j]?<;>rfl
 | k + 1,j=>by
  rw [Rj,List.getElem?_set,Bj]
  by_cases h:k=j
  ·subst h
   by_cases hk:k<cs.length
   ·rw [if_pos rfl,if_pos hk,List.getElem?_eq_getElem hk,Option.map_some,if_pos (Nat.lt_succ_self k),List.getD_eq_getElem?_getD,BB cs ts k k,List.getElem?_eq_getElem hk,Option.map_some,if_neg (Nat.lt_irrefl k)]
    rfl
   ·rw [if_pos rfl,if_neg hk,List.getElem?_eq_none be5];rfl
  ·rw [if_neg h,BB cs ts k j]
   by_cases h2:j<k
   ·simp [h2,Nat.lt_succ_of_lt h2]
   ·simp [h2,show ¬ j<k + 1 by omega]
theorem ay7 {cs:List qB} {ts:List oU} (h:ts.length=cs.length):(Rj cs ts cs.length).map (·.t)=ts:=by
 apply List.ext_getElem?
 intro j
 rw [List.getElem?_map,BB]
 by_cases hj:j<cs.length
 ·rw [List.getElem?_eq_getElem hj,Option.map_some,Option.map_some,if_pos hj,List.getElem?_eq_getElem be5,List.getD_eq_getElem?_getD,List.getElem?_eq_getElem be5]
  rfl
 ·rw [List.getElem?_eq_none be5,List.getElem?_eq_none be5];rfl
theorem ay8 {cs:List qB} {us:List qJ} {ts:List oU} {f:oU→List iU × List jZ} {F:qJ→qJ} (h:ts.map oU.p=(cs.map (·.t)).map f) (hu:cs.map qB.u=us) (hF:∀ c:qB,F c.u=⟨c.r,c.vm,c.vc,(f c.t).1,(f c.t).2⟩):(Rj cs ts cs.length).map qB.u=us.map F:=by
 subst hu
 have hl:ts.length=cs.length:=by have:=congrArg List.length h;simpa using this
 apply List.ext_getElem?
 intro j
 rw [List.getElem?_map,BB,List.map_map,List.getElem?_map]
 by_cases hj:j<cs.length
 ·have h9:=congrArg (fun l=>l[j]?) h
  simp only [List.getElem?_map,List.getElem?_eq_getElem hj,List.getElem?_eq_getElem (show j<ts.length by omega),Option.map_some,Option.some.injEq] at h9
  rw [List.getElem?_eq_getElem hj,Option.map_some,Option.map_some,Option.map_some,if_pos hj,List.getD_eq_getElem?_getD,List.getElem?_eq_getElem (show j<ts.length by omega),Option.getD_some,Function.comp,hF,← h9]
  rfl
 ·rw [List.getElem?_eq_none be5];rfl
def Zz (ws':List Nat) (ts:List oU) (aO mid:Int) (u:Value) (hn:Hp):Prop:=∃ v1 h1 v ha hs ts',u=.tuple #[.agg #[v1],v,.int .i64 0]∧Own 47 1 v1 h1 (ws'.map uV)∧Own 82 2 v ha (ts'.map XA)∧iT Ad ts' hs∧ts'.map oU.p=ts.map (fun t=>(lF t.es (rH aO mid),t.ds))∧aC (h1++(ha++hs)) hn
theorem Sz (ws':List Nat) (hw:ws'.length<100000) (ts:List oU) (aO mid:Int) (hl:ts.length<100000) (ht:∀ t∈ts,t.es.length<100000∧t.ds.length<100000):∃ u hn,Zz ws' ts aO mid u hn:=by
 obtain ⟨v1,h1,o1⟩:=dU (e:=47) (w_all ws') be9
 obtain ⟨ts',hs,r1,r2⟩:=DZ (ts.map (fun t=>(lF t.es (rH aO mid),t.ds))) (fun x hx=>by
  obtain ⟨t,h,rfl⟩:=List.mem_map.1 hx
  have:=ht t h
  exact ⟨Nat.lt_of_le_of_lt (List.length_filter_le ..) this.1,this.2⟩)
 have hl':ts'.length=ts.length:=by have:=congrArg List.length r2;simpa using this
 obtain ⟨v,ha,o2⟩:=dU (e:=82) (N7 ts') be9
 exact ⟨_,_,v1,h1,v,ha,hs,ts',rfl,o1,o2,r1,r2,aC.refl _⟩
theorem SA (L:HL) (H:HyD) (h:yw L H) (hW:H.kL) (root aO:Int) (mid:Nat) (hv:PtD.di aO 0 15=true) (hmid:mid≤4095) (d:DsD) (hd:d.may 2 3=true) (hg:(kJ H.ws root mid).e=0) (hg3:(kJ H.ws root mid).level=3) {X:Nat} {pv gv ov:Value} {w:World} (hN:dD (L.hp X [pv,gv,ov] 119) w):
  Fn Tryz.prog 217 [.pointer (some ⟨X,0,none⟩),.int .i64 root,.int .i64 aO,.int .i64 (mid:Int),sU d].toArray w ((L.hp X [pv,gv,ov] 119).map (·.b)) (HR X [pv,gv,ov] 119 (H.chg root aO mid d)):=by
 obtain ⟨wv,cv,vv,rv,cs,vs,hw,hc,ht,hvv,hz,hr⟩:=L
 obtain ⟨PG,gw,gc,gt,Aj,gz,gr,ec,ev⟩:=h
 dsimp only at gw gc gt Aj gz gr ec ev
 have KX:cs.length=H.cs.length:=by rw [← ec,List.length_map]
 have hc1:=hW.c1
 obtain ⟨g,cap,cur,rfl,rfl,hrow⟩:=gc.row (n:=cs.length) be7 be5
 obtain ⟨wp,Tj,e1⟩:=gw.opened
 rw [List.length_map] at e1
 subst e1
 simp only [HL.hp,HL.rest] at hN ⊢
 refine bU _ hN Tryz.func217 ?_
 refine run ?_
 intro Db
 have hlt:=fun (wc:World) (hH:Here ht wc) (c:qB) (hc:c∈cs)=>gt.each (Q:=fun t=>aF wc t.ev 14 (t.es.map kE)∧aF wc t.dv 4 (t.ds.map rD)) (fun t a ha hw=>ha.lie hw) hH c.t (List.mem_map.2 ⟨c,hc,rfl⟩)
 have hok:∀ t∈cs.map (·.t),gq t.es t.ds=true:=fun t ht'=>by
  obtain ⟨c,hc,rfl⟩:=List.mem_map.1 ht'
  exact hW.tl c.u (by rw [← ec];exact List.mem_map.2 ⟨c,hc,rfl⟩)
 have hc3:=hW.c3
 have Au:=dh hW.m
 have hex:∃ u hn,Zz (eG (eG H.ws root mid 3 dN).ws root mid 3 d).ws (cs.map (·.t)) aO mid u hn:=by
  refine Sz _ ?_ _ _ _ be9 (fun t ht'=>?_)
  ·have a1:=PE H.ws root mid 3 dN
   have a2:=PE (eG H.ws root mid 3 dN).ws root mid 3 d
   omega
  ·have:=oP (hok t ht');omega
 refine al5 17 [0,1,2,3,4,5,7,8,9,10] [6,11,16] [12,13,14,15] [18,19] [17] ?_
 refine fU ?_
 refine mE ?_
 refine jB (fun wc hG=>YZ cs (wv:=.slice wp H.ws.length Tj) (cv:=.slice (some ⟨g,0,none⟩) cs.length cap) (vv:=vv) (rv:=rv) ?_ (gc.lie (fun e he=>hG.here e bj4) be9) be5) ?_ ?_
 ·exact uJ (tl:=[pv,gv,ov]) (hG.here ⟨X,#[.slice wp H.ws.length Tj,.slice (some ⟨g,0,none⟩) cs.length cap,vv,rv,pv,gv,ov],119⟩ be7)
 ·obtain ⟨v,ha,o2⟩:=dU (e:=82) (N7 (cs.map (·.t))) bi0
  exact ⟨v,ha,ha,o2,aC.refl _⟩
 refine jS ?_
 refine mOn 6 (R:=Zz (eG (eG H.ws root mid 3 dN).ws root mid 3 d).ws (cs.map (·.t)) aO mid) ?_ ?_ ?_
 ·rintro v hn ⟨ha,hA,hle⟩
  obtain ⟨tp,tc,et⟩:=hA.opened
  rw [List.length_map,List.length_map] at et
  subst et
  refine jB (R:=Zz (eG (eG H.ws root mid 3 dN).ws root mid 3 d).ws (cs.map (·.t)) aO mid) (fun wc hG=>Ri (cs.map (·.t)) H.ws hW.Jt hW.m root aO mid hv hmid d hd hg hg3 (gw.lie (fun e he=>hG.here e bf8) be9) ⟨hA.lie (fun e he=>hG.here e (by have:=hle.mem he;simp [this])) bi0,fun t ht'=>?_,fun t ht'=>?_⟩ gt.caps hok be9) hex ?_
  ·obtain ⟨c,hc,rfl⟩:=List.mem_map.1 ht'
   exact (hlt wc (fun e he=>hG.here e bf8) c hc).1
  ·obtain ⟨c,hc,rfl⟩:=List.mem_map.1 ht'
   exact (hlt wc (fun e he=>hG.here e bf8) c hc).2
  exact jS rfl
 ·obtain ⟨v,ha,o2⟩:=dU (e:=82) (N7 (cs.map (·.t))) bi0
  exact ⟨v,ha,ha,o2,aC.refl _⟩
 refine mE ?_
 refine qR ?_
 refine jS ?_
 refine aH9 ?_
 rintro _ _ ⟨Mb,rfl,rfl⟩ u hn ⟨v1,h1,v2,ha,hs,ts',rfl,o1,o2,r1,r2,hle⟩ tv htl hTl
 obtain ⟨pw,c1,e1⟩:=o1.opened
 obtain ⟨pt,c2,e2⟩:=o2.opened
 rw [List.length_map] at e1 e2
 subst e1 e2
 have hl':ts'.length=cs.length:=by have:=congrArg List.length r2;simpa using this
 refine xJ ?_
 refine dY ?_
 refine dY ?_
 refine dY ?_
 refine iW ?_
 refine oC ?_
 refine oC ?_
 refine iW ?_
 simp only [DN,List.cons_append,List.nil_append,List.append_nil]
 refine Qx (b:=Mb) (tb:=24) (cs:=#[.slice none 0 0]) (cs':=#[.slice pw (eG (eG H.ws root mid 3 dN).ws root mid 3 d).ws.length c1]) (hp':=hn++htl++⟨Db,#[.int .i64 d.kind,.int .i64 d.frame,.bool d.r,.bool d.w,.bool d.x,.bool d.af,.bool d.ng,.int .i64 d.soft,.int .i64 d.note],124⟩::⟨X,#[.slice wp H.ws.length Tj,.slice (some ⟨g,0,none⟩) cs.length cap,vv,rv,pv,gv,ov],119⟩::(hw++⟨g,cur,84⟩::(ht++(hvv++(hz++hr))))) ?_ (hput:=rfl) (hperm:=by (exact aJ))
 refine dw ?_
 refine lg ?_
 refine aP (⟨Mb,#[.slice pw (eG (eG H.ws root mid 3 dN).ws root mid 3 d).ws.length c1],24⟩::⟨X,#[.slice wp H.ws.length Tj,.slice (some ⟨g,0,none⟩) cs.length cap,vv,rv,pv,gv,ov],119⟩::⟨g,cur,84⟩::(h1++(ha++(hs++(hvv++(hz++hr)))))) (cnt1 hle) ?_
 refine run ?_
 refine gB [⟨g,cur,84⟩] (⟨X,#[.slice pw (eG (eG H.ws root mid 3 dN).ws root mid 3 d).ws.length c1,.slice (some ⟨g,0,none⟩) cs.length cap,vv,rv,pv,gv,ov],119⟩::⟨Mb,#[.slice pw (eG (eG H.ws root mid 3 dN).ws root mid 3 d).ws.length c1],24⟩::(h1++(ha++(hs++(hvv++(hz++hr)))))) (fun wc hG=>JM cs ts' hl' be5 (uJ (tl:=[pv,gv,ov]) (hG.here ⟨X,#[.slice pw (eG (eG H.ws root mid 3 dN).ws root mid 3 d).ws.length c1,.slice (some ⟨g,0,none⟩) cs.length cap,vv,rv,pv,gv,ov],119⟩ be7)) (fun e=>(hG.DU (e:=⟨X,#[.slice pw (eG (eG H.ws root mid 3 dN).ws root mid 3 d).ws.length c1,.slice (some ⟨g,0,none⟩) cs.length cap,vv,rv,pv,gv,ov],119⟩) be7) (by simpa using e)) gc (o2.lie (fun e he=>hG.here e bf8) be9) (fun b o n k hv' e=>?_) hG.fV) (fun v hn3 hv3=>?_) aJ
 ·obtain ⟨x,hx,hxb⟩:=o2.blk hv'
  exact (hG.DU (e:=x) (by simp [hx])) (by simp [hxb,e])
 obtain ⟨rfl,wF,o3,hle3⟩:=hv3
 refine run ?_
 refine fin0 ⟨rfl,⟨.slice pw (eG (eG H.ws root mid 3 dN).ws root mid 3 d).ws.length c1,.slice (some ⟨g,0,none⟩) cs.length cap,vv,rv,Rj cs ts' cs.length,vs,h1,[⟨g,wF,84⟩],hs,hvv,hz,hr⟩,?_,?_⟩
 ·refine ⟨DD (DD hW.Jt _ _ _ _) _ _ _ _,o1,o3,by dsimp only;rw [ay7 hl'];exact r1,Aj,gz,gr,ay8 r2 ec fun c=>rfl,ev⟩
 ·simp only [HL.hp,HL.rest]
  (exact cnt1 hle3)
end
section
attribute [local irreducible] Hy St Ops DH dG je iI gJ DS gY mP
theorem FO (D:Int→DsD) (f:Int):∀ (l:List Int) (H:HyD),HyD.zC D (l++[f]) H=(HyD.zC D l H).hst f.toNat (D f)
 | [],_=>rfl
 | x::l,H=>FO D f l _
theorem zD {D:Int→DsD}:∀ {l:List Int} {H:HyD},H.kL→(HyD.zC D l H).kL
 | [],_,h=>h
 | x::l,H,h=>zD (l:=l) (h.hst _)
theorem KA {D:Int→DsD}:∀ {l:List Int} {H:HyD},(HyD.zC D l H).ws.length=H.ws.length
 | [],_=>rfl
 | x::l,H=>by rw [HyD.zC,KA];exact jG ..
theorem PI (L:HL) (H:HyD) (h:yw L H) (hW:H.kL) {F:Nat} {us:List Value} (D:Int→DsD) (fs:List Int) (hf:∀ f∈fs,0≤f∧f<64) (hd:∀ f∈fs,(D f).may 2 3=true) {X:Nat} {pv gv ov:Value} {w:World} {v:Value} (hv:aF w v 1 (fs.map dA)) (hvo:∀ b o n k,v=.slice (some ⟨b,o,none⟩) n k→b ∉ (L.hp X [pv,gv,ov] 119).map (·.b))
  (hF:∀ f∈fs,∀ w' hp,Good w ((L.hp X [pv,gv,ov] 119).map (·.b)) hp w'→Fn Tryz.prog F ([]++[Value.int .i64 f]++us).toArray w' [] (fun u _=>u=sU (D f))) (hN:dD (L.hp X [pv,gv,ov] 119) w) (bH:mem iF F=true:=by rfl):
  Fn Tryz.prog 123 [.pointer (some ⟨X,0,none⟩),.func (.func F) [].toArray us.toArray,v].toArray w ((L.hp X [pv,gv,ov] 119).map (·.b)) (HR X [pv,gv,ov] 119 (HyD.zC D fs H)):=by
 have hv':=hv
 obtain ⟨q,cap,rfl,hne,_⟩:=hv.opened
 refine bU _ hN Tryz.func123 ?_
 refine run ?_
 refine aX (σ:=Nat × HL) (fun s=>[(10,.int .i64 (s.1:Int))]) (fun s=>s.2.hp X [pv,gv,ov] 119) (fun s=>s.1≤fs.length∧yw s.2 (HyD.zC D (fs.take s.1) H)) (fun s=>fs.length - s.1) (0,L) ⟨Nat.zero_le _,h⟩ ?_ (hh:=aC.refl _)
 rintro ⟨k,L1⟩ m hm ⟨hk,hL⟩
 dsimp only at hm hk hL ⊢
 refine run ?_
 refine ah _ rfl (fun hc=>?_) (fun hc=>?_)
 ·have hlt:k<fs.length:=by simpa using hc
  obtain ⟨b,o,rfl⟩:=hne be'
  have hb:=hvo _ _ _ _ rfl
  have hr:=au (hv.row hlt)
  have hfk:=hf _ (getD_mem hlt)
  have hdk:=hd _ (getD_mem hlt)
  have Xz:=hF _ (getD_mem hlt)
  have htn:=iM hlt
  generalize fs.getD k default=f at hr hfk hdk Xz htn
  simp only [Nat.mul_one] at hr
  refine run ?_
  refine jM (fs:=[]) (vs:=[.int .i64 f]) (us:=us) (fun wc hG=>Xz wc _ hG) ?_ (bH:=bH)
  refine run ?_
  have hW1:(HyD.zC D (fs.take k) H).kL:=zD hW
  have Au:=dh hW1.m
  have hg:=hW1.t.get (k:=f.toNat) be5
  have hch:=fun (wc:World) (hN1:dD (L1.hp X [pv,gv,ov] 119) wc)=>SA L1 _ hL hW1 0 0 f.toNat rfl be5 (D f) hdk (by rw [hg]) (by rw [hg]) hN1
  rw [show ((f.toNat:Nat):Int)=f by omega] at hch
  refine gB (L1.hp X [pv,gv,ov] 119) [] (fun wc hG=>hch wc hG.fV) (fun v hn hR=>?_) (by rw [List.append_nil])
  obtain ⟨rfl,L2,h2,hle⟩:=hR
  rw [HyD.Zn hW1.t be5] at h2
  refine aP (L2.hp X [pv,gv,ov] 119) (by rw [List.append_nil];exact hle) ?_
  refine run ?_
  refine aK (k + 1,L2) ⟨hlt,?_⟩ (hm:=by dsimp only;omega) (h2:=aC.refl _)
  dsimp only
  rw [htn,FO]
  exact h2
 ·have hge:k=fs.length:=by simp at hc;omega
  subst hge
  rw [List.take_length] at hL
  refine run ?_
  exact fin0 ⟨rfl,L1,hL,aC.refl _⟩
theorem aF.ay9 {w w':World} {mu:List Nat} {hp:Hp} {v:Value} {sz:Nat} {xs:List (List Value)} (h:aF w v sz xs) (ho:∀ b o n k,v=.slice (some ⟨b,o,none⟩) n k→b ∉ mu) (hG:Good w mu hp w'):aF w' v sz xs:=by
 obtain ⟨⟨p,c,rfl,hp⟩,hl⟩:=h
 refine ⟨⟨p,c,rfl,fun hne=>?_⟩,hl⟩
 obtain ⟨b,off',rfl,hr⟩:=hp hne
 exact ⟨b,off',rfl,fun i c hc j u hj=>hG.cell (hr i c hc j u hj) (ho _ _ _ _ rfl)⟩
theorem D5:∀ {l:List Int} {ws:List Nat},lu ws→lu (nO ws l)
 | [],_,h=>h
 | f::l,_,h=>D5 (l:=l) (h.jO f)
theorem KC (n:Int) (w:World):Fn Tryz.prog 124 [.int .i64 n].toArray w [] (fun u hn=>∃ C,u=.func (.func 218) [].toArray [.pointer (some ⟨C,0,none⟩)].toArray∧aC [⟨C,#[.int .i64 n],3⟩] hn):=by
 refine enter Tryz.func124 ?_
 refine run ?_
 intro C
 exact fin1 ⟨C,rfl,aC.refl _⟩
theorem ZA (L:HL) (H:HyD) (h:yw L H) (hW:H.kL) (fs:List Int) (hf:fs.all (dm H.ws.length)=true) {X:Nat} {pv gv ov:Value} {w:World} {v:Value} (hv:aF w v 1 (fs.map dA)) (hvo:∀ b o n k,v=.slice (some ⟨b,o,none⟩) n k→b ∉ (L.hp X [pv,gv,ov] 119).map (·.b)) (hN:dD (L.hp X [pv,gv,ov] 119) w):
  Fn Tryz.prog 127 [.pointer (some ⟨X,0,none⟩),v].toArray w ((L.hp X [pv,gv,ov] 119).map (·.b)) (HR X [pv,gv,ov] 119 (H.Pz fs)):=by
 obtain ⟨wv,cv,vv,rv,cs,vs,hw,hc,ht,hvv,hz,hr⟩:=L
 obtain ⟨PG,gw,gc,gt,Aj,gz,gr,ec,ev⟩:=h
 dsimp only at gw gc gt Aj gz gr ec ev
 have Au:=dh hW.m
 have g3:=gw.oq
 rw [List.length_map] at g3
 obtain ⟨wp,Tj,rfl,hwc⟩:=g3
 simp only [HL.hp,HL.rest] at hN hvo ⊢
 refine bU _ hN Tryz.func127 ?_
 refine run ?_
 refine dJ (fun wc hG=>Zq H.ws (gw.lie (fun e he=>hG.here e bf8) be9) fs (hv.ay9 hvo hG) hW.m hf) ?_
 rintro u hn ⟨v1,h1,rfl,o1,hle⟩
 obtain ⟨pw,c1,e1⟩:=o1.opened
 rw [List.length_map] at e1
 subst e1
 refine aP (⟨X,#[.slice wp H.ws.length Tj,cv,vv,rv,pv,gv,ov],119⟩::(h1++(hc++(ht++(hvv++(hz++hr)))))) (cnt1 hle) ?_
 dsimp only
 refine run ?_
 exact fin0 ⟨rfl,⟨.slice pw (nO H.ws fs).length c1,cv,vv,rv,cs,vs,h1,hc,ht,hvv,hz,hr⟩,⟨D5 PG,o1,gc,gt,Aj,gz,gr,ec,ev⟩,aC.refl _⟩
theorem KD {w:World} {X g cap m:Nat} {wv cv rv:Value} (hX:w.rangeAt X 0 [wv,cv,.slice (some ⟨g,0,none⟩) m cap,rv]) (n:Int) (hn:1≤n∧n≤(m:Int)) (hm:m<100000):
  Fn Tryz.prog 128 [.pointer (some ⟨X,0,none⟩),.int .i64 n].toArray w [] (fun u _=>u=.pointer (some ⟨g,(n - 1).toNat * 6,none⟩)):=by
 have h1:w.cell? ⟨X,2,none⟩=some (.slice (some ⟨g,0,none⟩) m cap):=au (bg (k:=2) (n:=1) hX rfl)
 refine enter Tryz.func128 ?_
 refine run ?_
 exact fin1 rfl
theorem ZB (m:jH) (n:Int) (C:Nat) (w:World) (hC:w.cell? ⟨C,0,none⟩=some (.int .i64 n)):Fn Tryz.prog 289 ([]++[Value.agg (zO m).toArray]++[Value.pointer (some ⟨C,0,none⟩)]).toArray w [] (fun u _=>u=.bool (m.live && decide (m.aO=n))):=by
 refine enter Tryz.func289 ?_
 refine run ?_
 intro B
 refine aI ?_
 exact fin1 rfl
theorem ZC {w:World} {X:Nat} {wv cv vv rv:Value} (vs:List jH) (hX:w.rangeAt X 0 [wv,cv,vv,rv]) (hV:aF w vv 6 (vs.map zO)) (hl:vs.length<100000):
  Fn Tryz.prog 222 [.pointer (some ⟨X,0,none⟩)].toArray w [] (fun u hn=>u=.int .i64 (yF (vs.map jH.u))):=by
 have h1:w.cell? ⟨X,2,none⟩=some vv:=au (bg (k:=2) (n:=1) hX rfl)
 have hV':=hV
 obtain ⟨q,cap,rfl,hne,_⟩:=hV.opened
 refine enter Tryz.func222 ?_
 refine run ?_
 intro Nb
 refine aX (σ:=Nat) (fun _=>[]) (fun j=>[⟨Nb,#[.int .i64 (1 + (j:Int))],3⟩]) (fun j=>(∀ i:Nat,i<j→zU (vs.map jH.u) (1 + (i:Int))=true)∧j + DX (vs.map jH.u) (1 + (j:Int))≤vs.length) (fun j=>DX (vs.map jH.u) (1 + (j:Int))) 0 ⟨fun i hi=>absurd hi (Nat.not_lt_zero _),by have:=Ky (vs.map jH.u) (1 + ((0:Nat):Int));rw [List.length_map] at this;omega⟩ ?_
 rintro j m hm ⟨hj,hlen⟩
 refine run ?_
 have hcell:=fun (wc:World) (hG:Good w [] [⟨Nb,#[.int .i64 (1 + (j:Int))],3⟩] wc)=>hG.cell1 (List.mem_singleton.2 rfl)
 refine ak (fun wc hG=>vN (us:=[.pointer (some ⟨Nb,0,none⟩)]) (fun m=>m.live && decide (m.aO=1 + (j:Int))) vs _ (hV'.good hG) (fun m _ w' ha=>ZB m (1 + (j:Int)) Nb w' ?_)) ?_
 ·obtain ⟨hp2,hg⟩:=ha
  exact hg.cell (hcell wc hG) be7
 have hany:(vs.any fun m=>m.live && decide (m.aO=1 + (j:Int)))=zU (vs.map jH.u) (1 + (j:Int)):=by unfold zU;rw [List.any_map];rfl
 rw [hany]
 refine run ?_
 refine ah _ rfl (fun hc=>?_) (fun hc=>?_)
 ·refine run ?_
  rw [show 1 + (j:Int) + 1=1 + ((j + 1:Nat):Int) by omega]
  have hnx:=DY hc
  rw [show 1 + (j:Int) + 1=1 + ((j + 1:Nat):Int) by omega] at hnx
  refine aK (j + 1) ⟨fun i hi=>?_,by omega⟩ (hm:=by omega)
  by_cases e:i=j
  ·subst e;exact hc
  ·exact hj i be5
 ·refine run ?_
  refine fin1 ?_
  unfold yF
  rw [Kw j _ 1 (by have:=Ky (vs.map jH.u) 1;omega) hj hc]
theorem D6 (xs:List Int):∀ c∈xs.map dA,c.length=1∧c.all (·.oneCell')=true:=by
 intro c hc
 obtain ⟨x,_,rfl⟩:=List.mem_map.1 hc
 exact ⟨rfl,rfl⟩
theorem SB (r:GV) (h1:r.ws.length<100000) (h2:r.left.length<100000):∃ u hn,QG r u hn:=by
 obtain ⟨v,h,hO⟩:=dU (e:=47) (w_all r.ws) be9
 obtain ⟨v2,h3,hO2⟩:=dU (e:=3) (D6 r.left) be9
 exact ⟨_,_,v,h,v2,h3,rfl,hO,hO2,aC.refl _⟩
theorem ZE {ws:List Nat} (hw:lu ws) (root:Int) (free:List Int) (page:Int) (d:DsD):TOk ws.length free.length (Dh ws root free page d):=by
 unfold Dh
 exact lD (OW hw _ _ _ _) (G8 _ _ _)
theorem SC (L:HL) (H:HyD) (h:yw L H) (hW:H.kL) (n:Int) (hn:1≤n∧n≤4) (hfs:0<(H.vu (n - 1).toNat).fs.length) (mid:Int) (d:DsD) {X:Nat} {pv gv ov:Value} {w:World} (hN:dD (L.hp X [pv,gv,ov] 119) w):
  Fn Tryz.prog 125 [.pointer (some ⟨X,0,none⟩),.int .i64 n,.int .i64 mid,sU d].toArray w ((L.hp X [pv,gv,ov] 119).map (·.b)) (HR X [pv,gv,ov] 119 (H.Zy n mid d)):=by
 obtain ⟨wv,cv,vv,rv,cs,vs,hw,hc,ht,hvv,hz,hr⟩:=L
 obtain ⟨PG,gw,gc,gt,Aj,gz,gr,ec,ev⟩:=h
 dsimp only at gw gc gt Aj gz gr ec ev
 have evl:vs.length=4:=by rw [← hW.v,← ev,List.length_map]
 have Au:=dh hW.m
 obtain ⟨i,hi⟩:∃ i,i=(n - 1).toNat:=⟨_,rfl⟩
 have hi4:i<vs.length:=by omega
 have hu:=Dy ev i
 rw [show H.vs.getD i default=H.vu i from rfl] at hu
 rw [← hi,← hu] at hfs
 have g3:=gw.oq
 rw [List.length_map] at g3
 obtain ⟨wp,Tj,rfl,hwc⟩:=g3
 obtain ⟨g,cap,cur,rfl,rfl,hsz,sJ,hput⟩:=Aj.lY hi4
 obtain ⟨za,zb,⟨z1,z2,z3,o1,o2,o3,zl,hza⟩,hzz,qH⟩:=gz.out hi4
 generalize hvm:vs.getD i default=vm at hfs hu sJ hput o1 o2 o3 zl qH
 simp only [HL.hp,HL.rest] at hN ⊢
 refine bU _ hN Tryz.func125 ?_
 refine run ?_
 intro Db
 refine run ?_
 obtain ⟨g1,cap1,SE,e1,rfl,hsz1,ay',_⟩:=o1.lY (k:=0) hfs
 obtain ⟨qr,cr,er,hcr⟩:=o2.oq
 rw [List.length_map] at er hcr
 have aW2:0<vm.fs.length:=hfs
 have n3:=sJ 3 _ rfl
 have n4:=sJ 4 _ rfl
 have n0:=ay' 0 _ rfl
 rw [e1] at n3
 rw [er] at n4
 simp only [Nat.zero_mul,Nat.mul_zero,Nat.add_zero] at n0
 have hroot:vm.fs.getD 0 default=(H.vu i).root:=by rw [← hu];rfl
 rw [hroot] at n0
 refine ak (fun wc hG=>KD (m:=vs.length) (uJ (tl:=[pv,gv,ov]) (hG.here ⟨X,#[.slice wp H.ws.length Tj,cv,.slice (some ⟨g,0,none⟩) vs.length cap,rv,pv,gv,ov],119⟩ be7)) n be5 be5) ?_
 rw [← hi]
 refine aP (⟨X,#[.slice wp H.ws.length Tj,cv,.slice (some ⟨g,0,none⟩) vs.length cap,rv,pv,gv,ov],119⟩::⟨g,cur,111⟩::⟨g1,SE,3⟩::⟨Db,#[.int .i64 d.kind,.int .i64 d.frame,.bool d.r,.bool d.w,.bool d.x,.bool d.af,.bool d.ng,.int .i64 d.soft,.int .i64 d.note],124⟩::(z2++(z3++(zb++(hw++(hc++(ht++hr))))))) bf6 ?_
 refine run ?_
 refine wC 24 [0,2,3,4,5,6,7,8,9,10,11,12,13,14,15,16,17,18] [19] [1,20,21,22,23] [24,25,26,28,29] [27,30] ?_
 refine fU ?_
 have hM:=ZE (root:=(H.vu i).root) (free:=vm.fr) (page:=mid) (d:=d) PG
 obtain ⟨M,hMe⟩:∃ M,M=Dh H.ws (H.vu i).root vm.fr mid d:=⟨_,rfl⟩
 rw [← hMe] at hM
 refine jB (R:=QG M) (fun wc hG=>by rw [hMe];exact ai4 (vl:=.slice qr vm.fr.length cr) H.ws PG (gw.lie (fun e he=>hG.here e bf8) be9) be5 vm.fr (by rw [← er];exact o2.lie (fun e he=>hG.here e bf8) be9) (by rw [← er];exact o2.OV) be5 (H.vu i).root mid d) (SB M (Nat.lt_of_le_of_lt hM.2.1 be5) (Nat.lt_of_le_of_lt hM.2.2 be5)) ?_
 refine jS ?_
 rintro u hn ⟨v1,h1,v2,h2,rfl,m1,m2,hle⟩
 obtain ⟨pw,c1,ew⟩:=m1.opened
 obtain ⟨pf,c2,ef⟩:=m2.opened
 rw [List.length_map] at ew ef
 subst ew ef
 refine xJ ?_
 refine xJ ?_
 refine dY ?_
 refine dY ?_
 refine dY ?_
 refine iW ?_
 refine Fa ?_
 refine G5 ?_
 refine G5 ?_
 refine Fa ?_
 refine G5 ?_
 refine iW ?_
 simp only [DN,List.cons_append,List.nil_append,List.append_nil]
 have hnew:=hput 4 [.slice pf M.left.length c2] { vm with fr:=M.left,rp:=pf,rc:=c2 } be7 rfl ⟨rfl,rfl⟩
 refine nJ (b:=X) (tb:=119) (cs:=#[.slice wp H.ws.length Tj,cv,.slice (some ⟨g,0,none⟩) vs.length cap,rv,pv,gv,ov]) (cs':=#[.slice pw M.ws.length c1,cv,.slice (some ⟨g,0,none⟩) vs.length cap,rv,pv,gv,ov]) (hp':=hn++(⟨g,cur,111⟩::⟨g1,SE,3⟩::⟨Db,#[.int .i64 d.kind,.int .i64 d.frame,.bool d.r,.bool d.w,.bool d.x,.bool d.af,.bool d.ng,.int .i64 d.soft,.int .i64 d.note],124⟩::(z2++(z3++(zb++(hw++(hc++(ht++hr)))))))) ?_ aJ
 refine rq (v:=.slice pf M.left.length c2) ay (b:=g) (cs:=cur) (cs':=putAt cur (i * 6 + 4) [.slice pf M.left.length c2]) (tb:=111) (off:=i * 6 + 4) (vs:=[.slice pf M.left.length c2]) (hp':=⟨X,#[.slice pw M.ws.length c1,cv,.slice (some ⟨g,0,none⟩) vs.length cap,rv,pv,gv,ov],119⟩::(hn++(⟨g1,SE,3⟩::⟨Db,#[.int .i64 d.kind,.int .i64 d.frame,.bool d.r,.bool d.w,.bool d.x,.bool d.af,.bool d.ng,.int .i64 d.soft,.int .i64 d.note],124⟩::(z2++(z3++(zb++(hw++(hc++(ht++hr))))))))) rfl rfl rfl rfl rfl rfl aJ rfl (by show i * 6 + 4 + 1≤_;omega) rfl aj ?_
 refine dw ?_
 refine lg ?_
 refine run ?_
 have hmap:H.Zy n mid d=⟨M.ws,H.cs,H.vs.set i { H.vu i with fr:=M.left },H.rs⟩:=by
  have hfr:(H.vu i).fr=vm.fr:=by rw [← hu];rfl
  unfold HyD.Zy
  rw [← hi,hMe]
  dsimp only
  rw [hfr]
 rw [hmap]
 refine fin0 ⟨rfl,⟨.slice pw M.ws.length c1,cv,.slice (some ⟨g,0,none⟩) vs.length cap,rv,cs,vs.set i { vm with fr:=M.left,rp:=pf,rc:=c2 },h1,hc,ht,[⟨g,putAt cur (i * 6 + 4) [.slice pf M.left.length c2],111⟩],([⟨g1,SE,3⟩]++(h2++z3))++zb,hr⟩,⟨hM.1,m1,gc,gt,hnew,qH _ _ ⟨[⟨g1,SE,3⟩],h2,z3,o1,m2,o3,⟨zl.1,Nat.lt_of_le_of_lt hM.2.2 zl.2.1,zl.2.2⟩,aC.refl _⟩,gr,ec,?_⟩,?_⟩
 ·dsimp only
  rw [List.map_set,ev,← hu]
  rfl
 ·simp only [HL.hp,HL.rest]
  (exact cnt1 hle)
theorem ZF (n:Int) (h0:-100≤n∧n≤1000) (w:World):Fn Tryz.prog 219 [.int .i64 n].toArray w [] (fun u _=>u=sU (jF (1 + n))):=by
 refine enter Tryz.func219 ?_
 refine run ?_
 intro B
 refine run ?_
 exact eF (cs:=#[.int .i64 0,.int .i64 0,.bool false,.bool false,.bool false,.bool false,.bool false,.int .i64 0,.int .i64 (1 + n)]) rfl
theorem al6 (f:Int) (w:World):Fn Tryz.prog 126 [.int .i64 f].toArray w [] (fun u _=>u=sU (aU f 0)):=by
 refine enter Tryz.func126 ?_
 refine run ?_
 intro B
 refine run ?_
 refine ak (fun wc hG=>yf f 0 wc) ?_
 refine run ?_
 exact eF (cs:=dsC (aU f 0)) rfl
theorem FP (C:Nat) (n:Int) (f:Int) (h0:-100≤n∧n≤1000) (w:World) (hC:w.cell? ⟨C,0,none⟩=some (.int .i64 n)):Fn Tryz.prog 218 ([]++[Value.int .i64 f]++[Value.pointer (some ⟨C,0,none⟩)]).toArray w [] (fun u _=>u=sU (jF (1 + n))):=by
 refine enter Tryz.func218 ?_
 refine run ?_
 intro B
 refine run ?_
 refine ak (fun wc hG=>ZF n h0 wc) ?_
 refine run ?_
 exact eF (cs:=dsC (jF (1 + n))) rfl
end
section
section
variable {n : Nat} {w0 : World} {mu : List Nat} {l : Fm} {hp : Hp} {all : Array Oper} {iv : Fm} {i d : Nat} {ds : List (Nat × Nat)} {D : List Nat} {Y : Fm → Prop} {ty : TypeId} {pos : String} {af : Array Edge}
theorem WU {t e:TypeId} {x y:Operand} {b off m c s j off':Nat} {k:IntKind} {dd:Option Tmp} {lf:Fm} (hx:ev lf x=some (.slice (some ⟨b,off,none⟩) m c)) (hy:ev lf y=some (.int k ((j:Nat):Int))) (ht:lk Tb.sl t=some (e,s)) (h1:j<m) (he:off + j * s=off'):zY Tryz.prog n w0 mu lf hp ⟨dd,.indexAddr t x y,ty,pos,af,none⟩ (.pointer (some ⟨b,off',none⟩)):=by
 obtain ⟨hu,hs⟩:=ay.wW ht
 subst he
 refine ⟨rfl,fun a w hk _=>?_⟩
 simp only [execOp,hk.ev hx,hk.ev hy]
 simp [Instr.indexAt,run_underlying hu w,asIntOf,h1,run_sizeOf hs w,add_lit]
theorem WV {t e:TypeId} {x y:Operand} {b off m c s j off':Nat} {k:IntKind} (h1:j<m) (he:off + j * s=off') (h:gJ Tryz.prog n w0 mu all ds l hp Y D ((i,.pointer (some ⟨b,off',none⟩))::iv)) (ho:all[i]?=some ⟨some d,.indexAddr t x y,ty,pos,af,none⟩:=by rfl) (hx:ev (aG ds iv af.toList++l) x=some (.slice (some ⟨b,off,none⟩) m c):=by rfl) (hy:ev (aG ds iv af.toList++l) y=some (.int k ((j:Nat):Int)):=by rfl) (ht:lk Tb.sl t=some (e,s):=by rfl):gJ Tryz.prog n w0 mu all ds l hp Y (i::D) iv:=BX ho (WU hx hy ht h1 he) h
end
section
variable {n : Nat} {w0 : World} {mu : List Nat} {l : Fm} {h0 hp hc : Hp} {all : Array Oper} {ds : List (Nat × Nat)} {t0 : Nat} {aH aS : Fm} {Y : Fm → Fm → Hp → Prop} {i d : Nat} {r : List (Nat × Bool)} {ty : TypeId} {pos : String} {af : Array Edge}
theorem az0 {t e sz iE cc a:Nat} {x y:Operand} {z v:Value} {c:List Value} {ha hp':Hp} {xs:List (List Value)} (hA:Own e sz v ha xs) (hnews:jR w0 mu hc a 0 c) (h63:xs.length<1000000) (hperm:(ha++hp').Perm hc) (hle:aC h0 hp')
  (h:∀ v' ha',Acc e sz v' ha' (xs++[c])→Iz Tryz.prog n w0 mu all ds l h0 hp t0 Y r aH ((i,v')::aS) (ha'++hp')) (ho:all[i]?=some ⟨some d,.call { callee:=.builtin .append,args:=#[x,y],argTypes:=#[t,t] },ty,pos,af,none⟩:=by rfl) (hit:(i=t0∨Region.waitsFor .any all i t0=true)∨aC hp hp':=by exact .inl (.inl rfl))
  (hx:ev (aG ds (aS++aH) af.toList++l) x=some v:=by rfl) (hy:ev (aG ds (aS++aH) af.toList++l) y=some (.slice (some ⟨a,0,none⟩) 1 cc):=by rfl) (ht:lk Tb.sl t=some (e,sz):=by rfl)
  (hz:lk Tb.zs e=some z:=by rfl) (hzs:z.cells.size=sz:=by rfl) (hb:lk Tb.eb e=some iE:=by rfl) (hby:Nat.ble iE 4096=true:=by rfl) (hl:c.length=sz:=by rfl) (h1:c.all (·.oneCell')=true:=by rfl):Iz Tryz.prog n w0 mu all ds l h0 hp t0 Y ((i,false)::r) aH aS hc:=by
 have sD:iE≤4096:=Nat.le_of_ble_eq_true hby
 have hall:∀ c'∈xs++[c],c'.length=sz∧c'.all (·.oneCell')=true:=by
  intro c' hc'
  rcases List.mem_append.1 hc' with hc' | hc'
  ·exact hA.1 c' hc'
  ·obtain rfl:=List.mem_singleton.1 hc';exact ⟨hl,h1⟩
 rcases hA.2 with ⟨rfl,rfl,rfl⟩ | ⟨g,cap,cur,rfl,rfl,hrow⟩
 ·refine ⟨_,ho,.inr (.inr ⟨rfl,fun v h'=>∃ g cap cur,Row g cap cur sz 1 c∧v=.slice (some ⟨g,0,none⟩) 1 cap∧h'=⟨g,cur,e⟩::hp',O0 (Dl ay hx hy ht hz hzs hb be5 bg8 hnews be5 be5) ?_,?_⟩)⟩
  ·rintro _ _ ⟨g,cap,cur,hr,rfl,rfl⟩
   exact ⟨_,⟨g,cap,cur,hr,rfl,rfl⟩,(hperm.cons _:(⟨g,cur,e⟩::([]++hp')).Perm (⟨g,cur,e⟩::hc))⟩
  rintro _ _ ⟨g,cap,cur,hr,rfl,rfl⟩
  refine ⟨?_,hit.imp id fun h2=>bu fun b=>?_,?_⟩
  ·refine bu fun b=>?_
   have:=hle.cnt b
   rw [aV]
   omega
  ·have:=h2.cnt b
   show _≤lM b (⟨g,cur,e⟩::hp')
   rw [aV]
   omega
  ·exact h (.slice (some ⟨g,0,none⟩) 1 cap) [⟨g,cur,e⟩] ⟨hall,.inr ⟨by simp,g,cap,cur,rfl,rfl,by simpa using hr⟩⟩
 ·refine ⟨_,ho,.inr (.inr ⟨rfl,_,Dp ay hx hy ht hz hzs hb hperm hrow bg8 hnews h1 be5 ?_,?_⟩)⟩
  ·have h2:(xs.length + 1 + (xs.length + 1) / 4 + 192)≤2000000:=by omega
   calc _≤2000000 * iE:=Nat.mul_le_mul_right _ h2
    _≤2000000 * 4096:=Nat.mul_le_mul_left _ sD
    _≤_:=by decide
  rintro _ _ ⟨g,cap,cur,hr,rfl,rfl⟩
  refine ⟨?_,hit.imp id fun h2=>bu fun b=>?_,?_⟩
  ·refine bu fun b=>?_
   have:=hle.cnt b
   show _≤lM b (⟨g,cur,e⟩::hp')
   rw [aV]
   omega
  ·have:=h2.cnt b
   show _≤lM b (⟨g,cur,e⟩::hp')
   rw [aV]
   omega
  ·exact h (.slice (some ⟨g,0,none⟩) (xs.length + 1) cap) [⟨g,cur,e⟩] ⟨hall,.inr ⟨by simp,g,cap,cur,by simp,rfl,by simpa using hr⟩⟩
end
end
section
attribute [local irreducible] Hy St Ops DH dG je iI gJ DS gY mP
theorem WW (f:Int):∀ k,k<5→(HyD.iC f).getD k default=f + (k:Int):=by
 intro k hk
 match k,hk with
 | 0,_=>exact (Int.add_zero f).symm
 | 1,_=>rfl
 | 2,_=>rfl
 | 3,_=>rfl
 | 4,_=>rfl
theorem PK {f x:Int} (h:x∈HyD.iC f):f≤x∧x<f + 5:=by
 simp only [HyD.iC,List.mem_cons,List.not_mem_nil,or_false] at h
 omega
theorem PL {D:Int→DsD}:∀ {l:List Int} {H:HyD},(HyD.zC D l H).vs=H.vs
 | [],_=>rfl
 | x::l,H=>by rw [HyD.zC,PL];rfl
theorem WX (H:HyD) (l:List Int):(H.Pz l).vs=H.vs:=rfl
def yI (was is:PtD) (k:Nat):Nat:=(List.range k).foldl (fun a i=>bif (is.gs i).live && !(was.gs i).live then i else a) 0
theorem wK (was is:PtD) (k:Nat):yI was is (k + 1)=bif (is.gs k).live && !(was.gs k).live then k else yI was is k:=by
 unfold yI
 rw [List.range_succ,List.foldl_append];rfl
theorem KE (was is:PtD):∀ k,yI was is k≤k - 1
 | 0=>Nat.le_refl 0
 | k + 1=>by
  rw [wK]
  have:=KE was is k
  cases (is.gs k).live && !(was.gs k).live with
  | true=>exact Nat.le_refl k
  | false=>rw [cond_false];omega
structure CrS where
 k:Nat
 v:Value
 h:Hp
theorem SG (L:HL) (H:HyD) (h:yw L H) (hW:H.kL) (c:wQ) (hf:16≤c.frame∧c.frame + 5≤((H.ws.length / 8:Nat):Int)) {X:Nat} {pv gv ov pv2 gv2 ov2:Value} {P P2:PtD} {w:World} (hN:dD (L.hp X [pv,gv,ov] 119) w)
  (hP:fD w pv gv ov P) (hPn:P.Len) (hPo:∀ b o n k,gv=.slice (some ⟨b,o,none⟩) n k→b ∉ (L.hp X [pv,gv,ov] 119).map (·.b)) (hP2:fD w pv2 gv2 ov2 P2) (ZG:P2.Len) (KF:∀ b o n k,gv2=.slice (some ⟨b,o,none⟩) n k→b ∉ (L.hp X [pv,gv,ov] 119).map (·.b)):
  Fn Tryz.prog 129 [.pointer (some ⟨X,0,none⟩),pY c,.agg #[pv2,gv2,ov2]].toArray w ((L.hp X [pv,gv,ov] 119).map (·.b)) (HR X [pv,gv,ov] 119 (H.vC c.frame (HyD.Sr P P2))):=by
 obtain ⟨V,rfl,rfl,rfl,hV⟩:=hP.open hPn
 obtain ⟨V2,rfl,rfl,rfl,hV2⟩:=hP2.open ZG
 have hb:=hPo _ _ _ _ rfl
 have hb2:=KF _ _ _ _ rfl
 refine bU _ hN Tryz.func129 ?_
 refine run ?_
 intro Cb Ib
 refine run ?_
 have Au:=dh hW.m
 refine aX (σ:=CrS) (fun s=>[(11,.int .i64 (s.k:Int)),(6,s.v)]) (fun s=>⟨Ib,#[V2.pv P2.pages.length,V2.gv P2.aA.length,V2.ov P2.on.length],38⟩::⟨Cb,#[.int .i64 c.kind,.int .i64 c.vm,.int .i64 c.frame,.int .i64 c.mid,.int .i64 c.iy,.int .i64 c.l9],63⟩::(s.h++(L.hp X [V.pv P.pages.length,V.gv P.aA.length,V.ov P.on.length] 119))) (fun s=>s.k≤5∧Acc 3 1 s.v s.h (((HyD.iC c.frame).take s.k).map dA)) (fun s=>5 - s.k) ⟨0,.slice none 0 0,[]⟩ ⟨Nat.zero_le _,Acc.nil _ _⟩ ?_
 rintro ⟨k,fv,hx⟩ m hm ⟨hk,hA⟩
 dsimp only at hm hk hA ⊢
 refine run ?_
 refine ah _ rfl (fun hc=>?_) (fun hc=>?_)
 ·have hk5:k<5:=by have:=of_decide_eq_true hc;omega
  refine run ?_
  intro Z
  have htn:(HyD.iC c.frame).take (k + 1)=(HyD.iC c.frame).take k++[c.frame + (k:Int)]:=by
   rw [iM (xs:=HyD.iC c.frame) (k:=k) hk5,WW _ _ hk5]
  refine kX (c:=[.int .i64 (c.frame + (k:Int))]) hA (fun v' ha' hA2=>?_) bf2 (bQ (m:=1) mh rfl) (hp':=⟨Z,#[.int .i64 (c.frame + (k:Int))],3⟩::⟨Ib,#[V2.pv P2.pages.length,V2.gv P2.aA.length,V2.ov P2.on.length],38⟩::⟨Cb,#[.int .i64 c.kind,.int .i64 c.vm,.int .i64 c.frame,.int .i64 c.mid,.int .i64 c.iy,.int .i64 c.l9],63⟩::(L.hp X [V.pv P.pages.length,V.gv P.aA.length,V.ov P.on.length] 119)) (hperm:=by (exact aJ))
  refine run ?_
  refine aK ⟨k + 1,v',ha'⟩ ⟨hk5,?_⟩ (hm:=by dsimp only;omega) (h2:=by (exact aj))
  dsimp only
  rw [htn,List.map_append]
  exact hA2
 ·have hk5:k=5:=by have:=of_decide_eq_false hc;omega
  subst hk5
  refine run ?_
  refine dJ (fun wc hG=>KC 0 wc) ?_
  rintro _ hn ⟨C,rfl,al7⟩
  refine aP (⟨Ib,#[V2.pv P2.pages.length,V2.gv P2.aA.length,V2.ov P2.on.length],38⟩::⟨Cb,#[.int .i64 c.kind,.int .i64 c.vm,.int .i64 c.frame,.int .i64 c.mid,.int .i64 c.iy,.int .i64 c.l9],63⟩::⟨C,#[.int .i64 0],3⟩::(hx++(L.hp X [V.pv P.pages.length,V.gv P.aA.length,V.ov P.on.length] 119))) (cnt1 al7) ?_
  rw [show (HyD.iC c.frame).take 5=HyD.iC c.frame from rfl] at hA
  have hAo:=hA.own
  refine run ?_
  refine gB (L.hp X [V.pv P.pages.length,V.gv P.aA.length,V.ov P.on.length] 119) (⟨Ib,#[V2.pv P2.pages.length,V2.gv P2.aA.length,V2.ov P2.on.length],38⟩::⟨Cb,#[.int .i64 c.kind,.int .i64 c.vm,.int .i64 c.frame,.int .i64 c.mid,.int .i64 c.iy,.int .i64 c.l9],63⟩::⟨C,#[.int .i64 0],3⟩::hx) (fun wc hG=>PI L H h hW (F:=218) (us:=[.pointer (some ⟨C,0,none⟩)]) (fun _=>jF 1) (HyD.iC c.frame) (fun f hf=>by have:=PK hf;omega) (fun _ _=>rfl) (hAo.lie (fun e he=>hG.here e bf8) bi3) (fun b o n k e hm=>?_) (fun f hf w' hp hg=>?_) hG.fV) (fun v hn2 hR=>?_) aJ
  ·obtain ⟨x,hx,rfl⟩:=hAo.blk e
   exact hG.DU (e:=x) (by simp [hx]) hm
  ·have:=FP C 0 f be6 w' ((hG.sV hg).cell1 (t:=3) be7)
   exact this
  obtain ⟨rfl,L2,h2,hle2⟩:=hR
  refine aP (⟨Ib,#[V2.pv P2.pages.length,V2.gv P2.aA.length,V2.ov P2.on.length],38⟩::⟨Cb,#[.int .i64 c.kind,.int .i64 c.vm,.int .i64 c.frame,.int .i64 c.mid,.int .i64 c.iy,.int .i64 c.l9],63⟩::(hx++(L2.hp X [V.pv P.pages.length,V.gv P.aA.length,V.ov P.on.length] 119))) (cnt1 hle2) ?_
  refine run ?_
  have hW2:=zD (D:=fun _=>jF 1) (l:=HyD.iC c.frame) hW
  have hl2:=KA (D:=fun _=>jF 1) (l:=HyD.iC c.frame) (H:=H)
  obtain ⟨H2,hH2⟩:∃ H2,H2=HyD.zC (fun _=>jF 1) (HyD.iC c.frame) H:=⟨_,rfl⟩
  rw [← hH2] at h2 hW2 hl2
  refine gB (L2.hp X [V.pv P.pages.length,V.gv P.aA.length,V.ov P.on.length] 119) (⟨Ib,#[V2.pv P2.pages.length,V2.gv P2.aA.length,V2.ov P2.on.length],38⟩::⟨Cb,#[.int .i64 c.kind,.int .i64 c.vm,.int .i64 c.frame,.int .i64 c.mid,.int .i64 c.iy,.int .i64 c.l9],63⟩::hx) (fun wc hG=>ZA L2 H2 h2 hW2 (HyD.iC c.frame) (List.all_eq_true.2 fun f hf=>by have:=PK hf;rw [hl2];simp only [dm,Bool.and_eq_true,decide_eq_true_eq];omega) (hAo.lie (fun e he=>hG.here e bf8) bi3) (fun b o n k e hm=>?_) hG.fV) (fun v hn3 hR=>?_) aJ
  ·obtain ⟨x,hx,rfl⟩:=hAo.blk e
   exact hG.DU (e:=x) (by simp [hx]) hm
  obtain ⟨rfl,L3,h3,hle3⟩:=hR
  obtain ⟨wv3,N8,vv3,rv3,cs3,vs3,hw3,hc3,ht3,hv3,hz3,hr3⟩:=L3
  simp only [HL.hp,HL.rest] at hle3
  refine aP (⟨Ib,#[V2.pv P2.pages.length,V2.gv P2.aA.length,V2.ov P2.on.length],38⟩::⟨X,#[wv3,N8,vv3,rv3,V.pv P.pages.length,V.gv P.aA.length,V.ov P.on.length],119⟩::(hx++(hw3++(hc3++(ht3++(hv3++(hz3++hr3))))))) (cnt1 hle3) ?_
  refine run ?_
  have g4:=hPn.g4
  have g42:=ZG.g4
  refine aX (σ:=Nat) (fun k=>[(32,.int .i64 (k:Int)),(8,.int .i64 (yI P P2 k:Int))]) (fun _=>⟨Ib,#[V2.pv P2.pages.length,V2.gv P2.aA.length,V2.ov P2.on.length],38⟩::⟨X,#[wv3,N8,vv3,rv3,V.pv P.pages.length,V.gv P.aA.length,V.ov P.on.length],119⟩::(hx++(hw3++(hc3++(ht3++(hv3++(hz3++hr3))))))) (fun k=>k≤4) (fun k=>4 - k) 0 (Nat.zero_le _) ?_
  rintro k m2 hm2 hk4
  refine run ?_
  refine ah _ rfl (fun hc2=>?_) (fun hc2=>?_)
  ·have hkl:k<4:=by have:=of_decide_eq_true hc2;omega
   have r1:=hV2.gs k be5
   have r2:=au (bg (k:=0) (n:=1) (hV.gs k be5) rfl)
   simp only [Nat.add_zero] at r2
   have hkP:k<P.aA.length:=by omega
   obtain ⟨q5,c5,e5,_⟩:=(hV2.vc k be5).opened
   obtain ⟨q6,c6,e6,_⟩:=(hV2.mp k be5).opened
   rw [e5,e6] at r1
   refine run ?_
   intro Gb
   refine aI ?_
   refine ah _ rfl (fun hd=>?_) (fun hd=>?_)
   ·have e9:yI P P2 (k + 1)=k:=by rw [wK,hd];rfl
    refine run ?_
    exact aK (k + 1) hkl (hm:=by omega) (h1:=by rw [e9];(repeat (first | exact True.intro | (refine And.intro bf3 ?_))))
   ·have e9:yI P P2 (k + 1)=yI P P2 k:=by rw [wK,hd];rfl
    refine run ?_
    exact aK (k + 1) hkl (hm:=by omega) (h1:=by rw [e9];(repeat (first | exact True.intro | (refine And.intro bf3 ?_))))
  ·have hk5:k=4:=by have:=of_decide_eq_false hc2;omega
   subst hk5
   refine run ?_
   obtain ⟨H3,hH3⟩:∃ H3,H3=H2.Pz (HyD.iC c.frame):=⟨_,rfl⟩
   rw [← hH3] at h3
   have az1:H3.vs=H.vs:=by rw [hH3,WX,hH2,PL]
   have hcr:H.vC c.frame (HyD.Sr P P2)=H3.WR (HyD.Sr P P2) ⟨true,false,yF H.vs,HyD.iC c.frame,(HyD.iC c.frame).drop 1,[]⟩:=by
    unfold HyD.vC
    rw [hH3,hH2]
   rw [hcr]
   clear hcr hH3
   obtain ⟨k64,kw,kc,kt,kv,kz,kr,kec,kev⟩:=h3
   dsimp only at kw kc kt kv kz kr kec kev
   have al8:vs3.map jH.u=H.vs:=by
    rw [kev,az1]
   have kvl:vs3.length=4:=by
    rw [← hW.v,← al8,List.length_map]
   obtain ⟨at_,hat⟩:∃ a,a=yI P P2 4:=⟨_,rfl⟩
   have al9:at_<vs3.length:=by have:=KE P P2 4;omega
   obtain ⟨g3,cap3,wF,rfl,rfl,hsz,sJ,hput⟩:=kv.lY al9
   rw [← hat]
   obtain ⟨fg,N9,am0,rfl,rfl,az2⟩:=hAo.row (n:=5) rfl be6
   refine wC 13 [0,1,2,3,4,5,6,7,8,9,10] [11] [12] [13] [14] ?_
   refine fU ?_
   refine G6 (fun wc hx9 hG=>ZC vs3 (uJ (tl:=[V.pv P.pages.length,V.gv P.aA.length,V.ov P.on.length]) (hG.here ⟨X,#[wv3,N8,.slice (some ⟨g3,0,none⟩) vs3.length cap3,rv3,V.pv P.pages.length,V.gv P.aA.length,V.ov P.on.length],119⟩ be7)) (kv.lie (fun e he=>hG.here e bj4) be9) be5) ?_
   refine fU ?_
   have hfc:=az2.le
   refine jA rfl (fun hx9=>jX ay rfl rfl rfl be6 be6 be5 (o':=1) (m':=4) (c':=N9 - 1) rfl rfl rfl) ?_
   refine fU ?_
   have l4:(((HyD.iC c.frame).drop 1).map dA).length=4:=rfl
   have l5:((HyD.iC c.frame).map dA).length=5:=rfl
   have l5':(HyD.iC c.frame).length=5:=rfl
   have ac6:=D6 ((HyD.iC c.frame).drop 1)
   refine jB (R:=fun u hn=>Own 3 1 u hn (((HyD.iC c.frame).drop 1).map dA)) (fun wc hG=>pF _ _ ?_ ac6 be5) (dU ac6 be5) ?_
   ·have:=(hAo.lie (w:=wc) (fun e he=>hG.here e bj4) be5).aw6 (i:=1) (k:=4) (c':=N9 - 1) be5
    exact this
   refine jS ?_
   intro cv9 h9 hO9
   obtain ⟨q9,c9,e9⟩:=hO9.opened
   rw [show ((HyD.iC c.frame).drop 1).map dA=[dA (c.frame + 1),dA (c.frame + 2),dA (c.frame + 3),dA (c.frame + 4)] from rfl,show ([dA (c.frame + 1),dA (c.frame + 2),dA (c.frame + 3),dA (c.frame + 4)]:List (List Value)).length=4 from rfl] at e9
   subst e9
   refine tN ?_
   refine iW ?_
   refine WV al9 (Nat.zero_add (at_ * 6)) ?_
   refine iW ?_
   simp only [DN,List.cons_append,List.nil_append,List.append_nil]
   obtain ⟨m9,hm9⟩:∃ m9:jH,m9=⟨true,false,yF (vs3.map jH.u),HyD.iC c.frame,some ⟨fg,0,none⟩,N9,(HyD.iC c.frame).drop 1,q9,c9,[],none,0⟩:=⟨_,rfl⟩
   have hnew:=hput 0 [.bool true,.bool false,.int .i64 (yF (vs3.map jH.u)),.slice (some ⟨fg,0,none⟩) 5 N9,.slice q9 4 c9,.slice none 0 0] m9 be7 (by
    rw [List.take_zero,List.drop_eq_nil_of_le be7,List.append_nil,List.nil_append,hm9];rfl) ⟨rfl,rfl⟩
   obtain ⟨za,zb,_,hzz,qH⟩:=kz.out al9
   refine rq (v:=.agg #[.bool true,.bool false,.int .i64 (yF (vs3.map jH.u)),.slice (some ⟨fg,0,none⟩) 5 N9,.slice q9 4 c9,.slice none 0 0]) ay (b:=g3) (cs:=wF) (cs':=putAt wF (at_ * 6 + 0) [.bool true,.bool false,.int .i64 (yF (vs3.map jH.u)),.slice (some ⟨fg,0,none⟩) 5 N9,.slice q9 4 c9,.slice none 0 0]) (tb:=111) (off:=at_ * 6) (vs:=[.bool true,.bool false,.int .i64 (yF (vs3.map jH.u)),.slice (some ⟨fg,0,none⟩) 5 N9,.slice q9 4 c9,.slice none 0 0]) (hp':=⟨X,#[wv3,N8,.slice (some ⟨g3,0,none⟩) vs3.length cap3,rv3,V.pv P.pages.length,V.gv P.aA.length,V.ov P.on.length],119⟩::(h9++(⟨Ib,#[V2.pv P2.pages.length,V2.gv P2.aA.length,V2.ov P2.on.length],38⟩::⟨fg,am0,3⟩::(hw3++(hc3++(ht3++(hz3++hr3))))))) rfl rfl rfl rfl rfl rfl aJ rfl (by show at_ * 6 + 6≤_;omega) rfl aj ?_
   refine dw ?_
   refine lg ?_
   refine run ?_
   refine fin0 ⟨rfl,⟨wv3,N8,.slice (some ⟨g3,0,none⟩) vs3.length cap3,rv3,cs3,vs3.set at_ m9,hw3,hc3,ht3,[⟨g3,_,111⟩],([⟨fg,am0,3⟩]++(h9++[]))++zb,hr3⟩,⟨k64,kw,kc,kt,hnew,qH _ _ ⟨[⟨fg,am0,3⟩],h9,[],?_,?_,?_,?_,aC.refl _⟩,kr,kec,?_⟩,?_⟩
   ·rw [hm9];exact hAo
   ·rw [hm9];exact hO9
   ·rw [hm9];exact Own.nil _ _
   ·rw [hm9];exact ⟨(by decide:(5:Nat)<100000),(by decide:(4:Nat)<100000),(by decide:(0:Nat)<100000)⟩
   ·dsimp only
    rw [List.map_set,al8,hm9]
    unfold HyD.WR
    dsimp only
    rw [az1,hat,al8]
    rfl
   ·simp only [HL.hp,HL.rest]
    (exact cnt1 hzz)
theorem am1 (xs:List pU):∀ c∈xs.map nT,c.length=15∧c.all (·.oneCell')=true:=by
 intro c hc
 obtain ⟨x,_,rfl⟩:=List.mem_map.1 hc
 exact ⟨rfl,rfl⟩
theorem am2 (xs:List qB):∀ c∈xs.map QT,c.length=19∧c.all (·.oneCell')=true:=by
 intro c hc
 obtain ⟨x,_,rfl⟩:=List.mem_map.1 hc
 exact ⟨rfl,rfl⟩
theorem am3 (xs:List jH):∀ c∈xs.map zO,c.length=6∧c.all (·.oneCell')=true:=by
 intro c hc
 obtain ⟨x,_,rfl⟩:=List.mem_map.1 hc
 exact ⟨rfl,rfl⟩
theorem WY (es:List iU) (ds:List jZ) (h1:es.length<100000) (h2:ds.length<100000):∃ (r:Value) (hn:Hp),∃ v1 h1 v2 h2,r=.agg #[v1,v2]∧Own 51 14 v1 h1 (es.map kE)∧Own 194 4 v2 h2 (ds.map rD)∧aC (h1++h2) hn:=by
 obtain ⟨a1,g1,o1⟩:=dU (e:=51) (xs:=es.map kE) rF be9
 obtain ⟨a2,g2,o2⟩:=dU (e:=194) (xs:=ds.map rD) zo be9
 exact ⟨_,_,a1,g1,a2,g2,rfl,o1,o2,aC.refl _⟩
theorem SH {α:Type} [Inhabited α] {xs ys:List α} {k:Nat} (h:xs.drop k=ys.drop k):xs.getD k default=ys.getD k default:=by
 have:=congrArg (fun l:List α=>l[0]?) h
 simp only [List.getElem?_drop,Nat.add_zero] at this
 rw [List.getD_eq_getElem?_getD,List.getD_eq_getElem?_getD,this]
theorem vT {α:Type} {l:List α} {k:Nat} {y:α} (h:k<l.length):(l.set k y).take (k + 1)=l.take k++[y]:=by
 apply List.ext_getElem?
 intro i
 simp only [List.getElem?_take,List.getElem?_set,List.getElem?_append,List.length_take,Nat.min_eq_left (Nat.le_of_lt h)]
 by_cases h1:i<k
 ·simp [h1,show i<k + 1 by omega,show ¬ k=i by omega]
 ·by_cases h2:i=k
  ·subst h2;simp [h]
  ·simp [h1,show ¬ i<k + 1 by omega,show i - k ≠ 0 by omega,List.getElem?_eq_none (show ([y]:List α).length≤i - k by simp;omega)]
theorem WZ (xs:List Iy):∀ c∈xs.map Fg,c.length=16∧c.all (·.oneCell')=true:=by
 intro c hc
 obtain ⟨x,_,rfl⟩:=List.mem_map.1 hc
 exact ⟨rfl,rfl⟩
structure CdS where
 k:Nat
 xs:List qB
 cur:Array Value
 h:Hp
structure CvS where
 k:Nat
 xs:List jH
 cur:Array Value
 h:Hp
theorem FQ {w:World} {wv cv vv rv:Value} {H:HyD} (h:MX w wv cv vv rv H) (hw0:0<H.ws.length) (hc0:0<H.cs.length) (hv0:0<H.vs.length) (pp gp XG:Option Addr) (n1 n2 n3 k1 k2 k3:Nat):
  Fn Tryz.prog 57 [.agg #[wv,cv,vv,rv],.agg #[.slice pp n1 k1,.slice gp n2 k2,.slice XG n3 k3]].toArray w [] (fun u hn=>∃ X L,u=.pointer (some ⟨X,0,none⟩)∧yw L H∧aC (L.hp X [.slice pp n1 k1,.slice gp n2 k2,.slice XG n3 k3] 119) hn):=by
 have h':=h
 have hfit:=h.fit
 obtain ⟨cs,vs,e1,e2,e3,hH⟩:=h.ex
 have hcl:cs.length=H.cs.length:=by rw [← e1,List.length_map]
 have hvl:vs.length=H.vs.length:=by rw [← e2,List.length_map]
 have hl:=hfit.l
 obtain ⟨q,cap,rfl,hne,_⟩:=hH.ws.opened
 have aI1:=hH.cs.rows.opened
 obtain ⟨q2,cap2,rfl,hne2,_⟩:=aI1
 obtain ⟨q3,cap3,rfl,DC,_⟩:=hH.vs.rows.opened
 obtain ⟨q4,cap4,rfl,NC,_⟩:=hH.rs.opened
 refine enter Tryz.func57 ?_
 refine run ?_
 intro Hb Pb
 refine zn 19 3 [0,1,2,5,6,8,9,11,12,15] [(3,false),(4,true),(7,false),(10,false),(13,false),(14,true),(16,true),(17,false),(18,true)] [⟨Pb,#[.slice pp n1 k1,.slice gp n2 k2,.slice XG n3 k3],38⟩,⟨Hb,#[.slice q H.ws.length cap,.slice q2 cs.length cap2,.slice q3 vs.length cap3,.slice q4 H.rs.length cap4],29⟩] ?_
 refine jT ?_
 refine xC ?_
 refine xN (fun wc hG=>oz _ _ (hH.ws.good hG) (w_all _) be9) ?_
 intro v1 h1 o1
 obtain ⟨y1,d1,e1'⟩:=o1.opened
 rw [List.length_map] at e1'
 subst e1'
 refine dw ?_
 refine xD ?_
 refine tN ?_
 refine iW ?_
 refine ⟨_,rfl,?_⟩
 refine xC ?_
 refine xN (fun wc hG=>JR _ _ (hH.cs.rows.good hG) (am2 _) be9) ?_
 intro v2 h2 o2
 obtain ⟨y2,d2,e2'⟩:=o2.opened
 rw [List.length_map] at e2'
 subst e2'
 refine dw ?_
 refine xC ?_
 refine xN (fun wc hG=>Ns _ _ (hH.vs.rows.good hG) (am3 _) be9) ?_
 intro v3 h3 o3
 obtain ⟨y3,d3,e3'⟩:=o3.opened
 rw [List.length_map] at e3'
 subst e3'
 refine dw ?_
 refine xC ?_
 refine xN (fun wc hG=>JS _ _ (hH.rs.good hG) (am1 _) be9) ?_
 intro v4 h4 o4
 obtain ⟨y4,d4,e4'⟩:=o4.opened
 rw [List.length_map] at e4'
 subst e4'
 refine dw ?_
 refine xD ?_
 refine tN ?_
 refine iW ?_
 refine ⟨_,rfl,?_⟩
 refine xD ?_
 refine tN ?_
 refine iW ?_
 refine ⟨_,rfl,?_⟩
 refine xC ?_
 refine aG4 (fun X=>?_)
 refine dw ?_
 refine xD ?_
 refine oC ?_
 refine iW ?_
 refine ⟨_,rfl,?_⟩
 refine QZ ?_
 refine lg ?_
 obtain ⟨g2,d2',NR,e2',rfl,hrow2⟩:=o2.row (n:=cs.length) be7 be5
 cases e2'
 obtain ⟨g3,d3',wF,e3',rfl,hrow3⟩:=o3.row (n:=vs.length) be7 be5
 cases e3'
 refine aP (⟨X,#[.slice y1 H.ws.length d1,.slice (some ⟨g2,0,none⟩) cs.length d2,.slice (some ⟨g3,0,none⟩) vs.length d3,.slice y4 H.rs.length d4,.slice pp n1 k1,.slice gp n2 k2,.slice XG n3 k3],119⟩::⟨Hb,#[.slice q H.ws.length cap,.slice q2 cs.length cap2,.slice q3 vs.length cap3,.slice q4 H.rs.length cap4],29⟩::⟨g2,NR,84⟩::⟨g3,wF,111⟩::(h1++h4)) aj ?_
 refine run ?_
 refine aX (σ:=CdS) (fun s=>[(33,.int .i64 (s.k:Int))]) (fun s=>⟨X,#[.slice y1 H.ws.length d1,.slice (some ⟨g2,0,none⟩) cs.length d2,.slice (some ⟨g3,0,none⟩) vs.length d3,.slice y4 H.rs.length d4,.slice pp n1 k1,.slice gp n2 k2,.slice XG n3 k3],119⟩::⟨Hb,#[.slice q H.ws.length cap,.slice q2 cs.length cap2,.slice q3 vs.length cap3,.slice q4 H.rs.length cap4],29⟩::⟨g2,s.cur,84⟩::⟨g3,wF,111⟩::(s.h++(h1++h4))) (fun s=>s.k≤cs.length∧s.xs.length=cs.length∧Own 84 19 (.slice (some ⟨g2,0,none⟩) cs.length d2) [⟨g2,s.cur,84⟩] (s.xs.map QT)∧iT Ad ((s.xs.take s.k).map (·.t)) s.h∧s.xs.map qB.u=H.cs) (fun s=>cs.length - s.k) ⟨0,cs,NR,[]⟩ ⟨Nat.zero_le _,rfl,o2,trivial,e1⟩ ?_
 rintro ⟨k,xs,cu,ht⟩ m hm ⟨hk,hxl,hU,hT,hE⟩
 dsimp only at hm hk hxl hU hT hE ⊢
 refine run ?_
 refine ah _ rfl (fun hc=>?_) (fun hc=>?_)
 ·have hlt:k<cs.length:=by simpa using hc
  obtain ⟨b2,o2_,rfl⟩:=hne2 (by intro e;rw [e] at hlt;cases hlt)
  have hr:=hH.cs.rows.row hlt
  have hen:=hH.cs.en _ (getD_mem (l:=cs) hlt)
  have hiv:=hH.cs.iv _ (getD_mem (l:=cs) hlt)
  have hfc:=hfit.c (H.cs.getD k default) (getD_mem be5)
  rw [← yj e1 k] at hfc
  obtain ⟨g',cap',cur',q1_,q2_,hsz,sJ,hput⟩:=hU.lY (k:=k) be5
  rw [hxl] at q1_ hput
  cases q1_
  cases q2_
  have hxu:(xs.getD k default).u=(cs.getD k default).u:=by rw [yj hE k,yj e1 k]
  have aI3:=bg (k:=17) (n:=2) hr rfl
  generalize cs.getD k default=c at aI3 hen hiv hfc hxu
  refine run ?_
  refine wC 13 [0,1,2,3,4,5,6,7,8,9,10,11] [12] [] [13,14] [15] ?_
  refine fU ?_
  refine jB (R:=fun r hn=>∃ v1 h1 v2 h2,r=.agg #[v1,v2]∧Own 51 14 v1 h1 (c.t.es.map kE)∧Own 194 4 v2 h2 (c.t.ds.map rD)∧aC (h1++h2) hn) (fun wc hG=>Fv c.t.es c.t.ds _ _ (hen.good hG) (hiv.good hG) (Nat.lt_trans hfc.1 be6) (Nat.lt_trans hfc.2.1 be6)) (WY _ _ hfc.1 hfc.2.1) ?_
  refine jS ?_
  rintro u hn ⟨v5,h5,v6,h6,rfl,a5,a6,hle⟩
  obtain ⟨q5,c5,e5⟩:=a5.opened
  obtain ⟨q6,c6,e6⟩:=a6.opened
  rw [List.length_map] at e5 e6
  subst e5 e6
  refine iW ?_
  refine WV hlt (Nat.zero_add (k * 19)) ?_
  refine G5 ?_
  refine iW ?_
  simp only [DN,List.cons_append,List.nil_append,List.append_nil]
  have hnew:=hput 17 [.slice q5 c.t.es.length c5,.slice q6 c.t.ds.length c6] { xs.getD k default with t:=⟨c.t.es,c.t.ds,q5,c5,q6,c6⟩ } be7 rfl ⟨rfl,rfl⟩
  refine rq (v:=.agg #[.slice q5 c.t.es.length c5,.slice q6 c.t.ds.length c6]) ay (b:=g2) (cs:=cu) (cs':=putAt cu (k * 19 + 17) [.slice q5 c.t.es.length c5,.slice q6 c.t.ds.length c6]) (tb:=84) (off:=k * 19 + 17) (vs:=[.slice q5 c.t.es.length c5,.slice q6 c.t.ds.length c6]) (hp':=⟨X,#[.slice y1 H.ws.length d1,.slice (some ⟨g2,0,none⟩) cs.length d2,.slice (some ⟨g3,0,none⟩) vs.length d3,.slice y4 H.rs.length d4,.slice pp n1 k1,.slice gp n2 k2,.slice XG n3 k3],119⟩::(hn++(⟨Hb,#[.slice q H.ws.length cap,.slice (some ⟨b2,o2_,none⟩) cs.length cap2,.slice q3 vs.length cap3,.slice q4 H.rs.length cap4],29⟩::⟨g3,wF,111⟩::(ht++(h1++h4))))) rfl rfl rfl rfl rfl rfl aJ rfl (by show k * 19 + 17 + 2≤_;omega) rfl aj ?_
  refine dw ?_
  refine lg ?_
  refine run ?_
  refine aK ⟨k + 1,xs.set k { xs.getD k default with t:=⟨c.t.es,c.t.ds,q5,c5,q6,c6⟩ },putAt cu (k * 19 + 17) [.slice q5 c.t.es.length c5,.slice q6 c.t.ds.length c6],(h5++h6)++ht⟩ ⟨hlt,by dsimp only;rw [List.length_set];exact hxl,hnew,?_,?_⟩ (hm:=by dsimp only;omega) (h2:=by (exact cnt1 hle))
  ·dsimp only
   rw [vT be5,List.map_append]
   exact hT.snoc (y:=⟨c.t.es,c.t.ds,q5,c5,q6,c6⟩) ⟨h5,h6,a5,a6,⟨hfc.1,hfc.2.1⟩,aC.refl _⟩
  ·dsimp only
   have hxk:k<xs.length:=by omega
   have e9:qB.u { xs.getD k default with t:=⟨c.t.es,c.t.ds,q5,c5,q6,c6⟩ }=(xs.getD k default).u:=by
    rw [hxu]
    have h9:=congrArg qJ.r hxu
    have h10:=congrArg qJ.vm hxu
    have h11:=congrArg qJ.vc hxu
    simp only [qB.u] at h9 h10 h11 ⊢
    rw [h9,h10,h11]
   rw [List.map_set,e9,← hE]
   refine jY ?_
   rw [List.getElem?_map,List.getD_eq_getElem?_getD,List.getElem?_eq_getElem hxk]
   rfl
 ·have hge:k=cs.length:=by simp at hc;omega
  subst hge
  rw [← hxl,List.take_length] at hT
  refine run ?_
  refine aX (σ:=CvS) (fun s=>[(58,.int .i64 (s.k:Int))]) (fun s=>⟨X,#[.slice y1 H.ws.length d1,.slice (some ⟨g2,0,none⟩) cs.length d2,.slice (some ⟨g3,0,none⟩) vs.length d3,.slice y4 H.rs.length d4,.slice pp n1 k1,.slice gp n2 k2,.slice XG n3 k3],119⟩::⟨g2,cu,84⟩::⟨g3,s.cur,111⟩::(s.h++(ht++(h1++h4)))) (fun s=>s.k≤vs.length∧s.xs.length=vs.length∧Own 111 6 (.slice (some ⟨g3,0,none⟩) vs.length d3) [⟨g3,s.cur,111⟩] (s.xs.map zO)∧iT av9 (s.xs.take s.k) s.h∧s.xs.map jH.u=H.vs∧s.xs.drop s.k=vs.drop s.k) (fun s=>vs.length - s.k) ⟨0,vs,wF,[]⟩ ⟨Nat.zero_le _,rfl,o3,trivial,e2,rfl⟩ ?_
  rintro ⟨k,ys,N8,hz⟩ m2 hm2 ⟨hk2,hyl,hV,hZ,hEv,hdr⟩
  dsimp only at hm2 hk2 hyl hV hZ hEv hdr ⊢
  refine run ?_
  refine ah _ rfl (fun hc2=>?_) (fun hc2=>?_)
  ·have hlt:k<vs.length:=by simpa using hc2
   have hfv:=hfit.v (H.vs.getD k default) (getD_mem be5)
   rw [← Dy e2 k] at hfv
   have hf1:=hH.vs.fs _ (getD_mem (l:=vs) hlt)
   have hf2:=hH.vs.fr _ (getD_mem (l:=vs) hlt)
   have hf3:=hH.vs.vs _ (getD_mem (l:=vs) hlt)
   obtain ⟨g',cap',cur',q1_,q2_,hsz,sJ,hput⟩:=hV.lY (k:=k) be5
   rw [hyl] at q1_ hput
   cases q1_
   cases q2_
   have hyk:=SH hdr
   rw [hyk] at sJ hput
   generalize hmv:vs.getD k default=mv at hf1 hf2 hf3 hfv sJ hput hyk
   obtain ⟨qf,cf,ef,_,_⟩:=hf1.opened
   obtain ⟨qr,cr,er,_,_⟩:=hf2.opened
   obtain ⟨qv,cvv,ev,_,_⟩:=hf3.opened
   have nn3:=sJ 3 _ rfl
   have nn4:=sJ 4 _ rfl
   have nn5:=sJ 5 _ rfl
   rw [ef] at nn3
   rw [er] at nn4
   rw [ev] at nn5
   refine run ?_
   refine GI 27 20 [0,1,2,3,4,5,6,8,9,10,11,13,14,15,16,18,19,21,22,24,25] [7,12,17] [20,23,26] [] ?_
   refine jT ?_
   refine jB (R:=fun u hn=>Own 3 1 u hn (mv.fs.map dA)) (fun wc hG=>pF (.slice qf mv.fs.length cf) _ (by rw [← ef];exact hf1.good hG) (D6 _) (by rw [List.length_map];have:=hfv.1;show mv.fs.length<_;exact Nat.lt_trans this be6)) (dU (D6 _) (by rw [List.length_map];exact Nat.le_of_lt (Nat.lt_trans hfv.1 be6))) ?_
   refine jB (R:=fun u hn=>Own 3 1 u hn (mv.fr.map dA)) (fun wc hG=>pF (.slice qr mv.fr.length cr) _ (by rw [← er];exact hf2.good hG) (D6 _) (by rw [List.length_map];exact Nat.lt_trans hfv.2.1 be6)) (dU (D6 _) (by rw [List.length_map];exact Nat.le_of_lt (Nat.lt_trans hfv.2.1 be6))) ?_
   refine jB (R:=fun u hn=>Own 131 16 u hn (mv.vs.map Fg)) (fun wc hG=>Ht (.slice qv mv.vs.length cvv) _ (by rw [← ev];exact hf3.good hG) (WZ _) (by rw [List.length_map];exact Nat.lt_trans hfv.2.2.1 be6)) (dU (WZ _) (by rw [List.length_map];exact Nat.le_of_lt (Nat.lt_trans hfv.2.2.1 be6))) ?_
   refine jS ?_
   intro w7 a7 b7 w8 a8 b8 w9 a9 b9
   obtain ⟨q7,c7,e7⟩:=b9.opened
   obtain ⟨q8,c8,e8⟩:=b8.opened
   obtain ⟨q9,c9,e9⟩:=b7.opened
   rw [List.length_map] at e7 e8 e9
   subst e7 e8 e9
   simp only [DN,List.cons_append,List.nil_append,List.append_nil]
   refine rq (v:=.slice q7 mv.fs.length c7) ay (b:=g3) (cs:=N8) (cs':=putAt N8 (k * 6 + 3) [.slice q7 mv.fs.length c7]) (tb:=111) (off:=k * 6 + 3) (vs:=[.slice q7 mv.fs.length c7]) (hp':=⟨X,#[.slice y1 H.ws.length d1,.slice (some ⟨g2,0,none⟩) cs.length d2,.slice (some ⟨g3,0,none⟩) vs.length d3,.slice y4 H.rs.length d4,.slice pp n1 k1,.slice gp n2 k2,.slice XG n3 k3],119⟩::(a7++(a8++a9)++(⟨g2,cu,84⟩::(hz++(ht++(h1++h4)))))) rfl rfl rfl rfl rfl rfl aJ rfl bg3 rfl aj ?_
   refine rq (v:=.slice q8 mv.fr.length c8) ay (b:=g3) (cs:=putAt N8 (k * 6 + 3) [.slice q7 mv.fs.length c7]) (cs':=putAt (putAt N8 (k * 6 + 3) [.slice q7 mv.fs.length c7]) (k * 6 + 4) [.slice q8 mv.fr.length c8]) (tb:=111) (off:=k * 6 + 4) (vs:=[.slice q8 mv.fr.length c8]) (hp':=⟨X,#[.slice y1 H.ws.length d1,.slice (some ⟨g2,0,none⟩) cs.length d2,.slice (some ⟨g3,0,none⟩) vs.length d3,.slice y4 H.rs.length d4,.slice pp n1 k1,.slice gp n2 k2,.slice XG n3 k3],119⟩::(a7++(a8++a9)++(⟨g2,cu,84⟩::(hz++(ht++(h1++h4)))))) rfl rfl rfl rfl rfl rfl aJ rfl bg3 rfl aj ?_
   refine rq (v:=.slice q9 mv.vs.length c9) ay (b:=g3) (cs:=putAt (putAt N8 (k * 6 + 3) [.slice q7 mv.fs.length c7]) (k * 6 + 4) [.slice q8 mv.fr.length c8]) (cs':=putAt (putAt (putAt N8 (k * 6 + 3) [.slice q7 mv.fs.length c7]) (k * 6 + 4) [.slice q8 mv.fr.length c8]) (k * 6 + 5) [.slice q9 mv.vs.length c9]) (tb:=111) (off:=k * 6 + 5) (vs:=[.slice q9 mv.vs.length c9]) (hp':=⟨X,#[.slice y1 H.ws.length d1,.slice (some ⟨g2,0,none⟩) cs.length d2,.slice (some ⟨g3,0,none⟩) vs.length d3,.slice y4 H.rs.length d4,.slice pp n1 k1,.slice gp n2 k2,.slice XG n3 k3],119⟩::(a7++(a8++a9)++(⟨g2,cu,84⟩::(hz++(ht++(h1++h4)))))) rfl rfl rfl rfl rfl rfl aJ rfl bg3 rfl aj ?_
   refine dw ?_
   refine lg ?_
   have hnew:=hput 3 [.slice q7 mv.fs.length c7,.slice q8 mv.fr.length c8,.slice q9 mv.vs.length c9] { mv with fp:=q7,fc:=c7,rp:=q8,rc:=c8,vp:=q9,vk:=c9 } be7 rfl ⟨rfl,rfl⟩
   refine run ?_
   refine aK ⟨k + 1,ys.set k { mv with fp:=q7,fc:=c7,rp:=q8,rc:=c8,vp:=q9,vk:=c9 },putAt (putAt (putAt N8 (k * 6 + 3) [.slice q7 mv.fs.length c7]) (k * 6 + 4) [.slice q8 mv.fr.length c8]) (k * 6 + 5) [.slice q9 mv.vs.length c9],(a9++(a8++a7))++hz⟩ ⟨hlt,by dsimp only;rw [List.length_set];exact hyl,hnew,?_,?_,?_⟩ (hm:=by dsimp only;omega) (h2:=by (exact aj))
   ·dsimp only
    rw [vT be5]
    exact hZ.snoc ⟨a9,a8,a7,b9,b8,b7,⟨hfv.1,hfv.2.1,hfv.2.2.1⟩,aC.refl _⟩
   ·dsimp only
    have az4:k<ys.length:=by omega
    rw [List.map_set,← hEv]
    refine jY ?_
    rw [List.getElem?_map,List.getElem?_eq_getElem az4]
    rw [List.getD_eq_getElem?_getD,List.getElem?_eq_getElem az4] at hyk
    rw [show ys[k]=mv from hyk]
    rfl
   ·dsimp only
    rw [List.drop_set_of_lt (Nat.lt_succ_self k)]
    have:=congrArg (List.drop 1) hdr
    rwa [List.drop_drop,List.drop_drop] at this
  ·have hge:k=vs.length:=by simp at hc2;omega
   subst hge
   rw [← hyl,List.take_length] at hZ
   refine run ?_
   exact fin1 ⟨X,⟨.slice y1 H.ws.length d1,.slice (some ⟨g2,0,none⟩) cs.length d2,.slice (some ⟨g3,0,none⟩) vs.length d3,.slice y4 H.rs.length d4,xs,ys,h1,[⟨g2,cu,84⟩],ht,[⟨g3,N8,111⟩],hz,h4⟩,rfl,⟨hH.Jt,o1,hU,hT,hV,hZ,o4,hE,hEv⟩,by simp only [HL.hp,HL.rest];(exact aj)⟩
theorem W9 {l:List Value} {o:Nat} {c:List Value} (h:∀ j u,c[j]?=some u→nth l (o + j)=some u):List.take c.length (List.drop o l)=c:=by
 apply List.ext_getElem?
 intro j
 rw [List.getElem?_take]
 by_cases hj:j<c.length
 ·rw [if_pos hj,List.getElem?_drop,List.getElem?_eq_getElem hj]
  have:=h j c[j] (List.getElem?_eq_getElem hj)
  rw [lS] at this
  simpa using this
 ·rw [if_neg hj,List.getElem?_eq_none be5]
theorem rP {l:List Value} {o:Nat} {c a b:List Value} (h:∀ j u,c[j]?=some u→nth l (o + j)=some u) (hc:c=a++b):List.take a.length (List.drop o l)=a:=
 W9 fun j u hj=>h j u (by subst hc;rw [List.getElem?_append_left (by have:=(List.getElem?_eq_some_iff.1 hj).1;exact this)];exact hj)
set_option maxHeartbeats 400000 in
theorem am4 (L:HL) (H:HyD) (h:yw L H) (cpu:Nat) (yz:cpu<H.cs.length) (hrl:H.rs.length=H.cs.length) (aI5:H.cs.length<100000) (c:wQ) (hvm:1≤c.vm∧c.vm≤(H.vs.length:Int)) (aI6:H.vs.length<100000) (nP:0≤c.iy∧c.iy<((H.vu (c.vm - 1).toNat).vs.length:Int)) {X:Nat} {pv gv ov:Value} {w:World} (hN:dD (L.hp X [pv,gv,ov] 119) w):
  Fn Tryz.prog 131 [.pointer (some ⟨X,0,none⟩),.int .i64 (cpu:Int),pY c].toArray w ((L.hp X [pv,gv,ov] 119).map (·.b)) (HR X [pv,gv,ov] 119 (H.Kz cpu c.vm c.iy)):=by
 obtain ⟨K_,n_,wR,o9,KG,cc_⟩:=c
 dsimp only at hvm nP ⊢
 obtain ⟨k,rfl⟩:∃ k:Nat,KG=(k:Int):=⟨KG.toNat,by omega⟩
 obtain ⟨wv,cv,vv,rv,cs,vs,hw,hc,ht,hvv,hz,hr⟩:=L
 obtain ⟨PG,gw,IB,gt,Aj,gz,gr,ec,ev⟩:=h
 dsimp only at gw IB gt Aj gz gr ec ev
 have KX:cs.length=H.cs.length:=by rw [← ec,List.length_map]
 have evl:vs.length=H.vs.length:=by rw [← ev,List.length_map]
 obtain ⟨i,hi⟩:∃ i,i=(n_ - 1).toNat:=⟨_,rfl⟩
 have hi4:i<vs.length:=by omega
 have hu:=Dy ev i
 rw [show H.vs.getD i default=H.vu i from rfl] at hu
 have huc:=yj ec cpu
 rw [show H.cs.getD cpu default=H.cu cpu from rfl] at huc
 rw [← hi,← hu] at nP
 obtain ⟨gc,cc,iG,rfl,rfl,csz,pX,vI⟩:=IB.lY (k:=cpu) be5
 obtain ⟨Ak,PM,Am,rfl,rfl,vsz,Xa,am5⟩:=Aj.lY hi4
 obtain ⟨BC,PN,Ap,rfl,rfl,rsz,am6,ZH⟩:=gr.lY (k:=cpu) be5
 obtain ⟨za,zb,⟨z1,z2,z3,o1,o2,o3,zl,hza⟩,hzz,qH⟩:=gz.out hi4
 generalize SI:vs.getD i default=vm at nP hu Xa am5 o1 o2 o3 zl qH
 generalize Io:cs.getD cpu default=cp at huc pX vI
 have hkv:k<vm.vs.length:=by have:=nP.2;simp only [jH.u] at this;omega
 obtain ⟨gk,ck,D7,ek,rfl,ksz,az5,am7⟩:=o3.lY hkv
 simp only [HL.hp,HL.rest] at hN ⊢
 refine bU _ hN Tryz.func131 ?_
 refine run ?_
 intro Cb
 have nv5:=Xa 5 _ rfl
 rw [ek] at nv5
 have yC:cpu<cs.length:=by omega
 refine run ?_
 refine tJ (⟨X,#[wv,.slice (some ⟨gc,0,none⟩) cs.length cc,.slice (some ⟨Ak,0,none⟩) vs.length PM,.slice (some ⟨BC,0,none⟩) H.rs.length PN,pv,gv,ov],119⟩::⟨gc,iG,84⟩::⟨Ak,Am,111⟩::⟨BC,Ap,78⟩::⟨gk,D7,131⟩::⟨Cb,#[.int .i64 K_,.int .i64 n_,.int .i64 wR,.int .i64 o9,.int .i64 (k:Int),.int .i64 cc_],63⟩::(hw++(ht++(z1++(z2++zb))))) bf6 ?_
 refine kC ?_
 refine bZ ?_
 refine dM (fun wc hG=>KD (m:=vs.length) (uJ (tl:=[pv,gv,ov]) (hG.here ⟨X,#[wv,.slice (some ⟨gc,0,none⟩) cs.length cc,.slice (some ⟨Ak,0,none⟩) vs.length PM,.slice (some ⟨BC,0,none⟩) H.rs.length PN,pv,gv,ov],119⟩ be7)) n_ be5 be5) ?_
 rw [← hi]
 refine bZ ?_
 have tR:=rP (a:=nT cp.r) pX rfl
 have tV:=rP (a:=nT (vm.vs.getD k default).r) az5 rfl
 refine run ?_
 refine uo 32 22 [0,1,2,3,4,5,6,7,8,9,10,11,12,13,14,15,16,17,18,19,20,21,23,24,26,27,29,30] [22,25,28,31] [⟨Cb,#[.int .i64 K_,.int .i64 n_,.int .i64 wR,.int .i64 o9,.int .i64 (k:Int),.int .i64 cc_],63⟩] ?_
 refine jT ?_
 refine rq (v:=.agg (nT cp.r).toArray) ay (b:=BC) (cs:=Ap) (cs':=putAt Ap (cpu * 15) (nT cp.r)) (tb:=78) (off:=cpu * 15) (vs:=nT cp.r) (hp':=⟨X,#[wv,.slice (some ⟨gc,0,none⟩) cs.length cc,.slice (some ⟨Ak,0,none⟩) vs.length PM,.slice (some ⟨BC,0,none⟩) H.rs.length PN,pv,gv,ov],119⟩::⟨gc,iG,84⟩::⟨Ak,Am,111⟩::⟨gk,D7,131⟩::⟨Cb,#[.int .i64 K_,.int .i64 n_,.int .i64 wR,.int .i64 o9,.int .i64 (k:Int),.int .i64 cc_],63⟩::(hw++(ht++(z1++(z2++zb))))) rfl rfl rfl rfl rfl rfl aJ rfl (by show cpu * 15 + 15≤_;omega) rfl aj ?_
 refine rq (v:=.agg (nT (vm.vs.getD k default).r).toArray) ay (b:=gc) (cs:=iG) (cs':=putAt iG (cpu * 19) (nT (vm.vs.getD k default).r)) (tb:=84) (off:=cpu * 19) (vs:=(nT (vm.vs.getD k default).r)) (hp':=⟨X,#[wv,.slice (some ⟨gc,0,none⟩) cs.length cc,.slice (some ⟨Ak,0,none⟩) vs.length PM,.slice (some ⟨BC,0,none⟩) H.rs.length PN,pv,gv,ov],119⟩::⟨BC,putAt Ap (cpu * 15) (nT cp.r),78⟩::⟨Ak,Am,111⟩::⟨gk,D7,131⟩::⟨Cb,#[.int .i64 K_,.int .i64 n_,.int .i64 wR,.int .i64 o9,.int .i64 (k:Int),.int .i64 cc_],63⟩::(hw++(ht++(z1++(z2++zb))))) rfl rfl rfl rfl rfl rfl aJ rfl (by show cpu * 19 + 15≤_;omega) rfl aj ?_
 refine rq (v:=.int .i64 n_) ay (b:=gc) (cs:=putAt iG (cpu * 19) (nT (vm.vs.getD k default).r)) (cs':=putAt (putAt iG (cpu * 19) (nT (vm.vs.getD k default).r)) (cpu * 19 + 15) [.int .i64 n_]) (tb:=84) (off:=cpu * 19 + 15) (vs:=[.int .i64 n_]) (hp':=⟨X,#[wv,.slice (some ⟨gc,0,none⟩) cs.length cc,.slice (some ⟨Ak,0,none⟩) vs.length PM,.slice (some ⟨BC,0,none⟩) H.rs.length PN,pv,gv,ov],119⟩::⟨BC,putAt Ap (cpu * 15) (nT cp.r),78⟩::⟨Ak,Am,111⟩::⟨gk,D7,131⟩::⟨Cb,#[.int .i64 K_,.int .i64 n_,.int .i64 wR,.int .i64 o9,.int .i64 (k:Int),.int .i64 cc_],63⟩::(hw++(ht++(z1++(z2++zb))))) rfl rfl rfl rfl rfl rfl aJ rfl bg3 rfl aj ?_
 refine rq (v:=.int .i64 (k:Int)) ay (b:=gc) (cs:=putAt (putAt iG (cpu * 19) (nT (vm.vs.getD k default).r)) (cpu * 19 + 15) [.int .i64 n_]) (cs':=putAt (putAt (putAt iG (cpu * 19) (nT (vm.vs.getD k default).r)) (cpu * 19 + 15) [.int .i64 n_]) (cpu * 19 + 16) [.int .i64 (k:Int)]) (tb:=84) (off:=cpu * 19 + 16) (vs:=[.int .i64 (k:Int)]) (hp':=⟨X,#[wv,.slice (some ⟨gc,0,none⟩) cs.length cc,.slice (some ⟨Ak,0,none⟩) vs.length PM,.slice (some ⟨BC,0,none⟩) H.rs.length PN,pv,gv,ov],119⟩::⟨BC,putAt Ap (cpu * 15) (nT cp.r),78⟩::⟨Ak,Am,111⟩::⟨gk,D7,131⟩::⟨Cb,#[.int .i64 K_,.int .i64 n_,.int .i64 wR,.int .i64 o9,.int .i64 (k:Int),.int .i64 cc_],63⟩::(hw++(ht++(z1++(z2++zb))))) rfl rfl rfl rfl rfl rfl aJ rfl bg3 rfl aj ?_
 refine dw ?_
 refine lg ?_
 refine run ?_
 have hrun:H.Kz cpu n_ (k:Int)=⟨H.ws,H.cs.set cpu ⟨(vm.vs.getD k default).r,n_,(k:Int),cp.t.es,cp.t.ds⟩,H.vs.set i ⟨vm.live,vm.dying,vm.aO,vm.fs,vm.fr,vm.vs.set k ⟨dK,(cpu:Int)⟩⟩,H.rs.set cpu cp.r⟩:=by
  unfold HyD.Kz
  rw [← hi]
  dsimp only
  rw [← hu,← huc,Int.toNat_natCast]
  rfl
 have hcn:=vI 0 ((nT (vm.vs.getD k default).r)++[.int .i64 n_,.int .i64 (k:Int)]) ⟨(vm.vs.getD k default).r,n_,(k:Int),cp.t⟩ be7 rfl ⟨rfl,rfl⟩
 have hrn:=ZH 0 (nT cp.r) cp.r be7 rfl ⟨rfl,rfl⟩
 have hkn:=am7 0 (Fg ⟨dK,(cpu:Int)⟩) ⟨dK,(cpu:Int)⟩ be7 rfl ⟨rfl,rfl⟩
 have hc3:putAt iG (cpu * 19 + 0) ((nT (vm.vs.getD k default).r)++[.int .i64 n_,.int .i64 (k:Int)])=putAt (putAt (putAt iG (cpu * 19) (nT (vm.vs.getD k default).r)) (cpu * 19 + 15) [.int .i64 n_]) (cpu * 19 + 16) [.int .i64 (k:Int)]:=by
  rw [qx]
  exact qx [Value.int .i64 n_] _ _ _
 rw [hc3] at hcn
 rw [Nat.add_zero] at hrn hkn
 rw [show Fg ⟨dK,(cpu:Int)⟩=[.int .u64 0,.int .u64 0,.int .u64 0,.int .u64 0,.int .u64 0,.int .u64 0,.int .u64 0,.int .u64 0,.int .u64 0,.int .u64 0,.int .u64 0,.int .u64 0,.int .u64 0,.int .u64 0,.int .u64 0,.int .i64 (cpu:Int)] from rfl] at hkn
 clear hc3
 rw [hrun]
 generalize putAt (putAt (putAt iG (cpu * 19) (nT (vm.vs.getD k default).r)) (cpu * 19 + 15) [.int .i64 n_]) (cpu * 19 + 16) [.int .i64 (k:Int)]=c3 at hcn ⊢
 generalize putAt Ap (cpu * 15) (nT cp.r)=r3 at hrn ⊢
 simp only [putAt] at hkn
 generalize ((((((((((((((((D7.setIfInBounds (k * 16) (.int .u64 0)).setIfInBounds (k * 16 + 1) (.int .u64 0)).setIfInBounds (k * 16 + 1 + 1) (.int .u64 0)).setIfInBounds (k * 16 + 1 + 1 + 1) (.int .u64 0)).setIfInBounds (k * 16 + 1 + 1 + 1 + 1) (.int .u64 0)).setIfInBounds (k * 16 + 1 + 1 + 1 + 1 + 1) (.int .u64 0)).setIfInBounds (k * 16 + 1 + 1 + 1 + 1 + 1 + 1) (.int .u64 0)).setIfInBounds (k * 16 + 1 + 1 + 1 + 1 + 1 + 1 + 1) (.int .u64 0)).setIfInBounds (k * 16 + 1 + 1 + 1 + 1 + 1 + 1 + 1 + 1) (.int .u64 0)).setIfInBounds (k * 16 + 1 + 1 + 1 + 1 + 1 + 1 + 1 + 1 + 1) (.int .u64 0)).setIfInBounds (k * 16 + 1 + 1 + 1 + 1 + 1 + 1 + 1 + 1 + 1 + 1) (.int .u64 0)).setIfInBounds (k * 16 + 1 + 1 + 1 + 1 + 1 + 1 + 1 + 1 + 1 + 1 + 1) (.int .u64 0)).setIfInBounds (k * 16 + 1 + 1 + 1 + 1 + 1 + 1 + 1 + 1 + 1 + 1 + 1 + 1) (.int .u64 0)).setIfInBounds (k * 16 + 1 + 1 + 1 + 1 + 1 + 1 + 1 + 1 + 1 + 1 + 1 + 1 + 1) (.int .u64 0)).setIfInBounds (k * 16 + 1 + 1 + 1 + 1 + 1 + 1 + 1 + 1 + 1 + 1 + 1 + 1 + 1 + 1) (.int .u64 0)).setIfInBounds (k * 16 + 1 + 1 + 1 + 1 + 1 + 1 + 1 + 1 + 1 + 1 + 1 + 1 + 1 + 1 + 1) (.int .i64 (cpu:Int)))=k3 at hkn ⊢
 refine fin0 ⟨rfl,⟨wv,.slice (some ⟨gc,0,none⟩) cs.length cc,.slice (some ⟨Ak,0,none⟩) vs.length PM,.slice (some ⟨BC,0,none⟩) H.rs.length PN,cs.set cpu ⟨(vm.vs.getD k default).r,n_,(k:Int),cp.t⟩,vs.set i { vm with vs:=vm.vs.set k ⟨dK,(cpu:Int)⟩ },hw,[⟨gc,c3,84⟩],ht,[⟨Ak,Am,111⟩],(z1++(z2++[⟨gk,k3,131⟩]))++zb,[⟨BC,r3,78⟩]⟩,⟨PG,gw,hcn,?_,?_,qH _ _ ⟨z1,z2,[⟨gk,k3,131⟩],o1,o2,?_,⟨zl.1,zl.2.1,by rw [List.length_set];exact zl.2.2⟩,aC.refl _⟩,hrn,?_,?_⟩,?_⟩
 ·dsimp only
  rw [List.map_set,jY]
  ·exact gt
  ·rw [List.getElem?_map,List.getElem?_eq_getElem yC]
   rw [List.getD_eq_getElem?_getD,List.getElem?_eq_getElem yC] at Io
   rw [show cs[cpu]=cp from Io];rfl
 ·dsimp only
  rw [List.map_set,jY]
  ·exact Aj
  ·rw [List.getElem?_map,List.getElem?_eq_getElem hi4]
   rw [List.getD_eq_getElem?_getD,List.getElem?_eq_getElem hi4] at SI
   rw [show vs[i]=vm from SI]
   simp only [Option.map_some,zO,jH.vv,jH.fv,jH.rv,List.length_set]
 ·rw [show (jH.vv { vm with vs:=vm.vs.set k ⟨dK,(cpu:Int)⟩ })=vm.vv by simp only [jH.vv,List.length_set],ek]
  exact hkn
 ·dsimp only
  rw [List.map_set,ec];rfl
 ·dsimp only
  rw [List.map_set,ev];rfl
 ·simp only [HL.hp,HL.rest]
  (exact aj)
end
section
attribute [local irreducible] Hy St Ops DH dG je iI gJ DS gY mP
attribute [local irreducible] putAt
set_option maxHeartbeats 400000 in
theorem ZI (L:HL) (H:HyD) (h:yw L H) (cpu:Nat) (yz:cpu<H.cs.length) (hrl:H.rs.length=H.cs.length) (aI5:H.cs.length<100000) (hvm:1≤(H.cu cpu).vm∧(H.cu cpu).vm≤(H.vs.length:Int)) (aI6:H.vs.length<100000) (nP:0≤(H.cu cpu).vc∧(H.cu cpu).vc<((H.vu ((H.cu cpu).vm - 1).toNat).vs.length:Int)) {X:Nat} {pv gv ov:Value} {w:World} (hN:dD (L.hp X [pv,gv,ov] 119) w):
  Fn Tryz.prog 63 [.pointer (some ⟨X,0,none⟩),.int .i64 (cpu:Int)].toArray w ((L.hp X [pv,gv,ov] 119).map (·.b)) (HR X [pv,gv,ov] 119 (H.yG cpu)):=by
 obtain ⟨wv,cv,vv,rv,cs,vs,hw,hc,ht,hvv,hz,hr⟩:=L
 obtain ⟨PG,gw,IB,gt,Aj,gz,gr,ec,ev⟩:=h
 dsimp only at gw IB gt Aj gz gr ec ev
 have KX:cs.length=H.cs.length:=by rw [← ec,List.length_map]
 have evl:vs.length=H.vs.length:=by rw [← ev,List.length_map]
 have huc:=yj ec cpu
 rw [show H.cs.getD cpu default=H.cu cpu from rfl] at huc
 rw [← huc] at hvm nP
 obtain ⟨gc,cc,iG,rfl,rfl,csz,pX,vI⟩:=IB.lY (k:=cpu) be5
 generalize Io:cs.getD cpu default=cp at huc pX vI hvm nP
 obtain ⟨Aq,n_,cvc,ct⟩:=cp
 simp only [qB.u] at hvm nP
 obtain ⟨k,rfl⟩:∃ k:Nat,cvc=(k:Int):=⟨cvc.toNat,by omega⟩
 obtain ⟨i,hi⟩:∃ i,i=(n_ - 1).toNat:=⟨_,rfl⟩
 have hi4:i<vs.length:=by omega
 have hu:=Dy ev i
 rw [show H.vs.getD i default=H.vu i from rfl] at hu
 rw [← hi,← hu] at nP
 obtain ⟨Ak,PM,Am,rfl,rfl,vsz,Xa,am5⟩:=Aj.lY hi4
 obtain ⟨BC,PN,Ap,rfl,rfl,rsz,am6,ZH⟩:=gr.lY (k:=cpu) be5
 obtain ⟨za,zb,⟨z1,z2,z3,o1,o2,o3,zl,hza⟩,hzz,qH⟩:=gz.out hi4
 generalize SI:vs.getD i default=vm at nP hu Xa am5 o1 o2 o3 zl qH
 have hkv:k<vm.vs.length:=by have:=nP.2;simp only [jH.u] at this;omega
 obtain ⟨gk,ck,D7,ek,rfl,ksz,az5,am7⟩:=o3.lY hkv
 have nv5:=Xa 5 _ rfl
 rw [ek] at nv5
 have Xc:=pX 15 _ rfl
 have aI7:=pX 16 _ rfl
 have tR:=rP (a:=nT Aq) pX rfl
 dsimp only at Xc aI7
 generalize hrg:H.rs.getD cpu default=rg at am6 ZH
 have tH:=rP (a:=nT rg) am6 (List.append_nil _).symm
 have yC:cpu<cs.length:=by omega
 simp only [HL.hp,HL.rest] at hN ⊢
 refine bU _ hN Tryz.func63 ?_
 refine run ?_
 refine tJ (⟨X,#[wv,.slice (some ⟨gc,0,none⟩) cs.length cc,.slice (some ⟨Ak,0,none⟩) vs.length PM,.slice (some ⟨BC,0,none⟩) H.rs.length PN,pv,gv,ov],119⟩::⟨gc,iG,84⟩::⟨Ak,Am,111⟩::⟨BC,Ap,78⟩::⟨gk,D7,131⟩::(hw++(ht++(z1++(z2++zb))))) bf6 ?_
 refine uo 20 17 [0,1,2,3,4,5,6,7,8,9,10,11,12,13,14,15,16,18] [17,19] [⟨X,#[wv,.slice (some ⟨gc,0,none⟩) cs.length cc,.slice (some ⟨Ak,0,none⟩) vs.length PM,.slice (some ⟨BC,0,none⟩) H.rs.length PN,pv,gv,ov],119⟩,⟨gc,iG,84⟩,⟨Ak,Am,111⟩] ?_
 refine jT ?_
 refine UT (fun wc hx9 hG=>KD (m:=vs.length) (uJ (tl:=[pv,gv,ov]) (hG.here ⟨X,#[wv,.slice (some ⟨gc,0,none⟩) cs.length cc,.slice (some ⟨Ak,0,none⟩) vs.length PM,.slice (some ⟨BC,0,none⟩) H.rs.length PN,pv,gv,ov],119⟩ be7)) n_ be5 be5) ?_
 rw [← hi]
 refine jT ?_
 refine GK (out:=(Fg ⟨Aq,-1⟩).toArray) (out':=(Fg ⟨Aq,-1⟩).toArray) ?_ (hf:=by kernel_rfl) (hn:=rfl)
 refine rq (v:=.agg (Fg ⟨Aq,-1⟩).toArray) ay (b:=gk) (cs:=D7) (cs':=putAt D7 (k * 16) (Fg ⟨Aq,-1⟩)) (tb:=131) (off:=k * 16) (vs:=(Fg ⟨Aq,-1⟩)) (hp':=⟨X,#[wv,.slice (some ⟨gc,0,none⟩) cs.length cc,.slice (some ⟨Ak,0,none⟩) vs.length PM,.slice (some ⟨BC,0,none⟩) H.rs.length PN,pv,gv,ov],119⟩::⟨gc,iG,84⟩::⟨Ak,Am,111⟩::⟨BC,Ap,78⟩::(hw++(ht++(z1++(z2++zb))))) rfl rfl rfl rfl rfl rfl aJ rfl (by show k * 16 + 16≤_;omega) rfl aj ?_
 refine dw ?_
 refine lg ?_
 generalize hk3:putAt D7 (k * 16) (Fg ⟨Aq,-1⟩)=k3
 refine aP (⟨gc,iG,84⟩::⟨BC,Ap,78⟩::⟨X,#[wv,.slice (some ⟨gc,0,none⟩) cs.length cc,.slice (some ⟨Ak,0,none⟩) vs.length PM,.slice (some ⟨BC,0,none⟩) H.rs.length PN,pv,gv,ov],119⟩::⟨Ak,Am,111⟩::⟨gk,k3,131⟩::(hw++(ht++(z1++(z2++zb))))) aj ?_
 refine run ?_
 have hstop:H.yG cpu=⟨H.ws,H.cs.set cpu ⟨rg,0,0,ct.es,ct.ds⟩,H.vs.set i ⟨vm.live,vm.dying,vm.aO,vm.fs,vm.fr,vm.vs.set k ⟨Aq,-1⟩⟩,H.rs.set cpu dK⟩:=by
  unfold HyD.yG
  rw [← huc]
  simp only [qB.u]
  rw [← hi,← hu,Int.toNat_natCast,hrg]
  rfl
 have hcn:=vI 0 (nT rg++[.int .i64 0,.int .i64 0]) ⟨rg,0,0,ct⟩ be7 rfl ⟨rfl,rfl⟩
 have hrn:=ZH 0 (nT dK) dK be7 rfl ⟨rfl,rfl⟩
 have hkn:=am7 0 (Fg ⟨Aq,-1⟩) ⟨Aq,-1⟩ be7 rfl ⟨rfl,rfl⟩
 have hc3:putAt iG (cpu * 19 + 0) (nT rg++[.int .i64 0,.int .i64 0])=putAt (putAt (putAt iG (cpu * 19) (nT rg)) (cpu * 19 + 15) [.int .i64 0]) (cpu * 19 + 16) [.int .i64 0]:=by
  rw [qx]
  exact qx [Value.int .i64 0] _ _ _
 rw [hc3] at hcn
 rw [Nat.add_zero] at hrn hkn
 rw [hk3] at hkn
 rw [show nT dK=[.int .u64 0,.int .u64 0,.int .u64 0,.int .u64 0,.int .u64 0,.int .u64 0,.int .u64 0,.int .u64 0,.int .u64 0,.int .u64 0,.int .u64 0,.int .u64 0,.int .u64 0,.int .u64 0,.int .u64 0] from rfl] at hrn
 clear hc3
 rw [hstop]
 simp only [putAt] at hcn hrn
 generalize (((((((((((((((((iG.setIfInBounds (cpu * 19) (.int .u64 (rg.x0:Int))).setIfInBounds (cpu * 19 + 1) (.int .u64 (rg.x1:Int))).setIfInBounds (cpu * 19 + 1 + 1) (.int .u64 (rg.x2:Int))).setIfInBounds (cpu * 19 + 1 + 1 + 1) (.int .u64 (rg.x3:Int))).setIfInBounds (cpu * 19 + 1 + 1 + 1 + 1) (.int .u64 (rg.x4:Int))).setIfInBounds (cpu * 19 + 1 + 1 + 1 + 1 + 1) (.int .u64 (rg.x5:Int))).setIfInBounds (cpu * 19 + 1 + 1 + 1 + 1 + 1 + 1) (.int .u64 (rg.x6:Int))).setIfInBounds (cpu * 19 + 1 + 1 + 1 + 1 + 1 + 1 + 1) (.int .u64 (rg.x7:Int))).setIfInBounds (cpu * 19 + 1 + 1 + 1 + 1 + 1 + 1 + 1 + 1) (.int .u64 (rg.pc:Int))).setIfInBounds (cpu * 19 + 1 + 1 + 1 + 1 + 1 + 1 + 1 + 1 + 1) (.int .u64 (rg.oD:Int))).setIfInBounds (cpu * 19 + 1 + 1 + 1 + 1 + 1 + 1 + 1 + 1 + 1 + 1) (.int .u64 (rg.jq:Int))).setIfInBounds (cpu * 19 + 1 + 1 + 1 + 1 + 1 + 1 + 1 + 1 + 1 + 1 + 1) (.int .u64 (rg.oG:Int))).setIfInBounds (cpu * 19 + 1 + 1 + 1 + 1 + 1 + 1 + 1 + 1 + 1 + 1 + 1 + 1) (.int .u64 (rg.Be:Int))).setIfInBounds (cpu * 19 + 1 + 1 + 1 + 1 + 1 + 1 + 1 + 1 + 1 + 1 + 1 + 1 + 1) (.int .u64 (rg.Bf:Int))).setIfInBounds (cpu * 19 + 1 + 1 + 1 + 1 + 1 + 1 + 1 + 1 + 1 + 1 + 1 + 1 + 1 + 1) (.int .u64 (rg.far:Int))).setIfInBounds (cpu * 19 + 15) (.int .i64 0)).setIfInBounds (cpu * 19 + 16) (.int .i64 0))=c3 at hcn ⊢
 generalize (((((((((((((((Ap.setIfInBounds (cpu * 15) (.int .u64 0)).setIfInBounds (cpu * 15 + 1) (.int .u64 0)).setIfInBounds (cpu * 15 + 1 + 1) (.int .u64 0)).setIfInBounds (cpu * 15 + 1 + 1 + 1) (.int .u64 0)).setIfInBounds (cpu * 15 + 1 + 1 + 1 + 1) (.int .u64 0)).setIfInBounds (cpu * 15 + 1 + 1 + 1 + 1 + 1) (.int .u64 0)).setIfInBounds (cpu * 15 + 1 + 1 + 1 + 1 + 1 + 1) (.int .u64 0)).setIfInBounds (cpu * 15 + 1 + 1 + 1 + 1 + 1 + 1 + 1) (.int .u64 0)).setIfInBounds (cpu * 15 + 1 + 1 + 1 + 1 + 1 + 1 + 1 + 1) (.int .u64 0)).setIfInBounds (cpu * 15 + 1 + 1 + 1 + 1 + 1 + 1 + 1 + 1 + 1) (.int .u64 0)).setIfInBounds (cpu * 15 + 1 + 1 + 1 + 1 + 1 + 1 + 1 + 1 + 1 + 1) (.int .u64 0)).setIfInBounds (cpu * 15 + 1 + 1 + 1 + 1 + 1 + 1 + 1 + 1 + 1 + 1 + 1) (.int .u64 0)).setIfInBounds (cpu * 15 + 1 + 1 + 1 + 1 + 1 + 1 + 1 + 1 + 1 + 1 + 1 + 1) (.int .u64 0)).setIfInBounds (cpu * 15 + 1 + 1 + 1 + 1 + 1 + 1 + 1 + 1 + 1 + 1 + 1 + 1 + 1) (.int .u64 0)).setIfInBounds (cpu * 15 + 1 + 1 + 1 + 1 + 1 + 1 + 1 + 1 + 1 + 1 + 1 + 1 + 1 + 1) (.int .u64 0))=r3 at hrn ⊢
 refine fin0 ⟨rfl,⟨wv,.slice (some ⟨gc,0,none⟩) cs.length cc,.slice (some ⟨Ak,0,none⟩) vs.length PM,.slice (some ⟨BC,0,none⟩) H.rs.length PN,cs.set cpu ⟨rg,0,0,ct⟩,vs.set i { vm with vs:=vm.vs.set k ⟨Aq,-1⟩ },hw,[⟨gc,c3,84⟩],ht,[⟨Ak,Am,111⟩],(z1++(z2++[⟨gk,k3,131⟩]))++zb,[⟨BC,r3,78⟩]⟩,⟨PG,gw,hcn,?_,?_,qH _ _ ⟨z1,z2,[⟨gk,k3,131⟩],o1,o2,?_,⟨zl.1,zl.2.1,by rw [List.length_set];exact zl.2.2⟩,aC.refl _⟩,hrn,?_,?_⟩,?_⟩
 ·dsimp only
  rw [List.map_set,jY]
  ·exact gt
  ·rw [List.getElem?_map,List.getElem?_eq_getElem yC]
   rw [List.getD_eq_getElem?_getD,List.getElem?_eq_getElem yC] at Io
   rw [show cs[cpu]=_ from Io];rfl
 ·dsimp only
  rw [List.map_set,jY]
  ·exact Aj
  ·rw [List.getElem?_map,List.getElem?_eq_getElem hi4]
   rw [List.getD_eq_getElem?_getD,List.getElem?_eq_getElem hi4] at SI
   rw [show vs[i]=vm from SI]
   simp only [Option.map_some,zO,jH.vv,jH.fv,jH.rv,List.length_set]
 ·rw [show (jH.vv { vm with vs:=vm.vs.set k ⟨Aq,-1⟩ })=vm.vv by simp only [jH.vv,List.length_set],ek]
  exact hkn
 ·dsimp only
  rw [List.map_set,ec];rfl
 ·dsimp only
  rw [List.map_set,ev];rfl
 ·simp only [HL.hp,HL.rest]
  (exact aj)
end
end Go.Proofs.YtiaelhhmlbfkmaaGreat
