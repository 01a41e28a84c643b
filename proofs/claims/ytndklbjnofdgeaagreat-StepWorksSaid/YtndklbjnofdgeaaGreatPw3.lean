/- Texts of one's own, merged: the engine, what the functions do, plain laws. -/
import Derived.Test.YtndklbjnofdgeaaGreatPw2
namespace Go.Proofs.YtndklbjnofdgeaaGreat
open Go.RowKit
set_option linter.unusedVariables false
set_option linter.unusedSimpArgs false
set_option maxRecDepth 20000
def lowN (n:Nat):Nat:=18446744073709551615 >>> (64 - n)
theorem lowN_eq {n:Nat} (h:n≤64):lowN n=2 ^ n - 1:=by
 have:∀ n,n≤64→lowN n=2 ^ n - 1:=by decide
 exact this n h
theorem lowN_lt (n:Nat):lowN n<18446744073709551616:=by
 unfold lowN
 rw [Nat.shiftRight_eq_div_pow]
 exact Nat.lt_of_le_of_lt (Nat.div_le_self _ _) (by decide)
theorem andNot_low {v n:Nat} (hn:n≤64) (hv:v<2 ^ n):v &&& (18446744073709551615 - lowN n)=0:=by
 have e:18446744073709551615 - lowN n=(2 ^ (64 - n) - 1) * 2 ^ n:=by
  have:∀ n,n≤64→18446744073709551615 - lowN n=(2 ^ (64 - n) - 1) * 2 ^ n:=by decide
  exact this n hn
 rw [e]
 apply Nat.eq_of_testBit_eq
 intro i
 rw [Nat.testBit_and,Nat.zero_testBit,Nat.testBit_mul_two_pow]
 by_cases hi:n≤i
 ·rw [Nat.testBit_lt_two_pow (Nat.lt_of_lt_of_le hv (Nat.pow_le_pow_right (by decide) hi))];rfl
 ·simp [hi]
def getN (w a n:Nat):Nat:=(w >>> a) &&& lowN n
structure FdD where
 a:Nat
 n:Nat
 v:Nat
deriving Inhabited
abbrev fdV (f:FdD):List Value:=[.int .i64 (f.a:Int),.int .i64 (f.n:Int),.int .u64 (f.v:Int)]
structure FdD.Ok (f:FdD):Prop where
 n1:1≤f.n
 an:f.a + f.n≤64
 v:f.v<2 ^ f.n
theorem FdD.Ok.v64 {f:FdD} (h:f.Ok):f.v<18446744073709551616:=
 Nat.lt_of_lt_of_le h.v (Nat.le_trans (Nat.pow_le_pow_right (by decide) (show f.n≤64 by have:=h.an;omega)) (by decide))
def FdD.mask (f:FdD):Nat:=(lowN f.n <<< f.a) % 18446744073709551616
def FdD.bits (f:FdD):Nat:=(f.v <<< f.a) % 18446744073709551616
theorem FdD.mask_lt (f:FdD):f.mask<18446744073709551616:=Nat.mod_lt _ (by decide)
theorem FdD.bits_lt (f:FdD):f.bits<18446744073709551616:=Nat.mod_lt _ (by decide)
def joinL:List FdD→Nat→Nat→Option (Nat × Nat)
 | [],w,t=>some (w,t)
 | f::r,w,t=>bif decide (t &&& f.mask=0) then joinL r (w ||| f.bits) (t ||| f.mask) else none
def joinV (r:Option (Nat × Nat)):Nat:=match r with | some x=>x.1 | none=>0
def joinE (r:Option (Nat × Nat)):Int:=match r with | some _=>0 | none=>4
def joinT (r:Option (Nat × Nat)):Nat:=match r with | some x=>x.2 | none=>0
attribute [local irreducible] Hy St Ops DH DHF
theorem wLow_e (f:FdD) (h:f.Ok) (w:World):Fn Tryz.prog 141 [.agg #[.int .i64 (f.a:Int),.int .i64 (f.n:Int),.int .u64 (f.v:Int)]].toArray w [] (fun u _=>u=.int .u64 (lowN f.n:Int)):=by
 have h1:=h.n1
 have h2:=h.an
 refine enter Tryz.func141 ?_
 refine run ?_
 intro B
 refine run ?_
 refine op1 (by rfl) (x_shrN rfl rfl 18446744073709551615 (64 - f.n) (by rfl) (by omega) (by omega)) ?_
 refine run ?_
 exact fin1 rfl
theorem wMask_e (f:FdD) (h:f.Ok) (w:World):Fn Tryz.prog 202 [.agg #[.int .i64 (f.a:Int),.int .i64 (f.n:Int),.int .u64 (f.v:Int)]].toArray w [] (fun u _=>u=.int .u64 (f.mask:Int)):=by
 have h1:=h.n1
 have h2:=h.an
 refine enter Tryz.func202 ?_
 refine run ?_
 intro B
 refine run ?_
 refine drawN 6 ?_
 refine runD ?_
 refine callD (fun wc hG=>wLow_e f h wc) ?_
 refine runD ?_
 refine opD (x_shlN rfl rfl (lowN f.n) f.a (by rfl) (by rfl) (by omega)) ?_
 refine runD ?_
 refine run ?_
 refine run ?_
 exact fin1 rfl
theorem wMay_e (f:FdD) (h:f.Ok) (w:World):Fn Tryz.prog 140 [.agg #[.int .i64 (f.a:Int),.int .i64 (f.n:Int),.int .u64 (f.v:Int)]].toArray w [] (fun u _=>u=.bool true):=by
 have h1:=h.n1
 have h2:=h.an
 have h3:=h.v64
 have h4:=andNot_low (show f.n≤64 by omega) h.v
 have c1:decide ((1:Int)≤(f.n:Int))=true:=decide_eq_true (by omega)
 have c2:decide ((f.n:Int)≤64)=true:=decide_eq_true (by omega)
 have c3:decide ((0:Int)≤(f.a:Int))=true:=decide_eq_true (by omega)
 have c4:decide ((f.a:Int)≤64 - (f.n:Int))=true:=decide_eq_true (by omega)
 refine enter Tryz.func140 ?_
 refine run ?_
 intro B
 refine runG ?_
 refine drawN 35 ?_
 refine runDG ?_
 refine callDG (fun hg wc hG=>wLow_e f h wc) ?_
 refine opDG (hy:=fun hg=>x_andNotN (by (simp only [hg,gv_true];rfl)) (by (simp only [hg,gv_true];rfl)) f.v (lowN f.n) (by rfl) (by rfl) h3 (lowN_lt _)) (h:=?_)
 rw [h4]
 refine runDG ?_
 refine run ?_
 refine fin1 ?_
 simp [c1,c2,c3,c4]
theorem wGet_e (v a n:Nat) (hn:1≤n) (han:a + n≤64) (hv:v<18446744073709551616) (w:World):Fn Tryz.prog 111 [.int .u64 (v:Int),.int .i64 (a:Int),.int .i64 (n:Int)].toArray w [] (fun u _=>u=.tuple #[.int .u64 (getN v a n:Int),.int .i64 0]):=by
 have hok:FdD.Ok ⟨a,n,0⟩:=⟨hn,han,Nat.pos_of_ne_zero (by simp)⟩
 refine enter Tryz.func111 ?_
 refine run ?_
 intro B
 refine run ?_
 refine callE (fun wc hG=>wMay_e ⟨a,n,0⟩ hok wc) ?_
 refine runC ?_
 refine drawN 8 ?_
 refine runD ?_
 refine opD (x_shrN rfl rfl v a (by rfl) (by rfl) (by omega)) ?_
 refine runD ?_
 refine callD (fun wc hG=>wLow_e ⟨a,n,0⟩ hok wc) ?_
 refine opD (x_andN rfl rfl (v >>> a) (lowN n) (by rfl) (by rfl) (Nat.lt_of_le_of_lt (by rw [Nat.shiftRight_eq_div_pow];exact Nat.div_le_self _ _) hv) (lowN_lt _)) ?_
 refine runD ?_
 refine run ?_
 exact fin2 rfl
theorem joinL_next {xs:List FdD} {k:Nat} (hk:k<xs.length) (w t:Nat):joinL (xs.drop k) w t=bif decide (t &&& (xs.getD k default).mask=0) then joinL (xs.drop (k + 1)) (w ||| (xs.getD k default).bits) (t ||| (xs.getD k default).mask) else none:=by
 rw [List.drop_eq_getElem_cons hk,joinL,List.getD_eq_getElem?_getD,List.getElem?_eq_getElem hk];rfl
theorem or_lt64 {a b:Nat} (ha:a<18446744073709551616) (hb:b<18446744073709551616):a ||| b<18446744073709551616:=Nat.or_lt_two_pow (n:=64) ha hb
theorem wJoined_e (xs:List FdD) (hx:∀ f∈xs,f.Ok) {w:World} {v:Value} (h:SlAt w v 3 (xs.map fdV)):Fn Tryz.prog 170 [v].toArray w [] (fun u _=>u=.tuple #[.int .u64 (joinV (joinL xs 0 0):Int),.int .u64 (joinT (joinL xs 0 0):Int),.int .i64 (joinE (joinL xs 0 0))]):=by
 obtain ⟨a,ac,rfl,hane,hal⟩:=h.opened
 have hok:∀ k,k<xs.length→(xs.getD k default).Ok:=fun k hk=>hx _ (by rw [List.getD_eq_getElem?_getD,List.getElem?_eq_getElem hk];simp)
 refine enter Tryz.func170 ?_
 refine run ?_
 refine loopS (σ:=Nat) (fun k=>[(12,.int .i64 (k:Int))]) (fun _=>[]) (fun k=>k≤xs.length) (fun k=>xs.length - k) 0 (Nat.zero_le _) ?_
 rintro k m hm hk
 refine run ?_
 refine st_cond _ rfl (fun hc=>?_) (fun hc=>?_)
 ·have hlt:k<xs.length:=by simp at hc;omega
  obtain ⟨b,o,rfl⟩:=hane (by rintro rfl;simp at hlt)
  have hr:=h.row hlt
  have hf:=hok k hlt
  generalize xs.getD k default=x at hr hf
  refine run ?_
  intro F
  refine run ?_
  refine callE (fun wc hG=>wMay_e x hf wc) ?_
  refine runC ?_
  exact nextS (k + 1) hlt
 ·refine run ?_
  clear hc
  refine loopS (σ:=Nat × Nat × Nat) (fun s=>[(23,.int .i64 (s.1:Int)),(2,.int .u64 (s.2.1:Int)),(3,.int .u64 (s.2.2:Int))]) (fun _=>[]) (fun s=>s.1≤xs.length∧s.2.1<18446744073709551616∧s.2.2<18446744073709551616∧joinL (xs.drop s.1) s.2.1 s.2.2=joinL xs 0 0) (fun s=>xs.length - s.1) (0,0,0) ⟨Nat.zero_le _,by decide,by decide,rfl⟩ ?_
  rintro ⟨k2,wd,tk⟩ m2 hm2 ⟨hk2,hw,ht,hj⟩
  dsimp only at hm2 hk2 hw ht hj ⊢
  refine run ?_
  refine st_cond _ rfl (fun hc=>?_) (fun hc=>?_)
  ·have hlt:k2<xs.length:=by simp at hc;omega
   obtain ⟨b,o,rfl⟩:=hane (by rintro rfl;simp at hlt)
   have hr:=h.row hlt
   have hf:=hok k2 hlt
   rw [joinL_next hlt] at hj
   generalize xs.getD k2 default=x at hr hf hj
   refine run ?_
   intro F
   refine run ?_
   intro X
   refine callE (fun wc hG=>wMask_e x hf wc) ?_
   refine op1 (by rfl) (x_andN rfl rfl tk x.mask (by rfl) (by rfl) ht x.mask_lt) ?_
   refine run ?_
   refine st_cond _ rfl (fun hq=>?_) (fun hq=>?_)
   ·have hq':decide (tk &&& x.mask=0)=false:=by simpa using hq
    rw [hq'] at hj
    rw [← hj]
    refine run ?_
    exact fin3 rfl
   ·have hq':decide (tk &&& x.mask=0)=true:=by simpa using hq
    rw [hq'] at hj
    refine run ?_
    refine late 13 9 ?_
    refine lateA 13 12 ?_
    refine drawMA 13 [0,1,2,3,4,5,6,7,8,9,10,11,12] [] [] ?_
    refine runS ?_
    refine de1_s rfl (fun hx2=>x_shlN rfl rfl x.v x.a (by rfl) (by rfl) (by have:=hf.an;omega)) ?_
    refine de1_s rfl (fun hx2=>x_orN rfl rfl wd x.bits (by rfl) (by rfl) hw x.bits_lt) ?_
    refine runS ?_
    refine de1_s rfl (fun hx2=>x_call (calOk 202 rfl) rfl (fun wc hG=>wMask_e x hf wc)) ?_
    refine de1_s rfl (fun hx2=>x_orN rfl rfl tk x.mask (by rfl) (by rfl) ht x.mask_lt) ?_
    refine runS ?_
    refine eNil ?_
    simp only [DN]
    refine dNil ?_
    refine opsF ?_
    simp only [List.cons_append,List.nil_append,List.append_nil]
    refine run ?_
    exact nextS (k2 + 1,wd ||| x.bits,tk ||| x.mask) ⟨hlt,or_lt64 hw x.bits_lt,or_lt64 ht x.mask_lt,hj⟩
  ·have hk0:k2=xs.length:=by simp at hc;omega
   subst hk0
   rw [List.drop_length] at hj
   rw [← hj]
   refine run ?_
   exact fin3 rfl
theorem wJoin_e (xs:List FdD) (hx:∀ f∈xs,f.Ok) {w:World} {v:Value} (h:SlAt w v 3 (xs.map fdV)):Fn Tryz.prog 142 [v].toArray w [] (fun u _=>u=.tuple #[.int .u64 (joinV (joinL xs 0 0):Int),.int .i64 (joinE (joinL xs 0 0))]):=by
 obtain ⟨a,ac,rfl,hane,hal⟩:=h.opened
 refine enter Tryz.func142 ?_
 refine run ?_
 refine callE (fun wc hG=>wJoined_e xs hx (h.good hG)) ?_
 refine run ?_
 exact fin2 rfl
theorem rMask_e (n:Nat) (hn:n≤64) (w:World):Fn Tryz.prog 95 [.int .i64 (n:Int)].toArray w [] (fun u _=>u=.int .u64 (lowN n:Int)):=by
 refine enter Tryz.func95 ?_
 refine run ?_
 refine st_cond _ rfl (fun hc=>?_) (fun hc=>?_)
 ·have:n=64:=by simp at hc;omega
  subst this
  refine run ?_
  exact fin1 rfl
 ·have hlt:n<64:=by simp at hc;omega
  refine run ?_
  refine op1 (by rfl) (x_shlN rfl rfl 1 n (by rfl) (by rfl) (by omega)) ?_
  have e:∀ n,n<64→((1 <<< n) % 18446744073709551616:Nat)=2 ^ n∧1≤2 ^ n∧2 ^ n≤18446744073709551615:=by decide
  obtain ⟨e1,e2,e3⟩:=e n hlt
  rw [e1]
  refine run ?_
  refine fin1 ?_
  rw [lowN_eq hn,IntKind.wrap_u64]
  generalize 2 ^ n=z at e2 e3
  congr 1
  omega
theorem rGet_e (v a n:Nat) (hn:n≤64) (han:a≤64) (hv:v<18446744073709551616) (w:World):Fn Tryz.prog 56 [.int .u64 (v:Int),.int .i64 (a:Int),.int .i64 (n:Int)].toArray w [] (fun u _=>u=.int .u64 (getN v a n:Int)):=by
 refine enter Tryz.func56 ?_
 refine run ?_
 refine drawN 6 ?_
 refine runD ?_
 refine opD (x_shrN rfl rfl v a (by rfl) (by rfl) (by omega)) ?_
 refine runD ?_
 refine callD (fun wc hG=>rMask_e n hn wc) ?_
 refine opD (x_andN rfl rfl (v >>> a) (lowN n) (by rfl) (by rfl) (Nat.lt_of_le_of_lt (by rw [Nat.shiftRight_eq_div_pow];exact Nat.div_le_self _ _) hv) (lowN_lt _)) ?_
 refine runD ?_
 refine run ?_
 exact fin1 rfl
end Go.Proofs.YtndklbjnofdgeaaGreat
namespace Go.Proofs.YtndklbjnofdgeaaGreat
open Go.RowKit
set_option linter.unusedVariables false
set_option linter.unusedSimpArgs false
set_option maxRecDepth 20000
structure DsD where
 kind:Int
 frame:Int
 r:Bool
 w:Bool
 x:Bool
 af:Bool
 ng:Bool
 soft:Int
 note:Int
deriving Inhabited
abbrev dsC (d:DsD):Array Value:=#[.int .i64 d.kind,.int .i64 d.frame,.bool d.r,.bool d.w,.bool d.x,.bool d.af,.bool d.ng,.int .i64 d.soft,.int .i64 d.note]
abbrev dsV (d:DsD):Value:=.agg (dsC d)
def noDs:DsD:=⟨0,0,false,false,false,false,false,0,0⟩
def dbits (level:Nat):Nat:=3 * (3 - level)
def coversN (level:Nat):Nat:=1 <<< dbits level
def indexN (level page:Nat):Nat:=(page >>> dbits level) % 8
theorem coversN_eq {level:Nat} (h:level<4):coversN level=[512,64,8,1].getD level 0:=by
 have:∀ l,l<4→coversN l=[512,64,8,1].getD l 0:=by decide
 exact this level h
attribute [local irreducible] Hy St Ops DH DHF
theorem dThere_e (stage level:Int) (w:World):Fn Tryz.prog 225 [.agg #[.int .i64 stage,.int .i64 level]].toArray w [] (fun u _=>u=.bool ((decide (stage=1) || decide (stage=2)) && decide (0≤level) && decide (level<4))):=by
 refine enter Tryz.func225 ?_
 refine run ?_
 intro B
 refine runG ?_
 exact fin1 rfl
theorem dThereT_e (stage:Int) (hs:stage=1∨stage=2) (level:Nat) (h:level<4) (w:World):Fn Tryz.prog 225 [.agg #[.int .i64 stage,.int .i64 (level:Int)]].toArray w [] (fun u _=>u=.bool true):=by
 refine Fn.mono (dThere_e stage level w) fun v hp e=>?_
 rw [e]
 have c1:decide ((0:Int)≤(level:Int))=true:=decide_eq_true (by omega)
 have c2:decide ((level:Int)<4)=true:=decide_eq_true (by omega)
 rw [c1,c2]
 rcases hs with rfl | rfl<;>rfl
theorem dBits_e (stage:Int) (level:Nat) (h:level<4) (w:World):Fn Tryz.prog 226 [.agg #[.int .i64 stage,.int .i64 (level:Int)]].toArray w [] (fun u _=>u=.int .i64 (dbits level:Int)):=by
 refine enter Tryz.func226 ?_
 refine run ?_
 intro B
 refine run ?_
 refine fin1 ?_
 unfold dbits
 congr 1
 omega
theorem dbits_lt {level:Nat} (h:level<4):dbits level≤9∧coversN level≤512∧1≤coversN level:=by
 have:∀ l,l<4→dbits l≤9∧coversN l≤512∧1≤coversN l:=by decide
 exact this level h
theorem dCovers_e (level:Nat) (h:level<4) (w:World):Fn Tryz.prog 219 [.int .i64 (level:Int)].toArray w [] (fun u _=>u=.tuple #[.int .i64 (coversN level:Int),.int .i64 0]):=by
 have h9:=dbits_lt h
 refine enter Tryz.func219 ?_
 refine run ?_
 intro B
 refine run ?_
 refine callE (fun wc hG=>dThereT_e 1 (.inl rfl) level h wc) ?_
 refine runC ?_
 refine callE (fun wc hG=>dBits_e 1 level h wc) ?_
 refine op1 (by rfl) (x_shlI rfl rfl 1 (dbits level) (by rfl) (by rfl) (by omega) (Nat.lt_of_le_of_lt h9.2.1 (by decide))) ?_
 refine run ?_
 exact fin2 rfl
theorem dIndex_e (level:Nat) (h:level<4) (page:Nat) (hp:page≤4095) (w:World):Fn Tryz.prog 216 [.int .i64 (level:Int),.int .i64 (page:Int)].toArray w [] (fun u _=>u=.tuple #[.int .i64 (indexN level page:Int),.int .i64 0]):=by
 have h9:=dbits_lt h
 have c1:decide ((page:Int)<0)=false:=decide_eq_false (by omega)
 have c2:decide ((4095:Int)<(page:Int))=false:=decide_eq_false (by omega)
 refine enter Tryz.func216 ?_
 refine run ?_
 intro B
 refine run ?_
 refine callE (fun wc hG=>dThereT_e 1 (.inl rfl) level h wc) ?_
 refine runG ?_
 refine st_cond _ rfl (fun hq=>absurd hq (by simp [c1,c2])) (fun _=>?_)
 refine run ?_
 refine callE (fun wc hG=>dBits_e 1 level h wc) ?_
 refine op1 (by rfl) (x_shrI rfl rfl page (dbits level) (by rfl) (by rfl) (by omega)) ?_
 refine op1 (by rfl) (x_remN rfl rfl (page >>> dbits level) 8 (by rfl) (by rfl) (by decide)) ?_
 refine run ?_
 exact fin2 rfl
theorem getN_lt (v a n:Nat) (hn:n≤62):getN v a n<4611686018427387904:=by
 unfold getN
 refine Nat.lt_of_le_of_lt Nat.and_le_right ?_
 have:∀ n,n≤62→lowN n<4611686018427387904:=by decide
 exact this n hn
theorem shr_lt64 {v a:Nat} (hv:v<18446744073709551616):v >>> a<18446744073709551616:=Nat.lt_of_le_of_lt (by rw [Nat.shiftRight_eq_div_pow];exact Nat.div_le_self _ _) hv
theorem dec1 {x:Nat}:decide ((x:Int)=1)=decide (x=1):=by
 rw [Bool.eq_iff_iff,decide_eq_true_eq,decide_eq_true_eq];omega
theorem dPart_e (v a n:Nat) (hn:1≤n) (hn2:n≤62) (han:a + n≤64) (hv:v<18446744073709551616) (w:World):Fn Tryz.prog 236 [.int .u64 (v:Int),.int .i64 (a:Int),.int .i64 (n:Int)].toArray w [] (fun u _=>u=.int .i64 (getN v a n:Int)):=by
 refine enter Tryz.func236 ?_
 refine run ?_
 refine callE (fun wc hG=>wGet_e v a n hn han hv wc) ?_
 refine run ?_
 have hb:=getN_lt v a n hn2
 refine op1 (by rfl) (x_convI tb_ok rfl rfl rfl (by omega) (by omega)) ?_
 refine run ?_
 exact fin1 rfl
theorem dOn_e (v a:Nat) (ha:a≤63) (hv:v<18446744073709551616) (B:Nat) (w:World) (hB:w.cell? ⟨B,0,none⟩=some (.int .u64 (v:Int))):Fn Tryz.prog 235 [.int .i64 (a:Int),.pointer (some ⟨B,0,none⟩)].toArray w [] (fun u _=>u=.bool (decide (getN v a 1=1))):=by
 refine enter Tryz.func235 ?_
 refine run ?_
 refine callE (fun wc hG=>dPart_e v a 1 (by decide) (by decide) (by omega) hv wc) ?_
 refine run ?_
 refine fin1 ?_
 rw [dec1]
theorem dBit_e (a:Nat) (b:Bool) (w:World):Fn Tryz.prog 241 [.int .i64 (a:Int),.bool b].toArray w [] (fun u _=>u=.agg #[.int .i64 (a:Int),.int .i64 1,.int .u64 (bif b then 1 else 0)]):=by
 refine enter Tryz.func241 ?_
 refine run ?_
 intro F
 refine run ?_
 cases b<;>simp only [cond_true,cond_false]
 ·intro G
  refine runC ?_
  exact finA rfl
 ·intro G
  refine runC ?_
  exact finA rfl
end Go.Proofs.YtndklbjnofdgeaaGreat
namespace Go.Proofs.YtndklbjnofdgeaaGreat
open Go.RowKit
set_option linter.unusedVariables false
set_option linter.unusedSimpArgs false
set_option maxRecDepth 20000
namespace DsD
def bare (d:DsD):Bool:=!d.r && !d.w && !d.x && !d.af && !d.ng && decide (d.soft=0)
def may (stage:Int) (level:Nat) (d:DsD):Bool:=
 bif decide (d.kind=0) then decide (d.frame=0) && d.bare && (decide (d.note=0) || (decide (stage=2) && PtD.btw d.note 0 15))
 else bif decide (d.kind=1) then d.bare && decide (d.note=0) && decide (level<3) && PtD.btw d.frame 0 4095
 else bif decide (d.kind=2) then decide (d.note=0) && (bif decide (stage=1) then d.r && decide (d.soft=0) else !d.ng && PtD.btw d.soft 0 15) && decide (0<level) && PtD.btw d.frame 0 4095 && decide (d.frame.toNat % coversN level=0)
 else false
end DsD
attribute [local irreducible] Hy St Ops DH DHF
theorem dFramed_e (stage:Int) (level:Nat) (d:DsD) (o:Nat) (ho:0<o) (ho2:o<1000) (w:World):Fn Tryz.prog 242 [.agg #[.int .i64 stage,.int .i64 (level:Int),.int .i64 d.kind,.int .i64 d.frame,.bool d.r,.bool d.w,.bool d.x,.bool d.af,.bool d.ng,.int .i64 d.soft,.int .i64 d.note],.int .i64 (o:Int)].toArray w [] (fun u _=>u=.bool (PtD.btw d.frame 0 4095 && decide (d.frame.toNat % o=0))):=by
 refine enter Tryz.func242 ?_
 refine run ?_
 intro B
 refine runG ?_
 refine opG (hy:=fun hg=>x_remN (by (simp only [hg,gv_true];rfl)) (by (simp only [hg,gv_true];rfl)) d.frame.toNat o (by simp [wnt] at hg;omega) (by rfl) ho) (h:=?_)
 refine runG ?_
 refine fin1 ?_
 rw [PtD.btw]
 congr 2
 rw [Bool.eq_iff_iff,decide_eq_true_eq,decide_eq_true_eq]
 omega
theorem eqDs (a b:DsD):eqLeaves [.int .i64 a.kind,.int .i64 a.frame,.bool a.r,.bool a.w,.bool a.x,.bool a.af,.bool a.ng,.int .i64 a.soft,.int .i64 a.note] [.int .i64 b.kind,.int .i64 b.frame,.bool b.r,.bool b.w,.bool b.x,.bool b.af,.bool b.ng,.int .i64 b.soft,.int .i64 b.note]=(decide (a.kind=b.kind) && decide (a.frame=b.frame) && (a.r == b.r) && (a.w == b.w) && (a.x == b.x) && (a.af == b.af) && (a.ng == b.ng) && decide (a.soft=b.soft) && decide (a.note=b.note)):=by
 simp only [eqLeaves,eqLeaf,Bool.and_true,Bool.and_assoc]
theorem bareEq (d:DsD) (k f n:Int) (hk:d.kind=k):eqLeaves [.int .i64 d.kind,.int .i64 d.frame,.bool d.r,.bool d.w,.bool d.x,.bool d.af,.bool d.ng,.int .i64 d.soft,.int .i64 d.note] [.int .i64 k,.int .i64 f,.bool false,.bool false,.bool false,.bool false,.bool false,.int .i64 0,.int .i64 n]=(decide (d.frame=f) && d.bare && decide (d.note=n)):=by
 rw [eqDs d ⟨k,f,false,false,false,false,false,0,n⟩,decide_eq_true hk]
 unfold DsD.bare
 cases d.r<;>cases d.w<;>cases d.x<;>cases d.af<;>cases d.ng<;>simp
theorem dMay_e (stage:Int) (hs:stage=1∨stage=2) (level:Nat) (hl:level<4) (d:DsD) (w:World):Fn Tryz.prog 240 [.agg #[.int .i64 stage,.int .i64 (level:Int),.int .i64 d.kind,.int .i64 d.frame,.bool d.r,.bool d.w,.bool d.x,.bool d.af,.bool d.ng,.int .i64 d.soft,.int .i64 d.note]].toArray w [] (fun u _=>u=.bool (d.may stage level)):=by
 have hlv:decide ((level:Int)<3)=decide (level<3):=by rw [Bool.eq_iff_iff,decide_eq_true_eq,decide_eq_true_eq];omega
 have hlp:decide ((0:Int)<(level:Int))=decide (0<level):=by rw [Bool.eq_iff_iff,decide_eq_true_eq,decide_eq_true_eq];omega
 have h9:=dbits_lt hl
 refine enter Tryz.func240 ?_
 refine run ?_
 intro B
 refine run ?_
 intro C
 refine run ?_
 refine st_cond _ rfl (fun hk=>?_) (fun hk=>?_)
 ·have hk0:d.kind=0:=by simpa using hk
  refine runG ?_
  refine st_cond _ rfl (fun hn=>?_) (fun hn=>?_)
  ·refine runG ?_
   refine fin1 ?_
   rw [bareEq d d.kind 0 d.note rfl]
   simp only [Bool.and_eq_true,decide_eq_true_eq] at hn
   simp [DsD.may,hk0,hn.1.1,PtD.btw,hn.1.2,hn.2]
  ·refine runG ?_
   refine fin1 ?_
   rw [bareEq d d.kind 0 0 rfl]
   simp only [DsD.may,hk0,decide_true,cond_true,PtD.btw]
   cases hz:decide (d.note=0)
   ·have:(decide (stage=2) && (decide (0≤d.note) && decide (d.note≤15)))=false:=by
     rw [← Bool.and_assoc];simpa using hn
    rw [this];simp
   ·simp
 ·have hk0:decide (d.kind=0)=false:=by simpa using hk
  refine run ?_
  refine st_cond _ rfl (fun hk1=>?_) (fun hk1=>?_)
  ·have hk1':d.kind=1:=by simpa using hk1
   refine runG ?_
   refine callEG (fun hg1 wc hG=>dFramed_e stage level d 1 (by decide) (by decide) wc) ?_
   refine runG ?_
   refine fin1 ?_
   rw [bareEq d d.kind d.frame 0 rfl,hlv]
   simp only [DsD.may,hk1',decide_true,cond_true,show decide ((1:Int)=0)=false from rfl,cond_false,Nat.mod_one,Bool.and_true,Bool.true_and]
  ·have hk1':decide (d.kind=1)=false:=by simpa using hk1
   refine run ?_
   refine st_cond _ rfl (fun hk2=>?_) (fun hk2=>?_)
   ·have hk2':d.kind=2:=by simpa using hk2
    refine run ?_
    refine drawW 7 [⟨B,#[.int .i64 stage,.int .i64 (level:Int),.int .i64 d.kind,.int .i64 d.frame,.bool d.r,.bool d.w,.bool d.x,.bool d.af,.bool d.ng,.int .i64 d.soft,.int .i64 d.note],309⟩] ?_
    refine runW ?_
    refine run ?_
    refine st_cond _ rfl (fun h1=>?_) (fun h1=>?_)
    ·refine runG ?_
     refine drawN 32 ?_
     refine runDG ?_
     refine callDG (fun hg wc hG=>dBits_e stage level hl wc) ?_
     refine opDG (hy:=fun hg=>x_shlI rfl (by (simp only [hg,gv_true];rfl)) 1 (dbits level) (by rfl) (by rfl) (by omega) (Nat.lt_of_le_of_lt h9.2.1 (by decide))) (h:=?_)
     refine callDG (fun hg wc hG=>dFramed_e stage level d (coversN level) (by omega) (by omega) wc) ?_
     refine runDG ?_
     refine run ?_
     refine run ?_
     refine fin1 ?_
     rw [hlp,eqDs d ⟨d.kind,d.frame,true,d.w,d.x,d.af,d.ng,0,0⟩]
     have h1':stage=1:=by simpa using h1
     simp only [DsD.may,hk2',h1',decide_true,cond_true,PtD.btw,show decide ((2:Int)=0)=false from rfl,show decide ((2:Int)=1)=false from rfl,cond_false,beq_self_eq_true,Bool.and_true,Bool.true_and]
     cases d.r<;>by_cases hz:d.soft=0<;>simp [hz,Bool.and_assoc]
    ·refine runG ?_
     refine drawN 32 ?_
     refine runDG ?_
     refine callDG (fun hg wc hG=>dBits_e stage level hl wc) ?_
     refine opDG (hy:=fun hg=>x_shlI rfl (by (simp only [hg,gv_true];rfl)) 1 (dbits level) (by rfl) (by rfl) (by omega) (Nat.lt_of_le_of_lt h9.2.1 (by decide))) (h:=?_)
     refine callDG (fun hg wc hG=>dFramed_e stage level d (coversN level) (by omega) (by omega) wc) ?_
     refine runDG ?_
     refine run ?_
     refine run ?_
     refine fin1 ?_
     rw [hlp,eqDs d ⟨d.kind,d.frame,d.r,d.w,d.x,d.af,false,d.soft,0⟩]
     have h1':decide (stage=1)=false:=by simpa using h1
     simp only [DsD.may,hk2',h1',decide_true,cond_true,PtD.btw,show decide ((2:Int)=0)=false from rfl,show decide ((2:Int)=1)=false from rfl,cond_false,beq_self_eq_true,Bool.and_true,Bool.true_and]
     cases d.ng<;>cases decide (d.note=0)<;>cases decide (0<level)<;>simp [Bool.and_assoc]
   ·refine run ?_
    refine fin1 ?_
    have hk2':decide (d.kind=2)=false:=by simpa using hk2
    simp [DsD.may,hk0,hk1',hk2']
end Go.Proofs.YtndklbjnofdgeaaGreat
namespace Go.Proofs.YtndklbjnofdgeaaGreat
open Go.RowKit
set_option linter.unusedVariables false
set_option linter.unusedSimpArgs false
set_option maxRecDepth 20000
def b1 (b:Bool):Nat:=bif b then 1 else 0
theorem b1_lt (b:Bool):b1 b<2 ^ 1:=by cases b<;>decide
def DsD.fields (stage:Int) (level:Nat) (d:DsD):List FdD:=
 bif decide (d.kind=0) then [⟨4,4,d.note.toNat⟩]
 else bif decide (d.kind=1) then [⟨0,1,1⟩,⟨1,1,1⟩,⟨12,12,d.frame.toNat⟩]
 else bif decide (stage=1) then [⟨0,1,1⟩,⟨1,1,b1 (decide (level=3))⟩,⟨12,12,d.frame.toNat⟩,⟨10,1,b1 d.af⟩,⟨54,1,b1 (!d.x)⟩,⟨7,1,b1 (!d.w)⟩,⟨11,1,b1 d.ng⟩]
 else [⟨0,1,1⟩,⟨1,1,b1 (decide (level=3))⟩,⟨12,12,d.frame.toNat⟩,⟨10,1,b1 d.af⟩,⟨54,1,b1 (!d.x)⟩,⟨6,1,b1 d.r⟩,⟨7,1,b1 d.w⟩,⟨55,4,d.soft.toNat⟩]
def DsD.word (stage:Int) (level:Nat) (d:DsD):Nat:=joinV (joinL (d.fields stage level) 0 0)
def apart:List Nat→Nat→Bool
 | [],_=>true
 | m::r,t=>decide (t &&& m=0) && apart r (t ||| m)
theorem joinL_some:∀ (l:List FdD) (w t:Nat),apart (l.map FdD.mask) t=true→joinE (joinL l w t)=0∧joinV (joinL l w t)=l.foldl (fun a f=>a ||| f.bits) w:=by
 intro l
 induction l with
 | nil=>intro w t _;exact ⟨rfl,rfl⟩
 | cons f r ih=>
  intro w t h
  simp only [List.map_cons,apart,Bool.and_eq_true] at h
  rw [joinL,h.1,cond_true,List.foldl_cons]
  exact ih _ _ h.2
theorem DsD.joinE_fields (stage:Int) (level:Nat) (d:DsD):joinE (joinL (d.fields stage level) 0 0)=0:=by
 refine (joinL_some _ _ _ ?_).1
 unfold DsD.fields
 cases decide (d.kind=0)<;>cases decide (d.kind=1)<;>cases decide (stage=1)<;>simp only [cond_true,cond_false,List.map_cons,List.map_nil,FdD.mask]<;>decide +kernel
theorem joinL_lt:∀ (l:List FdD) (w t:Nat),w<18446744073709551616→joinV (joinL l w t)<18446744073709551616:=by
 intro l
 induction l with
 | nil=>intro w t h;exact h
 | cons f r ih=>
  intro w t h
  rw [joinL]
  cases decide (t &&& f.mask=0)
  ·exact (show (0:Nat)<18446744073709551616 by decide)
  ·exact ih _ _ (or_lt64 h f.bits_lt)
theorem btw_toNat {z:Int} {b:Nat} (h:PtD.btw z 0 b=true):((z.toNat:Nat):Int)=z∧z.toNat≤b:=by
 simp only [PtD.btw,Bool.and_eq_true,decide_eq_true_eq] at h
 omega
theorem DsD.fields_ok {stage:Int} {level:Nat} {d:DsD} (h:d.may stage level=true):∀ f∈d.fields stage level,f.Ok:=by
 have key:∀ l:List FdD,l.all (fun f=>decide (1≤f.n) && decide (f.a + f.n≤64) && decide (f.v<2 ^ f.n))=true→∀ f∈l,f.Ok:=by
  intro l hl f hf
  have:=List.all_eq_true.1 hl f hf
  simp only [Bool.and_eq_true,decide_eq_true_eq] at this
  exact ⟨this.1.1,this.1.2,this.2⟩
 apply key
 unfold DsD.may at h
 unfold DsD.fields
 by_cases h0:d.kind=0
 ·simp only [h0,decide_true,cond_true,Bool.and_eq_true,Bool.or_eq_true,decide_eq_true_eq] at h ⊢
  have:d.note.toNat<2 ^ 4:=by
   rcases h.2 with e | ⟨_,e⟩
   ·rw [e];decide
   ·have:=(btw_toNat (b:=15) e).2;omega
  simp [this]
 ·by_cases h1:d.kind=1
  ·simp only [h1,decide_true,cond_true,Bool.and_eq_true,decide_eq_true_eq,show decide ((1:Int)=0)=false from rfl,cond_false] at h ⊢
   have:d.frame.toNat<2 ^ 12:=by have:=(btw_toNat (b:=4095) h.2).2;omega
   simp [this]
  ·by_cases h2:d.kind=2
   ·simp only [h2,decide_true,cond_true,Bool.and_eq_true,decide_eq_true_eq,show decide ((2:Int)=0)=false from rfl,show decide ((2:Int)=1)=false from rfl,cond_false] at h ⊢
    have:d.frame.toNat<2 ^ 12:=by have:=(btw_toNat (b:=4095) h.1.2).2;omega
    have b:=b1_lt
    by_cases hs:stage=1
    ·simp only [hs,decide_true,cond_true]
     simp [this,b,b1]
     cases decide (level=3)<;>cases d.af<;>cases d.x<;>cases d.w<;>cases d.ng<;>decide
    ·simp only [hs,decide_false,cond_false,Bool.and_eq_true] at h ⊢
     have h4:d.soft.toNat<2 ^ 4:=by have:=(btw_toNat (b:=15) h.1.1.1.2.2).2;omega
     simp [this,h4,b1]
     cases decide (level=3)<;>cases d.af<;>cases d.x<;>cases d.w<;>cases d.r<;>decide
   ·simp [h0,h1,h2] at h
def guessL (stage:Int) (level:Nat) (w:Nat):DsD:=
 bif !decide (getN w 0 1=1) then { noDs with note:=(getN w 4 4:Int) }
 else bif decide (getN w 1 1=1) && !decide (level=3) then { noDs with kind:=1,frame:=(getN w 12 12:Int) }
 else bif decide (stage=1) then { noDs with kind:=2,frame:=(getN w 12 12:Int),af:=decide (getN w 10 1=1),x:=!decide (getN w 54 1=1),r:=true,w:=!decide (getN w 7 1=1),ng:=decide (getN w 11 1=1) }
 else { noDs with kind:=2,frame:=(getN w 12 12:Int),af:=decide (getN w 10 1=1),x:=!decide (getN w 54 1=1),r:=decide (getN w 6 1=1),w:=decide (getN w 7 1=1),soft:=(getN w 55 4:Int) }
def ofL (stage:Int) (level:Nat) (w:Nat):DsD:=bif (guessL stage level w).may stage level && decide ((guessL stage level w).word stage level=w) then guessL stage level w else noDs
theorem noDs_may (stage:Int) (level:Nat):noDs.may stage level=true:=by simp [DsD.may,noDs,DsD.bare]
theorem ofL_may (stage:Int) (level:Nat) (w:Nat):(ofL stage level w).may stage level=true:=by
 unfold ofL
 cases h:(guessL stage level w).may stage level
 ·rw [Bool.false_and,cond_false];exact noDs_may _ _
 ·rw [Bool.true_and]
  cases decide ((guessL stage level w).word stage level=w)
  ·exact noDs_may _ _
  ·exact h
end Go.Proofs.YtndklbjnofdgeaaGreat
namespace Go.Proofs.YtndklbjnofdgeaaGreat
open Go.RowKit
set_option linter.unusedVariables false
set_option linter.unusedSimpArgs false
set_option maxRecDepth 20000
def hasF (n:Nat) (f:Int):Bool:=decide (0≤f) && decide (f<((n / 8:Nat):Int))
def atN (f:Int) (level page:Nat):Nat:=f.toNat * 8 + indexN level page
structure WkD where
 fs:List Int
 d:DsD
 ok:Bool
deriving Inhabited
def WkD.lv (w:WkD):Nat:=w.fs.length - 1
theorem indexN_lt (level page:Nat):indexN level page<8:=Nat.mod_lt _ (by decide)
theorem hasF_iff {n:Nat} {f:Int} (h:hasF n f=true):0≤f∧f.toNat<n / 8∧(f.toNat:Int)=f:=by
 simp only [hasF,Bool.and_eq_true,decide_eq_true_eq] at h
 omega
theorem may_kinds {stage:Int} {level:Nat} {d:DsD} (h:d.may stage level=true):(d.kind=0∨d.kind=1∨d.kind=2)∧(d.kind=0→d.frame=0∧0≤d.note∧d.note≤15)∧(d.kind=1→level<3∧0≤d.frame∧d.frame≤4095∧d.note=0)∧(d.kind=2→0<level∧0≤d.frame∧d.frame≤4095∧d.note=0∧d.frame.toNat % coversN level=0):=by
 unfold DsD.may at h
 by_cases h0:d.kind=0
 ·simp only [h0,decide_true,cond_true,Bool.and_eq_true,Bool.or_eq_true,decide_eq_true_eq] at h
  refine ⟨.inl h0,fun _=>⟨h.1.1,?_⟩,fun e=>absurd e (by omega),fun e=>absurd e (by omega)⟩
  rcases h.2 with e | ⟨_,e⟩
  ·omega
  ·simp only [PtD.btw,Bool.and_eq_true,decide_eq_true_eq] at e;omega
 ·by_cases h1:d.kind=1
  ·simp only [h1,decide_true,cond_true,Bool.and_eq_true,decide_eq_true_eq,show decide ((1:Int)=0)=false from rfl,cond_false,PtD.btw] at h
   refine ⟨.inr (.inl h1),fun e=>absurd e (by omega),fun _=>⟨h.1.2,h.2.1,h.2.2,h.1.1.2⟩,fun e=>absurd e (by omega)⟩
  ·by_cases h2:d.kind=2
   ·simp only [h2,decide_true,cond_true,Bool.and_eq_true,decide_eq_true_eq,show decide ((2:Int)=0)=false from rfl,show decide ((2:Int)=1)=false from rfl,cond_false,PtD.btw] at h
    refine ⟨.inr (.inr h2),fun e=>absurd e (by omega),fun e=>absurd e (by omega),fun _=>⟨h.1.1.2,h.1.2.1,h.1.2.2,h.1.1.1.1,h.2⟩⟩
   ·simp [h0,h1,h2] at h
end Go.Proofs.YtndklbjnofdgeaaGreat
namespace Go.Proofs.YtndklbjnofdgeaaGreat
open Go.RowKit
set_option linter.unusedVariables false
set_option linter.unusedSimpArgs false
set_option maxRecDepth 20000
attribute [local irreducible] Hy St Ops DH DHF
abbrev dpV (stage:Int) (level:Nat) (d:DsD):Value:=.agg #[.int .i64 stage,.int .i64 (level:Int),.int .i64 d.kind,.int .i64 d.frame,.bool d.r,.bool d.w,.bool d.x,.bool d.af,.bool d.ng,.int .i64 d.soft,.int .i64 d.note]
def fdC (xs:List FdD):List Value:=(xs.map fdV).flatten
theorem fdC_all (xs:List FdD):∀ c∈xs.map fdV,c.length=3∧c.all (·.oneCell')=true:=by
 intro c hc
 obtain ⟨x,_,rfl⟩:=List.mem_map.1 hc
 exact ⟨rfl,rfl⟩
theorem own_fds (T n:Nat) (xs:List FdD) (hn:xs.length=n:=by rfl) (hm:n≤1000:=by decide):Own 149 3 (.slice (some ⟨T,0,none⟩) n n) [⟨T,(fdC xs).toArray,149⟩] (xs.map fdV):=by
 subst hn
 refine ⟨fdC_all xs,.inr ⟨T,xs.length,_,by rw [List.length_map],rfl,?_⟩⟩
 have hl:=flatten_len (xs.map fdV) (fun c hc=>(fdC_all xs c hc).1)
 refine ⟨hl,by simp,Nat.le_trans hm (by decide),by simpa [fdC] using hl,?_⟩
 rw [List.take_of_length_le (by simp [fdC,hl])];rfl
theorem own_row {e t:Nat} (T cap:Nat) (cs:List Value) {xs:List (List Value)} {sz n:Nat} (h:xs.flatten=cs) (ht:e=t) (hall:∀ c∈xs,c.length=sz∧c.all (·.oneCell')=true) (hn:xs.length=n:=by rfl) (hc:xs.length=cap:=by rfl) (hcap:cap≤maxLen:=by decide):Own e sz (.slice (some ⟨T,0,none⟩) n cap) [⟨T,cs.toArray,t⟩] xs:=by
 subst ht hn hc h
 refine ⟨hall,.inr ⟨T,_,_,rfl,rfl,?_⟩⟩
 have hl:=flatten_len xs (fun c hc=>(hall c hc).1)
 exact ⟨hl,Nat.le_refl _,hcap,by simp [hl],by rw [List.take_of_length_le (by simp [hl])]⟩
theorem DsD.fields_len (stage:Int) (level:Nat) (d:DsD):(d.fields stage level).length≤8:=by
 unfold DsD.fields
 cases decide (d.kind=0)<;>cases decide (d.kind=1)<;>cases decide (stage=1)<;>simp
theorem may_soft {stage:Int} {level:Nat} {d:DsD} (hm:d.may stage level=true) (hk:d.kind=2) (h1:decide (stage=1)=false):0≤d.soft∧d.soft≤15:=by
 simp only [DsD.may,hk,h1,decide_true,cond_true,Bool.and_eq_true,decide_eq_true_eq,show decide ((2:Int)=0)=false from rfl,show decide ((2:Int)=1)=false from rfl,cond_false,PtD.btw] at hm
 exact hm.1.1.1.2.2
theorem dFields_e (stage:Int) (hs:stage=1∨stage=2) (level:Nat) (hl:level<4) (d:DsD) (hm:d.may stage level=true) (w:World):Fn Tryz.prog 238 [dpV stage level d].toArray w [] (fun u hn=>∃ h1,Own 149 3 u h1 ((d.fields stage level).map fdV)∧HpLe h1 hn):=by
 have hlv:decide ((level:Int)=3)=decide (level=3):=by rw [Bool.eq_iff_iff,decide_eq_true_eq,decide_eq_true_eq];omega
 obtain ⟨k1,k2,k3,k4⟩:=may_kinds hm
 have hf:0≤d.frame∧d.frame≤4095:=by
  rcases k1 with e | e | e
  ·have:=k2 e;omega
  ·have:=k3 e;omega
  ·have:=k4 e;omega
 have hf0:=hf.1
 have hf1:=hf.2
 have hfz:((d.frame.toNat:Nat):Int)=d.frame:=by omega
 refine enter Tryz.func238 ?_
 refine run ?_
 intro B
 refine run ?_
 refine st_cond _ rfl (fun hk=>?_) (fun hk=>?_)
 ·have hk0:d.kind=0:=by simpa using hk
  have hn0:=(k2 hk0).2.1
  have hn1:=(k2 hk0).2.2
  have hnz:((d.note.toNat:Nat):Int)=d.note:=by omega
  refine run ?_
  intro T
  refine fin1 ?_
  have e:d.fields stage level=[⟨4,4,d.note.toNat⟩]:=by simp [DsD.fields,hk0]
  rw [e]
  refine ⟨_,own_row T 1 [.int .i64 4,.int .i64 4,.int .u64 d.note] (by simp [fdV,hnz]) rfl (by simp [fdV,Value.oneCell']),?_⟩
  (refine hpLe_cnt fun a=>?_;simp only [cntB_app,cntB_cons,cntB_nil]<;>omega)
 ·have hk0:decide (d.kind=0)=false:=by simpa using hk
  refine run ?_
  refine drawM 15 [0,1,2,3,4,5,6,7,8,9,10,11,12,13] [14] [] ?_
  refine de1_s rfl (fun hx2=>x_call (calOk 241 rfl) rfl (fun wc hG=>dBit_e 0 true wc)) ?_
  refine runS ?_
  refine de1g (hy:=fun hx2 hg=>x_move rfl) (h:=?_)
  refine runS ?_
  refine de1_s rfl (fun hx2=>x_call (calOk 241 rfl) rfl (fun wc hG=>dBit_e 1 _ wc)) ?_
  refine runS ?_
  refine eBS (fdC [⟨0,1,1⟩,⟨1,1,b1 (decide (d.kind=1) || decide (level=3))⟩,⟨12,12,d.frame.toNat⟩]) (h:=?_) (hn:=?_)
  ·refine eNil ?_
   simp only [DN]
   rintro _ hn ⟨T,rfl,rfl⟩
   refine dNil ?_
   refine opsF ?_
   simp only [List.cons_append,List.nil_append,List.append_nil]
   refine run ?_
   refine st_cond _ rfl (fun hk1=>?_) (fun hk1=>?_)
   ·have hk1':decide (d.kind=1)=true:=hk1
    refine run ?_
    refine fin1 ?_
    have e:d.fields stage level=[⟨0,1,1⟩,⟨1,1,1⟩,⟨12,12,d.frame.toNat⟩]:=by simp only [DsD.fields,hk0,hk1',cond_false,cond_true]
    rw [e]
    simp only [hk1',Bool.true_or,show b1 true=1 from rfl]
    refine ⟨_,own_fds T 3 _,?_⟩
    (refine hpLe_cnt fun a=>?_;simp only [cntB_app,cntB_cons,cntB_nil]<;>omega)
   ·have hk1':decide (d.kind=1)=false:=by simpa using hk1
    have hk2:d.kind=2:=by
     simp at hk0 hk1'
     rcases k1 with e | e | e
     ·exact absurd e hk0
     ·exact absurd e hk1'
     ·exact e
    simp only [hk1',Bool.false_or]
    refine run ?_
    refine drawM 13 [0,1,2,3,4,5,6,7,8,9,10,11] [12] [] ?_
    refine runS ?_
    refine de1_s rfl (fun hx2=>x_call (calOk 241 rfl) rfl (fun wc hG=>dBit_e 10 _ wc)) ?_
    refine runS ?_
    refine de1_s rfl (fun hx2=>x_call (calOk 241 rfl) rfl (fun wc hG=>dBit_e 54 _ wc)) ?_
    refine runS ?_
    refine eBS (fdC [⟨10,1,b1 d.af⟩,⟨54,1,b1 (!d.x)⟩]) (h:=?_) (hn:=by cases d.af<;>cases d.x<;>rfl)
    refine eNil ?_
    simp only [DN]
    rintro _ hn ⟨T2,rfl,rfl⟩
    refine dNil ?_
    refine opsF ?_
    simp only [List.cons_append,List.nil_append,List.append_nil]
    refine appendM (m:=2) ([⟨10,1,b1 d.af⟩,⟨54,1,b1 (!d.x)⟩].map fdV) [⟨T2,(fdC [⟨10,1,b1 d.af⟩,⟨54,1,b1 (!d.x)⟩]).toArray,149⟩,⟨B,#[.int .i64 stage,.int .i64 (level:Int),.int .i64 d.kind,.int .i64 d.frame,.bool d.r,.bool d.w,.bool d.x,.bool d.af,.bool d.ng,.int .i64 d.soft,.int .i64 d.note],309⟩] (own_fds T 3 [⟨0,1,1⟩,⟨1,1,b1 (decide (level=3))⟩,⟨12,12,d.frame.toNat⟩]) (by simp) (fun v' ha' hA'=>?_) (by simp) rfl (fdC_all _) (news_own (m:=6) mh rfl) (hperm:=by (refine perm_cnt fun a=>?_;simp only [cntB_app,cntB_cons,cntB_nil]<;>omega))
    refine ops_le (⟨B,#[.int .i64 stage,.int .i64 (level:Int),.int .i64 d.kind,.int .i64 d.frame,.bool d.r,.bool d.w,.bool d.x,.bool d.af,.bool d.ng,.int .i64 d.soft,.int .i64 d.note],309⟩::ha') (by (refine hpLe_cnt fun a=>?_;simp only [cntB_app,cntB_cons,cntB_nil]<;>omega)) ?_
    obtain ⟨q,cap,rfl⟩:=hA'.opened
    refine run ?_
    refine st_cond _ rfl (fun h1=>?_) (fun h1=>?_)
    ·have h1':decide (stage=1)=true:=h1
     refine run ?_
     refine drawM 13 [0,1,2,3,4,5,6,7,8,9,10,11] [12] [] ?_
     refine runS ?_
     refine de1_s rfl (fun hx2=>x_call (calOk 241 rfl) rfl (fun wc hG=>dBit_e 7 _ wc)) ?_
     refine runS ?_
     refine de1_s rfl (fun hx2=>x_call (calOk 241 rfl) rfl (fun wc hG=>dBit_e 11 _ wc)) ?_
     refine runS ?_
     refine eBS (fdC [⟨7,1,b1 (!d.w)⟩,⟨11,1,b1 d.ng⟩]) (h:=?_) (hn:=by cases d.w<;>cases d.ng<;>rfl)
     refine eNil ?_
     simp only [DN]
     rintro _ hn ⟨T3,rfl,rfl⟩
     refine dNil ?_
     refine opsF ?_
     simp only [List.cons_append,List.nil_append,List.append_nil]
     refine appendM (m:=2) ([⟨7,1,b1 (!d.w)⟩,⟨11,1,b1 d.ng⟩].map fdV) [⟨T3,(fdC [⟨7,1,b1 (!d.w)⟩,⟨11,1,b1 d.ng⟩]).toArray,149⟩,⟨B,#[.int .i64 stage,.int .i64 (level:Int),.int .i64 d.kind,.int .i64 d.frame,.bool d.r,.bool d.w,.bool d.x,.bool d.af,.bool d.ng,.int .i64 d.soft,.int .i64 d.note],309⟩] hA' (by simp) (fun v2 ha2 hA2=>?_) (by simp) rfl (fdC_all _) (news_own (m:=6) mh rfl) (hperm:=by (refine perm_cnt fun a=>?_;simp only [cntB_app,cntB_cons,cntB_nil]<;>omega))
     refine run ?_
     refine fin1 ?_
     have e:d.fields stage level=[⟨0,1,1⟩,⟨1,1,b1 (decide (level=3))⟩,⟨12,12,d.frame.toNat⟩,⟨10,1,b1 d.af⟩,⟨54,1,b1 (!d.x)⟩,⟨7,1,b1 (!d.w)⟩,⟨11,1,b1 d.ng⟩]:=by simp only [DsD.fields,hk0,hk1',h1',cond_false,cond_true]
     rw [e]
     exact ⟨ha2,hA2,by (refine hpLe_cnt fun a=>?_;simp only [cntB_app,cntB_cons,cntB_nil]<;>omega)⟩
    ·have h1':decide (stage=1)=false:=by simpa using h1
     have hso:=may_soft hm hk2 h1'
     have hs0:=hso.1
     have hs1:=hso.2
     have hsz:((d.soft.toNat:Nat):Int)=d.soft:=by omega
     refine run ?_
     refine drawM 18 [0,1,2,3,4,5,6,7,8,9,10,11,12,13,14,15,16] [17] [] ?_
     refine runS ?_
     refine de1_s rfl (fun hx2=>x_call (calOk 241 rfl) rfl (fun wc hG=>dBit_e 6 _ wc)) ?_
     refine runS ?_
     refine de1_s rfl (fun hx2=>x_call (calOk 241 rfl) rfl (fun wc hG=>dBit_e 7 _ wc)) ?_
     refine runS ?_
     refine eBS (fdC [⟨6,1,b1 d.r⟩,⟨7,1,b1 d.w⟩,⟨55,4,d.soft.toNat⟩]) (h:=?_) (hn:=by rw [← hsz];cases d.r<;>cases d.w<;>rfl)
     refine eNil ?_
     simp only [DN]
     rintro _ hn ⟨T3,rfl,rfl⟩
     refine dNil ?_
     refine opsF ?_
     simp only [List.cons_append,List.nil_append,List.append_nil]
     refine appendM (m:=3) ([⟨6,1,b1 d.r⟩,⟨7,1,b1 d.w⟩,⟨55,4,d.soft.toNat⟩].map fdV) [⟨T3,(fdC [⟨6,1,b1 d.r⟩,⟨7,1,b1 d.w⟩,⟨55,4,d.soft.toNat⟩]).toArray,149⟩,⟨B,#[.int .i64 stage,.int .i64 (level:Int),.int .i64 d.kind,.int .i64 d.frame,.bool d.r,.bool d.w,.bool d.x,.bool d.af,.bool d.ng,.int .i64 d.soft,.int .i64 d.note],309⟩] hA' (by simp) (fun v2 ha2 hA2=>?_) (by simp) rfl (fdC_all _) (news_own (m:=9) mh rfl) (hperm:=by (refine perm_cnt fun a=>?_;simp only [cntB_app,cntB_cons,cntB_nil]<;>omega))
     refine run ?_
     refine fin1 ?_
     have e:d.fields stage level=[⟨0,1,1⟩,⟨1,1,b1 (decide (level=3))⟩,⟨12,12,d.frame.toNat⟩,⟨10,1,b1 d.af⟩,⟨54,1,b1 (!d.x)⟩,⟨6,1,b1 d.r⟩,⟨7,1,b1 d.w⟩,⟨55,4,d.soft.toNat⟩]:=by simp only [DsD.fields,hk0,hk1',h1',cond_false,cond_true]
     rw [e]
     exact ⟨ha2,hA2,by (refine hpLe_cnt fun a=>?_;simp only [cntB_app,cntB_cons,cntB_nil]<;>omega)⟩
  ·rw [hlv,← hfz]
   cases decide (d.kind=1)<;>cases decide (level=3)<;>rfl
theorem dCheck_e (stage:Int) (hs:stage=1∨stage=2) (level:Nat) (hl:level<4) (d:DsD) (w:World):Fn Tryz.prog 237 [.int .i64 stage,.int .i64 (level:Int),dsV d].toArray w [] (fun u _=>u=.int .i64 (bif d.may stage level then 0 else 1)):=by
 refine enter Tryz.func237 ?_
 refine run ?_
 intro B C
 refine runG ?_
 refine callE (fun wc hG=>dThereT_e stage hs level hl wc) ?_
 refine runG ?_
 refine callEG (fun hg wc hG=>dMay_e stage hs level hl d wc) ?_
 refine runG ?_
 refine st_cond _ rfl (fun hc=>?_) (fun hc=>?_)
 ·refine run ?_
  refine fin1 ?_
  have:d.may stage level=false:=by simpa using hc
  rw [this];rfl
 ·refine run ?_
  refine fin1 ?_
  have:d.may stage level=true:=by simpa using hc
  rw [this];rfl
theorem dWord_e (stage:Int) (hs:stage=1∨stage=2) (level:Nat) (hl:level<4) (d:DsD) (w:World):Fn Tryz.prog 230 [.int .i64 stage,.int .i64 (level:Int),dsV d].toArray w [] (fun u _=>u=.tuple #[.int .u64 (bif d.may stage level then (d.word stage level:Int) else 0),.int .i64 (bif d.may stage level then 0 else 1)]):=by
 refine enter Tryz.func230 ?_
 refine run ?_
 intro B
 refine callE (fun wc hG=>dCheck_e stage hs level hl d wc) ?_
 cases hm:d.may stage level with
 | false=>
  simp only [cond_false]
  refine runC ?_
  exact fin2 rfl
 | true=>
  simp only [cond_true]
  refine runC ?_
  refine callB (fun wc hG=>dFields_e stage hs level hl d hm wc) ?_
  rintro v hn ⟨h1,hO,hle⟩
  refine ops_le h1 (by (refine hpLe_cnt fun a=>?_;have:=HpLe.cnt hle a;simp only [cntB_app,cntB_cons,cntB_nil] at *;omega)) ?_
  refine callE (fun wc hG=>wJoin_e _ (DsD.fields_ok hm) (hO.lie hG.here (by rw [List.length_map];exact Nat.le_trans (DsD.fields_len stage level d) (by decide)))) ?_
  rw [DsD.joinE_fields]
  refine run ?_
  exact fin2 rfl
theorem dOnI (ai:Int) (v a:Nat) (hai:ai=(a:Int)) (ha:a≤63) (hv:v<18446744073709551616) (B:Nat) (w:World) (hB:w.cell? ⟨B,0,none⟩=some (.int .u64 (v:Int))):Fn Tryz.prog 235 [.int .i64 ai,.pointer (some ⟨B,0,none⟩)].toArray w [] (fun u _=>u=.bool (decide (getN v a 1=1))):=by
 subst hai
 exact dOn_e v a ha hv B w hB
theorem Good.cell1 {w0 w:World} {mu:List Nat} {hp:Hp} (hG:Good w0 mu hp w) {b t:Nat} {v:Value} (h:(⟨b,#[v],t⟩:Blk)∈hp):w.cell? ⟨b,0,none⟩=some v:=by
 rw [cell_of_block (hG.here _ h)];rfl
theorem dGuess_e (stage:Int) (hs:stage=1∨stage=2) (level:Nat) (hl:level<4) (v:Nat) (hv:v<18446744073709551616) (w:World):Fn Tryz.prog 229 [.agg #[.int .i64 stage,.int .i64 (level:Int)],.int .u64 (v:Int)].toArray w [] (fun u _=>u=dsV (guessL stage level v)):=by
 have hlv:decide ((level:Int)=3)=decide (level=3):=by rw [Bool.eq_iff_iff,decide_eq_true_eq,decide_eq_true_eq];omega
 refine enter Tryz.func229 ?_
 refine run ?_
 intro B C D
 refine callF (fs:=[]) (vs:=[.int .i64 0]) (us:=[.pointer (some ⟨C,0,none⟩)]) (fun wc hG=>dOnI 0 v 0 rfl (by decide) hv C wc (hG.cell1 (t:=25) (by simp))) ?_
 refine run ?_
 refine st_cond _ rfl (fun h0=>?_) (fun h0=>?_)
 ·have h0':(!decide (getN v 0 1=1))=true:=h0
  refine run ?_
  refine callE (fun wc hG=>dPart_e v 4 4 (by decide) (by decide) (by decide) hv wc) ?_
  refine run ?_
  refine finA ?_
  rw [guessL,h0',cond_true]
  rfl
 ·have h0':(!decide (getN v 0 1=1))=false:=by simpa using h0
  refine run ?_
  refine callF (fs:=[]) (vs:=[.int .i64 1]) (us:=[.pointer (some ⟨C,0,none⟩)]) (fun wc hG=>dOnI 1 v 1 rfl (by decide) hv C wc (hG.cell1 (t:=25) (by simp))) ?_
  refine runG ?_
  refine st_cond _ rfl (fun h1=>?_) (fun h1=>?_)
  ·rw [hlv] at h1
   refine run ?_
   refine callE (fun wc hG=>dPart_e v 12 12 (by decide) (by decide) (by decide) hv wc) ?_
   refine run ?_
   refine finA ?_
   rw [guessL,h0',cond_false,h1]
   rfl
  ·have h1':(decide (getN v 1 1=1) && !decide ((level:Int)=3))=false:=by simpa using h1
   rw [hlv] at h1'
   refine run ?_
   refine callE (fun wc hG=>dPart_e v 12 12 (by decide) (by decide) (by decide) hv wc) ?_
   refine run ?_
   refine callF (fs:=[]) (vs:=[.int .i64 10]) (us:=[.pointer (some ⟨C,0,none⟩)]) (fun wc hG=>dOnI 10 v 10 rfl (by decide) hv C wc (hG.cell1 (t:=25) (by simp))) ?_
   refine run ?_
   refine callF (fs:=[]) (vs:=[.int .i64 54]) (us:=[.pointer (some ⟨C,0,none⟩)]) (fun wc hG=>dOnI 54 v 54 rfl (by decide) hv C wc (hG.cell1 (t:=25) (by simp))) ?_
   refine run ?_
   intro E
   refine run ?_
   refine st_cond _ rfl (fun hst=>?_) (fun hst=>?_)
   ·have hst':decide (stage=1)=true:=hst
    refine run ?_
    refine callF (fs:=[]) (vs:=[.int .i64 7]) (us:=[.pointer (some ⟨C,0,none⟩)]) (fun wc hG=>dOnI 7 v 7 rfl (by decide) hv C wc (hG.cell1 (t:=25) (by simp))) ?_
    refine run ?_
    refine callF (fs:=[]) (vs:=[.int .i64 11]) (us:=[.pointer (some ⟨C,0,none⟩)]) (fun wc hG=>dOnI 11 v 11 rfl (by decide) hv C wc (hG.cell1 (t:=25) (by simp))) ?_
    refine run ?_
    refine finA ?_
    rw [guessL,h0',cond_false,h1',cond_false,hst',cond_true]
    rfl
   ·have hst':decide (stage=1)=false:=by simpa using hst
    refine run ?_
    refine drawW 8 [⟨D,#[.int .i64 0,.int .i64 0,.bool false,.bool false,.bool false,.bool false,.bool false,.int .i64 0,.int .i64 0],258⟩,⟨C,#[.int .u64 (v:Int)],25⟩,⟨B,#[.int .i64 stage,.int .i64 (level:Int)],300⟩] ?_
    refine runW ?_
    refine dwf_a (by rfl) (by decide +kernel) (x_callF (fs:=[]) (vs:=[.int .i64 6]) (us:=[.pointer (some ⟨C,0,none⟩)]) (calOk 235 rfl) rfl rfl (fun wc hG=>dOnI 6 v 6 rfl (by decide) hv C wc (hG.cell1 (t:=25) (by simp)))) ?_
    refine runW ?_
    refine dwf_b (by rfl) (by decide +kernel) (fun hx=>x_callF (fs:=[]) (vs:=[.int .i64 7]) (us:=[.pointer (some ⟨C,0,none⟩)]) (calOk 235 rfl) rfl rfl (fun wc hG=>dOnI 7 v 7 rfl (by decide) hv C wc (hG.cell1 (t:=25) (by simp)))) ?_
    refine runW ?_
    refine callWA (fun wc hG=>dPart_e v 55 4 (by decide) (by decide) (by decide) hv wc) ?_
    refine runW ?_
    refine run ?_
    refine finA ?_
    rw [guessL,h0',cond_false,h1',cond_false,hst',cond_false]
    rfl
theorem dOf_e (stage:Int) (hs:stage=1∨stage=2) (level:Nat) (hl:level<4) (v:Nat) (hv:v<18446744073709551616) (w:World):Fn Tryz.prog 218 [.int .i64 stage,.int .i64 (level:Int),.int .u64 (v:Int)].toArray w [] (fun u _=>u=.tuple #[dsV (ofL stage level v),.int .i64 0]):=by
 refine enter Tryz.func218 ?_
 refine run ?_
 intro B C
 refine callE (fun wc hG=>dThereT_e stage hs level hl wc) ?_
 refine runC ?_
 refine callE (fun wc hG=>dGuess_e stage hs level hl v hv wc) ?_
 refine run ?_
 intro D
 refine run ?_
 refine callE (fun wc hG=>dWord_e stage hs level hl _ wc) ?_
 refine runG ?_
 have hm2:∀ b:Bool,decide ((bif b then (0:Int) else 1)=0)=b:=by decide
 refine st_cond _ rfl (fun hc=>?_) (fun hc=>?_)
 ·refine run ?_
  refine finA1 ?_
  have:ofL stage level v=noDs:=by
   unfold ofL
   rw [hm2] at hc
   cases hm:(guessL stage level v).may stage level
   ·rfl
   ·rw [hm] at hc
    have hne:¬ (guessL stage level v).word stage level=v:=by simpa [Int.ofNat_inj] using hc
    simp [hne]
  rw [this]
  rfl
 ·refine run ?_
  refine finA1 ?_
  have:ofL stage level v=guessL stage level v:=by
   unfold ofL
   rw [hm2] at hc
   cases hm:(guessL stage level v).may stage level
   ·rw [hm] at hc;simp at hc
   ·rw [hm] at hc
    have he:(guessL stage level v).word stage level=v:=by simpa [Int.ofNat_inj] using hc
    simp [he]
  rw [this]
end Go.Proofs.YtndklbjnofdgeaaGreat
namespace Go.Proofs.YtndklbjnofdgeaaGreat
open Go.RowKit
set_option linter.unusedVariables false
set_option linter.unusedSimpArgs false
set_option maxRecDepth 20000
abbrev uV (x:Nat):List Value:=[.int .u64 (x:Int)]
attribute [local irreducible] Hy St Ops DH DHF
theorem copyWords_e {w:World} (xs:List Nat) (v:Value) (h:SlAt w v 1 (xs.map uV)) (hl:xs.length<1000000):Fn Tryz.prog 35 [v].toArray w [] (fun u hp=>Acc 25 1 u hp (xs.map uV)):=by
 obtain ⟨q,cap,rfl,hne,hle⟩:=h.opened
 refine enter Tryz.func35 ?_
 refine run ?_
 refine loopS (σ:=Nat × Value × Hp) (fun s=>[(3,s.2.1),(4,.int .i64 (s.1:Int))]) (fun s=>s.2.2) (fun s=>s.1≤xs.length∧Acc 25 1 s.2.1 s.2.2 ((xs.take s.1).map uV)) (fun s=>xs.length - s.1) (0,_,[]) ⟨by omega,Acc.nil _ _⟩ ?_
 rintro ⟨k,v,ha⟩ m hm ⟨hk,hA⟩
 dsimp only at hm hk hA ⊢
 refine run ?_
 refine st_cond _ rfl (fun hc=>?_) (fun hc=>?_)
 ·have hlt:k<xs.length:=by simp at hc;omega
  obtain ⟨b,o,rfl⟩:=hne (by intro e;subst e;simp at hlt)
  have h1:=rangeAt_cell0 (h.row hlt)
  simp only [uV,Nat.mul_one] at h1
  refine run ?_
  intro T
  refine appendA (c:=uV (xs.getD k default)) hA (fun v' ha' hA'=>?_) (by simp;omega) (news_own (m:=1) mh rfl)
  refine run ?_
  refine nextS (k + 1,v',ha') ⟨hlt,?_⟩
  dsimp only
  rw [take_next hlt,List.map_append]
  exact hA'
 ·have:k=xs.length:=by simp at hc;omega
  subst this
  refine run ?_
  refine fin1 ?_
  simpa using hA
theorem cloneWords_e {w:World} (v:Value) (xs:List (List Value)) (h:SlAt w v 1 xs) (hall:∀ c∈xs,c.length=1∧c.all (·.oneCell')=true) (hl:xs.length<1000000):Fn Tryz.prog 38 [v].toArray w [] (fun u hn=>Own 25 1 u hn xs):=by
 obtain ⟨⟨q,cap,rfl,hne⟩,_⟩:=h
 refine enter Tryz.func38 ?_
 refine run ?_
 refine op1 (by rfl) (x_nilS tb_ok rfl rfl) ?_
 refine run ?_
 refine st_cond _ rfl (fun hp=>?_) (fun hp=>?_)
 ·obtain rfl:xs=[]:=by
   rcases Classical.em (xs=[]) with h | h
   ·exact h
   ·obtain ⟨b,o,rfl,_⟩:=hne h;cases hp
  refine run ?_
  refine fin1 ?_
  exact ⟨by simp,.inl ⟨rfl,rfl,rfl⟩⟩
 refine run ?_
 refine z_bslice0 tb_ok (by rfl) (by rfl) (fun g=>?_)
 refine run ?_
 rcases Classical.em (xs=[]) with rfl | hx
 ·cases q with
  | none=>cases hp
  | some q=>
  refine op1 (by rfl) (x_append0 tb_ok (by_:=0) rfl rfl rfl (Nat.le_refl _)) ?_
  refine run ?_
  refine fin1 ?_
  exact ⟨by simp,.inr ⟨g,0,#[],rfl,rfl,⟨rfl,Nat.le_refl _,by decide,rfl,rfl⟩⟩⟩
 ·obtain ⟨b,o,rfl,hr⟩:=hne hx
  refine z_appendAll tb_ok (by rfl) rfl ⟨rfl,Nat.le_refl _,by decide,rfl,rfl⟩ rfl rfl rfl rfl rfl rfl (.refl _) rfl hall hr (by simp) hl (fun v' ha' hA=>?_)
  refine run ?_
  refine fin1 ?_
  rw [List.append_nil]
  exact hA
theorem num_e (n m:Int) (w:World):Fn Tryz.prog 44 [.int .i64 n,.int .i64 m].toArray w [] (fun u _=>u=.bool (decide (0≤n) && decide (n≤m))):=by
 refine enter Tryz.func44 ?_
 refine runG ?_
 exact fin1 rfl
def MemR (ws:List Nat) (u:Value) (hn:Hp):Prop:=∃ v h1,u=.agg #[v]∧Own 25 1 v h1 (ws.map uV)∧HpLe h1 hn
theorem copyMem_e {w:World} (xs:List Nat) (v:Value) (h:SlAt w v 1 (xs.map uV)) (hl:xs.length<1000000):Fn Tryz.prog 14 [.agg #[v]].toArray w [] (fun u hn=>MemR xs u hn):=by
 obtain ⟨q,cap,rfl,_⟩:=h.opened
 refine enter Tryz.func14 ?_
 refine run ?_
 intro B
 refine run ?_
 intro X Y
 refine run ?_
 refine callB (fun wc hG=>copyWords_e xs _ (h.good hG) hl) (fun v' hn hA=>?_)
 obtain ⟨q2,cap2,rfl⟩:=hA.own.opened
 refine ops_perm (_++hn) List.perm_append_comm ?_
 simp only [List.cons_append,List.nil_append]
 refine run ?_
 refine finA ⟨_,_,rfl,hA.own,?_⟩
 (refine hpLe_cnt fun a=>?_;simp only [cntB_app,cntB_cons,cntB_nil]<;>omega)
def memOk (n:Nat):Bool:=decide (8≤n) && decide (n≤512) && decide (n % 8=0)
theorem memOk_iff {n:Nat} (h:memOk n=true):8≤n∧n≤512∧n / 8 * 8=n∧n / 8≤64:=by
 simp only [memOk,Bool.and_eq_true,decide_eq_true_eq] at h
 omega
theorem rMem_e (n cap:Nat) (q:Option Addr) (w:World):Fn Tryz.prog 31 [.agg #[.slice q n cap]].toArray w [] (fun u _=>u=.bool (memOk n)):=by
 refine enter Tryz.func31 ?_
 refine run ?_
 intro B
 refine runG ?_
 refine opG (hy:=fun hg=>x_remN (by (simp only [hg,gv_true];rfl)) rfl n 8 (by rfl) (by rfl) (by decide)) (h:=?_)
 refine runG ?_
 refine fin1 ?_
 congr 1
 unfold memOk
 have c1:decide ((8:Int)≤(n:Int))=decide (8≤n):=by rw [Bool.eq_iff_iff,decide_eq_true_eq,decide_eq_true_eq];omega
 have c2:decide ((n:Int)≤512)=decide (n≤512):=by rw [Bool.eq_iff_iff,decide_eq_true_eq,decide_eq_true_eq];omega
 have c3:decide (((n % 8:Nat):Int)=0)=decide (n % 8=0):=by rw [Bool.eq_iff_iff,decide_eq_true_eq,decide_eq_true_eq];omega
 rw [c1,c2,c3]
theorem mMay_e (n cap:Nat) (hn:n<4611686018427387904) (q:Option Addr) (w:World):Fn Tryz.prog 130 [.agg #[.slice q n cap]].toArray w [] (fun u _=>u=.bool (memOk n)):=by
 refine enter Tryz.func130 ?_
 refine run ?_
 intro B
 refine runG ?_
 refine opG (hy:=fun hg=>x_remN (by (simp only [hg,gv_true];rfl)) rfl n 8 (by rfl) (by rfl) (by decide)) (h:=?_)
 refine runG ?_
 refine opG (hy:=fun hg=>x_quoN (by (simp only [hg,gv_true];rfl)) rfl n 8 (by rfl) (by rfl) (by decide) (by omega)) (h:=?_)
 refine runG ?_
 refine fin1 ?_
 congr 1
 unfold memOk
 have c1:decide ((0:Int)<(n:Int))=decide (0<n):=by rw [Bool.eq_iff_iff,decide_eq_true_eq,decide_eq_true_eq];omega
 have c2:decide (((n / 8:Nat):Int)≤64)=decide (n / 8≤64):=by rw [Bool.eq_iff_iff,decide_eq_true_eq,decide_eq_true_eq];omega
 have c3:decide (((n % 8:Nat):Int)=0)=decide (n % 8=0):=by rw [Bool.eq_iff_iff,decide_eq_true_eq,decide_eq_true_eq];omega
 rw [c1,c2,c3,Bool.eq_iff_iff]
 simp only [Bool.and_eq_true,decide_eq_true_eq]
 omega
theorem mCheck_e (n cap:Nat) (hn:n<4611686018427387904) (q:Option Addr) (w:World):Fn Tryz.prog 96 [.agg #[.slice q n cap]].toArray w [] (fun u _=>u=.int .i64 (bif memOk n then 0 else 1)):=by
 refine enter Tryz.func96 ?_
 refine run ?_
 intro B
 refine run ?_
 refine callE (fun wc hG=>mMay_e n cap hn q wc) ?_
 refine run ?_
 refine st_cond _ rfl (fun hc=>?_) (fun hc=>?_)
 ·refine run ?_
  refine fin1 ?_
  have:memOk n=false:=by simpa using hc
  rw [this];rfl
 ·refine run ?_
  refine fin1 ?_
  have:memOk n=true:=by simpa using hc
  rw [this];rfl
end Go.Proofs.YtndklbjnofdgeaaGreat
namespace Go.Proofs.YtndklbjnofdgeaaGreat
open Go.RowKit
set_option linter.unusedVariables false
set_option linter.unusedSimpArgs false
set_option maxRecDepth 20000
def W64 (ws:List Nat):Prop:=∀ x∈ws,x<18446744073709551616
theorem W64.at {ws:List Nat} (h:W64 ws) (p:Nat):ws.getD p 0<18446744073709551616:=by
 rw [List.getD_eq_getElem?_getD]
 cases hp:ws[p]? with
 | none=>simp
 | some x=>exact h x (List.mem_of_getElem? hp)
theorem W64.set {ws:List Nat} (h:W64 ws) {x:Nat} (hx:x<18446744073709551616) (p:Nat):W64 (ws.set p x):=by
 intro y hy
 rcases List.mem_or_eq_of_mem_set hy with hy | rfl
 ·exact h y hy
 ·exact hx
attribute [local irreducible] Hy St Ops DH DHF
section
variable {P : Program} {T : Tab} {n : Nat} {w0 : World} {mu : List Nat} {l : Fm} {hp : Hp} {dd : Option Nat} {ty : TypeId} {pos : String} {af : Array Edge} {gg : Option (Nat × Bool)} {t u : TypeId} {x y : Operand}
end
theorem Own.setU {e:Nat} {v:Value} {h:Hp} {xs:List Nat} (hA:Own e 1 v h (xs.map uV)) {k:Nat} (hk:k<xs.length):∃ g cap cur,v=.slice (some ⟨g,0,none⟩) xs.length cap∧h=[⟨g,cur,e⟩]∧k + 1≤cur.size ∧
  ∀ z:Nat,Own e 1 (.slice (some ⟨g,0,none⟩) xs.length cap) [⟨g,cur.setIfInBounds k (.int .u64 (z:Int)),e⟩] ((xs.set k z).map uV):=by
 obtain ⟨g,cap,cur,rfl,rfl,hr⟩:=hA.row (n:=xs.length) (by simp) (by omega)
 have hall0:∀ (ys:List Nat),∀ c∈ys.map uV,c.length=1∧c.all (·.oneCell')=true:=by
  intro ys c hc
  obtain ⟨x,_,rfl⟩:=List.mem_map.1 hc
  exact ⟨rfl,rfl⟩
 have hall:∀ c∈xs.map uV,c.length=1:=fun c hc=>(hall0 xs c hc).1
 have hi:(xs.map uV)[k]?=some (uV (xs.getD k 0)):=by
  rw [List.getElem?_map,List.getD_eq_getElem?_getD,List.getElem?_eq_getElem hk];rfl
 have hsz:=hr.size
 have hle:=hr.le
 refine ⟨g,cap,cur,rfl,rfl,by omega,fun z=>⟨hall0 _,.inr ⟨g,cap,_,by simp,rfl,?_⟩⟩⟩
 have h2:=hr.put hall hi (k:=0) (vs:=[.int .u64 (z:Int)]) (by simp)
 have e1:(uV (xs.getD k 0)).take 0++[Value.int .u64 (z:Int)]++(uV (xs.getD k 0)).drop (0 + [Value.int .u64 (z:Int)].length)=uV z:=rfl
 rw [e1,Nat.mul_one,Nat.add_zero] at h2
 have e2:((xs.set k z).map uV).length=xs.length:=by simp
 rw [e2,List.map_set]
 exact h2
theorem Own.setG {e g n cap:Nat} {cur:Array Value} {xs:List Nat} (hA:Own e 1 (.slice (some ⟨g,0,none⟩) n cap) [⟨g,cur,e⟩] (xs.map uV)) {k:Nat} (hk:k<xs.length):k + 1≤cur.size∧k<n∧n=xs.length ∧
  ∀ z:Nat,Own e 1 (.slice (some ⟨g,0,none⟩) n cap) [⟨g,cur.setIfInBounds k (.int .u64 (z:Int)),e⟩] ((xs.set k z).map uV):=by
 obtain ⟨g',cap',cur',e1,e2,h1,h2⟩:=hA.setU hk
 injection e1 with e1 e3 e4
 injection e1 with e1
 injection e1 with e1
 injection e2 with e2
 injection e2 with _ e2
 subst e1 e3 e4 e2
 exact ⟨h1,hk,rfl,h2⟩
theorem ops_sub {n:Nat} {w0:World} {mu:List Nat} {l:Fm} {Q:Exit→Fm→Hp→Prop} {all:Array Oper} {ops:List Oper} {h1 hn rest:Hp} (hle:HpLe h1 hn) (h:Ops Tryz.prog n w0 mu all ops l (h1++rest) Q):Ops Tryz.prog n w0 mu all ops l (hn++rest) Q:=ops_le _ (by (refine hpLe_cnt fun a=>?_;have:=HpLe.cnt hle a;simp only [cntB_app,cntB_cons,cntB_nil] at *;omega)) h
theorem idx_least {α:Type} [Inhabited α] (p:α→Bool) (l:List α):∀ j,p (l.getD j default)=true→∃ j0,j0≤j∧p (l.getD j0 default)=true∧∀ i,i<j0→p (l.getD i default)=false:=by
 intro j
 induction j using Nat.strongRecOn with
 | ind j ih=>
  intro h
  by_cases hx:∃ i,i<j∧p (l.getD i default)=true
  ·obtain ⟨i,hi,hp⟩:=hx
   obtain ⟨j0,h0,h1,h2⟩:=ih i hi hp
   exact ⟨j0,by omega,h1,h2⟩
  ·refine ⟨j,Nat.le_refl _,h,fun i hi=>?_⟩
   cases hp:p (l.getD i default) with
   | false=>rfl
   | true=>exact absurd ⟨i,hi,hp⟩ hx
end Go.Proofs.YtndklbjnofdgeaaGreat
namespace Go.Proofs.YtndklbjnofdgeaaGreat
open Go.RowKit
set_option linter.unusedVariables false
set_option linter.unusedSimpArgs false
set_option maxRecDepth 20000
theorem Own.nil (e sz:Nat):Own e sz (.slice none 0 0) [] []:=⟨by simp,.inl ⟨rfl,rfl,rfl⟩⟩
theorem HpLe.mem {r h:Hp} (hl:HpLe r h) {b:Blk} (hb:b∈r):b∈h:=by
 obtain ⟨x,hx⟩:=hl.perm
 exact hx.mem_iff.1 (List.mem_append_left _ hb)
attribute [local irreducible] Hy St Ops DH DHF
theorem SlAt.drop {w:World} {p:Option Addr} {n c i:Nat} {xs:List Int} (h:SlAt w (.slice p n c) 1 (xs.map inV)) (hn:n=xs.length) (hc:n≤c) (hi:i≤n):∃ p',sliced p i n c 1=.slice p' (xs.drop i).length (c - i)∧(xs.drop i).length≤c - i∧SlAt w (.slice p' (xs.drop i).length (c - i)) 1 ((xs.drop i).map inV):=by
 subst hn
 obtain ⟨⟨q,cap,e,hne⟩,hle⟩:=h
 injection e with e1 e2 e3
 subst e1 e3
 have hdl:(xs.drop i).length=xs.length - i:=List.length_drop
 refine ⟨_,by unfold sliced;rw [hdl],by omega,⟨⟨_,_,by rw [List.length_map],fun hx=>?_⟩,by rw [List.length_map] at hle ⊢;omega⟩⟩
 have hlt:i<xs.length:=by
  rcases Nat.lt_or_ge i xs.length with h | h
  ·exact h
  ·rw [List.drop_eq_nil_of_le h] at hx;exact absurd rfl hx
 obtain ⟨b,o,rfl,hr⟩:=hne (by intro e;simp at e;subst e;simp at hlt)
 refine ⟨b,o + i,?_,fun j cc hj=>?_⟩
 ·rw [if_neg (by omega),Nat.mul_one];simp [slice_add]
 ·rw [List.map_drop,List.getElem?_drop] at hj
  have:=hr (i + j) cc hj
  rw [Nat.mul_one] at this ⊢
  rwa [← Nat.add_assoc] at this
end Go.Proofs.YtndklbjnofdgeaaGreat
namespace Go.Proofs.YtndklbjnofdgeaaGreat
open Go.RowKit
set_option linter.unusedVariables false
set_option linter.unusedSimpArgs false
set_option maxRecDepth 20000
section
variable {P : Program} {n : Nat} {w0 : World} {mu : List Nat} {lf : Fm} {hp : Hp} {dd : Option Tmp} {ty : TypeId} {pos : String} {af : Array Edge}
theorem r_nilCheck {x:Operand} {p:Addr} (hx:ev lf x=some (.pointer (some p))):HyR P n w0 mu lf hp ⟨dd,.nilCheck x,ty,pos,af,none⟩ (.pointer (some p)):=⟨rfl,fun a w hk _=>by simp [execOp,hk.ev hx]⟩
theorem r_field {T:Tab} (ok:TabOk P T) {t:TypeId} {x:Operand} {k b off k' off':Nat} {os:List Nat} (hx:ev lf x=some (.pointer (some ⟨b,off,none⟩))) (ho:lk T.fo t=some os) (hk2:nth os k=some k') (he:off + k'=off'):HyR P n w0 mu lf hp ⟨dd,.fieldAddr t x k,ty,pos,af,none⟩ (.pointer (some ⟨b,off',none⟩)):=by
 have hf:=ok.gfo ho (by rw [nth_eq] at hk2;simpa using hk2)
 subst he
 refine ⟨rfl,fun a w hk _=>?_⟩
 simp only [execOp,hk.ev hx]
 unfold fOff at hf
 cases hu:P.underlying t with
 | none=>rw [hu] at hf;cases hf
 | some dd=>
  rw [hu] at hf
  cases dd with
  | struct fs=>
   simp only at hf
   cases hq:fs[k]? with
   | none=>rw [hq] at hf;cases hf
   | some f=>
    rw [hq] at hf
    simp only [Option.bind_some] at hf
    cases hz:szOf P f.type with
    | none=>rw [hz] at hf;cases hf
    | some s=>
     rw [hz] at hf
     cases s with
     | zero=>cases hf
     | succ s=>
      simp only [Option.some.injEq] at hf
      subst hf
      cases hi:P.info? f.type with
      | none=>simp [szOf,hi] at hz
      | some i=>
       have hsz:i.size=s + 1:=by simpa [szOf,hi] using hz
       simp [Instr.fieldAt,Instr.sureAddr,run_underlying hu w,hq,fieldPlace,sizeOf,typeInfo,hi,hsz,add_lit]
  | _=>cases hf
variable {l : Fm} {all : Array Oper} {iv : Fm} {i d : Nat} {ds : List (Nat × Nat)} {D : List Nat} {Y : Fm → Prop}
end
section
variable {n : Nat} {w0 : World} {mu : List Nat} {l : Fm} {hp : Hp} {all : Array Oper} {iv : Fm} {i d : Nat} {ds : List (Nat × Nat)} {D : List Nat} {Y : Fm → Prop} {ty : TypeId} {pos : String} {af : Array Edge}
theorem dNilCheck {x:Operand} {p:Addr} (h:DE3 Tryz.prog n w0 mu all ds l hp Y D ((i,.pointer (some p))::iv)) (ho:all[i]?=some ⟨some d,.nilCheck x,ty,pos,af,none⟩:=by rfl) (hx:ev (depFm ds iv af.toList++l) x=some (.pointer (some p)):=by rfl):DE3 Tryz.prog n w0 mu all ds l hp Y (i::D) iv:=de3_d ho (r_nilCheck hx) h
theorem dField {t:TypeId} {x:Operand} {k b off k' off':Nat} {os:List Nat} (h:DE3 Tryz.prog n w0 mu all ds l hp Y D ((i,.pointer (some ⟨b,off',none⟩))::iv)) (ho:all[i]?=some ⟨some d,.fieldAddr t x k,ty,pos,af,none⟩:=by rfl) (hx:ev (depFm ds iv af.toList++l) x=some (.pointer (some ⟨b,off,none⟩)):=by rfl) (hfo:lk Tb.fo t=some os:=by rfl) (hk:nth os k=some k':=by rfl) (he:off + k'=off':=by rfl):DE3 Tryz.prog n w0 mu all ds l hp Y (i::D) iv:=de3_d ho (r_field tb_ok hx hfo hk he) h
theorem sCallE {f:FuncId} {xs:List Operand} {vs:List Value} {tys:Array TypeId} {v:Value} {X:Fm→Prop} {S:List Nat} (hc:∀ w hx,Good w0 mu (hx++hp) w→Fn Tryz.prog f vs.toArray w [] (fun u _=>u=v)) (h:DE1 Tryz.prog n w0 mu all ds l hp X S ((i,v)::iv)) (ho:all[i]?=some ⟨some d,.call { callee:=.value (.func f),args:=xs.toArray,argTypes:=tys },ty,pos,af,none⟩:=by rfl) (hcal:mem calN f=true:=by rfl) (hv:evs (depFm ds iv af.toList++l) xs=some vs:=by rfl):DE1 Tryz.prog n w0 mu all ds l hp X (i::S) iv:=
 de1_s ho (fun hx=>x_call (calOk f hcal) hv (fun w hG=>hc w hx hG)) h
end
section
variable {P : Program} {n : Nat} {w0 : World} {mu : List Nat} {l : Fm} {h0 hp hc : Hp} {all : Array Oper} {iv ivS ivE : Fm} {i d t0 : Nat} {ds : List (Nat × Nat)} {S r : List Nat} {X : Fm → Prop} {Y : Fm → Hp → Prop} {op : Op} {ty : TypeId} {pos : String} {af : Array Edge} {v : Value} {j dj : Nat} {want b : Bool}
end
section
variable {n : Nat} {w0 : World} {mu : List Nat} {l : Fm} {h0 hp hc : Hp} {all : Array Oper} {iv ivS ivE : Fm} {i d : Nat} {ds : List (Nat × Nat)} {r : List Nat} {Y : Fm → Hp → Prop} {ty : TypeId} {pos : String} {af : Array Edge}
end
section
variable {P : Program} {n : Nat} {w0 : World} {mu : List Nat} {l : Fm} {hp : Hp} {dd : Option Tmp} {ty : TypeId} {pos : String} {af : Array Edge} {gg : Option (Nat × Bool)} {t u : TypeId} {x y : Operand}
theorem x_xorN {pi qi:Int} (hx:ev l x=some (.int .u64 pi)) (hy:ev l y=some (.int .u64 qi)) (p q:Nat) (hpi:pi=(p:Int)) (hqi:qi=(q:Int))  (h1:p<18446744073709551616) (h2:q<18446744073709551616):Hy P n w0 mu l hp ⟨dd,.binOp .xor t x y u,ty,pos,af,gg⟩ (.int .u64 ((p ^^^ q:Nat):Int)):=
 hy_run fun ac w hk _=>by
  subst hpi hqi
  have:=u64_xor_nat p q h1 h2
  simp only [execOp,hk.ev hx,hk.ev hy]
  simp [eqGuard_xor,binOp_xor,intBits_xor,this]
end
section
variable {P : Program} {n : Nat} {w0 : World} {mu : List Nat} {l : Fm} {hp : Hp} {Q : Exit → Fm → Hp → Prop} {all : Array Oper} {rest : List Oper} {dst : Option Nat} {op : Op} {ty : TypeId} {pos : String} {af : Array Edge}
theorem opsGT {j dj:Nat} {want b:Bool} (h:Ops P n w0 mu all (⟨dst,op,ty,pos,af,none⟩::rest) l hp Q) (hw:wnt b want=true) (hj:(all[j]?).bind (·.dst)=some dj:=by rfl) (hb:look l dj=some (.bool b):=by rfl) (hdj:Nat.blt dj n=true:=by rfl):Ops P n w0 mu all (⟨dst,op,ty,pos,af,some (j,want)⟩::rest) l hp Q:=by
 intro a w hk hG
 have h1:=h a w hk hG
 have h2:=wanted_of (o:=⟨dst,op,ty,pos,af,some (j,want)⟩) (c0:=true) hk rfl hj hb hdj
 rw [hw] at h2
 replace h2:Region.wanted (⟨dst,op,ty,pos,af,some (j,want)⟩:Oper) (yielded all a.tmps)=true:=h2
 unfold wpList at h1 ⊢
 rw [if_pos h2]
 rw [if_pos (by simp [Region.wanted])] at h1
 exact h1
end
theorem SlAt.takeN {w:World} {α:Type} {f:α→List Value} {xs:List α} {p:Option Addr} {n cap sz k:Nat} (h:SlAt w (.slice p n cap) sz (xs.map f)) (hk:k≤xs.length):SlAt w (.slice p k cap) sz ((xs.take k).map f):=by
 obtain ⟨⟨q,c,e,hne⟩,hle⟩:=h
 injection e with e1 e2 e3
 subst e1 e3
 have hl:((xs.take k).map f).length=k:=by rw [List.length_map,List.length_take];omega
 refine ⟨⟨_,_,by rw [hl],fun hx=>?_⟩,by rw [hl];rw [List.length_map] at hle;omega⟩
 obtain ⟨b,off,rfl,hr⟩:=hne (by intro e;apply hx;rw [List.map_eq_nil_iff] at e ⊢;rw [e];simp)
 refine ⟨b,off,rfl,fun i c hi=>hr i c ?_⟩
 rw [List.map_take,List.getElem?_take] at hi
 split at hi
 ·exact hi
 ·cases hi
attribute [local irreducible] Hy St Ops DH DHF DE1 DE2 DE3 DS DCh
end Go.Proofs.YtndklbjnofdgeaaGreat
namespace Go.Proofs.YtndklbjnofdgeaaGreat
open Go.RowKit
set_option linter.unusedVariables false
set_option linter.unusedSimpArgs false
set_option maxRecDepth 20000
theorem dAssign {n:Nat} {w0:World} {mu:List Nat} {l:Fm} {hp:Hp} {all:Array Oper} {iv:Fm} {i d:Nat} {ds:List (Nat × Nat)} {D:List Nat} {Y:Fm→Prop} {ty:TypeId} {pos:String} {af:Array Edge} {x:Operand} {v:Value} (h:DE3 Tryz.prog n w0 mu all ds l hp Y D ((i,v)::iv)) (ho:all[i]?=some ⟨some d,.assign x,ty,pos,af,none⟩:=by rfl) (hx:ev (depFm ds iv af.toList++l) x=some v:=by rfl):DE3 Tryz.prog n w0 mu all ds l hp Y (i::D) iv:=de3_d ho (r_assign hx) h
end Go.Proofs.YtndklbjnofdgeaaGreat
namespace Go.Proofs.YtndklbjnofdgeaaGreat
open Go.RowKit
set_option linter.unusedVariables false
set_option linter.unusedSimpArgs false
set_option maxRecDepth 20000
attribute [local irreducible] Hy St Ops DH DHF
structure EnD where
 kind:Int
 vmid:Int
 asid:Int
 all:Bool
 page:Int
 level:Int
 frame:Int
 mid:Int
 r:Bool
 w:Bool
 x:Bool
 af:Bool
 ng:Bool
 soft:Int
deriving DecidableEq
instance : Inhabited EnD := ⟨⟨0, 0, 0, false, 0, 0, 0, 0, false, false, false, false, false, 0⟩⟩
abbrev enV (e:EnD):List Value:=[.int .i64 e.kind,.int .i64 e.vmid,.int .i64 e.asid,.bool e.all,.int .i64 e.page,.int .i64 e.level,.int .i64 e.frame,.int .i64 e.mid,.bool e.r,.bool e.w,.bool e.x,.bool e.af,.bool e.ng,.int .i64 e.soft]
structure IvD where
 kind:Int
 vmid:Int
 asid:Int
 page:Int
deriving DecidableEq
instance : Inhabited IvD := ⟨⟨0, 0, 0, 0⟩⟩
abbrev ivV (i:IvD):List Value:=[.int .i64 i.kind,.int .i64 i.vmid,.int .i64 i.asid,.int .i64 i.page]
def EnD.nums (e:EnD):Bool:=PtD.btw e.vmid 0 15 && PtD.btw e.asid 0 15 && PtD.btw e.page 0 4095 && PtD.btw e.frame 0 4095 && PtD.btw e.mid 0 4095 && decide (e.soft=0)
def EnD.bare (e:EnD):Bool:=!e.r && !e.w && !e.x && !e.af && !e.ng && decide (e.soft=0)
def cutN (level page:Nat):Nat:=page - page % coversN level
def EnD.may (e:EnD):Bool:=e.nums &&
 bif decide (e.kind=1) then decide (e.level=0)
 else bif decide (e.kind=2) then decide (e.asid=0) && e.all && decide (e.level=0) && decide (e.mid=0) && !e.ng
 else bif decide (e.kind=3) then PtD.btw e.level 1 3 && decide (cutN (e.level.toNat - 1) e.page.toNat=e.page.toNat) && decide (e.mid=0) && e.bare
 else false
def IvD.may (i:IvD):Bool:=PtD.btw i.kind 1 6 && PtD.btw i.vmid 0 15 && PtD.btw i.asid 0 15 && PtD.btw i.page 0 4095
end Go.Proofs.YtndklbjnofdgeaaGreat
namespace Go.Proofs.YtndklbjnofdgeaaGreat
open Go.RowKit
set_option linter.unusedVariables false
set_option linter.unusedSimpArgs false
set_option maxRecDepth 20000
theorem eqEn (a b:EnD):eqLeaves (enV a) (enV b)=decide (a=b):=by
 obtain ⟨a1,a2,a3,a4,a5,a6,a7,a8,a9,a10,a11,a12,a13,a14⟩:=a
 obtain ⟨b1,b2,b3,b4,b5,b6,b7,b8,b9,b10,b11,b12,b13,b14⟩:=b
 rw [Bool.eq_iff_iff,decide_eq_true_eq]
 simp [eqLeaves,eqLeaf]
def enOk (es:List EnD) (k:Nat):Bool:=(es.getD k default).may && !(es.take k).any fun t=>decide (t=es.getD k default)
def tlbOk (es:List EnD) (ds:List IvD):Bool:=((List.range es.length).all fun k=>enOk es k) && ds.all IvD.may && decide (es.length≤8) && decide (ds.length≤8)
theorem all_upto {p:Nat→Bool} {n:Nat} (h:∀ j,j<n→p j=true):(List.range n).all p=true:=List.all_eq_true.2 fun j hj=>h j (List.mem_range.1 hj)
theorem all_not {p:Nat→Bool} {n k:Nat} (hk:k<n) (h:p k=false):(List.range n).all p=false:=by
 cases hc:(List.range n).all p with
 | false=>rfl
 | true=>rw [List.all_eq_true.1 hc k (List.mem_range.2 hk)] at h;cases h
theorem tlbOk_e {es:List EnD} {ds:List IvD} {k:Nat} (hk:k<es.length) (h:enOk es k=false):tlbOk es ds=false:=by
 unfold tlbOk
 rw [all_not hk h];rfl
attribute [local irreducible] Hy St Ops DH DHF
structure TlD where
 es:List EnD
 ds:List IvD
 ep:Option Addr
 ec:Nat
 dp:Option Addr
 dc:Nat
instance : Inhabited TlD := ⟨⟨[], [], none, 0, none, 0⟩⟩
abbrev TlD.ev (t:TlD):Value:=.slice t.ep t.es.length t.ec
abbrev TlD.dv (t:TlD):Value:=.slice t.dp t.ds.length t.dc
abbrev tlV (t:TlD):List Value:=[t.ev,t.dv]
structure TlAt (w:World) (v:Value) (ts:List TlD):Prop where
 rows:SlAt w v 2 (ts.map tlV)
 en:∀ t∈ts,SlAt w t.ev 14 (t.es.map enV)
 iv:∀ t∈ts,SlAt w t.dv 4 (t.ds.map ivV)
theorem TlAt.good {w w':World} {hp:Hp} {v:Value} {ts:List TlD} (h:TlAt w v ts) (hG:Good w [] hp w'):TlAt w' v ts:=⟨h.rows.good hG,fun t ht=>(h.en t ht).good hG,fun t ht=>(h.iv t ht).good hG⟩
theorem getD_mem {α:Type} [Inhabited α] {l:List α} {k:Nat} (h:k<l.length):l.getD k default∈l:=by
 rw [List.getD_eq_getElem?_getD,List.getElem?_eq_getElem h];exact List.getElem_mem h
end Go.Proofs.YtndklbjnofdgeaaGreat
namespace Go.Proofs.YtndklbjnofdgeaaGreat
open Go.RowKit
set_option linter.unusedVariables false
set_option linter.unusedSimpArgs false
set_option maxRecDepth 20000
structure RgD where
 x0:Nat
 x1:Nat
 x2:Nat
 x3:Nat
 x4:Nat
 x5:Nat
 x6:Nat
 x7:Nat
 pc:Nat
 ttbr:Nat
 sctlr:Nat
 vbar:Nat
 elr:Nat
 esr:Nat
 far:Nat
deriving DecidableEq
def noRg:RgD:=⟨0,0,0,0,0,0,0,0,0,0,0,0,0,0,0⟩
instance : Inhabited RgD := ⟨noRg⟩
abbrev rgV (r:RgD):List Value:=[.int .u64 (r.x0:Int),.int .u64 (r.x1:Int),.int .u64 (r.x2:Int),.int .u64 (r.x3:Int),.int .u64 (r.x4:Int),.int .u64 (r.x5:Int),.int .u64 (r.x6:Int),.int .u64 (r.x7:Int),.int .u64 (r.pc:Int),.int .u64 (r.ttbr:Int),.int .u64 (r.sctlr:Int),.int .u64 (r.vbar:Int),.int .u64 (r.elr:Int),.int .u64 (r.esr:Int),.int .u64 (r.far:Int)]
structure VcD where
 r:RgD
 on:Int
deriving DecidableEq
instance : Inhabited VcD := ⟨⟨noRg, 0⟩⟩
abbrev vcV (c:VcD):List Value:=[.int .u64 (c.r.x0:Int),.int .u64 (c.r.x1:Int),.int .u64 (c.r.x2:Int),.int .u64 (c.r.x3:Int),.int .u64 (c.r.x4:Int),.int .u64 (c.r.x5:Int),.int .u64 (c.r.x6:Int),.int .u64 (c.r.x7:Int),.int .u64 (c.r.pc:Int),.int .u64 (c.r.ttbr:Int),.int .u64 (c.r.sctlr:Int),.int .u64 (c.r.vbar:Int),.int .u64 (c.r.elr:Int),.int .u64 (c.r.esr:Int),.int .u64 (c.r.far:Int),.int .i64 c.on]
structure CpD where
 r:RgD
 vm:Int
 vc:Int
 t:TlD
instance : Inhabited CpD := ⟨⟨noRg, 0, 0, default⟩⟩
abbrev cpV (c:CpD):List Value:=[.int .u64 (c.r.x0:Int),.int .u64 (c.r.x1:Int),.int .u64 (c.r.x2:Int),.int .u64 (c.r.x3:Int),.int .u64 (c.r.x4:Int),.int .u64 (c.r.x5:Int),.int .u64 (c.r.x6:Int),.int .u64 (c.r.x7:Int),.int .u64 (c.r.pc:Int),.int .u64 (c.r.ttbr:Int),.int .u64 (c.r.sctlr:Int),.int .u64 (c.r.vbar:Int),.int .u64 (c.r.elr:Int),.int .u64 (c.r.esr:Int),.int .u64 (c.r.far:Int),.int .i64 c.vm,.int .i64 c.vc,c.t.ev,c.t.dv]
structure CpAt (w:World) (v:Value) (cs:List CpD):Prop where
 rows:SlAt w v 19 (cs.map cpV)
 en:∀ c∈cs,SlAt w c.t.ev 14 (c.t.es.map enV)
 iv:∀ c∈cs,SlAt w c.t.dv 4 (c.t.ds.map ivV)
theorem CpAt.good {w w':World} {hp:Hp} {v:Value} {cs:List CpD} (h:CpAt w v cs) (hG:Good w [] hp w'):CpAt w' v cs:=⟨h.rows.good hG,fun t ht=>(h.en t ht).good hG,fun t ht=>(h.iv t ht).good hG⟩
structure VmD where
 live:Bool
 dying:Bool
 vmid:Int
 fs:List Int
 fp:Option Addr
 fc:Nat
 fr:List Int
 rp:Option Addr
 rc:Nat
 vs:List VcD
 vp:Option Addr
 vk:Nat
instance : Inhabited VmD := ⟨⟨false, false, 0, [], none, 0, [], none, 0, [], none, 0⟩⟩
abbrev VmD.fv (m:VmD):Value:=.slice m.fp m.fs.length m.fc
abbrev VmD.rv (m:VmD):Value:=.slice m.rp m.fr.length m.rc
abbrev VmD.vv (m:VmD):Value:=.slice m.vp m.vs.length m.vk
abbrev vmV (m:VmD):List Value:=[.bool m.live,.bool m.dying,.int .i64 m.vmid,m.fv,m.rv,m.vv]
structure VmAt (w:World) (v:Value) (ms:List VmD):Prop where
 rows:SlAt w v 6 (ms.map vmV)
 fs:∀ m∈ms,SlAt w m.fv 1 (m.fs.map inV)
 fr:∀ m∈ms,SlAt w m.rv 1 (m.fr.map inV)
 vs:∀ m∈ms,SlAt w m.vv 16 (m.vs.map vcV)
theorem VmAt.good {w w':World} {hp:Hp} {v:Value} {cs:List VmD} (h:VmAt w v cs) (hG:Good w [] hp w'):VmAt w' v cs:=⟨h.rows.good hG,fun t ht=>(h.fs t ht).good hG,fun t ht=>(h.fr t ht).good hG,fun t ht=>(h.vs t ht).good hG⟩
structure HyAt (w:World) (wv cv vv rv:Value) (ws:List Nat) (cs:List CpD) (vs:List VmD) (rs:List RgD):Prop where
 w64:W64 ws
 ws:SlAt w wv 1 (ws.map uV)
 cs:CpAt w cv cs
 vs:VmAt w vv vs
 rs:SlAt w rv 15 (rs.map rgV)
theorem HyAt.good {w w':World} {hp:Hp} {wv cv vv rv:Value} {ws:List Nat} {cs:List CpD} {vs:List VmD} {rs:List RgD} (h:HyAt w wv cv vv rv ws cs vs rs) (hG:Good w [] hp w'):HyAt w' wv cv vv rv ws cs vs rs:=⟨h.w64,h.ws.good hG,h.cs.good hG,h.vs.good hG,h.rs.good hG⟩
def cpu0:CpD:=⟨noRg,0,0,⟨[],[],none,0,none,0⟩⟩
def vm0:VmD:=⟨false,false,0,[],none,0,[],none,0,[],none,0⟩
theorem slAt_nil (w:World) (sz:Nat):SlAt w (.slice none 0 0) sz []:=⟨⟨none,0,rfl,fun h=>absurd rfl h⟩,by simp⟩
theorem CpAt.zero {w:World} {b t C:Nat} (h:w.heap[b]?=some (.cells ((List.replicate C (cpV cpu0)).flatten).toArray t (0,0))) (hC:C≤1000):CpAt w (.slice (some ⟨b,0,none⟩) C C) (List.replicate C cpu0):=by
 refine ⟨?_,fun c hc=>?_,fun c hc=>?_⟩
 ·have:=lie_rows (w:=w) (b:=b) (t:=t) (cap:=C) (sz:=19) (xs:=List.replicate C (cpV cpu0)) h (by intro c hc;rw [List.eq_of_mem_replicate hc];rfl) (by simp;omega)
  simpa using this
 ·rw [List.eq_of_mem_replicate hc];exact slAt_nil _ _
 ·rw [List.eq_of_mem_replicate hc];exact slAt_nil _ _
theorem VmAt.zero {w:World} {b t C:Nat} (h:w.heap[b]?=some (.cells ((List.replicate C (vmV vm0)).flatten).toArray t (0,0))) (hC:C≤1000):VmAt w (.slice (some ⟨b,0,none⟩) C C) (List.replicate C vm0):=by
 refine ⟨?_,fun c hc=>?_,fun c hc=>?_,fun c hc=>?_⟩
 ·have:=lie_rows (w:=w) (b:=b) (t:=t) (cap:=C) (sz:=6) (xs:=List.replicate C (vmV vm0)) h (by intro c hc;rw [List.eq_of_mem_replicate hc];rfl) (by simp;omega)
  simpa using this
 ·rw [List.eq_of_mem_replicate hc];exact slAt_nil _ _
 ·rw [List.eq_of_mem_replicate hc];exact slAt_nil _ _
 ·rw [List.eq_of_mem_replicate hc];exact slAt_nil _ _
attribute [local irreducible] Hy St Ops DH DHF DE1 DE2 DE3 DS DCh
end Go.Proofs.YtndklbjnofdgeaaGreat
namespace Go.Proofs.YtndklbjnofdgeaaGreat
open Go.RowKit
set_option linter.unusedVariables false
set_option linter.unusedSimpArgs false
theorem hyG_perm {P:Program} {n:Nat} {w0:World} {mu:List Nat} {all:Array Oper} {lf:Fm} {hp hp':Hp} {o:Oper} {v:Value} (h:HyG P n w0 mu all lf hp o v) (hp2:hp.Perm hp'):HyG P n w0 mu all lf hp' o v:=by
 have go:∀ {u:Value},Hy P n w0 mu lf hp o u→Hy P n w0 mu lf hp' o u:=fun hy a w hk hG K Q hK=>hy a w hk (hG.perm hp2) K Q fun w' hG'=>hK w' (hG'.perm hp2.symm)
 unfold HyG at h ⊢
 cases hg:o.guard with
 | none=>rw [hg] at h;exact go h
 | some jw=>
  obtain ⟨j,want⟩:=jw
  rw [hg] at h
  obtain ⟨dj,c0,b,u,h1,h2,h3,h4,h5⟩:=h
  exact ⟨dj,c0,b,u,h1,h2,h3,fun a b=>go (h4 a b),h5⟩
def EoW (P:Program) (n:Nat) (w0:World) (mu:List Nat) (all:Array Oper) (lf:Fm) (hi rest:Hp) (o:Oper) (R:RT):Prop:=
 (∀ a,Knows n lf a→Region.wanted o (yielded all a.tmps)=true)∧∀ a w hx,Knows n lf a→Good w0 mu (hx++(hi++rest)) w→∀ (K:Act→World→Prop) (Q:Exit→Act→World→Prop),(∀ v hn w',R v hn→Good w0 mu (hn++(hx++rest)) w'→K (a.put o.dst v) w')→o.wp P a w K Q
def hbW (i0:Nat) (hi rest:Hp) (listed:Array Bool):Hp:=bif listed.getD i0 false then rest else hi++rest
def DE2W (P:Program) (n:Nat) (w0:World) (mu:List Nat) (all:Array Oper) (ds:List (Nat × Nat)) (l:Fm) (i0:Nat) (hi rest:Hp) (iv:Fm) (X:List (Nat × RT)→Prop):List Nat→List (Nat × RT)→Prop
 | [],Rs=>X Rs
 | i::E,Rs=>∃ o R,all[i]?=some o∧((i ≠ i0→EoR P n w0 mu all (depFm ds iv o.after.toList++l) rest o R)∧(i=i0→EoW P n w0 mu all (depFm ds iv o.after.toList++l) hi rest o R))∧(∃ v hn,R v hn)∧DE2W P n w0 mu all ds l i0 hi rest iv X E ((i,R)::Rs)
section
variable {P : Program} {n : Nat} {w0 : World} {mu : List Nat} {l : Fm} {hi rest : Hp} {i0 : Nat} {Q : Exit → Fm → Hp → Prop} {all : Array Oper} {kd : Nat → Kd} {val : Ch → Nat → Value} {k : Nat} {ds : List (Nat × Nat)}
theorem de2w_mono {iv:Fm} {X Y:List (Nat × RT)→Prop}:∀ (E:List Nat) (Rs:List (Nat × RT)) (hXY:∀ Rs',Rs'.map (·.1)=E.reverse++Rs.map (·.1)→X Rs'→Y Rs'),DE2W P n w0 mu all ds l i0 hi rest iv X E Rs→DE2W P n w0 mu all ds l i0 hi rest iv Y E Rs:=by
 intro E
 induction E with
 | nil=>intro Rs hXY h;exact hXY Rs (by simp) h
 | cons i E ih=>
  rintro Rs hXY ⟨o,R,ho,hy,hn,h⟩
  exact ⟨o,R,ho,hy,hn,ih _ (fun Rs' e=>hXY Rs' (by rw [e];simp)) h⟩
theorem de2w_get {iv:Fm} {X:List (Nat × RT)→Prop}:∀ (E:List Nat) (Rs:List (Nat × RT)),E.Nodup→(∀ i∈E,lk Rs i=none)→DE2W P n w0 mu all ds l i0 hi rest iv X E Rs →
  (∀ i R,(i,R)∈Rs→lk Rs i=some R∧∃ o,all[i]?=some o∧((i ≠ i0→EoR P n w0 mu all (depFm ds iv o.after.toList++l) rest o R)∧(i=i0→EoW P n w0 mu all (depFm ds iv o.after.toList++l) hi rest o R))∧∃ v hn,R v hn) →
  ∃ RE,X RE∧(∀ i,(∃ R,lk RE i=some R)↔i∈E∨∃ R,lk Rs i=some R)∧∀ i R,(i,R)∈RE→lk RE i=some R∧∃ o,all[i]?=some o∧((i ≠ i0→EoR P n w0 mu all (depFm ds iv o.after.toList++l) rest o R)∧(i=i0→EoW P n w0 mu all (depFm ds iv o.after.toList++l) hi rest o R))∧∃ v hn,R v hn:=by
 intro E
 induction E with
 | nil=>intro Rs _ _ h hs;exact ⟨Rs,h,fun i=>by simp,hs⟩
 | cons i E ih=>
  rintro Rs hnd hno ⟨o,R,ho,hy,hinh,h⟩ hs
  rw [List.nodup_cons] at hnd
  have hi:=hno i (List.mem_cons_self ..)
  obtain ⟨RE,hX,hk,hs2⟩:=ih ((i,R)::Rs) hnd.2 (fun j hj=>by rw [lk_cons,if_neg (by rintro rfl;exact hnd.1 hj)];exact hno j (List.mem_cons_of_mem _ hj)) h (fun j R' hj=>by
   rcases List.mem_cons.1 hj with hj | hj
   ·cases hj
    exact ⟨by rw [lk_cons,if_pos rfl],o,ho,hy,hinh⟩
   ·obtain ⟨h1,h2⟩:=hs j R' hj
    refine ⟨?_,h2⟩
    rw [lk_cons]
    by_cases hij:i=j
    ·subst hij;rw [hi] at h1;cases h1
    ·rw [if_neg hij];exact h1)
  refine ⟨RE,hX,fun j=>?_,hs2⟩
  rw [hk,List.mem_cons,lk_cons]
  by_cases hij:i=j
  ·subst hij;simp
  ·rw [if_neg hij];simp [Ne.symm hij]
theorem headE_runW {ds:List (Nat × Nat)} (hds:∀ k d,lk ds k=some d→dstAt all k=some d) {g:Nat} {Q':Exit→Act→World→Prop} (hk:k≤all.size) (hd:dstB all k n=true) (hf:freshB l (dstsOf all k)=true) (hback:backB all=true)
  (hi0k:i0<k) (hi0E:isE (kd i0)=true)
  (hS:∀ i o v,i<k→all[i]?=some o→kd i=.s v→(∀ c,val c i=v)∧∃ iv',(∀ j u,look iv' j=some u→j<k∧∀ c,val c j=u)∧∀ hx,HyG P n w0 mu all (depFm ds iv' o.after.toList++l) (hx++(hi++rest)) o v)
  (hAnc:∀ listed,HeadInv .any all k listed→listed.getD i0 false=true→∀ i v,i<k→kd i=.s v→listed.getD i false=true)
  (hE:∀ i o R,i<k→all[i]?=some o→kd i=.e R→(∀ c,val c i=(c i).1)∧∃ iv',(∀ j u,look iv' j=some u→j<k∧∀ c,val c j=u)∧(i ≠ i0→EoR P n w0 mu all (depFm ds iv' o.after.toList++l) rest o R)∧(i=i0→EoW P n w0 mu all (depFm ds iv' o.after.toList++l) hi rest o R))
  (hD:∀ c,Valid kd k c→∀ i o,i<k→all[i]?=some o→kd i=.d→∃ iv',(∀ j u,look iv' j=some u→j<k∧val c j=u)∧HyR P n w0 mu (depFm ds iv' o.after.toList++l) [] o (val c i))
  (htail:∀ f c listed,leftOf k listed=f→HeadInv .any all k listed→(∀ i,i<k→isE (kd i)=true→listed.getD i true=true)→∀ a w,MidE n w0 mu all l rest kd val k c listed a w→wpAny P .any all Q' (f + g) listed a w)
  (hwait:∀ listed,HeadInv .any all k listed→∀ i,i<k→isE (kd i)=true→listed.getD i true=false→∀ t,k≤t→t ∉ Region.ready .any all listed):
  ∀ f c listed a w,leftOf k listed=f→HeadInv .any all k listed→MidE n w0 mu all l (hbW i0 hi rest listed) kd val k c listed a w→wpAny P .any all Q' (f + g) listed a w:=by
 intro f
 induction f with
 | zero=>
  intro c listed a w hlf inv hm
  have hall0:∀ i,i<k→listed.getD i true=true:=fun i hi=>by
   cases hc:listed.getD i true with
   | true=>rfl
   | false=>
   exfalso
   have:i∈(List.range k).filter fun i=>!listed.getD i true:=List.mem_filter.2 ⟨List.mem_range.2 hi,by simp only [hc,Bool.not_false]⟩
   have h2:=List.length_pos_of_mem this
   unfold leftOf at hlf
   omega
  have hl0:listed.getD i0 false=true:=by
   cases hc:listed.getD i0 false with
   | true=>rfl
   | false=>have h1:=hall0 i0 hi0k;rw [getD_in (by rw [inv.size];omega) hc] at h1;cases h1
  rw [hbW,hl0] at hm
  exact htail 0 c listed hlf inv (fun i hi _=>hall0 i hi) a w hm
 | succ f ih=>
  intro c listed a w hlf inv hm
  by_cases hallE:∀ i,i<k→isE (kd i)=true→listed.getD i true=true
  ·have hl0:listed.getD i0 false=true:=by
    cases hc:listed.getD i0 false with
    | true=>rfl
    | false=>have h1:=hallE i0 hi0k hi0E;rw [getD_in (by rw [inv.size];omega) hc] at h1;cases h1
   rw [hbW,hl0] at hm
   exact htail (f + 1) c listed hlf inv hallE a w hm
  obtain ⟨j0,hj0k,hj0e,hj0⟩:∃ i,i<k∧isE (kd i)=true∧listed.getD i true=false:=by
   refine Classical.byContradiction fun hno=>hallE fun i hi he=>?_
   cases hc:listed.getD i true with
   | true=>rfl
   | false=>exact absurd ⟨i,hi,he,hc⟩ hno
  rw [show f + 1 + g=(f + g) + 1 by omega]
  refine ⟨fun hnil=>?_,fun i hri=>?_⟩
  ·exfalso
   obtain ⟨i,⟨hik,hil⟩,hmin⟩:=exists_least (p:=fun i=>i<k∧listed.getD i true=false) ⟨j0,hj0k,hj0⟩
   have hr:i∈Region.ready .any all listed:=by
    rw [mem_ready]
    have hs:i<all.size:=by omega
    refine ⟨hil,all[i],by simp [hs],fun e he hb=>?_⟩
    have hb2:=List.all_eq_true.1 hback i (List.mem_range.2 hs)
    simp only [Array.getElem?_eq_getElem hs] at hb2
    have hb3:=(Array.all_eq_true_iff_forall_mem.1 hb2) e he
    simp only [hb,Bool.not_true,Bool.false_or,Nat.blt_eq] at hb3
    cases hc:listed.getD e.on false with
    | true=>rfl
    | false=>
     have h5:=hmin e.on ⟨by omega,getD_in (by rw [inv.size];omega) hc⟩
     omega
   rw [hnil] at hr;cases hr
  ·have hik:i<k:=by
    rcases Nat.lt_or_ge i k with h | h
    ·exact h
    ·exact absurd hri (hwait listed inv j0 hj0k hj0e hj0 i h)
   obtain ⟨hun,o,ho,hall⟩:=mem_ready.1 hri
   have hsz:i<listed.size:=by rw [inv.size];omega
   have hself:∀ j,j<k→listed.getD j false=true→isE (kd j)=true→c j=c j:=fun _ _ _ _=>rfl
   have hgo:∀ c2 a' w',MidE n w0 mu all l (hbW i0 hi rest (listed.setIfInBounds i true)) kd val k c2 (listed.setIfInBounds i true) a' w'→wpAny P .any all Q' (f + g) (listed.setIfInBounds i true) a' w':=fun c2 a' w' h=>
    ih c2 _ _ _ (by have:=left_set hik (by rw [inv.size];omega) hun;omega) (inv.set hri hik) h
   have hweak:Good w0 mu [] w:=hm.good.sub (List.nil_sublist _)
   have hsame:i ≠ i0→hbW i0 hi rest (listed.setIfInBounds i true)=hbW i0 hi rest listed:=fun hne=>by rw [hbW,hbW,getD_set_ne false hne]
   have hrestle:∃ x,hbW i0 hi rest listed=x++rest:=by
    rw [hbW];cases listed.getD i0 false with
    | true=>exact ⟨[],rfl⟩
    | false=>exact ⟨hi,rfl⟩
   unfold wpOp
   simp only [ho]
   cases hkd:kd i with
   | s v=>
    obtain ⟨hvc,iv',hiv,hy⟩:=hS i o v hik ho hkd
    have hkn:=depFm_lookE (i:=i) hds hm hm.valid hself (fun j u hu=>⟨(hiv j u hu).1,(hiv j u hu).2 c⟩) hall
    have hE0:isE (kd i)=false:=by rw [hkd];rfl
    have hne:i ≠ i0:=fun e=>by rw [e,hi0E] at hE0;cases hE0
    rw [hsame hne] at hgo
    have hnext:∀ w',Good w0 mu (blks kd c listed k++hbW i0 hi rest listed) w'→wpAny P .any all Q' (f + g) (listed.setIfInBounds i true) (a.put o.dst v) w':=fun w' hG'=>
     hgo c _ _ (mide_step hm ho hik hun hsz hd hf hm.valid (fun _ _=>rfl) (by rw [blks_same hE0];exact hG') (fun c' _ _=>hvc c'))
    obtain ⟨hx,h3,hpx⟩:∃ hx,HyG P n w0 mu all (depFm ds iv' o.after.toList++l) hx o v∧hx=blks kd c listed k++hbW i0 hi rest listed:=by
     have ht0:listed.getD i0 false=false:=by
      cases hc:listed.getD i0 false with
      | false=>rfl
      | true=>have:=hAnc listed inv hc i v hik hkd;rw [getD_both hun] at this;cases this
     exact ⟨_,hy (blks kd c listed k),by rw [hbW,ht0];rfl⟩
    subst hpx
    unfold HyG at h3
    cases hg:o.guard with
    | none=>
     rw [hg] at h3
     rw [if_pos (by simp [Region.wanted,hg])]
     exact .inl (h3 a w hkn hm.good _ _ hnext)
    | some jw=>
     obtain ⟨j,want⟩:=jw
     rw [hg] at h3
     obtain ⟨dj,c0,b,u,hj,hb,hdj,hy,hvv⟩:=h3
     have hw:=wanted_of hkn hg hj hb hdj
     cases hc:(c0 && wnt b want) with
     | true=>
      rw [hc] at hw hvv
      rw [if_pos hw]
      rw [Bool.and_eq_true] at hc
      rw [show v=u from hvv] at hnext
      exact .inl (hy hc.1 hc.2 a w hkn hm.good _ _ hnext)
     | false=>
      rw [hc] at hw hvv
      rw [if_neg (by rw [hw];decide)]
      rw [show v=undef from hvv] at hnext
      exact hnext w hm.good
   | e R=>
    obtain ⟨hvc,iv',hiv,hEr,hEw⟩:=hE i o R hik ho hkd
    have hkn:=depFm_lookE (i:=i) hds hm hm.valid hself (fun j u hu=>⟨(hiv j u hu).1,(hiv j u hu).2 c⟩) hall
    have hfin:∀ {hb:Hp} (hmb:MidE n w0 mu all l hb kd val k c listed a w) (v:Value) (hn:Hp) (w':World),R v hn→Good w0 mu (hn++(blks kd c listed k++hb)) w'→MidE n w0 mu all l hb kd val k (fun t=>if t=i then (v,hn) else c t) (listed.setIfInBounds i true) (a.put o.dst v) w':=fun {hb} hmb v hn w' hR hG'=>by
     refine mide_step hmb ho hik hun hsz hd hf ?_ (fun j hj=>by simp [hj]) ?_ ?_
     ·intro j hj R' hR'
      by_cases hji:j=i
      ·subst hji
       rw [hkd] at hR'
       cases hR'
       simpa using hR
      ·simp only [hji,if_false]
       exact hm.valid j hj R' hR'
     ·refine hG'.perm ?_
      rw [← List.append_assoc]
      exact (blks_set (by rw [hkd];rfl) hun hsz k hik).symm.append_right _
     ·intro c' hc' hag
      rw [hvc c',hag i hik (by simp [hsz]) (by rw [hkd];rfl)]
      simp
    by_cases hne:i=i0
    ·obtain ⟨hg,hy⟩:=hEw hne
     have hl0:listed.getD i0 false=false:=by rw [← hne];exact getD_both hun
     have hb0:hbW i0 hi rest listed=hi++rest:=by rw [hbW,hl0];rfl
     have hb1:hbW i0 hi rest (listed.setIfInBounds i true)=rest:=by
      rw [hbW,← hne,show (listed.setIfInBounds i true).getD i false=true by simp [hsz]];rfl
     rw [hb1] at hgo
     have hgd:=hm.good
     rw [hb0] at hgd
     have hmr:MidE n w0 mu all l rest kd val k c listed a w:=⟨hm.size,hm.defers,hm.has,hm.valid,hgd.sub (List.Sublist.append (List.Sublist.refl _) (List.sublist_append_right _ _)),hm.done⟩
     rw [if_pos (hg _ hkn)]
     exact .inl (hy a w _ hkn hgd _ _ fun v hn w' hR hG'=>hgo _ _ _ (hfin hmr v hn w' hR hG'))
    ·obtain ⟨hg,hy⟩:=hEr hne
     rw [hsame hne] at hgo
     obtain ⟨x,hxe⟩:=hrestle
     rw [if_pos (hg _ hkn)]
     have hgd:=hm.good
     rw [hxe,← List.append_assoc] at hgd
     exact .inl (hy a w _ hkn hgd _ _ fun v hn w' hR hG'=>hgo _ _ _ (hfin hm v hn w' hR (by rw [hxe];simpa only [List.append_assoc] using hG')))
   | d=>
    obtain ⟨iv',hiv,hg,hy⟩:=hD c hm.valid i o hik ho hkd
    have hE0:isE (kd i)=false:=by rw [hkd];rfl
    have hne:i ≠ i0:=fun e=>by rw [e,hi0E] at hE0;cases hE0
    rw [hsame hne] at hgo
    have hkn:=depFm_lookE (i:=i) hds hm hm.valid hself hiv hall
    have hrun:=hy a w hkn hweak
    rw [if_pos (by simp [Region.wanted,hg])]
    refine .inl ?_
    unfold Oper.wp
    rw [hrun]
    refine hgo c _ _ (mide_step hm ho hik hun hsz hd hf hm.valid (fun _ _=>rfl) (by rw [blks_same hE0];exact hm.good) (fun c' hc' hag=>?_))
    obtain ⟨iv2,hiv2,hg2,hy2⟩:=hD c' hc' i o hik ho hkd
    have hag':∀ j,j<k→listed.getD j false=true→isE (kd j)=true→c' j=c j:=fun j hj hl he=>hag j hj (getD_set_true hl) he
    have hrun2:=hy2 a w (depFm_lookE (i:=i) hds hm hc' hag' hiv2 hall) hweak
    rw [hrun] at hrun2
    simp only [Result.ok.injEq,Next.value.injEq,and_true] at hrun2
    exact hrun2.symm
def ancLB (all:Array Oper) (i0:Nat) (S:List Nat):Bool:=S.all fun i=>Region.waitsFor .any all i0 i || S.any fun j=>Nat.blt i j && Region.waitsFor .any all j i
theorem ancL_ok {S:List Nat} {listed:Array Bool} (h:ancLB all i0 S=true) (inv:HeadInv .any all k listed) (h0:listed.getD i0 false=true):∀ i∈S,listed.getD i false=true:=by
 have go:∀ d i,S.foldr max 0<i + d→i∈S→listed.getD i false=true:=by
  intro d
  induction d with
  | zero=>
   intro i hlt hi
   exfalso
   have:∀ (L:List Nat),i∈L→i≤L.foldr max 0:=by
    intro L
    induction L with
    | nil=>intro h;cases h
    | cons x r ih=>
     intro h
     rw [List.foldr_cons]
     rcases List.mem_cons.1 h with rfl | h
     ·exact Nat.le_max_left ..
     ·exact Nat.le_trans (ih h) (Nat.le_max_right ..)
   have:=this S hi
   omega
  | succ d ih=>
   intro i hlt hi
   have h1:=List.all_eq_true.1 h i hi
   rw [Bool.or_eq_true] at h1
   rcases h1 with h1 | h1
   ·obtain ⟨oj,h6,e,he,hb,heq⟩:=Region.waitsFor_spec h1
    rw [← heq]
    exact inv.closed i0 oj h6 h0 e he hb
   ·obtain ⟨j,hj,h2⟩:=List.any_eq_true.1 h1
    rw [Bool.and_eq_true] at h2
    have hij:i<j:=by simpa using h2.1
    have h3:=ih j (by omega) hj
    obtain ⟨oj,h6,e,he,hb,heq⟩:=Region.waitsFor_spec h2.2
    rw [← heq]
    exact inv.closed j oj h6 h3 e he hb
 exact fun i hi=>go (S.foldr max 0 + 1) i (by omega) hi
def drawEWB (ops:Array Oper) (n k i0:Nat) (S E D D2 C:List Nat):Bool:=
 match C with
 | []=>false
 | t0::_=>(mem E i0 && ancLB ops i0 S) && (decide (k≤ops.size) && dstB ops k n && dstKB ops ops.size n && backB ops && coverB ops.size (S++E++D++D2) C && linkB ops C && (S.all fun j=>Region.waitsFor .any ops t0 j) && (E.all fun j=>Region.waitsFor .any ops t0 j) && (D2++C).all (fun j=>Nat.ble k j) &&
  ((List.range ops.size).all fun i=>(dstAt ops i).isSome || Nat.beq i t0 || Region.waitsFor .any ops i t0) &&
  ((List.range ops.size).all fun i=>Nat.blt i k || (E.all fun j=>Region.waitsFor .any ops i j) || (List.range ops.size).any fun j=>Nat.ble k j && Region.waitsFor .any ops i j))
end
section
variable {P : Program} {n : Nat} {w0 : World} {mu : List Nat} {l : Fm} {hp : Hp} {Q : Exit → Fm → Hp → Prop} {ds : List (Nat × Nat)}
theorem st_drawEW0 {ops:List Oper} (k i0:Nat) (hi rest:Hp) (S E D D2 C:List Nat) (hB:drawEWB ops.toArray n k i0 S E D D2 C=true) (hperm:(hi++rest).Perm hp) (hf:freshB l (dstsOf ops.toArray ops.toArray.size)=true) (hf1:freshB l (dstsOf ops.toArray k)=true) (hsp:splitB k S E D=true) (hds:dstTab ops 0=ds)
  (h:DE1 P n w0 mu ops.toArray ds l hp (fun ivS=>DE2W P n w0 mu ops.toArray ds l i0 hi rest ivS (fun Rs=>∀ c,AllR c Rs→DE3 P n w0 mu ops.toArray ds l [] (fun iv1=>DE3 P n w0 mu ops.toArray ds l [] (fun iv2=>DCh P n w0 mu ops.toArray ds l [] iv2 (fun ivE hc=>Ops P n w0 mu ops.toArray [] (headFm ds (ivE++iv2)++l) hc Q) C [] (blE E c k++rest)) D2 iv1) D (chs c Rs++ivS)) E []) S []):StAny P n w0 mu ops.toArray l hp Q:=by
 intro a w hk hG
 replace hG:=hG.perm hperm
 simp only [splitB,Bool.and_eq_true,decide_eq_true_eq] at hsp
 obtain ⟨⟨⟨_,hnd⟩,hlt⟩,hcov⟩:=hsp
 have hlt':∀ i∈S++E++D,i<k:=fun i hi=>by have:=List.all_eq_true.1 hlt i hi;simpa using this
 have hcov':∀ i,i<k→i∈S∨i∈E∨i∈D:=fun i hi=>by
  have:=mem_mem (List.all_eq_true.1 hcov i (List.mem_range.2 hi))
  simpa [or_assoc] using this
 rw [List.append_assoc,List.nodup_append] at hnd
 obtain ⟨hndS,hndED,hSx⟩:=hnd
 rw [List.nodup_append] at hndED
 obtain ⟨hndE,hndD,hEx⟩:=hndED
 obtain ⟨ivS,h2,huS,hkS,hsS⟩:=de1_get S [] hndS (fun _ _=>rfl) (fun _ _ h=>by cases h) h (fun i v hv=>by cases hv)
 obtain ⟨Rs,h3,hkE,hsE⟩:=de2w_get E [] hndE (fun _ _=>rfl) h2 (fun i R hR=>by cases hR)
 simp only [lk,reduceCtorEq,exists_false,or_false] at hkS hkE
 have hES:∀ i R,lk Rs i=some R→lk ivS i=none:=fun i R hR=>by
  cases hv:lk ivS i with
  | none=>rfl
  | some v=>exact absurd rfl (hSx i ((hkS i).1 ⟨v,hv⟩) i (List.mem_append_left _ ((hkE i).1 ⟨R,hR⟩)))
 let kd:Nat→Kd:=fun i=>match lk Rs i with | some R=>.e R | none=>match lk ivS i with | some v=>.s v | none=>.d
 have hkdE:∀ i R,kd i=.e R↔lk Rs i=some R:=fun i R=>by
  show (match lk Rs i with | some R=>Kd.e R | none=>match lk ivS i with | some v=>.s v | none=>.d)=_↔_
  cases lk Rs i with
  | some R'=>simp
  | none=>cases lk ivS i<;>simp
 have hkdS:∀ i v,kd i=.s v→lk Rs i=none∧lk ivS i=some v:=fun i v=>by
  show (match lk Rs i with | some R=>Kd.e R | none=>match lk ivS i with | some v=>.s v | none=>.d)=_→_
  cases lk Rs i with
  | some R'=>simp
  | none=>cases lk ivS i<;>simp
 have hkdD:∀ i,kd i=.d→lk Rs i=none∧lk ivS i=none:=fun i=>by
  show (match lk Rs i with | some R=>Kd.e R | none=>match lk ivS i with | some v=>.s v | none=>.d)=_→_
  cases lk Rs i with
  | some R'=>simp
  | none=>cases lk ivS i<;>simp
 have hlkm:∀ i R,lk Rs i=some R→(i,R)∈Rs:=fun i R h=>lk_mem h
 have hvalid:∀ c,Valid kd k c→AllR c Rs:=fun c hc=>allR_of Rs fun p hp=>by
  obtain ⟨i,R⟩:=p
  have h1:=(hsE i R hp).1
  exact hc i (hlt' i (List.mem_append_left _ (List.mem_append_right _ ((hkE i).1 ⟨R,h1⟩)))) R ((hkdE i R).2 h1)
 have hex:∀ c,Valid kd k c→∃ ivD,DE3 P n w0 mu ops.toArray ds l [] (fun iv2=>DCh P n w0 mu ops.toArray ds l [] iv2 (fun ivE hc=>Ops P n w0 mu ops.toArray [] (headFm ds (ivE++iv2)++l) hc Q) C [] (blE E c k++rest)) D2 ivD∧Uq ivD∧Mono (chs c Rs++ivS) ivD∧(∀ i,(∃ v,lk ivD i=some v)↔i∈D∨∃ v,lk (chs c Rs++ivS) i=some v)∧∀ i v,lk ivD i=some v→lk (chs c Rs++ivS) i=some v∨∃ o iv',ops.toArray[i]?=some o∧Mono iv' ivD∧HyR P n w0 mu (depFm ds iv' o.after.toList++l) [] o v:=fun c hc=>
  de3_get D (chs c Rs++ivS) hndD (fun i hi=>by
   rw [chs_lk]
   have e1:lk Rs i=none:=by
    cases hR:lk Rs i with
    | none=>rfl
    | some R=>exact absurd rfl (hEx i ((hkE i).1 ⟨R,hR⟩) i hi)
   rw [e1]
   cases hv:lk ivS i with
   | none=>rfl
   | some v=>exact absurd rfl (hSx i ((hkS i).1 ⟨v,hv⟩) i (List.mem_append_right _ hi))) (fun i v hv=>by
   rw [chs_lk]
   rcases List.mem_append.1 hv with hv | hv
   ·obtain ⟨rfl,R,hR⟩:=chs_mem Rs hv
    rw [(hsE i R hR).1]
   ·have h1:=huS i v hv
    cases hR:lk Rs i with
    | none=>exact h1
    | some R=>rw [hES i R hR] at h1;cases h1) (fun _ _ h=>h) (h3 c (hvalid c hc)) (fun i v hv=>.inl hv)
 have hch:∃ F:Ch→Fm,∀ c,Valid kd k c→DE3 P n w0 mu ops.toArray ds l [] (fun iv2=>DCh P n w0 mu ops.toArray ds l [] iv2 (fun ivE hc=>Ops P n w0 mu ops.toArray [] (headFm ds (ivE++iv2)++l) hc Q) C [] (blE E c k++rest)) D2 (F c)∧Uq (F c)∧Mono (chs c Rs++ivS) (F c)∧(∀ i,(∃ v,lk (F c) i=some v)↔i∈D∨∃ v,lk (chs c Rs++ivS) i=some v)∧∀ i v,lk (F c) i=some v→lk (chs c Rs++ivS) i=some v∨∃ o iv',ops.toArray[i]?=some o∧Mono iv' (F c)∧HyR P n w0 mu (depFm ds iv' o.after.toList++l) [] o v:=by
  classical
  refine ⟨fun c=>if hc:Valid kd k c then Classical.choose (hex c hc) else [],fun c hc=>?_⟩
  simp only [hc,dif_pos]
  exact Classical.choose_spec (hex c hc)
 obtain ⟨F,hF⟩:=hch
 let val:Ch→Nat→Value:=fun c i=>match kd i with | .s v=>v | .e _=>(c i).1 | .d=>(lk (F c) i).getD undef
 have hvalF:∀ c,Valid kd k c→∀ i v,lk (F c) i=some v→val c i=v:=fun c hc i v hv=>by
  obtain ⟨_,_,hmo,_,_⟩:=hF c hc
  show (match kd i with | .s v=>v | .e _=>(c i).1 | .d=>(lk (F c) i).getD undef)=v
  cases hkd:kd i with
  | s u=>
   obtain ⟨e1,e2⟩:=hkdS i u hkd
   have:=hmo i u (by rw [chs_lk,e1];exact e2)
   rw [hv] at this;cases this;rfl
  | e R=>
   have e1:=(hkdE i R).1 hkd
   have:=hmo i (c i).1 (by rw [chs_lk,e1])
   rw [hv] at this;cases this;rfl
  | d=>rw [hv];rfl
 have hFall:∀ c,Valid kd k c→∀ i,i<k→∃ v,lk (F c) i=some v:=fun c hc i hi=>by
  obtain ⟨_,_,_,hkk,_⟩:=hF c hc
  rw [hkk i]
  rcases hcov' i hi with h | h | h
  ·obtain ⟨v,hv⟩:=(hkS i).2 h
   right
   rw [chs_lk]
   cases lk Rs i with
   | some R=>exact ⟨_,rfl⟩
   | none=>exact ⟨v,hv⟩
  ·obtain ⟨R,hR⟩:=(hkE i).2 h
   right
   rw [chs_lk,hR]
   exact ⟨_,rfl⟩
  ·exact .inl h
 have hvalS:∀ i v,lk ivS i=some v→i<k∧∀ c,val c i=v:=fun i v hv=>by
  refine ⟨hlt' i (List.mem_append_left _ (List.mem_append_left _ ((hkS i).1 ⟨v,hv⟩))),fun c=>?_⟩
  show (match kd i with | .s v=>v | .e _=>(c i).1 | .d=>(lk (F c) i).getD undef)=v
  have:kd i=.s v:=by
   show (match lk Rs i with | some R=>Kd.e R | none=>match lk ivS i with | some v=>.s v | none=>.d)=_
   cases hR:lk Rs i with
   | some R=>rw [hES i R hR] at hv;cases hv
   | none=>rw [hv]
  rw [this]
 cases C with
 | nil=>simp [drawEWB] at hB
 | cons t0 C'=>
 simp only [drawEWB,Bool.and_eq_true,decide_eq_true_eq] at hB
 obtain ⟨⟨hi0m,hanc⟩,⟨⟨⟨⟨⟨⟨⟨⟨⟨hks,hd⟩,hdK⟩,hback⟩,hcoverK⟩,hlink⟩,hSt⟩,hEt⟩,hge⟩,hstb⟩,hwt⟩:=hB
 have hi0E:=mem_mem hi0m
 have hi0k:=hlt' i0 (List.mem_append_left _ (List.mem_append_right _ hi0E))
 have hSl:∀ listed,HeadInv .any ops.toArray k listed→listed.getD i0 false=true→∀ i∈S,listed.getD i false=true:=fun listed inv h=>ancL_ok hanc inv h
 have hAncS:∀ listed,HeadInv .any ops.toArray k listed→listed.getD i0 false=true→∀ i v,i<k→kd i=.s v→listed.getD i false=true:=fun listed inv h i v _ hkd=>hSl listed inv h i ((hkS i).1 ⟨v,(hkdS i v hkd).2⟩)
 simp only [coverB,Bool.and_eq_true,decide_eq_true_eq] at hcoverK
 obtain ⟨⟨hndK,hltK⟩,hcovK⟩:=hcoverK
 have hgeK:∀ j,j∈D2++t0::C'→k≤j:=fun j hj=>by have:=List.all_eq_true.1 hge j hj;simpa using this
 have hdsl:∀ i d,lk ds i=some d→dstAt ops.toArray i=some d:=fun i d h=>by rw [← hds] at h;have:=(dstTab_ok ops 0 i d h).2;simpa [dstAt] using this
 have hinh:∃ c0:Ch,Valid kd k c0:=by
  have h1:∀ i,∃ x:Value × Hp,∀ R,kd i=.e R→R x.1 x.2:=fun i=>by
   cases hR:lk Rs i with
   | none=>exact ⟨(undef,[]),fun R h=>by rw [(hkdE i R).1 h] at hR;cases hR⟩
   | some R=>
    obtain ⟨_,o,_,_,v,hn,hv⟩:=hsE i R (hlkm i R hR)
    exact ⟨(v,hn),fun R' h=>by rw [(hkdE i R').1 h] at hR;cases hR;exact hv⟩
  exact ⟨fun i=>Classical.choose (h1 i),fun i hi R hR=>Classical.choose_spec (h1 i) R hR⟩
 obtain ⟨c0,hc0⟩:=hinh
 have inv0:HeadInv .any ops.toArray k (Array.replicate ops.toArray.size false):=
  ⟨by simp,fun j oj _ hl=>(by rw [getD_replicate_false] at hl;cases hl),fun t _ ht=>getD_in (by simpa using ht) (getD_replicate_false _ _)⟩
 have hleft:leftOf k (Array.replicate ops.toArray.size false)=k:=by
  unfold leftOf
  rw [List.filter_eq_self.2]
  ·simp
  ·intro i hi
   have hi':i<k:=by simpa using hi
   have:(Array.replicate ops.toArray.size false).getD i true=false:=getD_in (by simp at hks ⊢;omega) (getD_replicate_false _ _)
   simp only [this,Bool.not_false]
 have hbl0:∀ m,blks kd c0 (Array.replicate ops.toArray.size false) m=[]:=by
  intro m
  induction m with
  | zero=>rfl
  | succ m ih=>simp only [blks,ih,blkAt,getD_replicate_false,Bool.and_false,cond_false,List.append_nil]
 have hisE:∀ i,i<k→isE (kd i)=mem E i:=fun i hi=>by
  cases hkd:kd i with
  | e R=>rw [mem_of ((hkE i).1 ⟨R,(hkdE i R).1 hkd⟩)];rfl
  | s v=>
   cases hmm:mem E i with
   | false=>rfl
   | true=>obtain ⟨R,hR⟩:=(hkE i).2 (mem_mem hmm);rw [(hkdE i R).2 hR] at hkd;cases hkd
  | d=>
   cases hmm:mem E i with
   | false=>rfl
   | true=>obtain ⟨R,hR⟩:=(hkE i).2 (mem_mem hmm);rw [(hkdE i R).2 hR] at hkd;cases hkd
 have key:=headE_runW hdsl (P:=P) (n:=n) (w0:=w0) (mu:=mu) (l:=l) (hi:=hi) (rest:=rest) (i0:=i0) (all:=ops.toArray) (kd:=kd) (val:=val) (k:=k) (g:=ops.toArray.size - k) (Q':=QQ n w0 mu Q) hks hd hf1 hback hi0k (by rw [hisE i0 hi0k];exact hi0m)
  (fun i o v hi ho hkd=>by
   obtain ⟨e1,e2⟩:=hkdS i v hkd
   obtain ⟨o',iv',h1,h2,h3⟩:=hsS i v e2
   rw [ho] at h1;cases h1
   exact ⟨(hvalS i v e2).2,iv',fun j u hu=>hvalS j u (h2 j u (by rw [← look_lk];exact hu)),fun hx=>hyG_perm (h3 hx) (hperm.symm.append_left _)⟩)
  hAncS
  (fun i o R hi ho hkd=>by
   have e1:=(hkdE i R).1 hkd
   obtain ⟨_,o',h1,h2,_⟩:=hsE i R (hlkm i R e1)
   rw [ho] at h1;cases h1
   refine ⟨fun c=>?_,ivS,fun j u hu=>hvalS j u (by rw [← look_lk];exact hu),h2⟩
   show (match kd i with | .s v=>v | .e _=>(c i).1 | .d=>(lk (F c) i).getD undef)=_
   rw [hkd])
  (fun c hcv i o hi ho hkd=>by
   obtain ⟨e1,e2⟩:=hkdD i hkd
   obtain ⟨v,hv⟩:=hFall c hcv i hi
   obtain ⟨_,_,_,_,hsp⟩:=hF c hcv
   rw [hvalF c hcv i v hv]
   rcases hsp i v hv with h0 | ⟨o',iv',h1,h2,h3⟩
   ·rw [chs_lk,e1] at h0;rw [e2] at h0;cases h0
   ·rw [ho] at h1;cases h1
    refine ⟨iv',fun j u hu=>?_,h3⟩
    have hj:=h2 j u (by rw [← look_lk];exact hu)
    refine ⟨?_,hvalF c hcv j u hj⟩
    obtain ⟨_,_,_,hkk,_⟩:=hF c hcv
    rcases (hkk j).1 ⟨u,hj⟩ with h | ⟨v',h⟩
    ·exact hlt' j (List.mem_append_right _ h)
    ·rw [chs_lk] at h
     cases hR:lk Rs j with
     | some R=>exact hlt' j (List.mem_append_left _ (List.mem_append_right _ ((hkE j).1 ⟨R,hR⟩)))
     | none=>rw [hR] at h;exact (hvalS j v' h).1)
  (fun f c listed hlf inv hallE a w hmid=>?_)
  (fun listed inv i hi hie hun t ht=>?_)
  k c0 _ a { w with drawn:=w.drawn + 1 } hleft inv0 ⟨hk.size,hk.defers,hk.has,hc0,by rw [hbl0,hbW,getD_replicate_false];exact hG.drawn _,fun i _ hl=>(by rw [getD_replicate_false] at hl;cases hl)⟩
 ·have e:k + (ops.toArray.size - k)=ops.toArray.size:=by omega
  rw [e] at key
  exact key
 ·obtain ⟨hX,huq,hmo,hkk,hsp1⟩:=hF c hmid.valid
  have hFk:∀ i v,lk (F c) i=some v→i<k:=fun i v hv=>by
   rcases (hkk i).1 ⟨v,hv⟩ with h | ⟨v',h⟩
   ·exact hlt' i (List.mem_append_right _ h)
   ·rw [chs_lk] at h
    cases hR:lk Rs i with
    | some R=>exact hlt' i (List.mem_append_left _ (List.mem_append_right _ ((hkE i).1 ⟨R,hR⟩)))
    | none=>rw [hR] at h;exact (hvalS i v' h).1
  have hndK':=hndK
  rw [List.nodup_append,List.nodup_append] at hndK'
  obtain ⟨⟨_,hndD2,hD2x⟩,hndC,hCx⟩:=hndK'
  obtain ⟨iv2,hY,hu2,hmo2,hkk2,hsp2⟩:=de3_get (base:=F c) D2 (F c) hndD2 (fun i hi=>by
   cases hv:lk (F c) i with
   | none=>rfl
   | some v=>
    have h1:=hFk i v hv
    have h2:=hgeK i (List.mem_append_left _ hi)
    omega) huq (fun _ _ h=>h) hX (fun i v hv=>.inl hv)
  have hgetK:∀ j,k≤j→j<ops.toArray.size→listed.getD j true=false:=fun j h1 h2=>inv.tail j h1 h2
  have hltK':∀ i∈(S++E++D++D2)++t0::C',i<ops.toArray.size:=fun i hi=>by have:=List.all_eq_true.1 hltK i hi;simpa using this
  have hiv2:∀ i v,lk iv2 i=some v→i<ops.toArray.size:=fun i v hv=>by
   rcases (hkk2 i).1 ⟨v,hv⟩ with h | ⟨v',h⟩
   ·exact hltK' i (List.mem_append_left _ (List.mem_append_right _ h))
   ·have:=hFk i v' h;omega
  have invK:HeadInv .any ops.toArray ops.toArray.size listed:=⟨inv.size,inv.closed,fun t h1 h2=>by omega⟩
  have hlfK:leftOf ops.toArray.size listed=f + (ops.toArray.size - k):=by rw [leftOf_more hks hgetK,hlf]
  have hbe:∀ m,m≤k→blks kd c listed m=blE E c m:=by
   intro m
   induction m with
   | zero=>intro _;rfl
   | succ m ih=>
    intro hm
    simp only [blks,blE,blkAt]
    rw [ih (by omega),hisE m (by omega)]
    cases hme:mem E m with
    | false=>rfl
    | true=>
     have h1:=hallE m (by omega) (by rw [hisE m (by omega)];exact hme)
     have h2:listed.getD m false=true:=by
      cases hcc:listed.getD m false with
      | true=>rfl
      | false=>rw [getD_in (by rw [inv.size];omega) hcc] at h1;cases h1
     rw [h2];rfl
  have hgood:Good w0 mu (blE E c k++rest) w:=by rw [← hbe k (Nat.le_refl _)];exact hmid.good
  have hmidC:MidC n w0 mu ops.toArray l iv2 [] (blE E c k++rest) listed a w:=by
   refine ⟨hmid.size,hmid.defers,hmid.has,hgood,fun i v hv hl d hdd=>?_,fun i v hv=>by cases hv⟩
   have hik:i<k:=by
    rcases Nat.lt_or_ge i k with h | h
    ·exact h
    ·have h1:=hgetK i h (hiv2 i v hv)
     rw [getD_both h1] at hl;cases hl
   obtain ⟨v',hv'⟩:=hFall c hmid.valid i hik
   have h1:=hmo2 i v' hv'
   rw [hv] at h1;cases h1
   rw [hmid.done i hik hl c hmid.valid (fun _ _ _ _=>rfl) d hdd]
   exact hvalF c hmid.valid i v hv'
  have key2:=chain_run2 hdsl (P:=P) (n:=n) (w0:=w0) (mu:=mu) (l:=l) (hp:=rest) (h0:=[]) (all:=ops.toArray) (ivS:=iv2) (k:=ops.toArray.size) (t0:=t0) (g:=0) (Q':=QQ n w0 mu Q) (X:=fun ivE hc=>Ops P n w0 mu ops.toArray [] (headFm ds (ivE++iv2)++l) hc Q) (dn:=fun i=>mem E i || mem S i) (Nat.le_refl _) hdK hf hback (hpLe_cnt fun b=>by simp [cntB])
   (fun i hi hdn=>by
    have:=List.all_eq_true.1 hstb i (List.mem_range.2 hi)
    rw [hdn] at this
    simp only [Option.isSome_none,Bool.false_or,Bool.or_eq_true] at this
    rcases this with h | h
    ·exact .inl (Nat.eq_of_beq_eq_true h)
    ·exact .inr h)
   (fun i v hv=>⟨hiv2 i v hv,fun hne=>?_⟩)
   (fun ivE h listed inv hall hX a w hmid hEk=>?_)
   (fun listed inv i hi hun t ht hr=>by
    obtain ⟨_,o,ho,_⟩:=mem_ready.1 hr
    have:=(Array.getElem?_eq_some_iff.1 ho).1
    omega)
   (f + (ops.toArray.size - k)) (t0::C') [] (blE E c k++rest) listed a w hlfK invK (fun i hi=>by
    simp only [Bool.or_eq_true] at hi
    rcases hi with hi | hi
    ·exact hallE i (hlt' i (List.mem_append_left _ (List.mem_append_right _ (mem_mem hi)))) (by rw [hisE i (hlt' i (List.mem_append_left _ (List.mem_append_right _ (mem_mem hi))))];exact hi)
    ·have hl0:=hallE i0 hi0k (by rw [hisE i0 hi0k];exact hi0m)
     have hl1:listed.getD i0 false=true:=by
      cases hcc:listed.getD i0 false with
      | true=>rfl
      | false=>rw [getD_in (by rw [inv.size];omega) hcc] at hl0;cases hl0
     have h7:=hSl listed inv hl1 i (mem_mem hi)
     cases hcc:listed.getD i true with
     | true=>rfl
     | false=>rw [getD_both hcc] at h7;cases h7) hmidC (fun i v hv=>by cases hv)
   (fun i hi=>⟨hltK' i (List.mem_append_right _ hi),hgetK i (hgeK i (List.mem_append_right _ hi)) (hltK' i (List.mem_append_right _ hi)),?_⟩) hndC hlink (fun i hi hl=>?_) (hpLe_cnt fun b=>by simp [cntB]) (fun _=>HpLe.right _ _) hY
  ·exact key2
  ·rcases hsp2 i v hv with h0 | ⟨o,iv',h1,h2,h3⟩
   ·rcases hsp1 i v h0 with h0 | ⟨o,iv',h1,h2,h3⟩
    ·rw [chs_lk] at h0
     cases hR:lk Rs i with
     | some R=>
      simp only [mem_of ((hkE i).1 ⟨R,hR⟩),Bool.true_or] at hne;cases hne
     | none=>
      rw [hR] at h0
      obtain ⟨o,iv',h1,h2,h3⟩:=hsS i v h0
      refine ⟨o,iv',h1,fun j u hu=>?_,fun hx=>?_⟩
      ·refine hmo2 j u (hmo j u ?_)
       have h4:=h2 j u hu
       rw [chs_lk]
       cases hR2:lk Rs j with
       | some R2=>rw [hES j R2 hR2] at h4;cases h4
       | none=>exact h4
      ·simp only [mem_of ((hkS i).1 ⟨v,h0⟩),Bool.or_true] at hne;cases hne
    ·exact ⟨o,iv',h1,fun j u hu=>hmo2 j u (h2 j u hu),fun hx=>hyr_g h3⟩
   ·exact ⟨o,iv',h1,h2,fun hx=>hyr_g h3⟩
  ·have hknows:Knows n (headFm ds (ivE++iv2)++l) a:=by
    refine ⟨hmid.size,hmid.defers,fun t v ht=>?_⟩
    rcases look_append ht with ht | ⟨_,ht⟩
    ·obtain ⟨j,h1,h2⟩:=headFm_mem (look_mem ht)
     rcases List.mem_append.1 h1 with h1 | h1
     ·exact (hmid.doneE j v h1).2 t (hdsl _ _ h2)
     ·have hj:=hu2 j v h1
      have hjk:=hiv2 j v hj
      refine hmid.doneS j v hj ?_ t (hdsl _ _ h2)
      have h5:=hall j hjk
      cases hcc:listed.getD j false with
      | true=>rfl
      | false=>rw [getD_in (by rw [inv.size];omega) hcc] at h5;cases h5
    ·exact hmid.has t v ht
   refine ⟨?_,hX a w hknows hmid.good⟩
   rw [List.eq_nil_iff_forall_not_mem]
   intro i hi
   obtain ⟨hun,o,ho,_⟩:=mem_ready.1 hi
   rw [hall i (Array.getElem?_eq_some_iff.1 ho).1] at hun;cases hun
  ·cases hv:lk iv2 i with
   | none=>rfl
   | some v=>
    exfalso
    have h2:=hgeK i (List.mem_append_right _ hi)
    rcases (hkk2 i).1 ⟨v,hv⟩ with h | ⟨v',h⟩
    ·exact hCx i (List.mem_append_right _ h) i hi rfl
    ·have:=hFk i v' h;omega
  ·have h1:=mem_mem (List.all_eq_true.1 hcovK i (List.mem_range.2 hi))
   rcases List.mem_append.1 h1 with h1 | h1
   ·left
    rcases List.mem_append.1 h1 with h1 | h1
    ·obtain ⟨v,hv⟩:=hFall c hmid.valid i (hlt' i h1)
     exact ⟨v,hmo2 i v hv⟩
    ·exact (hkk2 i).2 (.inl h1)
   ·exact .inr h1
 ·intro hr
  obtain ⟨_,o,ho,hall⟩:=mem_ready.1 hr
  have hts:t<ops.toArray.size:=(Array.getElem?_eq_some_iff.1 ho).1
  have hwl:∀ j,Region.waitsFor .any ops.toArray t j=true→listed.getD j false=true:=fun j hj=>by
   obtain ⟨oj,h6,e,he,hb,heq⟩:=Region.waitsFor_spec hj
   rw [ho] at h6;cases h6
   rw [← heq];exact hall e he hb
  have h1:=List.all_eq_true.1 hwt t (List.mem_range.2 hts)
  simp only [Bool.or_eq_true] at h1
  rcases h1 with (h1 | h1) | h1
  ·have:t<k:=by simpa using h1
   omega
  ·have h2:=hwl i (List.all_eq_true.1 h1 i (mem_mem (by rw [← hisE i hi];exact hie)))
   rw [getD_both hun] at h2;cases h2
  ·obtain ⟨j,hj,h2⟩:=List.any_eq_true.1 h1
   rw [Bool.and_eq_true] at h2
   have h3:=hwl j h2.2
   rw [getD_both (inv.tail j (by simpa using h2.1) (List.mem_range.1 hj))] at h3;cases h3
theorem st_drawEW {ops:List Oper} (k i0:Nat) (hi rest:Hp) (S E D D2 C:List Nat) (hB:drawEWB ops.toArray n k i0 S E D D2 C=true) (hperm:(hi++rest).Perm hp) (hf:freshB l (dstsOf ops.toArray ops.toArray.size)=true) (hf1:freshB l (dstsOf ops.toArray k)=true) (hsp:splitB k S E D=true) (hds:dstTab ops 0=ds)
  (h:DE1 P n w0 mu ops.toArray ds l hp (fun ivS=>DE2W P n w0 mu ops.toArray ds l i0 hi rest ivS (fun Rs=>DN (fun iv bl=>DE3 P n w0 mu ops.toArray ds l [] (fun iv1=>DE3 P n w0 mu ops.toArray ds l [] (fun iv2=>DCh P n w0 mu ops.toArray ds l [] iv2 (fun ivE hc=>Ops P n w0 mu ops.toArray [] (headFm ds (ivE++iv2)++l) hc Q) C [] (bl++rest)) D2 iv1) D (iv++ivS)) Rs) E []) S []):StAny P n w0 mu ops.toArray l hp Q:=by
 refine st_drawEW0 k i0 hi rest S E D D2 C hB hperm hf hf1 hsp hds (de1_mono (fun ivS h2=>de2w_mono E [] (fun Rs e h3 c hc=>?_) h2) S [] h)
 have:=dn_c Rs _ c h3 hc
 have he:blE E c k=hpK c (Rs.map (·.1)):=by
  simp only [splitB,Bool.and_eq_true,decide_eq_true_eq] at hsp
  rw [blE_hpK,← hsp.1.1.1,e];simp
 rw [he]
 exact this
end
set_option maxRecDepth 20000
section
variable {n : Nat} {w0 : World} {mu : List Nat} {l : Fm} {hp : Hp} {Q : Exit → Fm → Hp → Prop} {ds : List (Nat × Nat)}
theorem drawEW {id:Nat} {ops:List Oper} (k i0:Nat) (hi rest:Hp) (S E D D2 C:List Nat) (h:DE1 Tryz.prog n w0 mu ops.toArray ds l hp (fun ivS=>DE2W Tryz.prog n w0 mu ops.toArray ds l i0 hi rest ivS (fun Rs=>DN (fun iv bl=>DE3 Tryz.prog n w0 mu ops.toArray ds l [] (fun iv1=>DE3 Tryz.prog n w0 mu ops.toArray ds l [] (fun iv2=>DCh Tryz.prog n w0 mu ops.toArray ds l [] iv2 (fun ivE hc=>Ops Tryz.prog n w0 mu ops.toArray [] (headFm ds (ivE++iv2)++l) hc Q) C [] (bl++rest)) D2 iv1) D (iv++ivS)) Rs) E []) S [])
  (hds:dstTab ops 0=ds:=by (simp only [dstTab,Nat.reduceAdd,Nat.zero_add];rfl)) (hm:Tryz.prog.follows .mixedOrders=true:=by kernel_rfl) (hperm:(hi++rest).Perm hp:=by (refine perm_cnt fun a=>?_;simp only [cntB_app,cntB_cons,cntB_nil]<;>omega)) (hB:drawEWB ops.toArray n k i0 S E D D2 C=true:=by decide +kernel) (hf:freshB l (dstsOf ops.toArray ops.toArray.size)=true:=by rfl) (hf1:freshB l (dstsOf ops.toArray k)=true:=by rfl) (hsp:splitB k S E D=true:=by decide +kernel):St Tryz.prog n w0 mu (.region id ops.toArray true) l hp Q:=
 st_any hm (st_drawEW k i0 hi rest S E D D2 C hB hperm hf hf1 hsp hds h)
theorem wOther {all:Array Oper} {i0 i:Nat} {hi rest:Hp} {iv:Fm} {X:List (Nat × RT)→Prop} {E:List Nat} {Rs:List (Nat × RT)} (h:DE2 Tryz.prog n w0 mu all ds l rest iv (fun Rs'=>DE2W Tryz.prog n w0 mu all ds l i0 hi rest iv X E Rs') [i] Rs) (hne:Nat.beq i i0=false:=by rfl):DE2W Tryz.prog n w0 mu all ds l i0 hi rest iv X (i::E) Rs:=by
 obtain ⟨o,R,ho,hy,hn,h⟩:=h
 have hne':i ≠ i0:=fun e=>by rw [e,beq_iff.2 rfl] at hne;cases hne
 exact ⟨o,R,ho,⟨fun _=>hy,fun e=>absurd e hne'⟩,hn,h⟩
theorem wAlloc {all:Array Oper} {i0 i d:Nat} {ty:TypeId} {pos:String} {af:Array Edge} {hi rest:Hp} {iv:Fm} {X:List (Nat × RT)→Prop} {E:List Nat} {Rs:List (Nat × RT)} {t:TypeId} {z:Value} {cs:List Value} (h:DE2W Tryz.prog n w0 mu all ds l i0 hi rest iv X E ((i,fun v hn=>∃ b,v=.pointer (some ⟨b,0,none⟩)∧hn=[⟨b,cs.toArray,t⟩])::Rs)) (hne:Nat.beq i i0=false:=by rfl) (ho:all[i]?=some ⟨some d,.alloc t,ty,pos,af,none⟩:=by rfl) (hz:lk Tb.zs t=some z:=by rfl) (hc:z.cells=cs.toArray:=by (first | ((simp only [Value.cells])<;>rfl) | rfl)):DE2W Tryz.prog n w0 mu all ds l i0 hi rest iv X (i::E) Rs:=
 wOther (eAlloc (eNil h) ho hz hc) hne
theorem wNil {all:Array Oper} {i0:Nat} {hi rest:Hp} {iv:Fm} {X:List (Nat × RT)→Prop} {Rs:List (Nat × RT)} (h:X Rs):DE2W Tryz.prog n w0 mu all ds l i0 hi rest iv X [] Rs:=h
theorem wCall {all:Array Oper} {i d:Nat} {ty:TypeId} {pos:String} {af:Array Edge} {hi rest:Hp} {iv:Fm} {X:List (Nat × RT)→Prop} {E:List Nat} {Rs:List (Nat × RT)} {f:FuncId} {xs:List Operand} {vs:List Value} {tys:Array TypeId} {R:RT} (hc:∀ w,Good w0 mu (hi++rest) w→Fn Tryz.prog f vs.toArray w (hi.map (·.b)) R) (hn:∃ v hn,R v hn) (h:DE2W Tryz.prog n w0 mu all ds l i hi rest iv X E ((i,R)::Rs))
  (ho:all[i]?=some ⟨some d,.call { callee:=.value (.func f),args:=xs.toArray,argTypes:=tys },ty,pos,af,none⟩:=by rfl) (hcal:mem calN f=true:=by rfl) (hv:evs (depFm ds iv af.toList++l) xs=some vs:=by rfl):DE2W Tryz.prog n w0 mu all ds l i hi rest iv X (i::E) Rs:=by
 refine ⟨_,R,ho,⟨fun e=>absurd rfl e,fun _=>⟨fun a _=>by simp [Region.wanted],fun a w hx hk hG K Q hK=>?_⟩⟩,hn,h⟩
 obtain ⟨fn,c,hf,hname,hb⟩:=calOk f hcal
 unfold Oper.wp
 rw [run_call rfl hf hname hb hk hv w]
 refine Calls.mono (hc w (hG.sub (List.sublist_append_right _ _))) ?_
 rintro e w' ⟨u,hn,rfl,hg',hR⟩
 have hG2:Good w0 mu (hi++(hx++rest)) w:=hG.perm (by rw [← List.append_assoc,← List.append_assoc];exact List.Perm.append_right _ List.perm_append_comm)
 exact hK u hn w' hR (hG2.transM hg')
end
end Go.Proofs.YtndklbjnofdgeaaGreat
namespace Go.Proofs.YtndklbjnofdgeaaGreat
open Go.RowKit
set_option linter.unusedVariables false
set_option linter.unusedSimpArgs false
set_option maxRecDepth 20000
attribute [local irreducible] Hy St Ops DH DHF DE1 DE2 DE3
theorem runNB {G R:Prop} (k:R) (h:RestP R→G:=by (intro kLeft;(repeat (first | (with_reducible apply st_seq) | (with_reducible apply st_block) | (with_reducible apply st_region) | (with_reducible apply nx_normal) | (with_reducible apply nx_ret) | (with_reducible apply nx_exit) | (with_reducible apply np_normal) | (with_reducible apply inb_normal) | (with_reducible apply inb_ret) | (with_reducible apply inb_here) | (with_reducible apply ops_nil) | (with_reducible apply st_ret) | (with_reducible apply st_skip) | (with_reducible apply st_exit) | ((with_reducible apply inb_past);rfl) | ((with_reducible apply op1);rfl;(first | ((with_reducible apply x_move);rfl) | ((with_reducible apply x_assign);rfl) | ((with_reducible apply x_field tb_ok);rfl;rfl;rfl;(first | ((simp only [Nat.reduceAdd,Nat.reduceMul,Nat.zero_add,Nat.add_zero,Nat.mul_one,Nat.zero_mul,Int.toNat_zero,Int.toNat_one,Int.reduceToNat])<;>rfl) | rfl)) | ((with_reducible apply x_load tb_ok);rfl;rfl;(first | (with_reducible apply mh) | (focus ((repeat (first | (with_reducible apply mh) | (with_reducible apply mt) | (with_reducible apply List.mem_append_right)));done)));(first | rfl | assumption)) | ((with_reducible apply x_load0 tb_ok);rfl;rfl;assumption;(first | exact List.not_mem_nil | assumption)) | ((with_reducible apply x_loadA tb_ok);rfl;rfl;rfl;(first | (with_reducible apply mh) | (focus ((repeat (first | (with_reducible apply mh) | (with_reducible apply mt) | (with_reducible apply List.mem_append_right)));done)));(first | assumption | (first | ((simp only [putAt,List.toList_toArray,List.setIfInBounds_toArray,List.set_cons_zero,List.set_cons_succ,List.drop_succ_cons,List.drop_zero,List.take_succ_cons,List.take_zero,List.cons_append,List.nil_append,List.append_nil])<;>rfl) | rfl));rfl) | ((with_reducible apply x_loadA0 tb_ok);rfl;rfl;rfl;assumption;rfl;(first | exact List.not_mem_nil | assumption)) | ((with_reducible apply x_indexN tb_ok);rfl;rfl;rfl;omega;(first | ((simp only [Nat.reduceAdd,Nat.reduceMul,Nat.zero_add,Nat.add_zero,Nat.mul_one,Nat.zero_mul,Int.toNat_zero,Int.toNat_one,Int.reduceToNat])<;>rfl) | rfl)) | ((with_reducible apply x_indexRN tb_ok);rfl;rfl;rfl;omega;(first | ((simp only [Nat.reduceAdd,Nat.reduceMul,Nat.zero_add,Nat.add_zero,Nat.mul_one,Nat.zero_mul,Int.toNat_zero,Int.toNat_one,Int.reduceToNat])<;>rfl) | rfl)) | ((with_reducible apply x_index tb_ok);rfl;rfl;rfl;omega;omega;(first | ((simp only [Nat.reduceAdd,Nat.reduceMul,Nat.zero_add,Nat.add_zero,Nat.mul_one,Nat.zero_mul,Int.toNat_zero,Int.toNat_one,Int.reduceToNat])<;>rfl) | rfl)) | ((with_reducible apply x_indexR tb_ok);rfl;rfl;rfl;omega;omega;(first | ((simp only [Nat.reduceAdd,Nat.reduceMul,Nat.zero_add,Nat.add_zero,Nat.mul_one,Nat.zero_mul,Int.toNat_zero,Int.toNat_one,Int.reduceToNat])<;>rfl) | rfl)) | ((with_reducible apply x_len tb_ok);rfl;rfl) | ((with_reducible apply x_orT);rfl;rfl) | ((with_reducible apply x_andF);rfl;rfl) | ((with_reducible apply x_or);rfl;rfl) | ((with_reducible apply x_and);rfl;rfl) | ((with_reducible apply x_pick);rfl;rfl;rfl) | ((with_reducible apply x_not);rfl) | ((with_reducible apply x_extract);rfl;rfl) | ((with_reducible apply x_nilCheck);rfl) | ((with_reducible apply x_lss);rfl;rfl) | ((with_reducible apply x_leq);rfl;rfl) | ((with_reducible apply x_gtr);rfl;rfl) | ((with_reducible apply x_geq);rfl;rfl) | ((with_reducible apply x_eql);rfl;rfl) | ((with_reducible apply x_neq);rfl;rfl) | ((with_reducible apply x_eqlb tb_ok);rfl;rfl;rfl) | ((with_reducible apply x_neqb tb_ok);rfl;rfl;rfl) | ((with_reducible apply x_eqlA lt_ok);rfl;rfl;rfl;rfl;rfl) | ((with_reducible apply x_neqA lt_ok);rfl;rfl;rfl;rfl;rfl) | ((with_reducible apply x_inc);rfl;rfl;omega) | ((with_reducible apply x_add);rfl;rfl;omega;omega) | ((with_reducible apply x_sub);rfl;rfl;omega;omega) | ((with_reducible apply x_mul);rfl;rfl;omega;omega) | ((with_reducible apply x_convI tb_ok);rfl;rfl;rfl;omega;omega) | ((with_reducible apply x_convU tb_ok);rfl;rfl;rfl;omega;omega) | ((with_reducible apply x_makeFunc);rfl;rfl) | ((with_reducible apply x_addW);rfl;rfl) | ((with_reducible apply x_subW);rfl;rfl))) | ((with_reducible apply z_box);rfl;rfl;(first | ((simp only [Value.cells])<;>rfl) | rfl);intro blk) | ((with_reducible apply z_alloc tb_ok);rfl;rfl;(first | ((simp only [Value.cells])<;>rfl) | rfl);intro blk) | ((with_reducible apply z_store tb_ok);rfl;rfl;(first | ((simp only [Value.cells])<;>rfl) | rfl);rfl;rfl;(first | (with_reducible apply p0) | (with_reducible apply p1) | (with_reducible apply p2) | (with_reducible apply p3) | (with_reducible apply p4) | (with_reducible apply p5));(first | rfl | (focus (simp;done)));(first | omega | (focus (simp;done)) | (focus (simp;omega)));(first | ((simp only [putAt,List.toList_toArray,List.setIfInBounds_toArray,List.set_cons_zero,List.set_cons_succ,List.drop_succ_cons,List.drop_zero,List.take_succ_cons,List.take_zero,List.cons_append,List.nil_append,List.append_nil])<;>rfl) | rfl)) | ((with_reducible apply z_bslice tb_ok);rfl;rfl;rfl;(first | ((simp only [Value.cells])<;>rfl) | rfl);rfl;rfl;rfl;rfl;(first | ((simp only [putAt,rep,Value.cells,Nat.reduceMul,Nat.zero_mul,Nat.one_mul,Nat.mul_one,List.toList_toArray,List.setIfInBounds_toArray,List.set_cons_zero,List.set_cons_succ,List.drop_succ_cons,List.drop_zero,List.take_succ_cons,List.take_zero,List.cons_append,List.nil_append,List.append_nil])<;>rfl) | rfl);intro blk)));(repeat revert blk);exact kLeft.get)):G:=h ⟨k⟩
section
variable {n : Nat} {w0 : World} {mu : List Nat} {l : Fm} {hp : Hp} {Q : Exit → Fm → Hp → Prop} {all : Array Oper} {rest : List Oper} {ty : TypeId} {pos : String} {af : Array Edge}
theorem buildK {t d:Nat} {ps:List (Nat × Operand)} {vs:List (Nat × Value)} {z:Value} {pl:List (Nat × Nat)} {zc:Array Value} (out:Array Value) (h:Ops Tryz.prog n w0 mu all rest ((d,.agg out)::l) hp Q) (hd:Nat.blt d n=true:=by rfl) (hz:lk Tb.zs t=some z:=by rfl) (hzc:z.cells=zc:=by (first | ((simp only [Value.cells])<;>rfl) | rfl)) (hpl:lk Tb.pl t=some pl:=by rfl) (hv:evp l ps=some vs:=by rfl) (hf:fl pl zc vs=some out:=by kernel_rfl):Ops Tryz.prog n w0 mu all (⟨some d,.build t ps.toArray,ty,pos,af,none⟩::rest) l hp Q:=
 op1 hd (x_build tb_ok hz hzc hpl hv hf rfl) h
theorem x_neqP {dd:Option Nat} {gg:Option (Nat × Bool)} {t u:TypeId} {x y:Operand} {p:Option Addr} (ht:Tryz.prog.underlying t=some (.pointer (Tryz.prog.pointee t))) (hx:ev l x=some (.pointer p)) (hy:ev l y=some (.pointer none)):Hy Tryz.prog n w0 mu l hp ⟨dd,.binOp .neq t x y u,ty,pos,af,gg⟩ (.bool p.isSome):=
 hy_run fun a w hk _=>by
  have:=run_neq_pointer_nil (P:=Tryz.prog) (w:=w) t p ht
  simp only [execOp,hk.ev hx,hk.ev hy]
  simp [eqGuard,this]
theorem x_eqlP {dd:Option Nat} {gg:Option (Nat × Bool)} {t u:TypeId} {x y:Operand} {p:Option Addr} (ht:Tryz.prog.underlying t=some (.pointer (Tryz.prog.pointee t))) (hx:ev l x=some (.pointer p)) (hy:ev l y=some (.pointer none)):Hy Tryz.prog n w0 mu l hp ⟨dd,.binOp .eql t x y u,ty,pos,af,gg⟩ (.bool p.isNone):=
 hy_run fun a w hk _=>by
  have:=run_eql_pointer_nil (P:=Tryz.prog) (w:=w) t p ht
  simp only [execOp,hk.ev hx,hk.ev hy]
  simp [eqGuard,this]
theorem x_eqlPS {dd:Option Nat} {gg:Option (Nat × Bool)} {t u:TypeId} {x y:Operand} {p:Addr} (ht:Tryz.prog.underlying t=some (.pointer (Tryz.prog.pointee t))) (hx:ev l x=some (.pointer (some p))) (hy:ev l y=some (.pointer none)):Hy Tryz.prog n w0 mu l hp ⟨dd,.binOp .eql t x y u,ty,pos,af,gg⟩ (.bool false):=x_eqlP ht hx hy
theorem x_eqlPN {dd:Option Nat} {gg:Option (Nat × Bool)} {t u:TypeId} {x y:Operand} (ht:Tryz.prog.underlying t=some (.pointer (Tryz.prog.pointee t))) (hx:ev l x=some (.pointer none)) (hy:ev l y=some (.pointer none)):Hy Tryz.prog n w0 mu l hp ⟨dd,.binOp .eql t x y u,ty,pos,af,gg⟩ (.bool true):=x_eqlP ht hx hy
theorem x_mulW {dd:Option Nat} {gg:Option (Nat × Bool)} {t u:TypeId} {x y:Operand} {k:IntKind} {p q:Int} (hx:ev l x=some (.int k p)) (hy:ev l y=some (.int k q)):Hy Tryz.prog n w0 mu l hp ⟨dd,.binOp .mul t x y u,ty,pos,af,gg⟩ (.int k (k.wrap (p * q))):=hy_mul rfl hx hy
theorem x_neqPS {dd:Option Nat} {gg:Option (Nat × Bool)} {t u:TypeId} {x y:Operand} {p:Addr} (ht:Tryz.prog.underlying t=some (.pointer (Tryz.prog.pointee t))) (hx:ev l x=some (.pointer (some p))) (hy:ev l y=some (.pointer none)):Hy Tryz.prog n w0 mu l hp ⟨dd,.binOp .neq t x y u,ty,pos,af,gg⟩ (.bool true):=x_neqP ht hx hy
theorem x_neqPN {dd:Option Nat} {gg:Option (Nat × Bool)} {t u:TypeId} {x y:Operand} (ht:Tryz.prog.underlying t=some (.pointer (Tryz.prog.pointee t))) (hx:ev l x=some (.pointer none)) (hy:ev l y=some (.pointer none)):Hy Tryz.prog n w0 mu l hp ⟨dd,.binOp .neq t x y u,ty,pos,af,gg⟩ (.bool false):=x_neqP ht hx hy
end
end Go.Proofs.YtndklbjnofdgeaaGreat
namespace Go.Proofs.YtndklbjnofdgeaaGreat
open Go.RowKit
set_option linter.unusedVariables false
set_option linter.unusedSimpArgs false
set_option maxRecDepth 20000
attribute [local irreducible] Hy St Ops DH DHF DE1 DE2 DE3 DS DCh DWF
def sysOk (k:Int):Bool:=PtD.btw k 0 5
def RgD.sysl (r:RgD):List Nat:=[r.ttbr,r.sctlr,r.vbar,r.elr,r.esr,r.far]
def RgD.get (r:RgD) (k:Int):Nat:=r.sysl.getD k.toNat 0
def RgD.set (r:RgD) (k:Int) (v:Nat):RgD:=
 bif decide (k=0) then { r with ttbr:=v } else bif decide (k=1) then { r with sctlr:=v } else bif decide (k=2) then { r with vbar:=v } else bif decide (k=3) then { r with elr:=v } else bif decide (k=4) then { r with esr:=v } else { r with far:=v }
def RgD.trap (r:RgD) (esr far:Nat):RgD:={ r with elr:=r.pc,esr:=esr,far:=far,pc:=r.vbar }
def RgD.back (r:RgD):RgD:={ r with pc:=r.elr }
def W64n (n:Nat):Prop:=n<18446744073709551616
theorem rTrap_e (r:RgD) (e f:Nat) (w:World):Fn Tryz.prog 114 [.agg (rgV r).toArray,.int .u64 (e:Int),.int .u64 (f:Int)].toArray w [] (fun u _=>u=.agg (rgV (r.trap e f)).toArray):=by
 refine enter Tryz.func114 ?_
 refine run ?_
 intro X R
 refine finA ?_
 rfl
theorem rBack_e (r:RgD) (w:World):Fn Tryz.prog 78 [.agg (rgV r).toArray].toArray w [] (fun u _=>u=.agg (rgV r.back).toArray):=by
 refine enter Tryz.func78 ?_
 refine run ?_
 intro X R
 refine finA ?_
 rfl
theorem rSystem_e (B:Nat) (k:Int) (w:World):Fn Tryz.prog 116 [.pointer (some ⟨B,0,none⟩),.int .i64 k].toArray w [] (fun u _=>u=bif sysOk k then .pointer (some ⟨B,9 + k.toNat,none⟩) else .pointer none):=by
 refine enter Tryz.func116 ?_
 refine run ?_
 refine st_cond _ rfl (fun hc=>?_) (fun hc0=>?_)
 ·obtain rfl:k=0:=by simpa using hc
  refine run ?_
  exact fin1 rfl
 refine run ?_
 refine st_cond _ rfl (fun hc=>?_) (fun hc1=>?_)
 ·obtain rfl:k=1:=by simpa using hc
  refine run ?_
  exact fin1 rfl
 refine run ?_
 refine st_cond _ rfl (fun hc=>?_) (fun hc2=>?_)
 ·obtain rfl:k=2:=by simpa using hc
  refine run ?_
  exact fin1 rfl
 refine run ?_
 refine st_cond _ rfl (fun hc=>?_) (fun hc3=>?_)
 ·obtain rfl:k=3:=by simpa using hc
  refine run ?_
  exact fin1 rfl
 refine run ?_
 refine st_cond _ rfl (fun hc=>?_) (fun hc4=>?_)
 ·obtain rfl:k=4:=by simpa using hc
  refine run ?_
  exact fin1 rfl
 refine run ?_
 refine st_cond _ rfl (fun hc=>?_) (fun hc5=>?_)
 ·obtain rfl:k=5:=by simpa using hc
  refine run ?_
  exact fin1 rfl
 refine run ?_
 have hk:sysOk k=false:=by
  simp at hc0 hc1 hc2 hc3 hc4 hc5
  simp only [sysOk,PtD.btw,Bool.and_eq_false_iff,decide_eq_false_iff_not]
  omega
 rw [hk]
 exact fin1 rfl
theorem sys6 {k:Int} (h:sysOk k=true):k=0∨k=1∨k=2∨k=3∨k=4∨k=5:=by
 simp only [sysOk,PtD.btw,Bool.and_eq_true,decide_eq_true_eq] at h
 omega
theorem rGet13_e (r:RgD) (k:Int) (w:World):Fn Tryz.prog 74 [.agg (rgV r).toArray,.int .i64 k].toArray w [] (fun u _=>u=.tuple #[.int .u64 (bif sysOk k then r.get k else 0:Nat),.int .i64 (bif sysOk k then 0 else 1)]):=by
 refine enter Tryz.func74 ?_
 refine run ?_
 intro X R
 refine callE (fun wc hG=>rSystem_e R k wc) ?_
 cases hk:sysOk k with
 | true=>
  rw [cond_true,cond_true,cond_true]
  refine runC ?_
  refine op1 (by rfl) (x_neqPS (by kernel_rfl) rfl rfl) ?_
  obtain rfl | rfl | rfl | rfl | rfl | rfl:=sys6 hk
  all_goals
   refine runC ?_
   exact fin2 rfl
 | false=>
  rw [cond_false,cond_false,cond_false]
  refine runC ?_
  refine op1 (by rfl) (x_neqPN (by kernel_rfl) rfl rfl) ?_
  refine runC ?_
  exact fin2 rfl
theorem rSet13_e (r:RgD) (k:Int) (v:Nat) (w:World):Fn Tryz.prog 75 [.agg (rgV r).toArray,.int .i64 k,.int .u64 (v:Int)].toArray w [] (fun u _=>u=.tuple #[.agg (rgV (bif sysOk k then r.set k v else noRg)).toArray,.int .i64 (bif sysOk k then 0 else 1)]):=by
 refine enter Tryz.func75 ?_
 refine run ?_
 intro X R Y
 refine callE (fun wc hG=>rSystem_e Y k wc) ?_
 cases hk:sysOk k with
 | true=>
  rw [cond_true,cond_true,cond_true]
  refine runC ?_
  refine op1 (by rfl) (x_eqlPS (by kernel_rfl) rfl rfl) ?_
  obtain rfl | rfl | rfl | rfl | rfl | rfl:=sys6 hk
  all_goals
   simp only [Int.toNat_zero,Int.toNat_one,Int.reduceToNat,Nat.reduceAdd,Nat.add_zero]
   refine runC ?_
   refine finA1 ?_
   rfl
 | false=>
  rw [cond_false,cond_false,cond_false]
  refine runC ?_
  refine op1 (by rfl) (x_eqlPN (by kernel_rfl) rfl rfl) ?_
  refine runC ?_
  refine finA1 ?_
  rfl
end Go.Proofs.YtndklbjnofdgeaaGreat
namespace Go.Proofs.YtndklbjnofdgeaaGreat
open Go.RowKit
set_option linter.unusedVariables false
set_option linter.unusedSimpArgs false
def EoC (P:Program) (n:Nat) (w0:World) (mu:List Nat) (all:Array Oper) (lf:Fm) (hp:Hp) (o:Oper) (R:RT):Prop:=
 (∀ a,Knows n lf a→Region.wanted o (yielded all a.tmps)=true)∧∀ a w,Knows n lf a→Good w0 mu hp w→∀ (K:Act→World→Prop) (Q:Exit→Act→World→Prop),(∀ v h' w',R v h'→Good w0 mu h' w'→K (a.put o.dst v) w')→o.wp P a w K Q
def DCX (P:Program) (n:Nat) (w0:World) (mu:List Nat) (all:Array Oper) (ds:List (Nat × Nat)) (l:Fm) (h0 hb:Hp) (t0:Nat) (X:Fm→Fm→Hp→Prop):List (Nat × Bool)→Fm→Fm→Hp→Prop
 | [],ivS,ivE,h=>X ivS ivE h
 | (i,false)::r,ivS,ivE,h=>∃ o,all[i]?=some o∧((o.dst.isSome=true∧∃ R:RT,EoR P n w0 mu all (depFm ds (ivE++ivS) o.after.toList++l) h o R∧∀ v hn,R v hn→DCX P n w0 mu all ds l h0 hb t0 X r ivS ((i,v)::ivE) (hn++h)) ∨
   (o.dst=none∧∃ h',HyS P n w0 mu (depFm ds (ivE++ivS) o.after.toList++l) h o h'∧HpLe h0 h'∧DCX P n w0 mu all ds l h0 hb t0 X r ivS ivE h') ∨
   (o.dst.isSome=true∧∃ R:RT,EoC P n w0 mu all (depFm ds (ivE++ivS) o.after.toList++l) h o R∧∀ v h',R v h'→HpLe h0 h'∧((i=t0∨Region.waitsFor .any all i t0=true)∨HpLe hb h')∧DCX P n w0 mu all ds l h0 hb t0 X r ivS ((i,v)::ivE) h'))
 | (i,true)::r,ivS,ivE,h=>∃ o v,all[i]?=some o∧HyR P n w0 mu (depFm ds (ivE++ivS) o.after.toList++l) [] o v∧DCX P n w0 mu all ds l h0 hb t0 X r ((i,v)::ivS) ivE h
def preX (all:Array Oper):List Nat→List Nat→Bool
 | _,[]=>true
 | seen,x::r=>seen.any (fun y=>Region.waitsFor .any all x y) && preX all (x::seen) r
def linkX (all:Array Oper):List (Nat × Bool)→Bool
 | []=>true
 | (c,d)::r=>(d || preX all [c] (r.map (·.1))) && linkX all r
theorem preX_mem' {all:Array Oper}:∀ {r seen:List Nat},preX all seen r=true→∀ x∈r,∃ y,(y∈seen∨y∈r)∧Region.waitsFor .any all x y=true:=by
 intro r
 induction r with
 | nil=>intro seen _ x hx;cases hx
 | cons z r ih=>
  intro seen h x hx
  simp only [preX,Bool.and_eq_true] at h
  rcases List.mem_cons.1 hx with rfl | hx
  ·obtain ⟨y,hy,h2⟩:=List.any_eq_true.1 h.1
   exact ⟨y,.inl hy,h2⟩
  ·obtain ⟨y,hy,h2⟩:=ih h.2 x hx
   rcases hy with hy | hy
   ·rcases List.mem_cons.1 hy with rfl | hy
    ·exact ⟨_,.inr (List.mem_cons_self ..),h2⟩
    ·exact ⟨y,.inl hy,h2⟩
   ·exact ⟨y,.inr (List.mem_cons_of_mem _ hy),h2⟩
theorem preX_mem {all:Array Oper} {c:Nat} {r:List (Nat × Bool)} (h:preX all [c] (r.map (·.1))=true):∀ x∈r.map (·.1),∃ y,(y∈[c]∨y∈r.map (·.1))∧Region.waitsFor .any all x y=true:=preX_mem' h
theorem left_zero {k:Nat} {listed:Array Bool} {all:Array Oper} (h:leftOf k listed=0) {i:Nat} (hi:i<k) (inv:HeadInv .any all k listed) (hk:k≤all.size):listed.getD i true=true:=by
 cases hc:listed.getD i true with
 | true=>rfl
 | false=>
  exfalso
  have:i∈(List.range k).filter fun i=>!listed.getD i true:=List.mem_filter.2 ⟨List.mem_range.2 hi,by simp only [hc,Bool.not_false]⟩
  have h2:=List.length_pos_of_mem this
  unfold leftOf at h
  omega
section
variable {P : Program} {n : Nat} {w0 : World} {mu : List Nat} {l : Fm} {h0 hp : Hp} {Q : Exit → Fm → Hp → Prop} {all : Array Oper} {k t0 : Nat} {ds : List (Nat × Nat)}
structure SOk (P:Program) (n:Nat) (w0:World) (mu:List Nat) (all:Array Oper) (ds:List (Nat × Nat)) (l:Fm) (h0 hp:Hp) (t0 k:Nat) (ivS ivE:Fm):Prop where
 so:∀ i v,lk ivS i=some v→i<k∧∃ o iv',all[i]?=some o∧(∀ j u,look iv' j=some u→lk ivE j=some u∨lk ivS j=some u)∧∀ hx,HyG P n w0 mu all (depFm ds iv' o.after.toList++l) (bif Region.waitsFor .any all t0 i then hx++hp else hx++h0) o v
 uq:Uq ivS
theorem sok_e {ivS ivE:Fm} {i:Nat} {v:Value} (hne:∀ u,(i,u) ∉ ivE) (h:SOk P n w0 mu all ds l h0 hp t0 k ivS ivE):SOk P n w0 mu all ds l h0 hp t0 k ivS ((i,v)::ivE):=⟨fun j u hu=>by
 obtain ⟨h1,o,iv',h2,h3,h4⟩:=h.1 j u hu
 exact ⟨h1,o,iv',h2,fun a b hab=>(h3 a b hab).imp (fun h=>by rw [lk_cons,if_neg (fun e=>by subst e;exact hne _ (lk_mem h))];exact h) id,h4⟩,h.2⟩
theorem sok_more {ivS ivE:Fm} {i:Nat} {v:Value} {o:Oper} (h:SOk P n w0 mu all ds l h0 hp t0 k ivS ivE) (hi:i<k) (hn:lk ivS i=none) (ho:all[i]?=some o) (hy:HyR P n w0 mu (depFm ds (ivE++ivS) o.after.toList++l) [] o v):SOk P n w0 mu all ds l h0 hp t0 k ((i,v)::ivS) ivE:=by
 have hmo:∀ j u,lk ivS j=some u→lk ((i,v)::ivS) j=some u:=fun j u hu=>by
  rw [lk_cons,if_neg (fun e=>by subst e;rw [hn] at hu;cases hu)];exact hu
 refine ⟨fun j u hu=>?_,fun j u hu=>?_⟩
 ·rw [lk_cons] at hu
  by_cases hij:i=j
  ·subst hij
   rw [if_pos rfl] at hu
   cases hu
   refine ⟨hi,o,ivE++ivS,ho,fun a b hab=>?_,fun hx=>hyr_g hy⟩
   rw [look_lk,lk_app] at hab
   cases hE:lk ivE a with
   | some x=>rw [hE] at hab;cases hab;exact .inl rfl
   | none=>rw [hE] at hab;exact .inr (hmo _ _ hab)
  ·rw [if_neg hij] at hu
   obtain ⟨h1,o',iv',h2,h3,h4⟩:=h.1 j u hu
   exact ⟨h1,o',iv',h2,fun a b hab=>(h3 a b hab).imp id (hmo a b),h4⟩
 ·rcases List.mem_cons.1 hu with hu | hu
  ·cases hu;rw [lk_cons,if_pos rfl]
  ·exact hmo _ _ (h.2 j u hu)
theorem midc_more {ivS ivE:Fm} {i:Nat} {v:Value} {h:Hp} {listed:Array Bool} {a:Act} {w:World} (hm:MidC n w0 mu all l ivS ivE h listed a w) (hun:listed.getD i true=false) (hn:lk ivS i=none):MidC n w0 mu all l ((i,v)::ivS) ivE h listed a w:=
 ⟨hm.size,hm.defers,hm.has,hm.good,fun j u hj hl d hd=>by
  by_cases hij:i=j
  ·subst hij;rw [getD_both hun] at hl;cases hl
  ·rw [lk_cons,if_neg hij] at hj;exact hm.doneS j u hj hl d hd,hm.doneE⟩
def drawCXB (ops:Array Oper) (n k t0:Nat) (S:List Nat) (C:List (Nat × Bool)):Bool:=
 dstKB ops k n && backB ops && coverB k S (C.map (·.1)) && linkX ops C && tailB ops k && (List.range k).all fun i=>(dstAt ops i).isSome || Nat.beq i t0 || Region.waitsFor .any ops i t0
theorem chain_runX (hds : ∀ k d, lk ds k = some d → dstAt all k = some d) {g : Nat} {Q' : Exit → Act → World → Prop} {X : Fm → Fm → Hp → Prop} (hk : k ≤ all.size) (hd : dstKB all k n = true) (hf : freshB l (dstsOf all k) = true) (hback : backB all = true) (hle0 : HpLe h0 hp)
    (hstb : ∀ i, i < k → dstAt all i = none → i = t0 ∨ Region.waitsFor .any all i t0 = true)
    (htail : ∀ ivS ivE h listed, HeadInv .any all k listed → (∀ i, i < k → listed.getD i true = true) → X ivS ivE h → ∀ a w, MidC n w0 mu all l ivS ivE h listed a w → (∀ i v, (i, v) ∈ ivE → i < k) → (∀ i v, lk ivS i = some v → i < k) → Uq ivS → wpAny P .any all Q' g listed a w)
    (hwait : ∀ listed, HeadInv .any all k listed → ∀ i, i < k → listed.getD i true = false → ∀ t, k ≤ t → t ∉ Region.ready .any all listed) :
    ∀ f r ivS ivE h listed a w, leftOf k listed = f → HeadInv .any all k listed → MidC n w0 mu all l ivS ivE h listed a w → SOk P n w0 mu all ds l h0 hp t0 k ivS ivE → (∀ i v, (i, v) ∈ ivE → i < k) → (∀ i ∈ r.map (·.1), i < k ∧ listed.getD i true = false ∧ lk ivS i = none) → (r.map (·.1)).Nodup → linkX all r = true → (∀ i, i < k → listed.getD i true = false → (∃ v, lk ivS i = some v) ∨ i ∈ r.map (·.1)) →
      HpLe h0 h → (listed.getD t0 false = false → HpLe hp h) → DCX P n w0 mu all ds l h0 hp t0 X r ivS ivE h → wpAny P .any all Q' (f + g) listed a w := by
  intro f
  induction f with
  | zero =>
    intro r
    induction r with
    | nil =>
      intro ivS ivE h listed a w hlf inv hm hS hEk hr hnd hlink hcov hle hlep hD
      rw [Nat.zero_add]
      exact htail ivS ivE h listed inv (fun i hi => left_zero hlf hi inv hk) hD a w hm hEk (fun i v hv => (hS.1 i v hv).1) hS.2
    | cons p r ihr =>
      intro ivS ivE h listed a w hlf inv hm hS hEk hr hnd hlink hcov hle hlep hD
      have h1 := hr p.1 (List.mem_cons_self ..)
      rw [left_zero hlf h1.1 inv hk] at h1
      exact absurd h1.2.1 (by decide)
  | succ f ih =>
    have STEP : ∀ r ivS ivE h listed a w, leftOf k listed = f + 1 → HeadInv .any all k listed → MidC n w0 mu all l ivS ivE h listed a w → SOk P n w0 mu all ds l h0 hp t0 k ivS ivE → (∀ i v, (i, v) ∈ ivE → i < k) → (∀ i ∈ r.map (·.1), i < k ∧ listed.getD i true = false ∧ lk ivS i = none) → (r.map (·.1)).Nodup → linkX all r = true → (∀ i, i < k → listed.getD i true = false → (∃ v, lk ivS i = some v) ∨ i ∈ r.map (·.1)) →
      HpLe h0 h → (listed.getD t0 false = false → HpLe hp h) → DCX P n w0 mu all ds l h0 hp t0 X r ivS ivE h → (∀ p r', r = p :: r' → p.2 = false) → wpAny P .any all Q' (f + 1 + g) listed a w := by
     intro r ivS ivE h listed a w hlf inv hm hS hEk hr hnd hlink hcov hle hlep hD hfst
     rw [show f + 1 + g = (f + g) + 1 by omega]
     have hex : ∃ i, i < k ∧ listed.getD i true = false := by
       have h2 : 0 < leftOf k listed := by omega
       obtain ⟨i, hi⟩ := List.exists_mem_of_length_pos h2
       rw [List.mem_filter] at hi
       exact ⟨i, List.mem_range.1 hi.1, by simpa using hi.2⟩
     obtain ⟨i0, hi0k, hi0⟩ := hex
     refine ⟨fun hnil => ?_, fun i hi => ?_⟩
     · exfalso
       obtain ⟨i, ⟨hik, hil⟩, hmin⟩ := exists_least (p := fun i => i < k ∧ listed.getD i true = false) ⟨i0, hi0k, hi0⟩
       have hr : i ∈ Region.ready .any all listed := by
         rw [mem_ready]
         have hs : i < all.size := by omega
         refine ⟨hil, all[i], by simp [hs], fun e he hb => ?_⟩
         have hb2 := List.all_eq_true.1 hback i (List.mem_range.2 hs)
         simp only [Array.getElem?_eq_getElem hs] at hb2
         have hb3 := (Array.all_eq_true_iff_forall_mem.1 hb2) e he
         simp only [hb, Bool.not_true, Bool.false_or, Nat.blt_eq] at hb3
         cases hc : listed.getD e.on false with
         | true => rfl
         | false =>
           have h5 := hmin e.on ⟨by omega, getD_in (by rw [inv.size]; omega) hc⟩
           omega
       rw [hnil] at hr; cases hr
     · have hik : i < k := by
         rcases Nat.lt_or_ge i k with h | h
         · exact h
         · exact absurd hi (hwait listed inv i0 hi0k hi0 i h)
       obtain ⟨hun, o, ho, hall⟩ := mem_ready.1 hi
       have hsz : i < listed.size := by rw [inv.size]; omega
       have hunf : listed.getD i false = false := getD_both hun
       have hleft : leftOf k (listed.setIfInBounds i true) = f := by have := left_set hik (by rw [inv.size]; omega) hun; omega
       have hwl : ∀ t, Region.waitsFor .any all i t = true → listed.getD t false = true := fun t ht => by
         obtain ⟨oj, h6, e, he, hb, heq⟩ := Region.waitsFor_spec ht
         rw [ho] at h6; cases h6
         rw [← heq]; exact hall e he hb
       unfold wpOp
       simp only [ho]
       cases hSi : lk ivS i with
       | some v =>
         obtain ⟨_, o', iv', ho', hmo, hy⟩ := hS.1 i v hSi
         rw [ho] at ho'; cases ho'
         have hkn := midc_knows (o := o) hds hm (iv' := iv') hmo hall
         have hir : i ∉ r.map (·.1) := fun hm' => by rw [(hr i hm').2.2] at hSi; cases hSi
         have hnext : ∀ w', Good w0 mu h w' → wpAny P .any all Q' (f + g) (listed.setIfInBounds i true) (a.put o.dst v) w' := fun w' hG' => by
           refine ih r ivS ivE h _ _ _ hleft (inv.set hi hik) (midc_put hm ho hik hun hsz hd hf hG' (fun j u hu => (hS.1 j u hu).1) hEk (.inl ⟨hSi, rfl⟩)) hS hEk (fun j hj => ?_) hnd hlink (fun j hj hl => ?_) hle (fun ht => ?_) hD
           · have hji : i ≠ j := fun e => hir (e ▸ hj)
             exact ⟨(hr j hj).1, by rw [getD_set_ne true hji]; exact (hr j hj).2.1, (hr j hj).2.2⟩
           · refine hcov j hj ?_
             by_cases hji : i = j
             · subst hji; simp [hsz] at hl
             · rwa [getD_set_ne true hji] at hl
           · refine hlep ?_
             by_cases hji : i = t0
             · subst hji; exact hunf
             · rwa [getD_set_ne false hji] at ht
         obtain ⟨hx, h3, hper⟩ : ∃ hx, HyG P n w0 mu all (depFm ds iv' o.after.toList ++ l) hx o v ∧ hx.Perm h := by
           cases hwt : Region.waitsFor .any all t0 i with
           | true =>
             have ht0 : listed.getD t0 false = false := by
               cases hc : listed.getD t0 false with
               | false => rfl
               | true =>
                 obtain ⟨oj, h6, e, he, hb, heq⟩ := Region.waitsFor_spec hwt
                 have := inv.closed t0 oj h6 hc e he hb
                 rw [heq, hunf] at this; cases this
             obtain ⟨x, hxp⟩ := (hlep ht0).perm
             have h4 := hy x
             rw [hwt] at h4
             exact ⟨x ++ hp, h4, List.perm_append_comm.trans hxp⟩
           | false =>
             obtain ⟨x, hxp⟩ := hle.perm
             have h4 := hy x
             rw [hwt] at h4
             exact ⟨x ++ h0, h4, List.perm_append_comm.trans hxp⟩
         have hgd : Good w0 mu hx w := hm.good.perm hper
         replace hnext : ∀ w', Good w0 mu hx w' → wpAny P .any all Q' (f + g) (listed.setIfInBounds i true) (a.put o.dst v) w' := fun w' hG' => hnext w' (hG'.perm hper.symm)
         unfold HyG at h3
         cases hg : o.guard with
         | none =>
           rw [hg] at h3
           rw [if_pos (by simp [Region.wanted, hg])]
           exact .inl (h3 a w hkn hgd _ _ hnext)
         | some jw =>
           obtain ⟨j, want⟩ := jw
           rw [hg] at h3
           obtain ⟨dj, c0, b, u, hj, hb, hdj, hy, hvv⟩ := h3
           have hw := wanted_of hkn hg hj hb hdj
           cases hc : (c0 && wnt b want) with
           | true =>
             rw [hc] at hw hvv
             rw [if_pos hw]
             rw [Bool.and_eq_true] at hc
             rw [show v = u from hvv] at hnext
             exact .inl (hy hc.1 hc.2 a w hkn hgd _ _ hnext)
           | false =>
             rw [hc] at hw hvv
             rw [if_neg (by rw [hw]; decide)]
             rw [show v = undef from hvv] at hnext
             exact hnext w hgd
       | none =>
         have hir : i ∈ r.map (·.1) := by
           rcases hcov i hik hun with ⟨v, hv⟩ | h
           · rw [hSi] at hv; cases hv
           · exact h
         cases r with
         | nil => cases hir
         | cons c r =>
           obtain ⟨c, cb⟩ := c
           obtain rfl : cb = false := hfst _ _ rfl
           simp only [linkX, Bool.false_or, Bool.and_eq_true] at hlink
           have hic : i = c := by
             rcases List.mem_cons.1 hir with h | h
             · exact h
             · exfalso
               obtain ⟨p, h1, h3⟩ := preX_mem hlink.1 i h
               have h1' : p ∈ (((c, false) :: r).map (·.1)) := by
                 rcases h1 with h1 | h1
                 · rw [List.mem_singleton.1 h1]; exact List.mem_cons_self ..
                 · exact List.mem_cons_of_mem _ h1
               have := (hr p h1').2.1; have h5 := hwl p h3
               rw [getD_both this] at h5; cases h5
           subst hic
           rw [List.map_cons, List.nodup_cons] at hnd
           have hlink' : linkX all r = true := hlink.2
           have hr' : ∀ j ∈ r.map (·.1), j < k ∧ (listed.setIfInBounds i true).getD j true = false ∧ lk ivS j = none := fun j hj => by
             have h1 := hr j (List.mem_cons_of_mem _ hj)
             have hji : i ≠ j := fun e => hnd.1 (e ▸ hj)
             exact ⟨h1.1, by rw [getD_set_ne true hji]; exact h1.2.1, h1.2.2⟩
           have hcov' : ∀ j, j < k → (listed.setIfInBounds i true).getD j true = false → (∃ v, lk ivS j = some v) ∨ j ∈ r.map (·.1) := fun j hj hl => by
             by_cases hji : i = j
             · subst hji; simp [hsz] at hl
             · rw [getD_set_ne true hji] at hl
               rcases hcov j hj hl with h | h
               · exact .inl h
               · exact .inr ((List.mem_cons.1 h).resolve_left (Ne.symm hji))
           have hkn := midc_knows (o := o) hds hm (iv' := ivE ++ ivS) (fun j u hu => by
             rw [look_lk, lk_app] at hu
             cases hE : lk ivE j with
             | some v => rw [hE] at hu; exact .inl hu
             | none => rw [hE] at hu; exact .inr hu) hall
           unfold DCX at hD
           obtain ⟨o', ho', hD⟩ := hD
           rw [ho] at ho'; cases ho'
           rcases hD with ⟨hds', R, ⟨hg, hE⟩, hD⟩ | ⟨hdn, h', ⟨hg, _, hSt⟩, hle', hD⟩ | ⟨hds', R, ⟨hg, hE⟩, hD⟩
           · rw [if_pos (hg _ hkn)]
             refine .inl (hE a w [] hkn (by simpa using hm.good) _ _ fun v hn w' hR hG' => ?_)
             rw [List.nil_append] at hG'
             have hlen : ∀ x : Hp, HpLe x h → HpLe x (hn ++ h) := fun x hx => hpLe_cnt fun b => by have := hx.cnt b; rw [cntB_app]; omega
             refine ih r ivS ((i, v) :: ivE) (hn ++ h) _ _ _ hleft (inv.set hi hik) (midc_put hm ho hik hun hsz hd hf hG' (fun j u hu => (hS.1 j u hu).1) hEk (.inr ⟨hSi, rfl⟩)) (sok_e (fun u hu => by have := (hm.doneE i u hu).1; rw [hunf] at this; cases this) hS) (fun j u hu => ?_) hr' hnd.2 hlink' hcov' (hlen _ hle) (fun ht => hlen _ (hlep ?_)) (hD v hn hR)
             · rcases List.mem_cons.1 hu with hu | hu
               · cases hu; exact hik
               · exact hEk j u hu
             · by_cases hji : i = t0
               · subst hji; exact hunf
               · rwa [getD_set_ne false hji] at ht
           · rw [if_pos (by simp [Region.wanted, hg])]
             refine .inl (hSt a w hkn hm.good _ _ fun w' hG' => ?_)
             have hmc : MidC n w0 mu all l ivS ivE h' (listed.setIfInBounds i true) a w' := by
               refine ⟨hm.size, hm.defers, hm.has, hG', fun j u hj hl d hdj => ?_, fun j u hj => ⟨getD_set_true (hm.doneE j u hj).1, (hm.doneE j u hj).2⟩⟩
               have hji : i ≠ j := fun e => by subst e; rw [hSi] at hj; cases hj
               exact hm.doneS j u hj (by rwa [getD_set_ne false hji] at hl) d hdj
             refine ih r ivS ivE h' _ _ _ hleft (inv.set hi hik) hmc hS hEk hr' hnd.2 hlink' hcov' hle' (fun ht => ?_) hD
             exfalso
             rcases hstb i hik (by simp [dstAt, ho, hdn]) with e | e
             · subst e
               rw [show (listed.setIfInBounds i true).getD i false = true by simp [hsz]] at ht; cases ht
             · have := getD_set_true (i := i) (hwl t0 e)
               rw [this] at ht; cases ht
           · rw [if_pos (hg _ hkn)]
             refine .inl (hE a w hkn hm.good _ _ fun v h' w' hR hG' => ?_)
             obtain ⟨hle', hit, hD'⟩ := hD v h' hR
             refine ih r ivS ((i, v) :: ivE) h' _ _ _ hleft (inv.set hi hik) (midc_put hm ho hik hun hsz hd hf hG' (fun j u hu => (hS.1 j u hu).1) hEk (.inr ⟨hSi, rfl⟩)) (sok_e (fun u hu => by have := (hm.doneE i u hu).1; rw [hunf] at this; cases this) hS) (fun j u hu => ?_) hr' hnd.2 hlink' hcov' hle' (fun ht => ?_) hD'
             · rcases List.mem_cons.1 hu with hu | hu
               · cases hu; exact hik
               · exact hEk j u hu
             · rcases hit with (e | e) | e
               · exfalso
                 subst e
                 rw [show (listed.setIfInBounds i true).getD i false = true by simp [hsz]] at ht; cases ht
               · exfalso
                 have := getD_set_true (i := i) (hwl t0 e)
                 rw [this] at ht; cases ht
               · exact e
    intro r0
    induction r0 with
    | cons p r0 ihr =>
      obtain ⟨i, db⟩ := p
      cases db with
      | true =>
        intro ivS ivE h listed a w hlf inv hm hS hEk hr hnd hlink hcov hle hlep hD
        obtain ⟨o, v, ho, hy, hD⟩ := hD
        have hri := hr i (List.mem_cons_self ..)
        have hnd' := List.nodup_cons.1 hnd
        exact ihr ((i, v) :: ivS) ivE h listed a w hlf inv (midc_more hm hri.2.1 hri.2.2) (sok_more hS hri.1 hri.2.2 ho hy) hEk (fun j hj => by
          have h1 := hr j (List.mem_cons_of_mem _ hj)
          have hji : i ≠ j := fun e => hnd'.1 (e ▸ hj)
          exact ⟨h1.1, h1.2.1, by rw [lk_cons, if_neg hji]; exact h1.2.2⟩) hnd'.2 (by simpa [linkX] using hlink) (fun j hj hl => by
          by_cases hji : i = j
          · subst hji; exact .inl ⟨v, by rw [lk_cons, if_pos rfl]⟩
          · rcases hcov j hj hl with ⟨u, hu⟩ | h
            · exact .inl ⟨u, by rw [lk_cons, if_neg hji]; exact hu⟩
            · exact .inr ((List.mem_cons.1 h).resolve_left (Ne.symm hji))) hle hlep hD
      | false =>
        intro ivS ivE h listed a w hlf inv hm hS hEk hr hnd hlink hcov hle hlep hD
        exact STEP ((i, false) :: r0) ivS ivE h listed a w hlf inv hm hS hEk hr hnd hlink hcov hle hlep hD (fun p r e => by cases e; rfl)
    | nil =>
      intro ivS ivE h listed a w hlf inv hm hS hEk hr hnd hlink hcov hle hlep hD
      exact STEP [] ivS ivE h listed a w hlf inv hm hS hEk hr hnd hlink hcov hle hlep hD (fun p r e => by cases e)
theorem st_drawCX {ops:List Oper} (k t0:Nat) (S:List Nat) (C:List (Nat × Bool)) (h0:Hp) (hB:drawCXB ops.toArray n k t0 S C=true) (hf:freshB l (dstsOf ops.toArray k)=true) (hle0:HpLe h0 hp) (hds:dstTab ops 0=ds)
  (h:DS P n w0 mu ops.toArray ds l h0 hp t0 (fun ivS0=>DCX P n w0 mu ops.toArray ds l h0 hp t0 (fun ivS ivE hc=>Ops P n w0 mu ops.toArray (ops.drop k) (headFm ds (ivE++ivS)++l) hc Q) C ivS0 [] hp) S []):StAny P n w0 mu ops.toArray l hp Q:=by
 intro a w hk hG
 simp only [drawCXB,Bool.and_eq_true] at hB
 obtain ⟨⟨⟨⟨⟨hd,hback⟩,hcover⟩,hlink⟩,htailB⟩,hstb⟩:=hB
 simp only [coverB,Bool.and_eq_true,decide_eq_true_eq] at hcover
 obtain ⟨⟨hnd,hlt⟩,hcov⟩:=hcover
 have hlt':∀ i∈S++C.map (·.1),i<k:=fun i hi=>by have:=List.all_eq_true.1 hlt i hi;simpa using this
 rw [List.nodup_append] at hnd
 obtain ⟨hndS,hndC,hSC⟩:=hnd
 obtain ⟨ivS,hX,huS,hkS,hsS⟩:=ds_get S [] hndS (fun _ _=>rfl) (fun _ _ h=>by cases h) h (fun i v hv=>by cases hv)
 simp only [lk,reduceCtorEq,exists_false,or_false] at hkS
 have hks:k≤ops.toArray.size:=by
  simp only [tailB,Bool.or_eq_true,Bool.and_eq_true,decide_eq_true_eq] at htailB
  rcases htailB with h | h<;>omega
 have hdsl:∀ i d,lk ds i=some d→dstAt ops.toArray i=some d:=fun i d h=>by rw [← hds] at h;have:=(dstTab_ok ops 0 i d h).2;simpa [dstAt] using this
 have inv0:HeadInv .any ops.toArray k (Array.replicate ops.toArray.size false):=
  ⟨by simp,fun j oj _ hl=>(by rw [getD_replicate_false] at hl;cases hl),fun t _ ht=>getD_in (by simpa using ht) (getD_replicate_false _ _)⟩
 have hun0:∀ i,i<k→(Array.replicate ops.toArray.size false).getD i true=false:=fun i hi=>getD_in (by simp at hks ⊢;omega) (getD_replicate_false _ _)
 have hleft:leftOf k (Array.replicate ops.toArray.size false)=k:=by
  unfold leftOf
  rw [List.filter_eq_self.2]
  ·simp
  ·intro i hi
   simp only [hun0 i (by simpa using hi),Bool.not_false]
 have key:=chain_runX hdsl (P:=P) (n:=n) (w0:=w0) (mu:=mu) (l:=l) (hp:=hp) (h0:=h0) (all:=ops.toArray) (k:=k) (t0:=t0) (g:=ops.toArray.size - k) (Q':=QQ n w0 mu Q) (X:=fun ivS ivE hc=>Ops P n w0 mu ops.toArray (ops.drop k) (headFm ds (ivE++ivS)++l) hc Q) hks hd hf hback hle0
  (fun i hi hdn=>by
   have:=List.all_eq_true.1 hstb i (List.mem_range.2 hi)
   rw [hdn] at this
   simp only [Option.isSome_none,Bool.false_or,Bool.or_eq_true] at this
   rcases this with h | h
   ·exact .inl (Nat.eq_of_beq_eq_true h)
   ·exact .inr h)
  (fun ivS ivE h listed inv hall hX a w hmid hEk hSk huS=>by
   have hknows:Knows n (headFm ds (ivE++ivS)++l) a:=by
    refine ⟨hmid.size,hmid.defers,fun t v ht=>?_⟩
    rcases look_append ht with ht | ⟨_,ht⟩
    ·obtain ⟨j,h1,h2⟩:=headFm_mem (look_mem ht)
     rcases List.mem_append.1 h1 with h1 | h1
     ·exact (hmid.doneE j v h1).2 t (hdsl _ _ h2)
     ·have hj:=huS j v h1
      have hjk:=hSk j v hj
      refine hmid.doneS j v hj ?_ t (hdsl _ _ h2)
      have h5:=hall j hjk
      cases hcc:listed.getD j false with
      | true=>rfl
      | false=>rw [getD_in (by rw [inv.size];omega) hcc] at h5;cases h5
    ·exact hmid.has t v ht
   have hfin:=hX a w hknows hmid.good
   simp only [tailB,Bool.or_eq_true,Bool.and_eq_true,decide_eq_true_eq] at htailB
   rcases htailB with hks2 | ⟨⟨⟨hltk,hs⟩,hc⟩,hseq⟩
   ·have e0:ops.drop k=[]:=List.drop_eq_nil_of_le (by simp at hks2;omega)
    rw [e0] at hfin
    rw [show ops.toArray.size - k=0 by omega]
    refine ⟨?_,hfin⟩
    rw [List.eq_nil_iff_forall_not_mem]
    intro i hi
    obtain ⟨hun,o,ho,_⟩:=mem_ready.1 hi
    have hi':i<k:=by rw [hks2];exact (Array.getElem?_eq_some_iff.1 ho).1
    rw [hall i hi'] at hun;cases hun
   ·have hl:listed=(Array.replicate k true)++(Array.replicate (ops.toArray.size - k) false):=by
     apply Array.ext
     ·simp [inv.size];simp at hltk;omega
     ·intro i h1 h2
      by_cases hi:i<k
      ·have:=hall i hi
       simp [h1] at this
       rw [Array.getElem_append_left (by simpa using hi)]
       simpa using this
      ·have h3:=inv.tail i (by omega) (by rw [inv.size] at h1;exact h1)
       simp [h1] at h3
       rw [Array.getElem_append_right (by simp;omega)]
       simpa using h3
    have hdl:(ops.drop k).length=ops.toArray.size - k:=by simp
    rw [← hdl]
    exact wpAny_of_seq (ops.drop k) k listed a w (fun j=>by simp) (by rw [hl,hdl];exact hseq) hfin)
  (fun listed inv i hi hun t ht=>by
   simp only [tailB,Bool.or_eq_true,Bool.and_eq_true,decide_eq_true_eq] at htailB
   rcases htailB with h | ⟨⟨⟨hltk,hs⟩,hc⟩,hseq⟩
   ·intro hr
    obtain ⟨_,o,ho,_⟩:=mem_ready.1 hr
    have:=(Array.getElem?_eq_some_iff.1 ho).1
    omega
   ·exact tail_waits hs hc hltk inv _ i rfl hi hun t ht)
  k C ivS [] hp _ a { w with drawn:=w.drawn + 1 } hleft inv0 ⟨hk.size,hk.defers,hk.has,hG.drawn _,fun i v _ hl=>(by rw [getD_replicate_false] at hl;cases hl),fun i v hv=>by cases hv⟩ ⟨fun i v hv=>⟨hlt' i (List.mem_append_left _ ((hkS i).1 ⟨v,hv⟩)),by
   obtain ⟨o,iv',h1,h2,h3⟩:=hsS i v hv
   exact ⟨o,iv',h1,fun j u hu=>.inr (h2 j u (by rw [← look_lk];exact hu)),h3⟩⟩,huS⟩ (fun i v hv=>by cases hv)
  (fun i hi=>⟨hlt' i (List.mem_append_right _ hi),hun0 i (hlt' i (List.mem_append_right _ hi)),by
   cases hv:lk ivS i with
   | none=>rfl
   | some v=>exact absurd rfl (hSC i ((hkS i).1 ⟨v,hv⟩) i hi)⟩) hndC hlink
  (fun i hi _=>by
   have:=mem_mem (List.all_eq_true.1 hcov i (List.mem_range.2 hi))
   rcases List.mem_append.1 this with h | h
   ·exact .inl ((hkS i).2 h)
   ·exact .inr h) hle0 (fun _=>HpLe.refl _) hX
 have e:k + (ops.toArray.size - k)=ops.toArray.size:=by omega
 rw [e] at key
 exact key
end
set_option maxRecDepth 20000
section
variable {n : Nat} {w0 : World} {mu : List Nat} {l : Fm} {h0 hp hc : Hp} {Q : Exit → Fm → Hp → Prop} {all : Array Oper} {ivS iv ivE : Fm} {k t0 i d : Nat} {ds : List (Nat × Nat)} {r : List (Nat × Bool)} {Y : Fm → Fm → Hp → Prop} {op : Op} {ty : TypeId} {pos : String} {af : Array Edge} {v : Value}
theorem drawCX {id:Nat} {ops tl:List Oper} (k t0:Nat) (S:List Nat) (C:List (Nat × Bool)) (h0:Hp) (h:DS Tryz.prog n w0 mu ops.toArray ds l h0 hp t0 (fun ivS0=>DCX Tryz.prog n w0 mu ops.toArray ds l h0 hp t0 (fun ivS ivE hc=>Ops Tryz.prog n w0 mu ops.toArray tl (headFm ds (ivE++ivS)++l) hc Q) C ivS0 [] hp) S [])
  (hle0:HpLe h0 hp:=by (refine hpLe_cnt fun a=>?_;simp only [cntB_app,cntB_cons,cntB_nil]<;>omega)) (hds:dstTab ops 0=ds:=by (simp only [dstTab,Nat.reduceAdd,Nat.zero_add];rfl)) (htl:ops.drop k=tl:=by (simp only [List.drop_succ_cons,List.drop_zero,List.drop_nil];rfl)) (hm:Tryz.prog.follows .mixedOrders=true:=by kernel_rfl) (hB:drawCXB ops.toArray n k t0 S C=true:=by decide +kernel) (hf:freshB l (dstsOf ops.toArray k)=true:=by rfl):St Tryz.prog n w0 mu (.region id ops.toArray true) l hp Q:=
 st_any hm (st_drawCX k t0 S C h0 hB hf hle0 hds (by rw [htl];exact h))
theorem xNil (h:Y ivS ivE hc):DCX Tryz.prog n w0 mu all ds l h0 hp t0 Y [] ivS ivE hc:=h
theorem xC (h:DCh Tryz.prog n w0 mu all ds l h0 ivS (fun ivE' hc'=>DCX Tryz.prog n w0 mu all ds l h0 hp t0 Y r ivS ivE' hc') [i] ivE hc):DCX Tryz.prog n w0 mu all ds l h0 hp t0 Y ((i,false)::r) ivS ivE hc:=by
 obtain ⟨o,ho,h⟩:=h
 refine ⟨o,ho,?_⟩
 rcases h with ⟨h1,R,h2,h3⟩ | ⟨h1,h',h2,h3,h4⟩
 ·exact .inl ⟨h1,R,h2,h3⟩
 ·exact .inr (.inl ⟨h1,h',h2,h3,h4⟩)
end
section
variable {P : Program} {T : Tab} {n : Nat} {w0 : World} {mu : List Nat} {l : Fm} {hp : Hp} {ty : TypeId} {pos : String} {af : Array Edge} {Q : Exit → Fm → Hp → Prop} {all : Array Oper} {rest : List Oper}
theorem ec_appendN (ok:TabOk P T) {t d e sz by_ m c a o:Nat} {x y:Operand} {z:Value} {news:List Value} (hx:ev l x=some (.slice none 0 0)) (hy:ev l y=some (.slice (some ⟨a,o,none⟩) m c)) (ht:lk T.sl t=some (e,sz))
  (hz:lk T.zs e=some z) (hzs:z.cells.size=sz) (hb:lk T.eb e=some by_) (hm:0<m) (hl:news.length=m * sz) (hnews:NewsAt w0 mu hp a o news) (h63:m≤1048576) (h48:m * by_≤281474976710656):EoC P n w0 mu all l hp ⟨some d,.call { callee:=.builtin .append,args:=#[x,y],argTypes:=#[t,t] },ty,pos,af,none⟩ (fun v h'=>∃ g cap cur,Row g cap cur sz m news∧v=.slice (some ⟨g,0,none⟩) m cap∧h'=⟨g,cur,e⟩::hp):=by
 refine ⟨fun a _=>by simp [Region.wanted],fun ac w hk hG K Q' hK=>?_⟩
 obtain ⟨hu,hsz⟩:=ok.gsl ht
 have hbb:=List.all_eq_true.1 ok.eb _ (lk_mem hb)
 simp only [beq_iff_eq] at hbb
 obtain ⟨i,hi,hiz,his,hib⟩:=info_of hsz hbb (ok.gzs hz)
 subst his hib
 have hr:=run_append_nil (P:=P) w t ty e i z hu hi hiz ⟨a,o,none⟩ m c news hl (fun j u hj=>by rw [Addr.add_mid];exact hnews w hG j u hj) hm (by omega) h48
 unfold Oper.wp execOp
 simp only [resolve,invoke,builtin,Sem.run_bind,Sem.run_pure,Result.andThen_ok,List.map_toArray,List.map_cons,List.map_nil,hk.ev hx,hk.ev hy,hr]
 have hrow:=row_new (w:=w) (z:=z) (sz:=i.size) (k:=0) (m:=m) (old:=0) (e:=e) (xs:=[]) (news:=news) hzs (by simp) hl (by unfold maxLen;omega)
 simp only [Nat.zero_add,List.nil_append,Array.empty_append] at hrow
 have hG':=(hG.drawn (w.drawn + 1)).alloc (news.toArray++Builtin.zeroCells z.cells (grownCap w m 0 e - m)) e
 exact hK _ _ _ ⟨_,_,_,hrow,rfl,rfl⟩ hG'
theorem ec_appendO (ok:TabOk P T) {t d e sz by_ k m c a o g cap:Nat} {cur:Array Value} {x y:Operand} {z:Value} {xs news:List Value} {hp':Hp} (hx:ev l x=some (.slice (some ⟨g,0,none⟩) k cap)) (hy:ev l y=some (.slice (some ⟨a,o,none⟩) m c)) (ht:lk T.sl t=some (e,sz))
  (hz:lk T.zs e=some z) (hzs:z.cells.size=sz) (hb:lk T.eb e=some by_) (hperm:(⟨g,cur,e⟩::hp').Perm hp) (hown:Row g cap cur sz k xs) (hl:news.length=m * sz) (hnews:NewsAt w0 mu hp a o news) (h1:news.all (·.oneCell')=true) (h63:k + m≤1048576) (h48:(k + m + (k + m) / 4 + 192) * by_≤281474976710656):EoC P n w0 mu all l hp ⟨some d,.call { callee:=.builtin .append,args:=#[x,y],argTypes:=#[t,t] },ty,pos,af,none⟩ (fun v h'=>∃ g cap cur,Row g cap cur sz (k + m) (xs++news)∧v=.slice (some ⟨g,0,none⟩) (k + m) cap∧h'=⟨g,cur,e⟩::hp'):=by
 refine ⟨fun a _=>by simp [Region.wanted],fun ac w hk hG K Q' hK=>?_⟩
 obtain ⟨hu,hsz⟩:=ok.gsl ht
 have hbb:=List.all_eq_true.1 ok.eb _ (lk_mem hb)
 simp only [beq_iff_eq] at hbb
 obtain ⟨i,hi,hiz,his,hib⟩:=info_of hsz hbb (ok.gzs hz)
 subst his hib
 have hG':=hG.perm hperm
 have hg:=hG'.here _ (List.mem_cons_self ..)
 have hn:∀ j u,news[j]?=some u→w.cell? ((⟨a,o,none⟩:Addr).add j)=some u:=fun j u hj=>by rw [Addr.add_mid];exact hnews w hG j u hj
 by_cases hroom:k + m≤cap
 ·have hfit:k * i.size + news.length≤cur.size:=by rw [hl,hown.size,← Nat.add_mul];exact Nat.mul_le_mul_right _ hroom
  have hr:=run_append_room (P:=P) w t ty e i hu hi g k cap cur hg ⟨a,o,none⟩ m c news hl hn (fun u hu=>List.all_eq_true.1 h1 u hu) hroom hfit
  unfold Oper.wp execOp
  simp only [resolve,invoke,builtin,Sem.run_bind,Sem.run_pure,Result.andThen_ok,List.map_toArray,List.map_cons,List.map_nil,hk.ev hx,hk.ev hy,hr]
  refine hK _ _ _ ⟨_,_,_,⟨?_,hroom,hown.max,?_,?_⟩,rfl,rfl⟩ (hG'.row _)
  ·rw [List.length_append,hown.len,hl,Nat.add_mul]
  ·have:=hown.size
   simp only [List.size_toArray,List.length_append,List.length_take,List.length_drop,Array.length_toList]
   omega
  ·rw [hown.take,show (k + m) * i.size=(xs++news).length by rw [List.length_append,hown.len,hl,Nat.add_mul]]
   exact List.take_left
 ·have holds:∀ j u,xs[j]?=some u→w.cell? ((⟨g,0,none⟩:Addr).add j)=some u:=by
   intro j u hj
   rw [Addr.add_mid,cell_of_block hg]
   rw [← hown.take,List.getElem?_take] at hj
   split at hj
   ·simpa using hj
   ·cases hj
  have hr:=run_append_grow (P:=P) w t ty e i z hu hi hiz ⟨g,0,none⟩ k cap xs hown.len holds ⟨a,o,none⟩ m c news hl hn (by omega) (by omega) (growslice_fits_wide (by omega) h48)
  unfold Oper.wp execOp
  simp only [resolve,invoke,builtin,Sem.run_bind,Sem.run_pure,Result.andThen_ok,List.map_toArray,List.map_cons,List.map_nil,hk.ev hx,hk.ev hy,hr]
  have hG2:=((hG'.sub (hp':=hp') (List.sublist_cons_self _ _)).drawn (w.drawn + 1)).alloc (xs.toArray++news.toArray++Builtin.zeroCells z.cells (grownCap w (k + m) cap e - (k + m))) e
  have hrow:=row_new (w:=w) (k:=k) (m:=m) (old:=cap) (e:=e) hzs hown.len hl (by unfold maxLen;omega)
  exact hK _ _ _ ⟨_,_,_,hrow,rfl,rfl⟩ hG2
end
theorem ec_perm {P:Program} {n:Nat} {w0:World} {mu:List Nat} {all:Array Oper} {l:Fm} {hp:Hp} {o:Oper} {R R':RT} (h:EoC P n w0 mu all l hp o R) (hr:∀ v h',R v h'→∃ h2,R' v h2∧h2.Perm h'):EoC P n w0 mu all l hp o R':=
 ⟨h.1,fun a w hk hG K Q hK=>h.2 a w hk hG K Q fun v h' w' hR hG'=>by
  obtain ⟨h2,h3,h4⟩:=hr v h' hR
  exact hK v h2 w' h3 (hG'.perm h4)⟩
section
variable {n : Nat} {w0 : World} {mu : List Nat} {l : Fm} {h0 hp hc : Hp} {all : Array Oper} {ds : List (Nat × Nat)} {t0 : Nat} {ivS ivE : Fm} {Y : Fm → Fm → Hp → Prop} {i d : Nat} {r : List (Nat × Bool)} {ty : TypeId} {pos : String} {af : Array Edge}
theorem xApp {t e sz by_ cc a:Nat} {x y:Operand} {z v:Value} {c:List Value} {ha hp':Hp} {xs:List (List Value)} (hA:Acc e sz v ha xs) (hnews:NewsAt w0 mu hc a 0 c) (h63:xs.length<1000000) (hperm:(ha++hp').Perm hc) (hle:HpLe h0 hp')
  (h:∀ v' ha',Acc e sz v' ha' (xs++[c])→DCX Tryz.prog n w0 mu all ds l h0 hp t0 Y r ivS ((i,v')::ivE) (ha'++hp')) (ho:all[i]?=some ⟨some d,.call { callee:=.builtin .append,args:=#[x,y],argTypes:=#[t,t] },ty,pos,af,none⟩:=by rfl) (hit:(i=t0∨Region.waitsFor .any all i t0=true)∨HpLe hp hp':=by exact .inl (.inl rfl))
  (hx:ev (depFm ds (ivE++ivS) af.toList++l) x=some v:=by rfl) (hy:ev (depFm ds (ivE++ivS) af.toList++l) y=some (.slice (some ⟨a,0,none⟩) 1 cc):=by rfl) (ht:lk Tb.sl t=some (e,sz):=by rfl)
  (hz:lk Tb.zs e=some z:=by rfl) (hzs:z.cells.size=sz:=by rfl) (hb:lk Tb.eb e=some by_:=by rfl) (hby:Nat.ble by_ 4096=true:=by rfl) (hl:c.length=sz:=by rfl) (h1:c.all (·.oneCell')=true:=by rfl):DCX Tryz.prog n w0 mu all ds l h0 hp t0 Y ((i,false)::r) ivS ivE hc:=by
 have hby':by_≤4096:=Nat.le_of_ble_eq_true hby
 have hall:∀ c'∈xs++[c],c'.length=sz∧c'.all (·.oneCell')=true:=by
  intro c' hc'
  rcases List.mem_append.1 hc' with hc' | hc'
  ·exact hA.1 c' hc'
  ·obtain rfl:=List.mem_singleton.1 hc';exact ⟨hl,h1⟩
 rcases hA.2 with ⟨rfl,rfl,rfl⟩ | ⟨hne,g,cap,cur,rfl,rfl,hrow⟩
 ·refine ⟨_,ho,.inr (.inr ⟨rfl,fun v h'=>∃ g cap cur,Row g cap cur sz 1 c∧v=.slice (some ⟨g,0,none⟩) 1 cap∧h'=⟨g,cur,e⟩::hp',ec_perm (ec_appendN tb_ok hx hy ht hz hzs hb (by omega) (by rw [hl,Nat.one_mul]) hnews (by omega) (by omega)) ?_,?_⟩)⟩
  ·rintro _ _ ⟨g,cap,cur,hr,rfl,rfl⟩
   exact ⟨_,⟨g,cap,cur,hr,rfl,rfl⟩,(hperm.cons _:(⟨g,cur,e⟩::([]++hp')).Perm (⟨g,cur,e⟩::hc))⟩
  rintro _ _ ⟨g,cap,cur,hr,rfl,rfl⟩
  refine ⟨?_,hit.imp id fun h2=>hpLe_cnt fun b=>?_,?_⟩
  ·refine hpLe_cnt fun b=>?_
   have:=hle.cnt b
   rw [cntB_cons]
   omega
  ·have:=h2.cnt b
   show _≤cntB b (⟨g,cur,e⟩::hp')
   rw [cntB_cons]
   omega
  ·exact h (.slice (some ⟨g,0,none⟩) 1 cap) [⟨g,cur,e⟩] ⟨hall,.inr ⟨by simp,g,cap,cur,rfl,rfl,by simpa using hr⟩⟩
 ·refine ⟨_,ho,.inr (.inr ⟨rfl,_,ec_appendO tb_ok hx hy ht hz hzs hb hperm hrow (by rw [hl,Nat.one_mul]) hnews h1 (by omega) ?_,?_⟩)⟩
  ·have h2:(xs.length + 1 + (xs.length + 1) / 4 + 192)≤2000000:=by omega
   calc _≤2000000 * by_:=Nat.mul_le_mul_right _ h2
    _≤2000000 * 4096:=Nat.mul_le_mul_left _ hby'
    _≤_:=by decide
  rintro _ _ ⟨g,cap,cur,hr,rfl,rfl⟩
  refine ⟨?_,hit.imp id fun h2=>hpLe_cnt fun b=>?_,?_⟩
  ·refine hpLe_cnt fun b=>?_
   have:=hle.cnt b
   show _≤cntB b (⟨g,cur,e⟩::hp')
   rw [cntB_cons]
   omega
  ·have:=h2.cnt b
   show _≤cntB b (⟨g,cur,e⟩::hp')
   rw [cntB_cons]
   omega
  ·exact h (.slice (some ⟨g,0,none⟩) (xs.length + 1) cap) [⟨g,cur,e⟩] ⟨hall,.inr ⟨by simp,g,cap,cur,by simp,rfl,by simpa using hr⟩⟩
end
end Go.Proofs.YtndklbjnofdgeaaGreat
namespace Go.Proofs.YtndklbjnofdgeaaGreat
open Go.RowKit
set_option linter.unusedVariables false
set_option linter.unusedSimpArgs false
set_option maxRecDepth 20000
attribute [local irreducible] Hy St Ops DH DHF
structure HtD where
 frame:Int
 mid:Int
 r:Bool
 w:Bool
 x:Bool
 af:Bool
 ng:Bool
 soft:Int
 level:Int
deriving DecidableEq
def noHt:HtD:=⟨0,0,false,false,false,false,false,0,0⟩
instance : Inhabited HtD := ⟨noHt⟩
abbrev htV (h:HtD):Value:=.agg #[.int .i64 h.frame,.int .i64 h.mid,.bool h.r,.bool h.w,.bool h.x,.bool h.af,.bool h.ng,.int .i64 h.soft,.int .i64 h.level]
structure FtD where
 kind:Int
 stage:Int
 level:Int
 walk:Bool
 page:Int
deriving DecidableEq
def noFt:FtD:=⟨0,0,0,false,0⟩
instance : Inhabited FtD := ⟨noFt⟩
abbrev ftV (f:FtD):Value:=.agg #[.int .i64 f.kind,.int .i64 f.stage,.int .i64 f.level,.bool f.walk,.int .i64 f.page]
def mayA (r w x:Bool) (acc:Int):Bool:=decide (acc=0) && r || decide (acc=1) && w || decide (acc=2) && x
def flagL (r w x af:Bool) (acc stage level page:Int):FtD:=bif !af then ⟨3,stage,level,false,page⟩ else bif !mayA r w x acc then ⟨4,stage,level,false,page⟩ else noFt
structure WlD where
 h:HtD
 f:FtD
 rd:List Int
deriving Inhabited
def dSt (ws:List Nat) (stage:Int) (p level:Nat):DsD:=ofL stage level (ws.getD p 0)
theorem dSt_may (ws:List Nat) (stage:Int) (p level:Nat):(dSt ws stage p level).may stage level=true:=ofL_may _ _ _
def endL (n:Nat) (stage:Int) (page level:Nat) (d:DsD) (rd:List Int):WlD:=
 bif decide (d.kind=0) then ⟨noHt,⟨2,stage,level,false,page⟩,rd⟩
 else bif hasF n (d.frame + ((page % coversN level:Nat):Int)) then ⟨⟨d.frame + ((page % coversN level:Nat):Int),0,d.r,d.w,d.x,d.af,d.ng,d.soft,level⟩,noFt,rd⟩
 else ⟨noHt,⟨1,stage,level,false,page⟩,rd⟩
def wlk (ws : List Nat) (stage : Int) (page : Nat) : Nat → Nat → Int → List Int → WlD
  | 0, level, f, rd => ⟨noHt, ⟨2, stage, 3, false, page⟩, rd⟩
  | k + 1, level, f, rd => bif hasF ws.length f then
      (bif decide ((dSt ws stage (atN f level page) level).kind = 1) then wlk ws stage page k (level + 1) (dSt ws stage (atN f level page) level).frame (rd ++ [f])
       else endL ws.length stage page level (dSt ws stage (atN f level page) level) (rd ++ [f]))
    else ⟨noHt, ⟨1, stage, level, false, page⟩, rd⟩
def walk5 (ws:List Nat) (stage frame:Int) (page:Nat):WlD:=wlk ws stage page 4 0 frame []
def midG (W:WlD) (mid:Nat) (acc:Int):FtD:=bif decide (W.f.kind=0) then flagL W.h.r W.h.w W.h.x W.h.af acc 2 W.h.level mid else W.f
def midE (W:WlD) (mid:Nat) (acc:Int):WlD:=bif !decide ((midG W mid acc).kind=0) then ⟨noHt,midG W mid acc,W.rd⟩ else ⟨{ W.h with mid:=mid },midG W mid acc,W.rd⟩
def midL (ws:List Nat) (on:Bool) (frame:Int) (mid:Nat) (acc:Int):WlD:=
 bif !on then (bif hasF ws.length mid then ⟨⟨mid,mid,true,true,true,true,false,0,0⟩,noFt,[]⟩ else ⟨noHt,⟨1,2,0,false,mid⟩,[]⟩)
 else midE (walk5 ws 2 frame mid) mid acc
end Go.Proofs.YtndklbjnofdgeaaGreat
namespace Go.Proofs.YtndklbjnofdgeaaGreat
open Go.RowKit
set_option linter.unusedVariables false
set_option linter.unusedSimpArgs false
set_option maxRecDepth 20000
section
variable {P : Program} {T : Tab} {n : Nat} {w0 : World} {mu : List Nat} {l : Fm} {hp : Hp} {Q : Exit → Fm → Hp → Prop} {all : Array Oper} {rest : List Oper} {ty : TypeId} {pos : String} {af : Array Edge}
theorem z_append0 (ok:TabOk P T) {t d e sz k cap c:Nat} {p q:Option Addr} {x y:Operand} {z:Value} (hd:Nat.blt d n=true) (hx:ev l x=some (.slice p k cap)) (hle:k≤cap) (hy:ev l y=some (.slice q 0 c)) (ht:lk T.sl t=some (e,sz)) (hz:lk T.zs e=some z)
  (h:Ops P n w0 mu all rest ((d,.slice p k cap)::l) hp Q):Ops P n w0 mu all (⟨some d,.call { callee:=.builtin .append,args:=#[x,y],argTypes:=#[t,t] },ty,pos,af,none⟩::rest) l hp Q:=by
 intro ac w hk hG
 have hput:∀ v,Knows n ((d,v)::l) (ac.put (some d) v):=fun v=>Knows.put (d:=some d) hk (fun t ht=>by cases ht;simpa using hd) v
 obtain ⟨hu,hsz⟩:=ok.gsl ht
 refine wpList_plain rfl fun K hK=>?_
 have hr:(Builtin.append_ #[t,t] ty #[.slice p k cap,.slice q 0 c]).run P w=.ok (.slice p k cap) w:=by
  cases p<;>cases q<;>simp [Builtin.append_,run_underlying hu,run_sizeOf hsz w,Builtin.lenOf,Builtin.firstCells,hle,storeCells,loadCells,loadCellsFrom]
 unfold Oper.wp execOp
 simp only [resolve,invoke,builtin,Sem.run_bind,Sem.run_pure,Result.andThen_ok,List.map_toArray,List.map_cons,List.map_nil,hk.ev hx,hk.ev hy,hr]
 exact hK _ _ (h _ _ (hput _) hG)
end
section
variable {n : Nat} {w0 : World} {mu : List Nat} {l : Fm} {hp : Hp} {Q : Exit → Fm → Hp → Prop} {all : Array Oper} {rest : List Oper} {ty : TypeId} {pos : String} {af : Array Edge}
def SrcAt (w0:World) (mu:List Nat) (hp:Hp) (v:Value) (ys:List (List Value)):Prop:=∃ q c,v=.slice q ys.length c∧(ys=[]∨∃ a o,q=some ⟨a,o,none⟩∧NewsAt w0 mu hp a o ys.flatten)
theorem SrcAt.own {e sz:Nat} {v:Value} {ha:Hp} {ys:List (List Value)} (hA:Own e sz v ha ys) (hm:HpLe ha hp):SrcAt w0 mu hp v ys:=by
 rcases hA.2 with ⟨rfl,rfl,rfl⟩ | ⟨g,cap,cur,rfl,rfl,hrow⟩
 ·exact ⟨_,_,rfl,.inl rfl⟩
 ·refine ⟨_,_,rfl,.inr ⟨g,0,rfl,?_⟩⟩
  have hb:(⟨g,cur,e⟩:Blk)∈hp:=by
   obtain ⟨x,hx,_⟩:=hm
   exact hx.mem_iff.1 (List.mem_cons_self ..)
  refine news_own (m:=ys.length * sz) hb ?_
  rw [List.drop_zero];exact hrow.take
theorem SrcAt.old {sz:Nat} {w0:World} {hp:Hp} {v:Value} {α:Type} {f:α→List Value} {ys:List α} (h:SlAt w0 v sz (ys.map f)) (hall:∀ c∈ys.map f,c.length=sz):SrcAt w0 [] hp v (ys.map f):=by
 obtain ⟨⟨p,c,rfl,hne⟩,_⟩:=h
 refine ⟨p,c,rfl,?_⟩
 by_cases h0:ys.map f=[]
 ·exact .inl h0
 ·obtain ⟨b,o,rfl,hr⟩:=hne h0
  exact .inr ⟨b,o,rfl,news_old (range_flatten _ o hall hr) (by simp)⟩
theorem appendG {t d e sz by_:Nat} {x y:Operand} {z v yv:Value} {ha:Hp} {xs:List (List Value)} (ys:List (List Value)) (hp':Hp) (hA:Own e sz v ha xs) (hS:SrcAt w0 mu hp yv ys) (h:∀ v' ha',Own e sz v' ha' (xs++ys)→Ops Tryz.prog n w0 mu all rest ((d,v')::l) (ha'++hp') Q) (h63:xs.length + ys.length<1000000) (hall:∀ c∈ys,c.length=sz∧c.all (·.oneCell')=true)
  (hperm:(ha++hp').Perm hp) (hd:Nat.blt d n=true:=by rfl) (hx:ev l x=some v:=by rfl) (hy:ev l y=some yv:=by rfl) (ht:lk Tb.sl t=some (e,sz):=by rfl)
  (hz:lk Tb.zs e=some z:=by rfl) (hzs:z.cells.size=sz:=by rfl) (hb:lk Tb.eb e=some by_:=by rfl) (hby:Nat.ble by_ 4096=true:=by rfl):Ops Tryz.prog n w0 mu all (⟨some d,.call { callee:=.builtin .append,args:=#[x,y],argTypes:=#[t,t] },ty,pos,af,none⟩::rest) l hp Q:=by
 have hby':by_≤4096:=Nat.le_of_ble_eq_true hby
 have hfl:=flatten_len ys (fun c hc=>(hall c hc).1)
 obtain ⟨q,c,rfl,hsrc⟩:=hS
 have hall2:∀ c∈xs++ys,c.length=sz∧c.all (·.oneCell')=true:=fun c hc=>by
  rcases List.mem_append.1 hc with hc | hc
  ·exact hA.1 c hc
  ·exact hall c hc
 by_cases h0:ys=[]
 ·subst h0
  rw [List.append_nil] at h
  have hsh:∃ p cap,v=.slice p xs.length cap∧xs.length≤cap:=by
   rcases hA.2 with ⟨rfl,rfl,rfl⟩ | ⟨g,cap,cur,rfl,rfl,hrow⟩
   ·exact ⟨_,_,rfl,Nat.le_refl _⟩
   ·exact ⟨_,_,rfl,hrow.le⟩
  obtain ⟨p,cap,rfl,hle⟩:=hsh
  refine z_append0 tb_ok hd hx hle hy ht hz ?_
  exact ops_perm _ hperm (h _ ha hA)
 ·obtain ⟨a,o,rfl,hnews⟩:=hsrc.resolve_left h0
  have hpos:0<ys.length:=List.length_pos_iff.2 h0
  rcases hA.2 with ⟨rfl,rfl,rfl⟩ | ⟨g,cap,cur,rfl,rfl,hrow⟩
  ·refine z_appendN tb_ok hd hx hy ht hz hzs hb hpos hfl hnews (by simp at h63;omega) ?_ fun g cap cur hr=>?_
   ·calc _≤1000000 * by_:=Nat.mul_le_mul_right _ (by simp at h63;omega)
     _≤1000000 * 4096:=Nat.mul_le_mul_left _ hby'
     _≤_:=by decide
   ·have:=h (.slice (some ⟨g,0,none⟩) ys.length cap) [⟨g,cur,e⟩] ⟨hall2,.inr ⟨g,cap,cur,rfl,rfl,by simpa using hr⟩⟩
    refine ops_perm _ ?_ this
    exact (hperm.cons _:(⟨g,cur,e⟩::([]++hp')).Perm (⟨g,cur,e⟩::hp))
  ·refine z_appendO tb_ok hd hx hy ht hz hzs hb hperm hrow (news:=ys.flatten) hfl hnews ?_ (by omega) ?_ fun g cap cur hr=>?_
   ·rw [List.all_flatten,List.all_eq_true]
    exact fun c hc=>(hall c hc).2
   ·have h2:(xs.length + ys.length + (xs.length + ys.length) / 4 + 192)≤2000000:=by omega
    calc _≤2000000 * by_:=Nat.mul_le_mul_right _ h2
     _≤2000000 * 4096:=Nat.mul_le_mul_left _ hby'
     _≤_:=by decide
   ·have:=h (.slice (some ⟨g,0,none⟩) (xs.length + ys.length) cap) [⟨g,cur,e⟩] ⟨hall2,.inr ⟨g,cap,cur,by rw [List.length_append],rfl,by rw [List.length_append,List.flatten_append];exact hr⟩⟩
    exact this
end
end Go.Proofs.YtndklbjnofdgeaaGreat
namespace Go.Proofs.YtndklbjnofdgeaaGreat
open Go.RowKit
set_option linter.unusedVariables false
set_option linter.unusedSimpArgs false
set_option maxRecDepth 20000
def EnD.of_ (e:EnD) (V A:Int):Bool:=decide (e.vmid=V) && (e.all || decide (e.asid=A))
def EnD.lets (e:EnD) (acc:Int):Bool:=mayA e.r e.w e.x acc
def pWhole (V A P acc:Int) (e:EnD):Bool:=decide (e.kind=1) && e.of_ V A && decide (e.page=P) && e.lets acc
def pMid (V P acc:Int) (e:EnD):Bool:=decide (e.kind=2) && decide (e.vmid=V) && decide (e.page=P) && e.lets acc
def pWlk (V A:Int) (P:Nat) (e:EnD):Bool:=decide (e.kind=3) && e.of_ V A && decide (e.page=((cutN (e.level.toNat - 1) P:Nat):Int))
def bestI (es:List EnD) (q:EnD→Bool):Nat→Int
 | 0=>-1
 | k + 1=>bif q (es.getD k default) && (decide (bestI es q k<0) || decide ((es.getD (bestI es q k).toNat default).level<(es.getD k default).level)) then (k:Int) else bestI es q k
theorem bestI_lt {es:List EnD} {q:EnD→Bool}:∀ k,-1≤bestI es q k∧bestI es q k<(k:Int):=by
 intro k
 induction k with
 | zero=>rw [bestI];omega
 | succ k ih=>
  rw [bestI]
  cases (q (es.getD k default) && (decide (bestI es q k<0) || decide ((es.getD (bestI es q k).toNat default).level<(es.getD k default).level))) with
  | true=>rw [cond_true];omega
  | false=>rw [cond_false];omega
def fillL (es:List EnD) (e:EnD):List EnD:=bif !(es.any fun t=>decide (t=e)) && decide (es.length<8) then es++[e] else es
attribute [local irreducible] Hy St Ops DH DHF DE1 DE2 DE3 DS DCh
theorem idxI_neg {α:Type} [Inhabited α] (p:α→Bool) (l:List α):decide (idxI p l<0)=!l.any p:=by
 cases h:l.any p with
 | false=>
  have:idxI p l=-1:=idxI_none fun j hj=>by
   rw [List.any_eq_false] at h
   have:=h _ (getD_mem hj)
   simpa using this
  rw [this];rfl
 | true=>
  obtain ⟨x,hx,hp⟩:=List.any_eq_true.1 h
  obtain ⟨j,hj,rfl⟩:=List.getElem_of_mem hx
  have hjp:p (l.getD j default)=true:=by rw [List.getD_eq_getElem?_getD,List.getElem?_eq_getElem hj];exact hp
  obtain ⟨j0,h0,h1,h2⟩:=idx_least p l j hjp
  rw [idxI_at (k:=j0) (by omega) h1 h2]
  simp
end Go.Proofs.YtndklbjnofdgeaaGreat
namespace Go.Proofs.YtndklbjnofdgeaaGreat
open Go.RowKit
set_option linter.unusedVariables false
set_option linter.unusedSimpArgs false
set_option maxRecDepth 20000
structure PkD where
 cpu:Int
 fill:Bool
 mids:Bool
 walk:Bool
 drop:Int
 use:Bool
instance : Inhabited PkD := ⟨⟨0, false, false, false, 0, false⟩⟩
abbrev pkV (p:PkD):List Value:=[.int .i64 p.cpu,.bool p.fill,.bool p.mids,.bool p.walk,.int .i64 p.drop,.bool p.use]
structure RtD where
 on:Bool
 frame:Int
 tag:Int
instance : Inhabited RtD := ⟨⟨false, 0, 0⟩⟩
abbrev rtV (r:RtD):List Value:=[.bool r.on,.int .i64 r.frame,.int .i64 r.tag]
def RtD.may (r:RtD):Bool:=PtD.btw r.frame 0 4095 && PtD.btw r.tag 0 15
structure AcS where
 es:List EnD
 rd:List Int
structure AtD where
 r:Bool
 w:Bool
 x:Bool
 af:Bool
 ng:Bool
def noAt:AtD:=⟨false,false,false,false,false⟩
abbrev atV (a:AtD):List Value:=[.bool a.r,.bool a.w,.bool a.x,.bool a.af,.bool a.ng,.int .i64 0]
structure MdR where
 s:AcS
 n:Int
 a:AtD
 f:FtD
structure StR where
 s:AcS
 n:Int
 f:FtD
structure AcC where
 ws:List Nat
 one:RtD
 two:RtD
 pk:PkD
 page:Nat
 acc:Int
def entM (tag:Int) (mid:Nat) (h:HtD):EnD:=⟨2,tag,0,true,mid,0,h.frame,0,h.r,h.w,h.x,h.af,h.ng,0⟩
def entW (c:AcC) (level:Nat) (frame:Int):EnD:=⟨3,c.two.tag,c.one.tag,false,((cutN (level - 1) c.page:Nat):Int),level,frame,0,false,false,false,false,false,0⟩
def entH (c:AcC) (n:Int) (mid:Nat) (d:DsD) (a:AtD):EnD:=⟨1,c.two.tag,c.one.tag,!(d.ng || a.ng),c.page,0,n,mid,d.r && a.r,d.w && a.w,d.x && a.x,d.af && a.af,d.ng || a.ng,0⟩
def midF (c:AcC) (s:AcS) (mid:Nat) (W:WlD):MdR:=
 bif !decide (W.f.kind=0) then ⟨⟨s.es,s.rd++W.rd⟩,0,noAt,W.f⟩
 else ⟨⟨bif c.pk.mids then fillL s.es (entM c.two.tag mid W.h) else s.es,s.rd++W.rd⟩,W.h.frame,⟨W.h.r,W.h.w,W.h.x,W.h.af,W.h.ng⟩,W.f⟩
def midI (c:AcC) (s:AcS) (mid:Nat) (acc:Int):Int:=idxI (pMid c.two.tag mid acc) s.es
def atE (e:EnD):AtD:=⟨e.r,e.w,e.x,e.af,e.ng⟩
def midA (c:AcC) (s:AcS) (mid:Nat) (acc:Int):MdR:=
 bif c.pk.use && decide (0≤midI c s mid acc) then ⟨s,(s.es.getD (midI c s mid acc).toNat default).frame,atE (s.es.getD (midI c s mid acc).toNat default),noFt⟩
 else midF c s mid (midL c.ws true c.two.frame mid acc)
def tblA (c:AcC) (s:AcS) (mid level:Nat):StR:=
 bif !decide ((midA c s mid 0).f.kind=0) then ⟨(midA c s mid 0).s,0,{ (midA c s mid 0).f with walk:=true }⟩
 else ⟨⟨bif decide (0<level) && c.pk.walk then fillL (midA c s mid 0).s.es (entW c level (midA c s mid 0).n) else (midA c s mid 0).s.es,(midA c s mid 0).s.rd⟩,(midA c s mid 0).n,noFt⟩
def leafM (c:AcC) (level:Nat) (d:DsD):Nat:=d.frame.toNat + c.page % coversN level
def leafA (c:AcC) (s:AcS) (level:Nat) (d:DsD):StR:=
 bif !decide ((flagL d.r d.w d.x d.af c.acc 1 level c.page).kind=0) then ⟨s,0,flagL d.r d.w d.x d.af c.acc 1 level c.page⟩
 else bif !decide ((midA c s (leafM c level d) c.acc).f.kind=0) then ⟨(midA c s (leafM c level d) c.acc).s,0,(midA c s (leafM c level d) c.acc).f⟩
 else ⟨⟨bif c.pk.fill then fillL (midA c s (leafM c level d) c.acc).s.es (entH c (midA c s (leafM c level d) c.acc).n (leafM c level d) d (midA c s (leafM c level d) c.acc).a) else (midA c s (leafM c level d) c.acc).s.es,(midA c s (leafM c level d) c.acc).s.rd⟩,(midA c s (leafM c level d) c.acc).n,noFt⟩
def stgA (c:AcC):Nat→Nat→Int→AcS→StR
 | 0,level,frame,s=>⟨s,0,noFt⟩
 | k + 1,level,frame,s=>
  let d:=dSt c.ws 1 (atN frame level c.page) level
  let s1:AcS:=⟨s.es,s.rd++[frame]⟩
  bif decide (d.kind=1) then (bif !decide ((tblA c s1 d.frame.toNat (level + 1)).f.kind=0) then ⟨(tblA c s1 d.frame.toNat (level + 1)).s,0,(tblA c s1 d.frame.toNat (level + 1)).f⟩ else stgA c k (level + 1) (tblA c s1 d.frame.toNat (level + 1)).n (tblA c s1 d.frame.toNat (level + 1)).s)
  else bif decide (d.kind=0) then ⟨s1,0,⟨2,1,level,false,c.page⟩⟩
  else leafA c s1 level d
def rootA (c:AcC) (s:AcS):StR:=bif !decide ((tblA c s c.one.frame.toNat 0).f.kind=0) then ⟨(tblA c s c.one.frame.toNat 0).s,0,(tblA c s c.one.frame.toNat 0).f⟩ else stgA c 4 0 (tblA c s c.one.frame.toNat 0).n (tblA c s c.one.frame.toNat 0).s
def wholeI (c:AcC) (es:List EnD):Int:=idxI (pWhole c.two.tag c.one.tag c.page c.acc) es
def walkI (c:AcC) (es:List EnD):Int:=bestI es (pWlk c.two.tag c.one.tag c.page) es.length
def dropL (es:List EnD) (i:Int):List EnD:=bif decide (0≤i) && decide (i<(es.length:Int)) then es.eraseIdx i.toNat else es
def pageW (c:AcC) (es:List EnD):StR:=
 bif c.pk.use && decide (0≤walkI c es) then stgA c (4 - (es.getD (walkI c es).toNat default).level.toNat) (es.getD (walkI c es).toNat default).level.toNat (es.getD (walkI c es).toNat default).frame ⟨es,[]⟩
 else rootA c ⟨es,[]⟩
def pageB (c:AcC) (es:List EnD):StR:=
 bif !c.one.on then ⟨(midA c ⟨es,[]⟩ c.page c.acc).s,(midA c ⟨es,[]⟩ c.page c.acc).n,(midA c ⟨es,[]⟩ c.page c.acc).f⟩
 else bif c.pk.use && decide (0≤wholeI c es) then ⟨⟨es,[]⟩,(es.getD (wholeI c es).toNat default).frame,noFt⟩
 else pageW c es
def pageA (c:AcC) (es:List EnD):StR:=pageB c (dropL es c.pk.drop)
structure EsOk (n:Nat) (es:List EnD) (ds:List IvD):Prop where
 tlb:tlbOk es ds=true
 held:∀ e∈es,hasF n e.frame=true
theorem tlb_may {es:List EnD} {ds:List IvD} (h:tlbOk es ds=true):(∀ e∈es,e.may=true)∧es.length≤8∧ds.length≤8:=by
 simp only [tlbOk,Bool.and_eq_true,decide_eq_true_eq] at h
 refine ⟨fun e he=>?_,h.1.2,h.2⟩
 obtain ⟨j,hj,rfl⟩:=List.getElem_of_mem he
 have:=List.all_eq_true.1 h.1.1.1 j (List.mem_range.2 hj)
 simp only [enOk,Bool.and_eq_true] at this
 rw [List.getD_eq_getElem?_getD,List.getElem?_eq_getElem hj] at this
 exact this.1
theorem EsOk.may {n:Nat} {es:List EnD} {ds:List IvD} (h:EsOk n es ds):(∀ e∈es,e.may=true)∧es.length≤8∧ds.length≤8:=tlb_may h.tlb
theorem fill_ok {n:Nat} {es:List EnD} {ds:List IvD} {e:EnD} (h:EsOk n es ds) (hm:e.may=true) (hf:hasF n e.frame=true):EsOk n (fillL es e) ds:=by
 unfold fillL
 cases hc:(!(es.any fun t=>decide (t=e)) && decide (es.length<8)) with
 | false=>exact h
 | true=>
  rw [Bool.and_eq_true,Bool.not_eq_true',decide_eq_true_eq] at hc
  obtain ⟨hno,h8⟩:=hc
  rw [cond_true]
  refine ⟨?_,fun x hx=>?_⟩
  ·have ht:=h.tlb
   simp only [tlbOk,Bool.and_eq_true,decide_eq_true_eq] at ht ⊢
   obtain ⟨⟨⟨h1,h2⟩,h3⟩,h4⟩:=ht
   refine ⟨⟨⟨all_upto fun j hj=>?_,h2⟩,by simp;omega⟩,h4⟩
   simp only [List.length_append,List.length_singleton] at hj
   by_cases hje:j<es.length
   ·have:=List.all_eq_true.1 h1 j (List.mem_range.2 hje)
    unfold enOk at this ⊢
    rw [List.take_append_of_le_length (by omega),show (es++[e]).getD j default=es.getD j default by simp [List.getD_eq_getElem?_getD,List.getElem?_append_left hje]]
    exact this
   ·have hje2:j=es.length:=by omega
    subst hje2
    unfold enOk
    rw [List.take_left,show (es++[e]).getD es.length default=e by simp [List.getD_eq_getElem?_getD]]
    rw [hm,hno];rfl
  ·rcases List.mem_append.1 hx with hx | hx
   ·exact h.held x hx
   ·obtain rfl:=List.mem_singleton.1 hx;exact hf
theorem tlb_iff {es:List EnD} {ds:List IvD}:tlbOk es ds=true↔(∀ e∈es,e.may=true)∧es.Nodup∧ds.all IvD.may=true∧es.length≤8∧ds.length≤8:=by
 constructor
 ·intro h
  have hm:=tlb_may h
  simp only [tlbOk,Bool.and_eq_true,decide_eq_true_eq] at h
  refine ⟨hm.1,?_,h.1.1.2,hm.2⟩
  rw [List.nodup_iff_pairwise_ne,List.pairwise_iff_getElem]
  intro i j hi hj hij
  have h1:=List.all_eq_true.1 h.1.1.1 j (List.mem_range.2 hj)
  simp only [enOk,Bool.and_eq_true,Bool.not_eq_true',List.any_eq_false] at h1
  have h2:=h1.2 es[i] (List.mem_take_iff_getElem.2 ⟨i,by omega,rfl⟩)
  rw [List.getD_eq_getElem?_getD,List.getElem?_eq_getElem hj] at h2
  simpa using h2
 ·rintro ⟨h1,h2,h3,h4,h5⟩
  simp only [tlbOk,Bool.and_eq_true,decide_eq_true_eq]
  refine ⟨⟨⟨all_upto fun j hj=>?_,h3⟩,h4⟩,h5⟩
  simp only [enOk,Bool.and_eq_true,Bool.not_eq_true',List.any_eq_false]
  refine ⟨h1 _ (getD_mem hj),fun x hx=>?_⟩
  obtain ⟨i,hi,rfl⟩:=List.mem_take_iff_getElem.1 hx
  rw [List.nodup_iff_pairwise_ne,List.pairwise_iff_getElem] at h2
  have:=h2 i j (by omega) hj (by omega)
  rw [List.getD_eq_getElem?_getD,List.getElem?_eq_getElem hj]
  simpa using this
theorem tlb_erase {es:List EnD} {ds:List IvD} (h:tlbOk es ds=true) (i:Nat):tlbOk (es.eraseIdx i) ds=true:=by
 obtain ⟨h1,h2,h3,h4,h5⟩:=tlb_iff.1 h
 refine tlb_iff.2 ⟨fun e he=>h1 e (List.mem_of_mem_eraseIdx he),h2.sublist (List.eraseIdx_sublist ..),h3,Nat.le_trans (List.eraseIdx_sublist ..).length_le h4,h5⟩
theorem drop_ok {n:Nat} {es:List EnD} {ds:List IvD} (h:EsOk n es ds) (i:Int):EsOk n (dropL es i) ds:=by
 unfold dropL
 cases hc:(decide (0≤i) && decide (i<(es.length:Int))) with
 | false=>exact h
 | true=>
  rw [cond_true]
  refine ⟨tlb_erase h.tlb _,fun x hx=>h.held x (List.mem_of_mem_eraseIdx hx)⟩
theorem may_ng {level:Nat} {d:DsD} (hd:d.may 2 level=true):d.ng=false:=by
 unfold DsD.may at hd
 cases h0:decide (d.kind=0) with
 | true=>
  rw [h0] at hd
  simp only [cond_true,DsD.bare,Bool.and_eq_true,Bool.not_eq_true'] at hd
  simp_all
 | false=>
  rw [h0] at hd
  cases h1:decide (d.kind=1) with
  | true=>
   rw [h1] at hd
   simp only [cond_true,cond_false,DsD.bare,Bool.and_eq_true,Bool.not_eq_true'] at hd
   simp_all
  | false=>
   rw [h1] at hd
   simp only [cond_false] at hd
   simp_all
theorem endL_ok {n:Nat} {stage:Int} {page level:Nat} {d:DsD} {rd:List Int} (hd:d.may stage level=true) (hk:(endL n stage page level d rd).f.kind=0):hasF n (endL n stage page level d rd).h.frame=true∧(endL n stage page level d rd).f=noFt∧(stage=2→(endL n stage page level d rd).h.ng=false):=by
 unfold endL at hk ⊢
 cases h0:decide (d.kind=0) with
 | true=>rw [h0] at hk;simp at hk
 | false=>
  rw [h0] at hk
  simp only [cond_false] at hk ⊢
  cases h1:hasF n (d.frame + ((page % coversN level:Nat):Int)) with
  | false=>rw [h1] at hk;simp at hk
  | true=>
   refine ⟨h1,rfl,fun hs=>?_⟩
   subst hs
   exact may_ng hd
theorem wlk_ok {ws:List Nat} {stage:Int} {page:Nat}:∀ (k level:Nat) (f:Int) (rd:List Int),(wlk ws stage page k level f rd).f.kind=0→hasF ws.length (wlk ws stage page k level f rd).h.frame=true∧(wlk ws stage page k level f rd).f=noFt∧(stage=2→(wlk ws stage page k level f rd).h.ng=false):=by
 intro k
 induction k with
 | zero=>intro level f rd h;simp [wlk] at h
 | succ k ih=>
  intro level f rd h
  rw [wlk] at h ⊢
  cases hh:hasF ws.length f with
  | false=>rw [hh] at h;simp at h
  | true=>
   rw [hh] at h
   simp only [cond_true] at h ⊢
   cases h1:decide ((dSt ws stage (atN f level page) level).kind=1) with
   | true=>rw [h1] at h;exact ih _ _ _ h
   | false=>rw [h1] at h;exact endL_ok (dSt_may _ _ _ _) h
theorem flag_zero {r w x af:Bool} {acc stage level page:Int} (h:(flagL r w x af acc stage level page).kind=0):flagL r w x af acc stage level page=noFt:=by
 unfold flagL at h ⊢
 cases af with
 | false=>simp at h
 | true=>
  cases hm:mayA r w x acc with
  | false=>rw [hm] at h;simp at h
  | true=>rfl
theorem midL_ok {ws:List Nat} {frame:Int} {mid:Nat} {acc:Int} (h:(midL ws true frame mid acc).f.kind=0):hasF ws.length (midL ws true frame mid acc).h.frame=true∧(midL ws true frame mid acc).f=noFt∧(midL ws true frame mid acc).h.ng=false:=by
 simp only [midL,Bool.not_true,cond_false,midE] at h ⊢
 cases hg:decide ((midG (walk5 ws 2 frame mid) mid acc).kind=0) with
 | false=>
  rw [hg] at h
  simp only [Bool.not_false,cond_true] at h
  simp [h] at hg
 | true=>
  simp only [Bool.not_true,cond_false]
  have hk:(midG (walk5 ws 2 frame mid) mid acc).kind=0:=by simpa using hg
  unfold midG at hk ⊢
  cases hw:decide ((walk5 ws 2 frame mid).f.kind=0) with
  | false=>rw [hw] at hk;simp only [cond_false] at hk;simp [hk] at hw
  | true=>
   rw [hw] at hk
   simp only [cond_true] at hk ⊢
   obtain ⟨h1,h2,h3⟩:=wlk_ok 4 0 frame [] (of_decide_eq_true hw)
   exact ⟨h1,flag_zero hk,h3 rfl⟩
end Go.Proofs.YtndklbjnofdgeaaGreat
namespace Go.Proofs.YtndklbjnofdgeaaGreat
open Go.RowKit
set_option linter.unusedVariables false
set_option linter.unusedSimpArgs false
set_option maxRecDepth 20000
attribute [local irreducible] Hy St Ops DH DHF DE1 DE2 DE3 DS DCh DWF
def uW (z:Int):Nat:=(IntKind.u64.wrap z).toNat
theorem uW_eq (z:Int):IntKind.u64.wrap z=(uW z:Int):=(Int.toNat_of_nonneg (wrap_u64_nonneg z)).symm
def nxt (p:Nat) (n:Int):Nat:=uW ((p:Int) + IntKind.u64.wrap (IntKind.u64.wrap n * 4))
def RgD.next (r:RgD) (l:List Int):RgD:={ r with pc:=l.foldl nxt (uW ((r.pc:Int) + 4)) }
theorem foldl_take {α β:Type} [Inhabited β] {f:α→β→α} {a:α} {l:List β} {k:Nat} (hk:k<l.length):(l.take (k + 1)).foldl f a=f ((l.take k).foldl f a) (l.getD k default):=by
 rw [List.take_add_one,List.foldl_append,List.getElem?_eq_getElem hk,List.getD_eq_getElem?_getD,List.getElem?_eq_getElem hk]
 rfl
theorem rNext_e (r:RgD) (xs:List Int) {w:World} {v:Value} (h:SlAt w v 1 (xs.map inV)):Fn Tryz.prog 42 [.agg (rgV r).toArray,v].toArray w [] (fun u _=>u=.agg (rgV (r.next xs)).toArray):=by
 obtain ⟨q,cap,rfl,hne,hle⟩:=h.opened
 refine enter Tryz.func42 ?_
 refine run ?_
 intro X R
 rw [uW_eq]
 refine run ?_
 refine loopS (σ:=Nat) (fun k=>[(13,.int .i64 (k:Int))]) (fun k=>[⟨X,#[.int .u64 (r.x0:Int),.int .u64 (r.x1:Int),.int .u64 (r.x2:Int),.int .u64 (r.x3:Int),.int .u64 (r.x4:Int),.int .u64 (r.x5:Int),.int .u64 (r.x6:Int),.int .u64 (r.x7:Int),.int .u64 ((((xs.take k).foldl nxt (uW ((r.pc:Int) + 4))):Nat):Int),.int .u64 (r.ttbr:Int),.int .u64 (r.sctlr:Int),.int .u64 (r.vbar:Int),.int .u64 (r.elr:Int),.int .u64 (r.esr:Int),.int .u64 (r.far:Int)],30⟩,⟨R,#[.int .u64 0,.int .u64 0,.int .u64 0,.int .u64 0,.int .u64 0,.int .u64 0,.int .u64 0,.int .u64 0,.int .u64 0,.int .u64 0,.int .u64 0,.int .u64 0,.int .u64 0,.int .u64 0,.int .u64 0],30⟩]) (fun k=>k≤xs.length) (fun k=>xs.length - k) 0 (Nat.zero_le _) (hh:=by simp only [List.take_zero,List.foldl_nil];(refine hpLe_cnt fun a=>?_;simp only [cntB_app,cntB_cons,cntB_nil]<;>omega)) ?_
 rintro k m hm hk
 refine run ?_
 refine st_cond _ rfl (fun hc=>?_) (fun hc=>?_)
 ·have hlt:k<xs.length:=by simp at hc;omega
  obtain ⟨b,o,rfl⟩:=hne (by intro e;rw [e] at hlt;simp at hlt)
  have hr:=rangeAt_cell0 (h.row hlt)
  simp only [Nat.mul_one] at hr
  refine run ?_
  refine op1 (by rfl) (x_conv tb_ok rfl rfl rfl) ?_
  refine op1 (by rfl) (x_mulW rfl rfl) ?_
  refine run ?_
  rw [show IntKind.u64.wrap _=((nxt ((xs.take k).foldl nxt (uW ((r.pc:Int) + 4))) (xs.getD k default):Nat):Int) from uW_eq _,← foldl_take (f:=nxt) hlt]
  refine run ?_
  exact nextS (k + 1) hlt
 ·obtain rfl:k=xs.length:=by simp at hc;omega
  rw [List.take_length]
  refine run ?_
  refine finA ?_
  rfl
def rtF (on:Bool) (f t:Nat):List FdD:=[⟨0,1,bif on then 1 else 0⟩,⟨12,12,f⟩,⟨48,4,t⟩]
def rtW (on:Bool) (f t:Nat):Nat:=joinV (joinL (rtF on f t) 0 0)
def rootO (w:Nat):RtD:=bif decide (rtW (decide (getN w 0 1=1)) (getN w 12 12) (getN w 48 4)=w) then ⟨decide (getN w 0 1=1),getN w 12 12,getN w 48 4⟩ else ⟨false,0,0⟩
theorem getN_le (w a n:Nat):getN w a n≤lowN n:=Nat.and_le_right
theorem rtF_ok (on : Bool) (f t : Nat) (hf : f ≤ 4095) (ht : t ≤ 15) : ∀ x ∈ rtF on f t, x.Ok := by
  intro x hx
  simp only [rtF, List.mem_cons, List.not_mem_nil, or_false] at hx
  rcases hx with rfl | rfl | rfl
  · exact ⟨by dsimp only; decide, by dsimp only; decide, by cases on <;> decide⟩
  · exact ⟨by dsimp only; decide, by dsimp only; decide, by have : lowN 12 = 4095 := by decide
                                                            dsimp only; omega⟩
  · exact ⟨by dsimp only; decide, by dsimp only; decide, by have : lowN 4 = 15 := by decide
                                                            dsimp only; omega⟩
theorem rtFields_e (on:Bool) (f t:Nat) (hf:f≤4095) (ht:t≤15) (w:World):Fn Tryz.prog 201 [.agg #[.bool on,.int .i64 (f:Int),.int .i64 (t:Int)]].toArray w [] (fun u hn=>∃ h1,Own 149 3 u h1 ((rtF on f t).map fdV)∧HpLe h1 hn):=by
 refine enter Tryz.func201 ?_
 refine run ?_
 intro B F
 refine st_cutD (σ:=Unit) (fun _=>[]) (fun _=>⟨F,#[.int .i64 0,.int .i64 1,.int .u64 (bif on then (1:Int) else 0)],149⟩::⟨B,#[.bool on,.int .i64 (f:Int),.int .i64 (t:Int)],277⟩::[]) (fun _=>True) ?_ ?_
 ·refine st_cond _ rfl (fun hc=>?_) (fun hc=>?_)
  ·rw [hc,cond_true]
   refine run ?_
   exact meetS () trivial (h2:=by (refine hpLe_cnt fun a=>?_;simp only [cntB_app,cntB_cons,cntB_nil]<;>omega))
  ·rw [hc,cond_false]
   refine run ?_
   exact meetS () trivial (h2:=by (refine hpLe_cnt fun a=>?_;simp only [cntB_app,cntB_cons,cntB_nil]<;>omega))
 rintro ⟨⟩ -
 rw [show (bif on then (1:Int) else 0)=((bif on then 1 else 0:Nat):Int) by cases on<;>rfl]
 refine run ?_
 intro T
 exact fin1 ⟨[⟨T,#[.int .i64 0,.int .i64 1,.int .u64 ((bif on then 1 else 0:Nat):Int),.int .i64 12,.int .i64 12,.int .u64 (f:Int),.int .i64 48,.int .i64 4,.int .u64 (t:Int)],149⟩],own_fds T 3 (rtF on f t),by (refine hpLe_cnt fun a=>?_;simp only [cntB_app,cntB_cons,cntB_nil]<;>omega)⟩
theorem rtWord_e (on:Bool) (f t:Nat) (hf:f≤4095) (ht:t≤15) (w:World):Fn Tryz.prog 169 [.agg #[.bool on,.int .i64 (f:Int),.int .i64 (t:Int)]].toArray w [] (fun u _=>∃ e,u=.tuple #[.int .u64 (rtW on f t:Nat),.int .i64 e]):=by
 refine enter Tryz.func169 ?_
 refine runG ?_
 intro B
 refine st_cond _ rfl (fun hc=>absurd hc (by simp;omega)) (fun hc=>?_)
 refine run ?_
 refine callB (fun wc hG=>rtFields_e on f t hf ht wc) ?_
 rintro u hn ⟨h1,hO,hle⟩
 obtain ⟨q,c,e⟩:=hO.opened
 subst e
 refine ops_le h1 (by (refine hpLe_cnt fun a=>?_;have:=HpLe.cnt hle a;simp only [cntB_app,cntB_cons,cntB_nil] at *;omega)) ?_
 refine run ?_
 refine callE (fun wc hG=>wJoin_e (rtF on f t) (rtF_ok on f t hf ht) (hO.lie (fun b hb=>hG.here b hb) (by simp [rtF]))) ?_
 refine run ?_
 exact fin2 ⟨_,rfl⟩
theorem rtOf_e (v:Nat) (hv:v<18446744073709551616) (w:World):Fn Tryz.prog 139 [.int .u64 (v:Int)].toArray w [] (fun u _=>∃ e,u=.tuple #[.agg (rtV (rootO v)).toArray,.int .i64 e]):=by
 have g12:getN v 12 12≤4095:=getN_le v 12 12
 have g48:getN v 48 4≤15:=getN_le v 48 4
 refine enter Tryz.func139 ?_
 refine run ?_
 intro B
 refine callE (fun wc hG=>wGet_e v 12 12 (by decide) (by decide) hv wc) ?_
 refine run ?_
 refine callE (fun wc hG=>wGet_e v 48 4 (by decide) (by decide) hv wc) ?_
 refine run ?_
 refine op1 (by rfl) (x_andN rfl rfl v 1 rfl rfl hv (by decide)) ?_
 rw [show v &&& 1=getN v 0 1 from rfl]
 refine run ?_
 intro R
 rw [show decide (((getN v 0 1:Nat):Int)=1)=decide (getN v 0 1=1) by rw [Bool.eq_iff_iff];simp;omega]
 refine callV (fun wc hG=>rtWord_e _ _ _ g12 g48 wc) ?_
 rintro _ ⟨e,rfl⟩
 refine run ?_
 refine st_cond _ rfl (fun hc=>?_) (fun hc=>?_)
 ·have hr:rootO v=⟨false,0,0⟩:=by
   unfold rootO
   rw [decide_eq_false (by simp at hc;omega)];rfl
  rw [hr]
  refine run ?_
  refine finA1 ?_
  exact ⟨_,rfl⟩
 ·have hr:rootO v=⟨decide (getN v 0 1=1),getN v 12 12,getN v 48 4⟩:=by
   unfold rootO
   rw [decide_eq_true (by simp at hc;omega)];rfl
  rw [hr]
  refine run ?_
  refine finA1 ?_
  exact ⟨_,rfl⟩
end Go.Proofs.YtndklbjnofdgeaaGreat
namespace Go.Proofs.YtndklbjnofdgeaaGreat
open Go.RowKit
set_option linter.unusedVariables false
set_option linter.unusedSimpArgs false
set_option maxRecDepth 20000
attribute [local irreducible] Hy St Ops DH DHF DE1 DE2 DE3 DS DCh DWF
def RgD.one (r:RgD):RtD:={ rootO (r.ttbr &&& (18446744073709551615 - 1)) with on:=decide (getN r.sctlr 0 1=1) }
structure RgD.Ok (r:RgD):Prop where
 x0:W64n r.x0
 x1:W64n r.x1
 x2:W64n r.x2
 x3:W64n r.x3
 x4:W64n r.x4
 x5:W64n r.x5
 x6:W64n r.x6
 x7:W64n r.x7
 pc:W64n r.pc
 ttbr:W64n r.ttbr
 sctlr:W64n r.sctlr
 vbar:W64n r.vbar
 elr:W64n r.elr
 esr:W64n r.esr
 far:W64n r.far
theorem rOne_e (r:RgD) (h1:r.ttbr<18446744073709551616) (h2:r.sctlr<18446744073709551616) (w:World):Fn Tryz.prog 107 [.agg (rgV r).toArray].toArray w [] (fun u _=>u=.agg (rtV r.one).toArray):=by
 refine enter Tryz.func107 ?_
 refine run ?_
 intro R X
 refine run ?_
 refine op1 (by rfl) (x_andNotN rfl rfl r.ttbr 1 rfl rfl h1 (by decide)) ?_
 refine run ?_
 refine callV (fun wc hG=>rtOf_e _ (Nat.lt_of_le_of_lt Nat.and_le_left h1) wc) ?_
 rintro _ ⟨e,rfl⟩
 refine run ?_
 intro Y
 refine op1 (by rfl) (x_andN rfl rfl r.sctlr 1 rfl rfl h2 (by decide)) ?_
 rw [show r.sctlr &&& 1=getN r.sctlr 0 1 from rfl]
 refine run ?_
 rw [show decide (((getN r.sctlr 0 1:Nat):Int)=1)=decide (getN r.sctlr 0 1=1) by rw [Bool.eq_iff_iff];simp;omega]
 refine run ?_
 refine finA ?_
 rfl
end Go.Proofs.YtndklbjnofdgeaaGreat
namespace Go.Proofs.YtndklbjnofdgeaaGreat
open Go.RowKit
set_option linter.unusedVariables false
set_option linter.unusedSimpArgs false
set_option maxRecDepth 20000
attribute [local irreducible] Hy St Ops DH DHF
theorem runNS {G R:Prop} (k:R) (h:RestP R→G:=by (intro kLeft;(repeat (first | (with_reducible apply st_seq) | (with_reducible apply st_block) | (with_reducible apply st_region) | (with_reducible apply nx_normal) | (with_reducible apply nx_ret) | (with_reducible apply nx_exit) | (with_reducible apply np_normal) | (with_reducible apply inb_normal) | (with_reducible apply inb_ret) | (with_reducible apply inb_here) | (with_reducible apply ops_nil) | (with_reducible apply st_ret) | (with_reducible apply st_skip) | (with_reducible apply st_exit) | ((with_reducible apply inb_past);rfl) | ((with_reducible apply op1);rfl;(first | ((with_reducible apply x_move);rfl) | ((with_reducible apply x_assign);rfl) | ((with_reducible apply x_field tb_ok);rfl;rfl;rfl;(first | ((simp only [Nat.reduceAdd,Nat.reduceMul,Nat.zero_add,Nat.add_zero,Nat.mul_one,Nat.zero_mul,Int.toNat_zero,Int.toNat_one,Int.reduceToNat])<;>rfl) | rfl)) | ((with_reducible apply x_load tb_ok);rfl;rfl;(first | (with_reducible apply mh) | (focus ((repeat (first | (with_reducible apply mh) | (with_reducible apply mt) | (with_reducible apply List.mem_append_right)));done)));(first | rfl | assumption)) | ((with_reducible apply x_load0 tb_ok);rfl;rfl;assumption;(first | exact List.not_mem_nil | assumption)) | ((with_reducible apply x_loadA tb_ok);rfl;rfl;rfl;(first | (with_reducible apply mh) | (focus ((repeat (first | (with_reducible apply mh) | (with_reducible apply mt) | (with_reducible apply List.mem_append_right)));done)));(first | assumption | (first | ((simp only [putAt,List.toList_toArray,List.setIfInBounds_toArray,List.set_cons_zero,List.set_cons_succ,List.drop_succ_cons,List.drop_zero,List.take_succ_cons,List.take_zero,List.cons_append,List.nil_append,List.append_nil])<;>rfl) | rfl));rfl) | ((with_reducible apply x_loadA0 tb_ok);rfl;rfl;rfl;assumption;rfl;(first | exact List.not_mem_nil | assumption)) | ((with_reducible apply x_indexN tb_ok);rfl;rfl;rfl;omega;(first | ((simp only [Nat.reduceAdd,Nat.reduceMul,Nat.zero_add,Nat.add_zero,Nat.mul_one,Nat.zero_mul,Int.toNat_zero,Int.toNat_one,Int.reduceToNat])<;>rfl) | rfl)) | ((with_reducible apply x_indexRN tb_ok);rfl;rfl;rfl;omega;(first | ((simp only [Nat.reduceAdd,Nat.reduceMul,Nat.zero_add,Nat.add_zero,Nat.mul_one,Nat.zero_mul,Int.toNat_zero,Int.toNat_one,Int.reduceToNat])<;>rfl) | rfl)) | ((with_reducible apply x_index tb_ok);rfl;rfl;rfl;omega;omega;(first | ((simp only [Nat.reduceAdd,Nat.reduceMul,Nat.zero_add,Nat.add_zero,Nat.mul_one,Nat.zero_mul,Int.toNat_zero,Int.toNat_one,Int.reduceToNat])<;>rfl) | rfl)) | ((with_reducible apply x_indexR tb_ok);rfl;rfl;rfl;omega;omega;(first | ((simp only [Nat.reduceAdd,Nat.reduceMul,Nat.zero_add,Nat.add_zero,Nat.mul_one,Nat.zero_mul,Int.toNat_zero,Int.toNat_one,Int.reduceToNat])<;>rfl) | rfl)) | ((with_reducible apply x_len tb_ok);rfl;rfl) | ((with_reducible apply x_orT);rfl;rfl) | ((with_reducible apply x_andF);rfl;rfl) | ((with_reducible apply x_or);rfl;rfl) | ((with_reducible apply x_and);rfl;rfl) | ((with_reducible apply x_pick);rfl;rfl;rfl) | ((with_reducible apply x_not);rfl) | ((with_reducible apply x_extract);rfl;rfl) | ((with_reducible apply x_nilCheck);rfl) | ((with_reducible apply x_lss);rfl;rfl) | ((with_reducible apply x_leq);rfl;rfl) | ((with_reducible apply x_gtr);rfl;rfl) | ((with_reducible apply x_geq);rfl;rfl) | ((with_reducible apply x_eql);rfl;rfl) | ((with_reducible apply x_neq);rfl;rfl) | ((with_reducible apply x_eqlb tb_ok);rfl;rfl;rfl) | ((with_reducible apply x_neqb tb_ok);rfl;rfl;rfl) | ((with_reducible apply x_eqlA lt_ok);rfl;rfl;rfl;rfl;rfl) | ((with_reducible apply x_neqA lt_ok);rfl;rfl;rfl;rfl;rfl) | ((with_reducible apply x_inc);rfl;rfl;omega) | ((with_reducible apply x_add);rfl;rfl;omega;omega) | ((with_reducible apply x_sub);rfl;rfl;omega;omega) | ((with_reducible apply x_mul);rfl;rfl;omega;omega) | ((with_reducible apply x_convI tb_ok);rfl;rfl;rfl;omega;omega) | ((with_reducible apply x_convU tb_ok);rfl;rfl;rfl;omega;omega) | ((with_reducible apply x_build tb_ok);rfl;(first | ((simp only [Value.cells])<;>rfl) | rfl);rfl;rfl;rfl;(first | ((simp only [putAt,Value.cells,List.toList_toArray,List.setIfInBounds_toArray,List.set_cons_zero,List.set_cons_succ,List.drop_succ_cons,List.drop_zero,List.take_succ_cons,List.take_zero,List.cons_append,List.nil_append,List.append_nil])<;>rfl) | rfl)) | ((with_reducible apply x_makeFunc);rfl;rfl) | ((with_reducible apply x_addW);rfl;rfl) | ((with_reducible apply x_subW);rfl;rfl))) | ((with_reducible apply z_box);rfl;rfl;(first | ((simp only [Value.cells])<;>rfl) | rfl);intro blk) | ((with_reducible apply z_alloc tb_ok);rfl;rfl;(first | ((simp only [Value.cells])<;>rfl) | rfl);intro blk) | ((with_reducible apply z_store tb_ok);rfl;rfl;(first | ((simp only [Value.cells])<;>rfl) | rfl);rfl;rfl;(first | (with_reducible apply p0) | (with_reducible apply p1) | (with_reducible apply p2) | (with_reducible apply p3) | (with_reducible apply p4) | (with_reducible apply p5));(first | rfl | (focus (simp;done)));(first | omega | (focus (simp;done)) | (focus (simp;omega)));(first | ((simp only [putAt,List.toList_toArray,List.setIfInBounds_toArray,List.set_cons_zero,List.set_cons_succ,List.drop_succ_cons,List.drop_zero,List.take_succ_cons,List.take_zero,List.cons_append,List.nil_append,List.append_nil])<;>rfl) | rfl))));(repeat revert blk);exact kLeft.get)):G:=h ⟨k⟩
section
variable {n : Nat} {w0 : World} {mu : List Nat} {l : Fm} {hp : Hp} {Q : Exit → Fm → Hp → Prop} {all : Array Oper} {rest : List Oper} {ty : TypeId} {pos : String} {af : Array Edge}
theorem bsliceK {t d len e sz:Nat} {z:Value} {ps:List (Nat × Operand)} {vs:List (Nat × Value)} {zl:List Value} (out:Array Value) (out':List Value) (h:∀ b,Ops Tryz.prog n w0 mu all rest ((d,.slice (some ⟨b,0,none⟩) len len)::l) (⟨b,out'.toArray,e⟩::hp) Q) (hn:out=out'.toArray)
  (hd:Nat.blt d n=true:=by rfl) (ht:lk Tb.sl t=some (e,sz):=by rfl) (hz:lk Tb.zs e=some z:=by rfl) (hzc:z.cells=zl.toArray:=by (first | ((simp only [Value.cells])<;>rfl) | rfl)) (hzs:Nat.beq zl.length sz=true:=by rfl) (hpos:(Nat.blt 0 (len * sz) && Nat.ble (len * sz) 16777216)=true:=by rfl) (hv:evp l ps=some vs:=by rfl) (hf:flS sz (rep zl len).toArray vs=some out:=by kernel_rfl):Ops Tryz.prog n w0 mu all (⟨some d,.buildSlice t len ps.toArray,ty,pos,af,none⟩::rest) l hp Q:=
 z_bslice tb_ok hd ht hz hzc hzs hpos hv hf hn h
end
section
variable {P : Program} {T : Tab} {n : Nat} {w0 : World} {mu : List Nat} {l : Fm} {hp : Hp} {dd : Option Nat} {ty : TypeId} {pos : String} {af : Array Edge} {gg : Option (Nat × Bool)} {t u : TypeId} {x y : Operand}
theorem x_and32 {pi qi:Int} (hx:ev l x=some (.int .u32 pi)) (hy:ev l y=some (.int .u32 qi)) (p q:Nat) (hpi:pi=(p:Int)) (hqi:qi=(q:Int)) (h1:p<4294967296) (h2:q<4294967296):Hy P n w0 mu l hp ⟨dd,.binOp .and t x y u,ty,pos,af,gg⟩ (.int .u32 ((p &&& q:Nat):Int)):=
 hy_run fun ac w hk _=>by
  subst hpi hqi
  have:=u32_and_nat p q h1 h2
  simp only [execOp,hk.ev hx,hk.ev hy]
  simp [eqGuard_and,binOp_and,intBits_and,this]
theorem x_or32 {pi qi:Int} (hx:ev l x=some (.int .u32 pi)) (hy:ev l y=some (.int .u32 qi)) (p q:Nat) (hpi:pi=(p:Int)) (hqi:qi=(q:Int)) (h1:p<4294967296) (h2:q<4294967296):Hy P n w0 mu l hp ⟨dd,.binOp .or t x y u,ty,pos,af,gg⟩ (.int .u32 ((p ||| q:Nat):Int)):=
 hy_run fun ac w hk _=>by
  subst hpi hqi
  have:=u32_or_nat p q h1 h2
  simp only [execOp,hk.ev hx,hk.ev hy]
  simp [eqGuard_or,binOp_or,intBits_or,this]
theorem x_shrW {k ky:IntKind} {p c:Int} (hx:ev l x=some (.int k p)) (hy:ev l y=some (.int ky c)) (h0:0≤c) (h1:c≤k.bits):Hy P n w0 mu l hp ⟨dd,.binOp .shr t x y u,ty,pos,af,gg⟩ (.int k (p / 2 ^ c.toNat)):=
 hy_run fun ac w hk _=>by
  have hs:=shift_shr k ky p c h0 h1
  simp only [execOp,hk.ev hx,hk.ev hy]
  simp only [eqGuard_shr,binOp_shr,hs]
  simp
theorem x_shlW {k ky:IntKind} {p c:Int} (hx:ev l x=some (.int k p)) (hy:ev l y=some (.int ky c)) (h0:0≤c) (h1:c≤k.bits):Hy P n w0 mu l hp ⟨dd,.binOp .shl t x y u,ty,pos,af,gg⟩ (.int k (k.wrap (p * 2 ^ c.toNat))):=
 hy_run fun ac w hk _=>by
  have hs:=shift_shl k ky p c h0 h1
  simp only [execOp,hk.ev hx,hk.ev hy]
  simp only [eqGuard_shl,binOp_shl,hs]
  simp
theorem x_quoU {pi qi:Int} (hx:ev l x=some (.int .u64 pi)) (hy:ev l y=some (.int .u64 qi)) (p q:Nat) (hpi:pi=(p:Int)) (hqi:qi=(q:Int)) (hq:0<q) (hb:p<18446744073709551616):Hy P n w0 mu l hp ⟨dd,.binOp .quo t x y u,ty,pos,af,gg⟩ (.int .u64 ((p / q:Nat):Int)):=
 hy_run fun ac w hk _=>by
  subst hpi hqi
  have h1:(p:Int).tdiv q=((p / q:Nat):Int):=by rw [Int.tdiv_eq_ediv_of_nonneg (by omega)];simp
  have h2:¬ (q=0):=by omega
  have h3:p / q≤p:=Nat.div_le_self _ _
  have h4:IntKind.u64.wrap ((p / q:Nat):Int)=((p / q:Nat):Int):=by
   generalize p / q=z at h3
   rw [IntKind.wrap_u64];omega
  simp only [execOp,hk.ev hx,hk.ev hy]
  rw [show ((p / q:Nat):Int)=(p:Int) / (q:Int) by simp] at h4
  simp [eqGuard_quo,binOp_quo,Op.intDiv,h1,h2,h4]
theorem x_negW {k:IntKind} {p:Int} (hx:ev l x=some (.int k p)):Hy P n w0 mu l hp ⟨dd,.unOp .neg t x,ty,pos,af,gg⟩ (.int k (k.wrap (-p))):=
 hy_run fun a w hk _=>by simp only [execOp,hk.ev hx];simp [go_sem]
end
end Go.Proofs.YtndklbjnofdgeaaGreat
namespace Go.Proofs.YtndklbjnofdgeaaGreat
open Go.RowKit
set_option linter.unusedVariables false
set_option linter.unusedSimpArgs false
set_option maxRecDepth 20000
attribute [local irreducible] Hy St Ops DH DHF DE1 DE2 DE3 DS DCh DWF
structure InD where
 op:Int
 d:Int
 n:Int
 m:Int
 imm:Int
instance : Inhabited InD := ⟨⟨0, 0, 0, 0, 0⟩⟩
abbrev isV (x:InD):List Value:=[.int .i64 x.op,.int .i64 x.d,.int .i64 x.n,.int .i64 x.m,.int .i64 x.imm]
def InD.base (x:InD):Bool:=PtD.btw x.op 1 16 && (PtD.btw x.d 0 7 && (PtD.btw x.n 0 7 && (PtD.btw x.m 0 7 && PtD.btw x.imm (-2048) 2047)))
def InD.kind (x:InD):Bool:=
 bif decide (x.op=7) || decide (x.op=8) then decide (x.m≤3)
 else bif decide (x.op=11) || decide (x.op=12) then PtD.btw x.imm 0 5
 else bif decide (x.op=13) then PtD.btw x.imm 3 5 else true
def InD.may (x:InD):Bool:=x.base && x.kind
theorem nBtw_e (n lo hi:Int) (w:World):Fn Tryz.prog 176 [.int .i64 n,.int .i64 lo,.int .i64 hi].toArray w [] (fun u _=>u=.bool (PtD.btw n lo hi)):=by
 refine enter Tryz.func176 ?_
 refine runC ?_
 exact fin1 rfl
theorem nMay_e (x:InD) (w:World):Fn Tryz.prog 148 [.agg (isV x).toArray].toArray w [] (fun u _=>u=.bool x.may):=by
 refine enter Tryz.func148 ?_
 refine run ?_
 intro B
 refine run ?_
 refine callE (fun wc hG=>nBtw_e x.op 1 16 wc) ?_
 refine runG ?_
 refine callEG (fun _ wc hG=>nBtw_e x.d 0 7 wc) ?_
 refine runG ?_
 refine callEG (fun _ wc hG=>nBtw_e x.n 0 7 wc) ?_
 refine runG ?_
 refine callEG (fun _ wc hG=>nBtw_e x.m 0 7 wc) ?_
 refine runG ?_
 refine callEG (fun _ wc hG=>nBtw_e x.imm (-2048) 2047 wc) ?_
 refine runG ?_
 refine st_cond _ rfl (fun hc=>?_) (fun hc=>?_)
 ·have hm:x.may=false:=by
   unfold InD.may InD.base
   simp only [Bool.or_eq_true,Bool.not_eq_true'] at hc
   rcases hc with (((h | h) | h) | h) | h<;>simp [h]
  rw [hm]
  refine run ?_
  exact fin1 rfl
 ·have hm:x.may=x.kind:=by
   unfold InD.may InD.base
   simp only [Bool.or_eq_false_iff,Bool.not_eq_false'] at hc
   obtain ⟨⟨⟨⟨h1,h2⟩,h3⟩,h4⟩,h5⟩:=hc
   simp [h1,h2,h3,h4,h5]
  rw [hm]
  obtain ⟨op,d,n,m,imm⟩:=x
  by_cases h7:op=7
  ·have hk:(⟨op,d,n,m,imm⟩:InD).kind=decide (m≤3):=by
    unfold InD.kind
    simp [h7]
   rw [hk]
   refine runG ?_
   refine st_cond _ rfl (fun _=>?_) (fun hc=>absurd h7 (of_decide_eq_false hc))
   refine runG ?_
   refine st_cond _ rfl (fun _=>?_) (fun hc=>absurd h7 (of_decide_eq_false hc))
   refine runG ?_
   exact fin1 rfl
  by_cases h8:op=8
  ·have hk:(⟨op,d,n,m,imm⟩:InD).kind=decide (m≤3):=by
    unfold InD.kind
    simp [h8]
   rw [hk]
   refine runG ?_
   refine st_cond _ rfl (fun hc=>absurd (of_decide_eq_true hc) h7) (fun _=>?_)
   refine runG ?_
   refine st_cond _ rfl (fun _=>?_) (fun hc=>absurd h8 (of_decide_eq_false hc))
   refine runG ?_
   exact fin1 rfl
  by_cases h11:op=11
  ·have hk:(⟨op,d,n,m,imm⟩:InD).kind=PtD.btw imm 0 5:=by
    unfold InD.kind
    simp [h11]
   rw [hk]
   refine runG ?_
   refine st_cond _ rfl (fun hc=>absurd (of_decide_eq_true hc) h7) (fun _=>?_)
   refine runG ?_
   refine st_cond _ rfl (fun hc=>absurd (of_decide_eq_true hc) h8) (fun _=>?_)
   refine runG ?_
   refine st_cond _ rfl (fun _=>?_) (fun hc=>absurd h11 (of_decide_eq_false hc))
   refine runG ?_
   refine st_cond _ rfl (fun _=>?_) (fun hc=>absurd h11 (of_decide_eq_false hc))
   refine runG ?_
   refine callE (fun wc hG=>nBtw_e imm 0 5 wc) ?_
   refine run ?_
   exact fin1 rfl
  by_cases h12:op=12
  ·have hk:(⟨op,d,n,m,imm⟩:InD).kind=PtD.btw imm 0 5:=by
    unfold InD.kind
    simp [h12]
   rw [hk]
   refine runG ?_
   refine st_cond _ rfl (fun hc=>absurd (of_decide_eq_true hc) h7) (fun _=>?_)
   refine runG ?_
   refine st_cond _ rfl (fun hc=>absurd (of_decide_eq_true hc) h8) (fun _=>?_)
   refine runG ?_
   refine st_cond _ rfl (fun hc=>absurd (of_decide_eq_true hc) h11) (fun _=>?_)
   refine runG ?_
   refine st_cond _ rfl (fun _=>?_) (fun hc=>absurd h12 (of_decide_eq_false hc))
   refine runG ?_
   refine callE (fun wc hG=>nBtw_e imm 0 5 wc) ?_
   refine run ?_
   exact fin1 rfl
  by_cases h13:op=13
  ·have hk:(⟨op,d,n,m,imm⟩:InD).kind=PtD.btw imm 3 5:=by
    unfold InD.kind
    simp [h13]
   rw [hk]
   refine runG ?_
   refine st_cond _ rfl (fun hc=>absurd (of_decide_eq_true hc) h7) (fun _=>?_)
   refine runG ?_
   refine st_cond _ rfl (fun hc=>absurd (of_decide_eq_true hc) h8) (fun _=>?_)
   refine runG ?_
   refine st_cond _ rfl (fun hc=>absurd (of_decide_eq_true hc) h11) (fun _=>?_)
   refine runG ?_
   refine st_cond _ rfl (fun hc=>absurd (of_decide_eq_true hc) h12) (fun _=>?_)
   refine runG ?_
   refine st_cond _ rfl (fun _=>?_) (fun hc=>absurd h13 (of_decide_eq_false hc))
   refine runG ?_
   refine callE (fun wc hG=>nBtw_e imm 3 5 wc) ?_
   refine run ?_
   exact fin1 rfl
  have hk:(⟨op,d,n,m,imm⟩:InD).kind=true:=by
   unfold InD.kind
   simp [h7,h8,h11,h12,h13]
  rw [hk]
  refine run ?_
  refine st_cond _ rfl (fun hc=>absurd (of_decide_eq_true hc) h7) (fun _=>?_)
  refine run ?_
  refine st_cond _ rfl (fun hc=>absurd (of_decide_eq_true hc) h8) (fun _=>?_)
  refine run ?_
  refine st_cond _ rfl (fun hc=>absurd (of_decide_eq_true hc) h11) (fun _=>?_)
  refine run ?_
  refine st_cond _ rfl (fun hc=>absurd (of_decide_eq_true hc) h12) (fun _=>?_)
  refine run ?_
  refine st_cond _ rfl (fun hc=>absurd (of_decide_eq_true hc) h13) (fun _=>?_)
  refine run ?_
  exact fin1 rfl
theorem rInsn_e (x:InD) (w:World):Fn Tryz.prog 52 [.agg (isV x).toArray].toArray w [] (fun u _=>u=.bool x.may):=by
 refine enter Tryz.func52 ?_
 refine run ?_
 intro B
 refine runG ?_
 refine callEG (fun _ wc hG=>num_e x.d 7 wc) ?_
 refine runG ?_
 refine callEG (fun _ wc hG=>num_e x.n 7 wc) ?_
 refine runG ?_
 refine callEG (fun _ wc hG=>num_e x.m 7 wc) ?_
 refine runG ?_
 refine st_cond _ rfl (fun hc=>?_) (fun hc=>?_)
 ·have hm:x.may=false:=by
   cases he:x.may with
   | false=>rfl
   | true=>
    exfalso
    unfold InD.may InD.base at he
    simp [PtD.btw] at he
    simp at hc
    omega
  rw [hm]
  refine run ?_
  exact fin1 rfl
 ·have hm:x.may=x.kind:=by
   have:x.base=true:=by
    unfold InD.base
    simp [PtD.btw]
    simp at hc
    omega
   unfold InD.may
   rw [this];rfl
  rw [hm]
  obtain ⟨op,d,n,m,imm⟩:=x
  by_cases h7:op=7
  ·have hk:(⟨op,d,n,m,imm⟩:InD).kind=decide (m≤3):=by
    unfold InD.kind
    simp [h7]
   rw [hk]
   refine runG ?_
   refine st_cond _ rfl (fun _=>?_) (fun hc=>absurd h7 (of_decide_eq_false hc))
   refine runG ?_
   refine st_cond _ rfl (fun _=>?_) (fun hc=>absurd h7 (of_decide_eq_false hc))
   refine runG ?_
   exact fin1 rfl
  by_cases h8:op=8
  ·have hk:(⟨op,d,n,m,imm⟩:InD).kind=decide (m≤3):=by
    unfold InD.kind
    simp [h8]
   rw [hk]
   refine runG ?_
   refine st_cond _ rfl (fun hc=>absurd (of_decide_eq_true hc) h7) (fun _=>?_)
   refine runG ?_
   refine st_cond _ rfl (fun _=>?_) (fun hc=>absurd h8 (of_decide_eq_false hc))
   refine runG ?_
   exact fin1 rfl
  by_cases h11:op=11
  ·have hk:(⟨op,d,n,m,imm⟩:InD).kind=PtD.btw imm 0 5:=by
    unfold InD.kind
    simp [h11]
   rw [hk]
   refine runG ?_
   refine st_cond _ rfl (fun hc=>absurd (of_decide_eq_true hc) h7) (fun _=>?_)
   refine runG ?_
   refine st_cond _ rfl (fun hc=>absurd (of_decide_eq_true hc) h8) (fun _=>?_)
   refine runG ?_
   refine st_cond _ rfl (fun _=>?_) (fun hc=>absurd h11 (of_decide_eq_false hc))
   refine runG ?_
   refine st_cond _ rfl (fun _=>?_) (fun hc=>absurd h11 (of_decide_eq_false hc))
   refine runG ?_
   refine callE (fun wc hG=>num_e imm 5 wc) ?_
   refine run ?_
   exact fin1 rfl
  by_cases h12:op=12
  ·have hk:(⟨op,d,n,m,imm⟩:InD).kind=PtD.btw imm 0 5:=by
    unfold InD.kind
    simp [h12]
   rw [hk]
   refine runG ?_
   refine st_cond _ rfl (fun hc=>absurd (of_decide_eq_true hc) h7) (fun _=>?_)
   refine runG ?_
   refine st_cond _ rfl (fun hc=>absurd (of_decide_eq_true hc) h8) (fun _=>?_)
   refine runG ?_
   refine st_cond _ rfl (fun hc=>absurd (of_decide_eq_true hc) h11) (fun _=>?_)
   refine runG ?_
   refine st_cond _ rfl (fun _=>?_) (fun hc=>absurd h12 (of_decide_eq_false hc))
   refine runG ?_
   refine callE (fun wc hG=>num_e imm 5 wc) ?_
   refine run ?_
   exact fin1 rfl
  by_cases h13:op=13
  ·have hk:(⟨op,d,n,m,imm⟩:InD).kind=PtD.btw imm 3 5:=by
    unfold InD.kind
    simp [h13]
   rw [hk]
   refine runG ?_
   refine st_cond _ rfl (fun hc=>absurd (of_decide_eq_true hc) h7) (fun _=>?_)
   refine runG ?_
   refine st_cond _ rfl (fun hc=>absurd (of_decide_eq_true hc) h8) (fun _=>?_)
   refine runG ?_
   refine st_cond _ rfl (fun hc=>absurd (of_decide_eq_true hc) h11) (fun _=>?_)
   refine runG ?_
   refine st_cond _ rfl (fun hc=>absurd (of_decide_eq_true hc) h12) (fun _=>?_)
   refine runG ?_
   refine st_cond _ rfl (fun _=>?_) (fun hc=>absurd h13 (of_decide_eq_false hc))
   refine runG ?_
   exact fin1 rfl
  have hk:(⟨op,d,n,m,imm⟩:InD).kind=true:=by
   unfold InD.kind
   simp [h7,h8,h11,h12,h13]
  rw [hk]
  refine run ?_
  refine st_cond _ rfl (fun hc=>absurd (of_decide_eq_true hc) h7) (fun _=>?_)
  refine run ?_
  refine st_cond _ rfl (fun hc=>absurd (of_decide_eq_true hc) h8) (fun _=>?_)
  refine run ?_
  refine st_cond _ rfl (fun hc=>absurd (of_decide_eq_true hc) h11) (fun _=>?_)
  refine run ?_
  refine st_cond _ rfl (fun hc=>absurd (of_decide_eq_true hc) h12) (fun _=>?_)
  refine run ?_
  refine st_cond _ rfl (fun hc=>absurd (of_decide_eq_true hc) h13) (fun _=>?_)
  refine run ?_
  exact fin1 rfl
end Go.Proofs.YtndklbjnofdgeaaGreat
namespace Go.Proofs.YtndklbjnofdgeaaGreat
open Go.RowKit
set_option linter.unusedVariables false
set_option linter.unusedSimpArgs false
set_option maxRecDepth 20000
attribute [local irreducible] Hy St Ops DH DHF DE1 DE2 DE3 DS DCh DWF
def imm12 (i:Int):Nat:=(i % 4096).toNat
theorem imm12_lt (i:Int):imm12 i<4096:=by unfold imm12;omega
def sgn12 (n:Nat):Int:=bif decide (2047<n) then (n:Int) - 4096 else n
theorem sgn12_le (n:Nat) (h:n<4096):-2048≤sgn12 n∧sgn12 n≤2047:=by
 unfold sgn12
 cases hd:decide (2047<n) with
 | true=>have:=of_decide_eq_true hd;rw [cond_true];omega
 | false=>have:=of_decide_eq_false hd;rw [cond_false];omega
def InD.fds (x:InD):List FdD:=[⟨27,5,x.op.toNat⟩,⟨24,3,x.d.toNat⟩,⟨21,3,x.n.toNat⟩,⟨18,3,x.m.toNat⟩,⟨0,12,imm12 x.imm⟩]
def InD.wd (x:InD):Nat:=(((x.op.toNat <<< 27 ||| x.d.toNat <<< 24) ||| x.n.toNat <<< 21) ||| x.m.toNat <<< 18) ||| imm12 x.imm
structure InD.Fit (x:InD):Prop where
 op:0≤x.op∧x.op<32
 d:0≤x.d∧x.d<8
 n:0≤x.n∧x.n<8
 m:0≤x.m∧x.m<8
 imm:-9223372036854775808≤x.imm∧x.imm<9223372036854775808
theorem InD.may_fit {x:InD} (h:x.may=true):x.Fit:=by
 unfold InD.may InD.base at h
 simp [PtD.btw] at h
 constructor<;>omega
theorem InD.fds_ok {x:InD} (h:x.Fit):∀ f∈x.fds,f.Ok:=by
 obtain ⟨h1,h2,h3,h4,h5⟩:=h
 have:=imm12_lt x.imm
 intro f hf
 simp only [InD.fds,List.mem_cons,List.mem_nil_iff,or_false] at hf
 rcases hf with rfl | rfl | rfl | rfl | rfl<;>exact ⟨by simp,by simp,by simp;omega⟩
theorem InD.join {x:InD} (h:x.Fit):joinL x.fds 0 0=some (x.wd,4294967295 - 258048):=by
 obtain ⟨h1,h2,h3,h4,h5⟩:=h
 have:=imm12_lt x.imm
 have e:joinL x.fds 0 0=some (((((0 ||| (x.op.toNat <<< 27) % 18446744073709551616) ||| (x.d.toNat <<< 24) % 18446744073709551616) ||| (x.n.toNat <<< 21) % 18446744073709551616) ||| (x.m.toNat <<< 18) % 18446744073709551616) ||| (imm12 x.imm <<< 0) % 18446744073709551616,4294709247):=by
  have m1:∀ v,FdD.mask ⟨27,5,v⟩=4160749568:=fun v=>by show (lowN 5 <<< 27) % 18446744073709551616=_;decide
  have m2:∀ v,FdD.mask ⟨24,3,v⟩=117440512:=fun v=>by show (lowN 3 <<< 24) % 18446744073709551616=_;decide
  have m3:∀ v,FdD.mask ⟨21,3,v⟩=14680064:=fun v=>by show (lowN 3 <<< 21) % 18446744073709551616=_;decide
  have m4:∀ v,FdD.mask ⟨18,3,v⟩=1835008:=fun v=>by show (lowN 3 <<< 18) % 18446744073709551616=_;decide
  have m5:∀ v,FdD.mask ⟨0,12,v⟩=4095:=fun v=>by show (lowN 12 <<< 0) % 18446744073709551616=_;decide
  simp only [InD.fds,joinL,m1,m2,m3,m4,m5,FdD.bits,Nat.zero_and,Nat.reduceAnd,Nat.reduceOr,decide_true,cond_true]
 rw [e]
 unfold InD.wd
 simp only [Nat.shiftLeft_eq,Nat.zero_or,Nat.reducePow,Nat.pow_zero,Nat.mul_one]
 rw [Nat.mod_eq_of_lt (by omega),Nat.mod_eq_of_lt (by omega),Nat.mod_eq_of_lt (by omega),Nat.mod_eq_of_lt (by omega),Nat.mod_eq_of_lt (by omega)]
theorem nCheck_e (x:InD) (w:World):Fn Tryz.prog 119 [.agg (isV x).toArray].toArray w [] (fun u _=>u=.int .i64 (bif x.may then 0 else 1)):=by
 refine enter Tryz.func119 ?_
 refine run ?_
 intro B
 refine run ?_
 refine callE (fun wc hG=>nMay_e x wc) ?_
 refine run ?_
 refine st_cond _ rfl (fun hc=>?_) (fun hc=>?_)
 ·rw [show x.may=false by simpa using hc]
  refine run ?_
  exact fin1 rfl
 ·rw [show x.may=true by simpa using hc]
  refine run ?_
  exact fin1 rfl
theorem nFields_e (x:InD) (h:x.Fit) (w:World):Fn Tryz.prog 143 [.agg (isV x).toArray].toArray w [] (fun u hn=>∃ h1,Own 149 3 u h1 (x.fds.map fdV)∧HpLe h1 hn):=by
 obtain ⟨h1,h2,h3,h4,h5⟩:=id h
 have h12:=imm12_lt x.imm
 refine enter Tryz.func143 ?_
 refine run ?_
 intro B
 refine op1 (by rfl) (x_conv tb_ok rfl rfl rfl) ?_
 refine op1 (by rfl) (x_andN rfl rfl (IntKind.u64.wrap x.imm).toNat 4095 (by rw [IntKind.wrap_u64];omega) rfl (by rw [IntKind.wrap_u64];omega) (by decide)) ?_
 rw [show (IntKind.u64.wrap x.imm).toNat &&& 4095=imm12 x.imm by rw [show (4095:Nat)=2 ^ 12 - 1 from rfl,Nat.and_two_pow_sub_one_eq_mod,IntKind.wrap_u64];unfold imm12;omega]
 refine buildK #[.int .i64 0,.int .i64 12,.int .u64 (imm12 x.imm:Nat)] ?_
 have e:fdC x.fds=[.int .i64 27,.int .i64 5,.int .u64 x.op,.int .i64 24,.int .i64 3,.int .u64 x.d,.int .i64 21,.int .i64 3,.int .u64 x.n,.int .i64 18,.int .i64 3,.int .u64 x.m,.int .i64 0,.int .i64 12,.int .u64 (imm12 x.imm:Nat)]:=by
  simp [fdC,InD.fds,Int.toNat_of_nonneg,h1.1,h2.1,h3.1,h4.1]
  omega
 refine z_bslice tb_ok (zl:=[.int .i64 0,.int .i64 0,.int .u64 0]) (out:=#[.int .i64 27,.int .i64 5,.int .u64 x.op,.int .i64 24,.int .i64 3,.int .u64 x.d,.int .i64 21,.int .i64 3,.int .u64 x.n,.int .i64 18,.int .i64 3,.int .u64 x.m,.int .i64 0,.int .i64 12,.int .u64 (imm12 x.imm:Nat)]) (out':=fdC x.fds) (by rfl) (by rfl) (by rfl) (by (first | ((simp only [Value.cells])<;>rfl) | rfl)) (by rfl) (by rfl) (by rfl) (by kernel_rfl) (by rw [e]) (fun T=>?_)
 refine run ?_
 exact fin1 ⟨_,own_fds T 5 x.fds,by (refine hpLe_cnt fun a=>?_;simp only [cntB_app,cntB_cons,cntB_nil]<;>omega)⟩
theorem nWord11_e (x:InD) (h:x.Fit) (w:World):Fn Tryz.prog 55 [.agg (isV x).toArray].toArray w [] (fun u _=>u=.int .u32 (x.wd:Nat)):=by
 obtain ⟨h1,h2,h3,h4,h5⟩:=id h
 have h12:=imm12_lt x.imm
 refine enter Tryz.func55 ?_
 refine run ?_
 intro B
 refine run ?_
 refine op1 (by rfl) (x_conv tb_ok rfl rfl rfl) ?_
 rw [show IntKind.u32.wrap x.op=(x.op.toNat:Int) by rw [IntKind.wrap_u32'];omega]
 refine op1 (by rfl) (x_shlW rfl rfl (by decide) (by decide)) ?_
 rw [show IntKind.u32.wrap ((x.op.toNat:Int) * 2 ^ (27:Int).toNat)=((x.op.toNat <<< 27:Nat):Int) by rw [IntKind.wrap_u32',Nat.shiftLeft_eq];simp;omega]
 refine run ?_
 refine op1 (by rfl) (x_conv tb_ok rfl rfl rfl) ?_
 rw [show IntKind.u32.wrap x.d=(x.d.toNat:Int) by rw [IntKind.wrap_u32'];omega]
 refine op1 (by rfl) (x_shlW rfl rfl (by decide) (by decide)) ?_
 rw [show IntKind.u32.wrap ((x.d.toNat:Int) * 2 ^ (24:Int).toNat)=((x.d.toNat <<< 24:Nat):Int) by rw [IntKind.wrap_u32',Nat.shiftLeft_eq];simp;omega]
 refine run ?_
 refine op1 (by rfl) (x_or32 rfl rfl (x.op.toNat <<< 27) (x.d.toNat <<< 24) rfl rfl (by rw [Nat.shiftLeft_eq];omega) (by rw [Nat.shiftLeft_eq];omega)) ?_
 refine run ?_
 refine op1 (by rfl) (x_conv tb_ok rfl rfl rfl) ?_
 rw [show IntKind.u32.wrap x.n=(x.n.toNat:Int) by rw [IntKind.wrap_u32'];omega]
 refine op1 (by rfl) (x_shlW rfl rfl (by decide) (by decide)) ?_
 rw [show IntKind.u32.wrap ((x.n.toNat:Int) * 2 ^ (21:Int).toNat)=((x.n.toNat <<< 21:Nat):Int) by rw [IntKind.wrap_u32',Nat.shiftLeft_eq];simp;omega]
 refine op1 (by rfl) (x_or32 rfl rfl (x.op.toNat <<< 27 ||| x.d.toNat <<< 24) (x.n.toNat <<< 21) rfl rfl (Nat.or_lt_two_pow (n:=32) (by rw [Nat.shiftLeft_eq];omega) (by rw [Nat.shiftLeft_eq];omega)) (by rw [Nat.shiftLeft_eq];omega)) ?_
 refine run ?_
 refine op1 (by rfl) (x_conv tb_ok rfl rfl rfl) ?_
 rw [show IntKind.u32.wrap x.m=(x.m.toNat:Int) by rw [IntKind.wrap_u32'];omega]
 refine op1 (by rfl) (x_shlW rfl rfl (by decide) (by decide)) ?_
 rw [show IntKind.u32.wrap ((x.m.toNat:Int) * 2 ^ (18:Int).toNat)=((x.m.toNat <<< 18:Nat):Int) by rw [IntKind.wrap_u32',Nat.shiftLeft_eq];simp;omega]
 refine op1 (by rfl) (x_or32 rfl rfl ((x.op.toNat <<< 27 ||| x.d.toNat <<< 24) ||| x.n.toNat <<< 21) (x.m.toNat <<< 18) rfl rfl (Nat.or_lt_two_pow (n:=32) (Nat.or_lt_two_pow (n:=32) (by rw [Nat.shiftLeft_eq];omega) (by rw [Nat.shiftLeft_eq];omega)) (by rw [Nat.shiftLeft_eq];omega)) (by rw [Nat.shiftLeft_eq];omega)) ?_
 refine run ?_
 refine op1 (by rfl) (x_conv tb_ok rfl rfl rfl) ?_
 refine op1 (by rfl) (x_and32 rfl rfl (IntKind.u32.wrap x.imm).toNat 4095 (by rw [IntKind.wrap_u32'];omega) rfl (by rw [IntKind.wrap_u32'];omega) (by decide)) ?_
 rw [show (IntKind.u32.wrap x.imm).toNat &&& 4095=imm12 x.imm by rw [show (4095:Nat)=2 ^ 12 - 1 from rfl,Nat.and_two_pow_sub_one_eq_mod,IntKind.wrap_u32'];unfold imm12;omega]
 refine op1 (by rfl) (x_or32 rfl rfl (((x.op.toNat <<< 27 ||| x.d.toNat <<< 24) ||| x.n.toNat <<< 21) ||| x.m.toNat <<< 18) (imm12 x.imm) rfl rfl (Nat.or_lt_two_pow (n:=32) (Nat.or_lt_two_pow (n:=32) (Nat.or_lt_two_pow (n:=32) (by rw [Nat.shiftLeft_eq];omega) (by rw [Nat.shiftLeft_eq];omega)) (by rw [Nat.shiftLeft_eq];omega)) (by rw [Nat.shiftLeft_eq];omega)) (by omega)) ?_
 refine run ?_
 exact fin1 rfl
theorem InD.wd_lt {x:InD} (h:x.Fit):x.wd<4294967296:=by
 obtain ⟨h1,h2,h3,h4,h5⟩:=h
 have h12:=imm12_lt x.imm
 unfold InD.wd
 exact Nat.or_lt_two_pow (n:=32) (Nat.or_lt_two_pow (n:=32) (Nat.or_lt_two_pow (n:=32) (Nat.or_lt_two_pow (n:=32) (by rw [Nat.shiftLeft_eq];omega) (by rw [Nat.shiftLeft_eq];omega)) (by rw [Nat.shiftLeft_eq];omega)) (by rw [Nat.shiftLeft_eq];omega)) (by omega)
theorem nWord_e (x:InD) (w:World):Fn Tryz.prog 113 [.agg (isV x).toArray].toArray w [] (fun u _=>u=bif x.may then .tuple #[.int .u32 (x.wd:Nat),.int .i64 0] else .tuple #[.int .u32 0,.int .i64 1]):=by
 refine enter Tryz.func113 ?_
 refine run ?_
 intro B
 refine run ?_
 refine callE (fun wc hG=>nCheck_e x wc) ?_
 cases hm:x.may with
 | false=>
  refine runC ?_
  exact fin2 rfl
 | true=>
  have hF:=InD.may_fit hm
  refine runC ?_
  refine callB (fun wc hG=>nFields_e x hF wc) ?_
  rintro u hn ⟨h1,hO,hle⟩
  obtain ⟨q,c,e⟩:=hO.opened
  subst e
  refine ops_le h1 (by (refine hpLe_cnt fun a=>?_;have:=HpLe.cnt hle a;simp only [cntB_app,cntB_cons,cntB_nil] at *;omega)) ?_
  refine run ?_
  refine callE (fun wc hG=>wJoin_e x.fds (InD.fds_ok hF) (hO.lie (fun b hb=>hG.here b hb) (by simp [InD.fds]))) ?_
  rw [InD.join hF]
  refine run ?_
  refine op1 (by rfl) (x_conv tb_ok rfl rfl rfl) ?_
  rw [show IntKind.u32.wrap ((joinV (some (x.wd,4294967295 - 258048)):Nat):Int)=(x.wd:Int) by rw [IntKind.wrap_u32'];have:=InD.wd_lt hF;simp only [joinV];omega]
  refine run ?_
  exact fin2 rfl
theorem wSign_e (v:Nat) (hv:v<4294967296) (w:World):Fn Tryz.prog 112 [.int .u64 (v:Nat),.int .i64 12].toArray w [] (fun u _=>u=.tuple #[.int .u64 (IntKind.u64.wrap (sgn12 (v % 4096))),.int .i64 0]):=by
 refine enter Tryz.func112 ?_
 refine runC ?_
 refine op1 (by rfl) (x_shlW rfl rfl (by decide) (by decide)) ?_
 refine op1 (by rfl) (x_conv tb_ok rfl rfl rfl) ?_
 refine runC ?_
 refine op1 (by rfl) (x_shrW rfl rfl (by decide) (by decide)) ?_
 have e:IntKind.i64.wrap (IntKind.u64.wrap ((v:Int) * 2 ^ ((64:Int) - 12).toNat)) / 2 ^ ((64:Int) - 12).toNat=sgn12 (v % 4096):=by
  rw [IntKind.wrap_u64,IntKind.wrap_i64]
  have h2:(2:Int) ^ ((64:Int) - 12).toNat=4503599627370496:=rfl
  rw [h2]
  unfold sgn12
  cases hd:decide (2047<v % 4096) with
  | true=>
   have:=of_decide_eq_true hd
   rw [cond_true]
   omega
  | false=>
   have:=of_decide_eq_false hd
   rw [cond_false]
   omega
 rw [e]
 refine op1 (by rfl) (x_conv tb_ok rfl rfl rfl) ?_
 refine run ?_
 exact fin2 rfl
def InD.ofN (v:Nat):InD:=⟨(getN v 27 5:Nat),(getN v 24 3:Nat),(getN v 21 3:Nat),(getN v 18 3:Nat),sgn12 (v % 4096)⟩
def InD.okN (v:Nat):Bool:=(InD.ofN v).may && decide ((InD.ofN v).wd=v)
def InD.of (v:Nat):InD:=bif InD.okN v then InD.ofN v else default
theorem nOf1_e (v:Nat) (hv:v<4294967296) (a n:Nat) (hn:1≤n) (han:a + n≤32) (B:Nat) (w:World) (hB:w.cell? ⟨B,0,none⟩=some (.int .u32 (v:Nat))):Fn Tryz.prog 110 ([]++[Value.int .i64 (a:Nat),Value.int .i64 (n:Nat)]++[Value.pointer (some ⟨B,0,none⟩)]).toArray w [] (fun u _=>u=.int .i64 (getN v a n:Nat)):=by
 have hg:getN v a n<4294967296:=Nat.lt_of_le_of_lt (Nat.le_trans Nat.and_le_left (by rw [Nat.shiftRight_eq_div_pow];exact Nat.div_le_self _ _)) hv
 refine enter Tryz.func110 ?_
 refine run ?_
 refine run ?_
 refine callE (fun wc hG=>wGet_e v a n hn (by omega) (by omega) wc) ?_
 refine run ?_
 exact fin1 rfl
theorem nOf_e (v:Nat) (hv:v<4294967296) (w:World):Fn Tryz.prog 71 [.int .u32 (v:Nat)].toArray w [] (fun u _=>u=.tuple #[.agg (isV (InD.of v)).toArray,.int .i64 (bif InD.okN v then 0 else 9)]):=by
 refine enter Tryz.func71 ?_
 refine run ?_
 intro B X
 refine callE (fun wc hG=>wSign_e v hv wc) ?_
 refine run ?_
 refine callF (fun wc hG=>nOf1_e v hv 27 5 (by decide) (by decide) B wc (by rw [cell_of_block (hG.here ⟨B,#[.int .u32 (v:Nat)],102⟩ (by simp))];rfl)) ?_
 refine run ?_
 refine callF (fun wc hG=>nOf1_e v hv 24 3 (by decide) (by decide) B wc (by rw [cell_of_block (hG.here ⟨B,#[.int .u32 (v:Nat)],102⟩ (by simp))];rfl)) ?_
 refine run ?_
 refine callF (fun wc hG=>nOf1_e v hv 21 3 (by decide) (by decide) B wc (by rw [cell_of_block (hG.here ⟨B,#[.int .u32 (v:Nat)],102⟩ (by simp))];rfl)) ?_
 refine run ?_
 refine callF (fun wc hG=>nOf1_e v hv 18 3 (by decide) (by decide) B wc (by rw [cell_of_block (hG.here ⟨B,#[.int .u32 (v:Nat)],102⟩ (by simp))];rfl)) ?_
 refine run ?_
 have hs:-2048≤sgn12 (v % 4096)∧sgn12 (v % 4096)≤2047:=sgn12_le _ (Nat.mod_lt _ (by decide))
 refine op1 (by rfl) (x_conv tb_ok rfl rfl rfl) ?_
 rw [show IntKind.i64.wrap (IntKind.u64.wrap (sgn12 (v % 4096)))=sgn12 (v % 4096) by rw [IntKind.wrap_u64,IntKind.wrap_i64];omega]
 refine run ?_
 intro Y
 cases hm:(InD.ofN v).may with
 | false=>
  have e1:InD.okN v=false:=by unfold InD.okN;rw [hm];rfl
  have e2:InD.of v=default:=by unfold InD.of;rw [e1];rfl
  rw [e1,e2]
  refine callE (v:=.tuple #[.int .u32 0,.int .i64 1]) (fun wc hG=>by have:=nWord_e (InD.ofN v) wc;rw [hm] at this;exact this) ?_
  refine runG ?_
  refine st_cond _ rfl (fun hc=>?_) (fun hc=>absurd hc (by simp))
  refine run ?_
  refine finA1 ?_
  rfl
 | true=>
  refine callE (v:=.tuple #[.int .u32 ((InD.ofN v).wd:Nat),.int .i64 0]) (fun wc hG=>by have:=nWord_e (InD.ofN v) wc;rw [hm] at this;exact this) ?_
  refine runG ?_
  refine st_cond _ rfl (fun hc=>?_) (fun hc=>?_)
  ·have e1:InD.okN v=false:=by unfold InD.okN;rw [hm,Bool.true_and];exact decide_eq_false (by simp at hc;omega)
   have e2:InD.of v=default:=by unfold InD.of;rw [e1];rfl
   rw [e1,e2]
   refine run ?_
   refine finA1 ?_
   rfl
  ·have e1:InD.okN v=true:=by unfold InD.okN;rw [hm,Bool.true_and];exact decide_eq_true (by simp at hc;omega)
   have e2:InD.of v=InD.ofN v:=by unfold InD.of;rw [e1];rfl
   rw [e1,e2]
   refine run ?_
   refine finA1 ?_
   rfl
end Go.Proofs.YtndklbjnofdgeaaGreat
namespace Go.Proofs.YtndklbjnofdgeaaGreat
open Go.RowKit
set_option linter.unusedVariables false
set_option linter.unusedSimpArgs false
set_option maxRecDepth 20000
attribute [local irreducible] Hy St Ops DH DHF DE1 DE2 DE3 DS DCh DWF
def aluI (x:InD) (n m:Nat):Int:=
 bif decide (x.op=1) then IntKind.u64.wrap x.imm
 else bif decide (x.op=2) then ((n:Int) + m + x.imm) % 18446744073709551616
 else bif decide (x.op=3) then ((n:Int) - m - x.imm) % 18446744073709551616
 else bif decide (x.op=4) then ((n &&& m:Nat):Int)
 else bif decide (x.op=5) then ((n ||| m:Nat):Int) else ((n ^^^ m:Nat):Int)
def sumW:List Int→Int→Int
 | [],a=>a
 | x::r,a=>sumW r (IntKind.u64.wrap (a + x))
theorem sumW_next {xs:List Int} {k:Nat} (h:k<xs.length) (a:Int):sumW (xs.drop k) a=sumW (xs.drop (k + 1)) (IntKind.u64.wrap (a + xs.getD k 0)):=by
 rw [List.drop_eq_getElem_cons h,sumW,List.getD_eq_getElem?_getD,List.getElem?_eq_getElem h];rfl
theorem aSum_e (xs:List Int) {w:World} {v:Value} (h:SlAt w v 1 (xs.map fun a=>[Value.int .u64 a])):Fn Tryz.prog 120 [v].toArray w [] (fun u _=>u=.int .u64 (sumW xs 0)):=by
 obtain ⟨q,cap,rfl,hne,hle⟩:=h.opened
 refine enter Tryz.func120 ?_
 refine run ?_
 refine loopS (σ:=Nat × Int) (fun s=>[(8,.int .i64 (s.1:Int)),(3,.int .u64 s.2)]) (fun _=>[]) (fun s=>s.1≤xs.length∧sumW (xs.drop s.1) s.2=sumW xs 0) (fun s=>xs.length - s.1) (0,0) ⟨Nat.zero_le _,rfl⟩ ?_
 rintro ⟨k,a⟩ m hm ⟨hk,hj⟩
 dsimp only at hm hk hj ⊢
 refine run ?_
 refine st_cond _ rfl (fun hc=>?_) (fun hc=>?_)
 ·have hlt:k<xs.length:=by simpa using hc
  obtain ⟨b,o,rfl⟩:=hne (by intro e;subst e;simp at hlt)
  have hr:=h.row hlt
  rw [sumW_next hlt] at hj
  have h1:=rangeAt_cell0 (h.row hlt)
  simp only [Nat.mul_one] at h1
  rw [show (xs.getD k 0)=xs.getD k default from rfl] at hj
  refine run ?_
  exact nextS (k + 1,IntKind.u64.wrap (a + xs.getD k default)) ⟨hlt,hj⟩
 ·have hk0:k=xs.length:=by simp at hc;omega
  subst hk0
  rw [List.drop_length] at hj
  rw [← hj]
  refine run ?_
  exact fin1 rfl
theorem aDo0_e (op d rn rm imm:Int) (hx:(⟨op,d,rn,rm,imm⟩:InD).may=true) (h6:op≤6) (n m:Nat) (hn:W64n n) (hm:W64n m) (w:World):Fn Tryz.prog 79 [.agg #[.int .i64 op,.int .i64 d,.int .i64 rn,.int .i64 rm,.int .i64 imm],.int .u64 (n:Nat),.int .u64 (m:Nat)].toArray w [] (fun u _=>u=.tuple #[.int .u64 (aluI ⟨op,d,rn,rm,imm⟩ n m),.int .i64 0]):=by
 refine enter Tryz.func79 ?_
 refine run ?_
 intro B
 refine run ?_
 refine callE (fun wc hG=>nCheck_e ⟨op,d,rn,rm,imm⟩ wc) ?_
 rw [hx]
 refine runC ?_
 refine op1 (by rfl) (x_conv tb_ok rfl rfl rfl) ?_
 have h1:1≤op:=by unfold InD.may InD.base at hx;simp [PtD.btw] at hx;omega
 clear hx
 obtain rfl | rfl | rfl | rfl | rfl | rfl:op=1∨op=2∨op=3∨op=4∨op=5∨op=6:=by omega
 all_goals refine runC ?_
 ·exact fin2 rfl
 ·intro T
  refine callE (fun wc hG=>aSum_e [(n:Int),(m:Int),IntKind.u64.wrap imm] ((own_row (e:=25) (t:=25) T 3 [.int .u64 (n:Nat),.int .u64 (m:Nat),.int .u64 (IntKind.u64.wrap imm)] (xs:=[(n:Int),(m:Int),IntKind.u64.wrap imm].map fun a=>[Value.int .u64 a]) rfl rfl (by simp [Value.oneCell'])).lie (fun b hb=>hG.here b (by simp at hb;subst hb;simp)) (by simp))) ?_
  refine run ?_
  refine fin2 ?_
  show _=Value.tuple #[.int .u64 (((n:Int) + m + imm) % 18446744073709551616),.int .i64 0]
  have e:sumW [(n:Int),(m:Int),IntKind.u64.wrap imm] 0=((n:Int) + m + imm) % 18446744073709551616:=by
   simp only [sumW,IntKind.wrap_u64]
   omega
  rw [e]
 ·refine op1 (by rfl) (x_negW rfl) ?_
  refine run ?_
  refine op1 (by rfl) (x_negW rfl) ?_
  refine run ?_
  intro T
  refine callE (fun wc hG=>aSum_e [(n:Int),IntKind.u64.wrap (-(m:Int)),IntKind.u64.wrap (-(IntKind.u64.wrap imm))] ((own_row (e:=25) (t:=25) T 3 [.int .u64 (n:Nat),.int .u64 (IntKind.u64.wrap (-(m:Int))),.int .u64 (IntKind.u64.wrap (-(IntKind.u64.wrap imm)))] (xs:=[(n:Int),IntKind.u64.wrap (-(m:Int)),IntKind.u64.wrap (-(IntKind.u64.wrap imm))].map fun a=>[Value.int .u64 a]) rfl rfl (by simp [Value.oneCell'])).lie (fun b hb=>hG.here b (by simp at hb;subst hb;simp)) (by simp))) ?_
  refine run ?_
  refine fin2 ?_
  show _=Value.tuple #[.int .u64 (((n:Int) - m - imm) % 18446744073709551616),.int .i64 0]
  have e:sumW [(n:Int),IntKind.u64.wrap (-(m:Int)),IntKind.u64.wrap (-(IntKind.u64.wrap imm))] 0=((n:Int) - m - imm) % 18446744073709551616:=by
   simp only [sumW,IntKind.wrap_u64]
   omega
  rw [e]
 ·refine op1 (by rfl) (x_andN rfl rfl n m rfl rfl hn hm) ?_
  refine run ?_
  exact fin2 rfl
 ·refine op1 (by rfl) (x_orN rfl rfl n m rfl rfl hn hm) ?_
  refine run ?_
  exact fin2 rfl
 ·refine op1 (by rfl) (x_xorN rfl rfl n m rfl rfl hn hm) ?_
  refine run ?_
  exact fin2 rfl
theorem aDo_e (x:InD) (hx:x.may=true) (h6:x.op≤6) (n m:Nat) (hn:W64n n) (hm:W64n m) (w:World):Fn Tryz.prog 79 [.agg (isV x).toArray,.int .u64 (n:Nat),.int .u64 (m:Nat)].toArray w [] (fun u _=>u=.tuple #[.int .u64 (aluI x n m),.int .i64 0]):=aDo0_e _ _ _ _ _ hx h6 n m hn hm w
end Go.Proofs.YtndklbjnofdgeaaGreat
namespace Go.Proofs.YtndklbjnofdgeaaGreat
open Go.RowKit
set_option linter.unusedVariables false
set_option linter.unusedSimpArgs false
set_option maxRecDepth 20000
attribute [local irreducible] Hy St Ops DH DHF DE1 DE2 DE3 DS DCh DWF
def FtD.fds (f:FtD):List FdD:=[⟨0,3,f.kind.toNat⟩,⟨3,2,f.stage.toNat⟩,⟨5,2,f.level.toNat⟩,⟨7,1,bif f.walk then 1 else 0⟩,⟨8,12,f.page.toNat⟩]
def synW (f:FtD):Nat:=joinV (joinL f.fds 0 0)
structure FtD.Fit (f:FtD):Prop where
 kind:0≤f.kind∧f.kind≤4
 stage:0≤f.stage∧f.stage≤2
 level:0≤f.level∧f.level≤3
 page:0≤f.page∧f.page≤4095
theorem FtD.fds_ok {f:FtD} (h:f.Fit):∀ g∈f.fds,g.Ok:=by
 obtain ⟨h1,h2,h3,h4⟩:=h
 intro g hg
 simp only [FtD.fds,List.mem_cons,List.mem_nil_iff,or_false] at hg
 rcases hg with rfl | rfl | rfl | rfl | rfl
 ·exact ⟨by simp,by simp,by simp;omega⟩
 ·exact ⟨by simp,by simp,by simp;omega⟩
 ·exact ⟨by simp,by simp,by simp;omega⟩
 ·exact ⟨by simp,by simp,by cases f.walk<;>simp⟩
 ·exact ⟨by simp,by simp,by simp;omega⟩
theorem sParts_e (f:FtD) (w:World):Fn Tryz.prog 161 [ftV f].toArray w [] (fun u hn=>∃ T,u=.slice (some ⟨T,0,none⟩) 5 5∧HpLe [⟨T,#[.int .i64 0,.int .i64 3,.int .u64 0,.int .i64 4,.int .i64 f.kind,.int .i64 3,.int .i64 2,.int .u64 0,.int .i64 2,.int .i64 f.stage,.int .i64 5,.int .i64 2,.int .u64 0,.int .i64 3,.int .i64 f.level,.int .i64 7,.int .i64 1,.int .u64 0,.int .i64 1,.int .i64 (bif f.walk then 1 else 0),.int .i64 8,.int .i64 12,.int .u64 0,.int .i64 4095,.int .i64 f.page],228⟩] hn):=by
 refine enter Tryz.func161 ?_
 refine run ?_
 intro B
 refine run ?_
 refine st_cutD (σ:=Unit) (fun _=>[(3,.int .i64 (bif f.walk then 1 else 0))]) (fun _=>⟨B,#[.int .i64 f.kind,.int .i64 f.stage,.int .i64 f.level,.bool f.walk,.int .i64 f.page],43⟩::[]) (fun _=>True) ?_ ?_
 ·refine st_cond _ rfl (fun hc=>?_) (fun hc=>?_)
  ·rw [hc,cond_true]
   refine run ?_
   exact meetS () trivial (h2:=by (refine hpLe_cnt fun a=>?_;simp only [cntB_app,cntB_cons,cntB_nil]<;>omega))
  ·rw [hc,cond_false]
   refine run ?_
   exact meetS () trivial (h2:=by (refine hpLe_cnt fun a=>?_;simp only [cntB_app,cntB_cons,cntB_nil]<;>omega))
 rintro ⟨⟩ -
 refine runNS ?_
 refine bsliceK #[.int .i64 0,.int .i64 3,.int .u64 0,.int .i64 4,.int .i64 f.kind,.int .i64 3,.int .i64 2,.int .u64 0,.int .i64 2,.int .i64 f.stage,.int .i64 5,.int .i64 2,.int .u64 0,.int .i64 3,.int .i64 f.level,.int .i64 7,.int .i64 1,.int .u64 0,.int .i64 1,.int .i64 (bif f.walk then 1 else 0),.int .i64 8,.int .i64 12,.int .u64 0,.int .i64 4095,.int .i64 f.page] (#[.int .i64 0,.int .i64 3,.int .u64 0,.int .i64 4,.int .i64 f.kind,.int .i64 3,.int .i64 2,.int .u64 0,.int .i64 2,.int .i64 f.stage,.int .i64 5,.int .i64 2,.int .u64 0,.int .i64 3,.int .i64 f.level,.int .i64 7,.int .i64 1,.int .u64 0,.int .i64 1,.int .i64 (bif f.walk then 1 else 0),.int .i64 8,.int .i64 12,.int .u64 0,.int .i64 4095,.int .i64 f.page]).toList (fun T=>?_) (by rfl)
 refine run ?_
 exact fin1 ⟨T,rfl,by (refine hpLe_cnt fun a=>?_;simp only [cntB_app,cntB_cons,cntB_nil]<;>omega)⟩
def FtD.rows (f:FtD):List (List Value):=[[.int .i64 0,.int .i64 3,.int .u64 f.kind],[.int .i64 3,.int .i64 2,.int .u64 f.stage],[.int .i64 5,.int .i64 2,.int .u64 f.level],[.int .i64 7,.int .i64 1,.int .u64 (bif f.walk then 1 else 0)],[.int .i64 8,.int .i64 12,.int .u64 f.page]]
theorem FtD.fds_r {f:FtD} (h:f.Fit):f.rows=f.fds.map fdV:=by
 obtain ⟨h1,h2,h3,h4⟩:=h
 cases hw:f.walk<;>simp [FtD.rows,FtD.fds,hw]<;>omega
theorem sWord_e (f:FtD) (h:f.Fit) (w:World):Fn Tryz.prog 135 [ftV f].toArray w [] (fun u _=>∃ e,u=.tuple #[.int .u64 (synW f:Nat),.int .i64 e]):=by
 obtain ⟨h1,h2,h3,h4⟩:=id h
 have hwk:(0:Int)≤(bif f.walk then 1 else 0)∧(bif f.walk then (1:Int) else 0)≤1:=by cases f.walk<;>decide
 refine enter Tryz.func135 ?_
 refine run ?_
 intro B
 refine run ?_
 refine callB (fun wc hG=>sParts_e f wc) ?_
 rintro u hn ⟨T,rfl,hle⟩
 refine ops_le (⟨T,#[.int .i64 0,.int .i64 3,.int .u64 0,.int .i64 4,.int .i64 f.kind,.int .i64 3,.int .i64 2,.int .u64 0,.int .i64 2,.int .i64 f.stage,.int .i64 5,.int .i64 2,.int .u64 0,.int .i64 3,.int .i64 f.level,.int .i64 7,.int .i64 1,.int .u64 0,.int .i64 1,.int .i64 (bif f.walk then 1 else 0),.int .i64 8,.int .i64 12,.int .u64 0,.int .i64 4095,.int .i64 f.page],228⟩::[]) (by (refine hpLe_cnt fun a=>?_;have:=HpLe.cnt hle a;simp only [cntB_app,cntB_cons,cntB_nil] at *;omega)) ?_
 refine run ?_
 refine loopS (σ:=Nat × Value × Hp) (fun s=>[(4,s.2.1),(10,.int .i64 (s.1:Int))]) (fun s=>s.2.2++[⟨T,#[.int .i64 0,.int .i64 3,.int .u64 0,.int .i64 4,.int .i64 f.kind,.int .i64 3,.int .i64 2,.int .u64 0,.int .i64 2,.int .i64 f.stage,.int .i64 5,.int .i64 2,.int .u64 0,.int .i64 3,.int .i64 f.level,.int .i64 7,.int .i64 1,.int .u64 0,.int .i64 1,.int .i64 (bif f.walk then 1 else 0),.int .i64 8,.int .i64 12,.int .u64 0,.int .i64 4095,.int .i64 f.page],228⟩]) (fun s=>s.1≤5∧Acc 149 3 s.2.1 s.2.2 (f.rows.take s.1)) (fun s=>5 - s.1) (0,_,[]) ⟨by omega,Acc.nil _ _⟩ ?_
 rintro ⟨k,v,ha⟩ m hm ⟨hk,hA⟩
 dsimp only at hm hk hA ⊢
 refine run ?_
 refine st_cond _ rfl (fun hc=>?_) (fun hc=>?_)
 ·have hlt:k<5:=by simp at hc;omega
  obtain rfl | rfl | rfl | rfl | rfl:k=0∨k=1∨k=2∨k=3∨k=4:=by omega
  ·refine runG ?_
   intro P
   refine st_cond _ rfl (fun hc=>absurd hc (by simp;omega)) (fun _=>?_)
   refine run ?_
   intro X
   refine appendA (hp':=⟨X,#[.int .i64 0,.int .i64 3,.int .u64 f.kind],149⟩::⟨P,#[.int .i64 0,.int .i64 3,.int .u64 f.kind,.int .i64 4,.int .i64 f.kind],228⟩::⟨T,#[.int .i64 0,.int .i64 3,.int .u64 0,.int .i64 4,.int .i64 f.kind,.int .i64 3,.int .i64 2,.int .u64 0,.int .i64 2,.int .i64 f.stage,.int .i64 5,.int .i64 2,.int .u64 0,.int .i64 3,.int .i64 f.level,.int .i64 7,.int .i64 1,.int .u64 0,.int .i64 1,.int .i64 (bif f.walk then 1 else 0),.int .i64 8,.int .i64 12,.int .u64 0,.int .i64 4095,.int .i64 f.page],228⟩::[]) (c:=[.int .i64 0,.int .i64 3,.int .u64 f.kind]) hA (fun v' ha' hA'=>?_) (by simp [FtD.rows]) (news_own (m:=3) mh rfl) (hperm:=by (refine perm_cnt fun a=>?_;simp only [cntB_app,cntB_cons,cntB_nil]<;>omega))
   refine run ?_
   exact nextS (1,v',ha') ⟨by omega,hA'⟩ (h2:=by (refine hpLe_cnt fun a=>?_;simp only [cntB_app,cntB_cons,cntB_nil]<;>omega))
  ·refine runG ?_
   intro P
   refine st_cond _ rfl (fun hc=>absurd hc (by simp;omega)) (fun _=>?_)
   refine run ?_
   intro X
   refine appendA (hp':=⟨X,#[.int .i64 3,.int .i64 2,.int .u64 f.stage],149⟩::⟨P,#[.int .i64 3,.int .i64 2,.int .u64 f.stage,.int .i64 2,.int .i64 f.stage],228⟩::⟨T,#[.int .i64 0,.int .i64 3,.int .u64 0,.int .i64 4,.int .i64 f.kind,.int .i64 3,.int .i64 2,.int .u64 0,.int .i64 2,.int .i64 f.stage,.int .i64 5,.int .i64 2,.int .u64 0,.int .i64 3,.int .i64 f.level,.int .i64 7,.int .i64 1,.int .u64 0,.int .i64 1,.int .i64 (bif f.walk then 1 else 0),.int .i64 8,.int .i64 12,.int .u64 0,.int .i64 4095,.int .i64 f.page],228⟩::[]) (c:=[.int .i64 3,.int .i64 2,.int .u64 f.stage]) hA (fun v' ha' hA'=>?_) (by simp [FtD.rows]) (news_own (m:=3) mh rfl) (hperm:=by (refine perm_cnt fun a=>?_;simp only [cntB_app,cntB_cons,cntB_nil]<;>omega))
   refine run ?_
   exact nextS (2,v',ha') ⟨by omega,hA'⟩ (h2:=by (refine hpLe_cnt fun a=>?_;simp only [cntB_app,cntB_cons,cntB_nil]<;>omega))
  ·refine runG ?_
   intro P
   refine st_cond _ rfl (fun hc=>absurd hc (by simp;omega)) (fun _=>?_)
   refine run ?_
   intro X
   refine appendA (hp':=⟨X,#[.int .i64 5,.int .i64 2,.int .u64 f.level],149⟩::⟨P,#[.int .i64 5,.int .i64 2,.int .u64 f.level,.int .i64 3,.int .i64 f.level],228⟩::⟨T,#[.int .i64 0,.int .i64 3,.int .u64 0,.int .i64 4,.int .i64 f.kind,.int .i64 3,.int .i64 2,.int .u64 0,.int .i64 2,.int .i64 f.stage,.int .i64 5,.int .i64 2,.int .u64 0,.int .i64 3,.int .i64 f.level,.int .i64 7,.int .i64 1,.int .u64 0,.int .i64 1,.int .i64 (bif f.walk then 1 else 0),.int .i64 8,.int .i64 12,.int .u64 0,.int .i64 4095,.int .i64 f.page],228⟩::[]) (c:=[.int .i64 5,.int .i64 2,.int .u64 f.level]) hA (fun v' ha' hA'=>?_) (by simp [FtD.rows]) (news_own (m:=3) mh rfl) (hperm:=by (refine perm_cnt fun a=>?_;simp only [cntB_app,cntB_cons,cntB_nil]<;>omega))
   refine run ?_
   exact nextS (3,v',ha') ⟨by omega,hA'⟩ (h2:=by (refine hpLe_cnt fun a=>?_;simp only [cntB_app,cntB_cons,cntB_nil]<;>omega))
  ·refine runG ?_
   intro P
   refine st_cond _ rfl (fun hc=>absurd hc (by simp;omega)) (fun _=>?_)
   refine run ?_
   intro X
   refine appendA (hp':=⟨X,#[.int .i64 7,.int .i64 1,.int .u64 (bif f.walk then 1 else 0)],149⟩::⟨P,#[.int .i64 7,.int .i64 1,.int .u64 (bif f.walk then 1 else 0),.int .i64 1,.int .i64 (bif f.walk then 1 else 0)],228⟩::⟨T,#[.int .i64 0,.int .i64 3,.int .u64 0,.int .i64 4,.int .i64 f.kind,.int .i64 3,.int .i64 2,.int .u64 0,.int .i64 2,.int .i64 f.stage,.int .i64 5,.int .i64 2,.int .u64 0,.int .i64 3,.int .i64 f.level,.int .i64 7,.int .i64 1,.int .u64 0,.int .i64 1,.int .i64 (bif f.walk then 1 else 0),.int .i64 8,.int .i64 12,.int .u64 0,.int .i64 4095,.int .i64 f.page],228⟩::[]) (c:=[.int .i64 7,.int .i64 1,.int .u64 (bif f.walk then 1 else 0)]) hA (fun v' ha' hA'=>?_) (by simp [FtD.rows]) (news_own (m:=3) mh rfl) (hperm:=by (refine perm_cnt fun a=>?_;simp only [cntB_app,cntB_cons,cntB_nil]<;>omega))
   refine run ?_
   exact nextS (4,v',ha') ⟨by omega,hA'⟩ (h2:=by (refine hpLe_cnt fun a=>?_;simp only [cntB_app,cntB_cons,cntB_nil]<;>omega))
  ·refine runG ?_
   intro P
   refine st_cond _ rfl (fun hc=>absurd hc (by simp;omega)) (fun _=>?_)
   refine run ?_
   intro X
   refine appendA (hp':=⟨X,#[.int .i64 8,.int .i64 12,.int .u64 f.page],149⟩::⟨P,#[.int .i64 8,.int .i64 12,.int .u64 f.page,.int .i64 4095,.int .i64 f.page],228⟩::⟨T,#[.int .i64 0,.int .i64 3,.int .u64 0,.int .i64 4,.int .i64 f.kind,.int .i64 3,.int .i64 2,.int .u64 0,.int .i64 2,.int .i64 f.stage,.int .i64 5,.int .i64 2,.int .u64 0,.int .i64 3,.int .i64 f.level,.int .i64 7,.int .i64 1,.int .u64 0,.int .i64 1,.int .i64 (bif f.walk then 1 else 0),.int .i64 8,.int .i64 12,.int .u64 0,.int .i64 4095,.int .i64 f.page],228⟩::[]) (c:=[.int .i64 8,.int .i64 12,.int .u64 f.page]) hA (fun v' ha' hA'=>?_) (by simp [FtD.rows]) (news_own (m:=3) mh rfl) (hperm:=by (refine perm_cnt fun a=>?_;simp only [cntB_app,cntB_cons,cntB_nil]<;>omega))
   refine run ?_
   exact nextS (5,v',ha') ⟨by omega,hA'⟩ (h2:=by (refine hpLe_cnt fun a=>?_;simp only [cntB_app,cntB_cons,cntB_nil]<;>omega))
 ·have:k=5:=by simp at hc;omega
  subst this
  refine run ?_
  rw [List.take_of_length_le (by simp [FtD.rows]),FtD.fds_r h] at hA
  refine callE (fun wc hG=>wJoin_e f.fds (FtD.fds_ok h) (hA.slAt hG (fun b hb=>List.mem_append_left _ hb) (by simp [FtD.fds]))) ?_
  refine run ?_
  exact fin2 ⟨_,rfl⟩
end Go.Proofs.YtndklbjnofdgeaaGreat
namespace Go.Proofs.YtndklbjnofdgeaaGreat
open Go.RowKit
set_option linter.unusedVariables false
set_option linter.unusedSimpArgs false
set_option maxRecDepth 20000
abbrev AftB (w w':World):Prop:=∃ hp,Good w [] hp w'
attribute [local irreducible] Hy St Ops DH DHF
theorem indexFNum_e {w:World} {F:Nat} {us:List Value} (p:Int→Bool) (xs:List (Int)) (v:Value) (h:SlAt w v 1 (xs.map inV)) (hF:∀ x,x∈xs→∀ w',AftB w w'→Fn Tryz.prog F ([]++[Value.int .i64 x]++us).toArray w' [] (fun u _=>u=.bool (p x))) (hcal:mem calN F=true:=by rfl):
  Fn Tryz.prog 192 [v,.func (.func F) [].toArray us.toArray].toArray w [] (fun u _=>u=.int .i64 (idxI p xs)):=by
 obtain ⟨q,cap,rfl,hne,hle⟩:=h.opened
 refine enter Tryz.func192 ?_
 refine run ?_
 refine loopS (σ:=Nat) (fun k=>[(8,.int .i64 (k:Int))]) (fun _=>[]) (fun k=>k≤xs.length∧∀ j,j<k→p (xs.getD j default)=false) (fun k=>xs.length - k) 0 ⟨Nat.zero_le _,fun j hj=>absurd hj (by omega)⟩ ?_
 rintro k m rfl ⟨hk,hno⟩
 refine run ?_
 refine st_cond _ rfl (fun hc=>?_) (fun hc=>?_)
 ·have hlt:k<xs.length:=by simpa using hc
  obtain ⟨b,o,rfl⟩:=hne (by intro e;subst e;simp at hlt)
  have hr:=rangeAt_cell0 (h.row hlt)
  simp only [Nat.mul_one] at hr
  refine run ?_
  refine callF (fun wc hG=>hF (xs.getD k default) (getD_mem hlt) wc ⟨_,hG⟩) (hcal:=hcal) ?_
  refine run ?_
  refine st_cond _ rfl (fun hp=>?_) (fun hp=>?_)
  ·refine run ?_
   refine fin1 ?_
   rw [idxI_at hlt hp hno]
  ·refine run ?_
   refine nextS (k + 1) ⟨hlt,fun j hj=>?_⟩
   rcases Nat.lt_succ_iff_lt_or_eq.1 hj with hj | rfl
   ·exact hno j hj
   ·exact hp
 ·have hge:k=xs.length:=by simp at hc;omega
  subst hge
  refine run ?_
  refine fin1 ?_
  rw [idxI_none hno]
theorem indexFIv_e {w:World} {F:Nat} {us:List Value} (p:IvD→Bool) (xs:List (IvD)) (v:Value) (h:SlAt w v 4 (xs.map ivV)) (hF:∀ x,x∈xs→∀ w',AftB w w'→Fn Tryz.prog F ([]++[Value.agg (ivV x).toArray]++us).toArray w' [] (fun u _=>u=.bool (p x))) (hcal:mem calN F=true:=by rfl):
  Fn Tryz.prog 134 [v,.func (.func F) [].toArray us.toArray].toArray w [] (fun u _=>u=.int .i64 (idxI p xs)):=by
 obtain ⟨q,cap,rfl,hne,hle⟩:=h.opened
 refine enter Tryz.func134 ?_
 refine run ?_
 refine loopS (σ:=Nat) (fun k=>[(8,.int .i64 (k:Int))]) (fun _=>[]) (fun k=>k≤xs.length∧∀ j,j<k→p (xs.getD j default)=false) (fun k=>xs.length - k) 0 ⟨Nat.zero_le _,fun j hj=>absurd hj (by omega)⟩ ?_
 rintro k m rfl ⟨hk,hno⟩
 refine run ?_
 refine st_cond _ rfl (fun hc=>?_) (fun hc=>?_)
 ·have hlt:k<xs.length:=by simpa using hc
  obtain ⟨b,o,rfl⟩:=hne (by intro e;subst e;simp at hlt)
  have hr:=h.row hlt
  refine run ?_
  refine callF (fun wc hG=>hF (xs.getD k default) (getD_mem hlt) wc ⟨_,hG⟩) (hcal:=hcal) ?_
  refine run ?_
  refine st_cond _ rfl (fun hp=>?_) (fun hp=>?_)
  ·refine run ?_
   refine fin1 ?_
   rw [idxI_at hlt hp hno]
  ·refine run ?_
   refine nextS (k + 1) ⟨hlt,fun j hj=>?_⟩
   rcases Nat.lt_succ_iff_lt_or_eq.1 hj with hj | rfl
   ·exact hno j hj
   ·exact hp
 ·have hge:k=xs.length:=by simp at hc;omega
  subst hge
  refine run ?_
  refine fin1 ?_
  rw [idxI_none hno]
theorem indexFEn_e {w:World} {F:Nat} {us:List Value} (p:EnD→Bool) (xs:List (EnD)) (v:Value) (h:SlAt w v 14 (xs.map enV)) (hF:∀ x,x∈xs→∀ w',AftB w w'→Fn Tryz.prog F ([]++[Value.agg (enV x).toArray]++us).toArray w' [] (fun u _=>u=.bool (p x))) (hcal:mem calN F=true:=by rfl):
  Fn Tryz.prog 104 [v,.func (.func F) [].toArray us.toArray].toArray w [] (fun u _=>u=.int .i64 (idxI p xs)):=by
 obtain ⟨q,cap,rfl,hne,hle⟩:=h.opened
 refine enter Tryz.func104 ?_
 refine run ?_
 refine loopS (σ:=Nat) (fun k=>[(8,.int .i64 (k:Int))]) (fun _=>[]) (fun k=>k≤xs.length∧∀ j,j<k→p (xs.getD j default)=false) (fun k=>xs.length - k) 0 ⟨Nat.zero_le _,fun j hj=>absurd hj (by omega)⟩ ?_
 rintro k m rfl ⟨hk,hno⟩
 refine run ?_
 refine st_cond _ rfl (fun hc=>?_) (fun hc=>?_)
 ·have hlt:k<xs.length:=by simpa using hc
  obtain ⟨b,o,rfl⟩:=hne (by intro e;subst e;simp at hlt)
  have hr:=h.row hlt
  refine run ?_
  refine callF (fun wc hG=>hF (xs.getD k default) (getD_mem hlt) wc ⟨_,hG⟩) (hcal:=hcal) ?_
  refine run ?_
  refine st_cond _ rfl (fun hp=>?_) (fun hp=>?_)
  ·refine run ?_
   refine fin1 ?_
   rw [idxI_at hlt hp hno]
  ·refine run ?_
   refine nextS (k + 1) ⟨hlt,fun j hj=>?_⟩
   rcases Nat.lt_succ_iff_lt_or_eq.1 hj with hj | rfl
   ·exact hno j hj
   ·exact hp
 ·have hge:k=xs.length:=by simp at hc;omega
  subst hge
  refine run ?_
  refine fin1 ?_
  rw [idxI_none hno]
theorem containsFNum_e {w:World} {F:Nat} {us:List Value} (p:Int→Bool) (xs:List (Int)) (v:Value) (h:SlAt w v 1 (xs.map inV)) (hF:∀ x,x∈xs→∀ w',AftB w w'→Fn Tryz.prog F ([]++[Value.int .i64 x]++us).toArray w' [] (fun u _=>u=.bool (p x))) (hcal:mem calN F=true:=by rfl):
  Fn Tryz.prog 159 [v,.func (.func F) [].toArray us.toArray].toArray w [] (fun u _=>u=.bool (xs.any p)):=by
 refine enter Tryz.func159 ?_
 refine run ?_
 refine callE (fun wc hG=>indexFNum_e p xs v (h.good hG) (fun x hx w' ha=>hF x hx w' ?_) hcal) ?_
 ·obtain ⟨hp,hg⟩:=ha
  exact ⟨_,hG.trans hg⟩
 refine run ?_
 refine fin1 ?_
 rw [← idxI_ge]
theorem containsFIv_e {w:World} {F:Nat} {us:List Value} (p:IvD→Bool) (xs:List (IvD)) (v:Value) (h:SlAt w v 4 (xs.map ivV)) (hF:∀ x,x∈xs→∀ w',AftB w w'→Fn Tryz.prog F ([]++[Value.agg (ivV x).toArray]++us).toArray w' [] (fun u _=>u=.bool (p x))) (hcal:mem calN F=true:=by rfl):
  Fn Tryz.prog 101 [v,.func (.func F) [].toArray us.toArray].toArray w [] (fun u _=>u=.bool (xs.any p)):=by
 refine enter Tryz.func101 ?_
 refine run ?_
 refine callE (fun wc hG=>indexFIv_e p xs v (h.good hG) (fun x hx w' ha=>hF x hx w' ?_) hcal) ?_
 ·obtain ⟨hp,hg⟩:=ha
  exact ⟨_,hG.trans hg⟩
 refine run ?_
 refine fin1 ?_
 rw [← idxI_ge]
theorem cloneEntries_e {w:World} (v:Value) (xs:List (List Value)) (h:SlAt w v 14 xs) (hall:∀ c∈xs,c.length=14∧c.all (·.oneCell')=true) (hl:xs.length<1000000):Fn Tryz.prog 66 [v].toArray w [] (fun u hn=>Own 114 14 u hn xs):=by
 obtain ⟨⟨q,cap,rfl,hne⟩,_⟩:=h
 refine enter Tryz.func66 ?_
 refine run ?_
 refine op1 (by rfl) (x_nilS tb_ok rfl rfl) ?_
 refine run ?_
 refine st_cond _ rfl (fun hp=>?_) (fun hp=>?_)
 ·obtain rfl:xs=[]:=by
   rcases Classical.em (xs=[]) with h | h
   ·exact h
   ·obtain ⟨b,o,rfl,_⟩:=hne h;cases hp
  refine run ?_
  refine fin1 ?_
  exact ⟨by simp,.inl ⟨rfl,rfl,rfl⟩⟩
 refine run ?_
 refine z_bslice0 tb_ok (by rfl) (by rfl) (fun g=>?_)
 refine run ?_
 rcases Classical.em (xs=[]) with rfl | hx
 ·cases q with
  | none=>cases hp
  | some q=>
  refine op1 (by rfl) (x_append0 tb_ok (by_:=0) rfl rfl rfl (Nat.le_refl _)) ?_
  refine run ?_
  refine fin1 ?_
  exact ⟨by simp,.inr ⟨g,0,#[],rfl,rfl,⟨rfl,Nat.le_refl _,by decide,rfl,rfl⟩⟩⟩
 ·obtain ⟨b,o,rfl,hr⟩:=hne hx
  refine z_appendAll tb_ok (by rfl) rfl ⟨rfl,Nat.le_refl _,by decide,rfl,rfl⟩ rfl rfl rfl rfl rfl rfl (.refl _) rfl hall hr (by simp) hl (fun v' ha' hA=>?_)
  refine run ?_
  refine fin1 ?_
  rw [List.append_nil]
  exact hA
theorem cloneInvals_e {w:World} (v:Value) (xs:List (List Value)) (h:SlAt w v 4 xs) (hall:∀ c∈xs,c.length=4∧c.all (·.oneCell')=true) (hl:xs.length<1000000):Fn Tryz.prog 67 [v].toArray w [] (fun u hn=>Own 121 4 u hn xs):=by
 obtain ⟨⟨q,cap,rfl,hne⟩,_⟩:=h
 refine enter Tryz.func67 ?_
 refine run ?_
 refine op1 (by rfl) (x_nilS tb_ok rfl rfl) ?_
 refine run ?_
 refine st_cond _ rfl (fun hp=>?_) (fun hp=>?_)
 ·obtain rfl:xs=[]:=by
   rcases Classical.em (xs=[]) with h | h
   ·exact h
   ·obtain ⟨b,o,rfl,_⟩:=hne h;cases hp
  refine run ?_
  refine fin1 ?_
  exact ⟨by simp,.inl ⟨rfl,rfl,rfl⟩⟩
 refine run ?_
 refine z_bslice0 tb_ok (by rfl) (by rfl) (fun g=>?_)
 refine run ?_
 rcases Classical.em (xs=[]) with rfl | hx
 ·cases q with
  | none=>cases hp
  | some q=>
  refine op1 (by rfl) (x_append0 tb_ok (by_:=0) rfl rfl rfl (Nat.le_refl _)) ?_
  refine run ?_
  refine fin1 ?_
  exact ⟨by simp,.inr ⟨g,0,#[],rfl,rfl,⟨rfl,Nat.le_refl _,by decide,rfl,rfl⟩⟩⟩
 ·obtain ⟨b,o,rfl,hr⟩:=hne hx
  refine z_appendAll tb_ok (by rfl) rfl ⟨rfl,Nat.le_refl _,by decide,rfl,rfl⟩ rfl rfl rfl rfl rfl rfl (.refl _) rfl hall hr (by simp) hl (fun v' ha' hA=>?_)
  refine run ?_
  refine fin1 ?_
  rw [List.append_nil]
  exact hA
theorem indexEn_e {w:World} (a:EnD) (xs:List EnD) (v:Value) (h:SlAt w v 14 (xs.map enV)):
  Fn Tryz.prog 133 [v,.agg (enV a).toArray].toArray w [] (fun u _=>u=.int .i64 (idxI (fun t=>decide (t=a)) xs)):=by
 obtain ⟨q,cap,rfl,hne,hle⟩:=h.opened
 refine enter Tryz.func133 ?_
 refine run ?_
 intro B
 refine run ?_
 refine loopS (σ:=Nat) (fun k=>[(8,.int .i64 (k:Int))]) (fun _=>[⟨B,(enV a).toArray,114⟩]) (fun k=>k≤xs.length∧∀ j,j<k→decide (xs.getD j default=a)=false) (fun k=>xs.length - k) 0 ⟨Nat.zero_le _,fun j hj=>absurd hj (by omega)⟩ ?_
 rintro k m rfl ⟨hk,hno⟩
 refine run ?_
 refine st_cond _ rfl (fun hc=>?_) (fun hc=>?_)
 ·have hlt:k<xs.length:=by simpa using hc
  obtain ⟨b,o,rfl⟩:=hne (by intro e;subst e;simp at hlt)
  have hr:=h.row hlt
  refine run ?_
  refine drawAll ?_
  refine runD ?_
  refine run ?_
  have hq:∀ x:EnD,eqLeaves (enV a) (enV x)=decide (x=a):=fun x=>by rw [eqEn,Bool.eq_iff_iff,decide_eq_true_eq,decide_eq_true_eq];exact eq_comm
  try rw [hq]
  try rw [eqEn]
  refine st_cond _ rfl (fun hp=>?_) (fun hp=>?_)
  ·refine run ?_
   refine fin1 ?_
   rw [idxI_at hlt hp hno]
  ·refine run ?_
   refine nextS (k + 1) ⟨hlt,fun j hj=>?_⟩
   rcases Nat.lt_succ_iff_lt_or_eq.1 hj with hj | rfl
   ·exact hno j hj
   ·exact hp
 ·have hge:k=xs.length:=by simp at hc;omega
  subst hge
  refine run ?_
  refine fin1 ?_
  rw [idxI_none hno]
theorem containsEn_e {w:World} (a:EnD) (xs:List EnD) (v:Value) (h:SlAt w v 14 (xs.map enV)):
  Fn Tryz.prog 100 [v,.agg (enV a).toArray].toArray w [] (fun u _=>u=.bool (xs.any fun t=>decide (t=a))):=by
 refine enter Tryz.func100 ?_
 refine run ?_
 intro B
 refine run ?_
 refine callE (fun wc hG=>indexEn_e a xs v (h.good hG)) ?_
 refine run ?_
 refine fin1 ?_
 rw [← idxI_ge]
end Go.Proofs.YtndklbjnofdgeaaGreat
