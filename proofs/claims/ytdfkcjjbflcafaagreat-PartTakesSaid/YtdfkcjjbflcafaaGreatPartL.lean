/- Layer 18 (part): what a partition is, as plain data; what the program's Check and the reference's Part say of it: the same. No program in sight. -/
import Derived.Test.YtdfkcjjbflcafaaGreatEngQ
namespace Go.Proofs.YtdfkcjjbflcafaaGreat
set_option linter.unusedVariables false
set_option linter.unusedSimpArgs false
structure PgD where
  own : Int
  wit : Int
deriving Inhabited
structure MpD where
  mid : Int
  frm : Int
deriving Inhabited
structure GsD where
  live : Bool
  dying : Bool
  first : Int
  vcpus : List Int
  maps : List MpD
deriving Inhabited
structure StD where
  vm : Int
  cpu : Int
deriving Inhabited
structure PtD where
  pages : List PgD
  guests : List GsD
  on : List StD
def allB (n : Nat) (p : Nat → Bool) : Bool := (List.range n).all p
theorem allB_iff {n : Nat} {p : Nat → Bool} : allB n p = true ↔ ∀ i, i < n → p i = true := by
  simp [allB, List.all_eq_true]
theorem allB_succ {n : Nat} {p : Nat → Bool} : allB (n + 1) p = (allB n p && p n) := by
  simp [allB, List.range_succ]
namespace PtD
variable (P : PtD)
def pg (f : Nat) : PgD := P.pages.getD f default
def gs (i : Nat) : GsD := P.guests.getD i default
def st (c : Nat) : StD := P.on.getD c default
/-! ### The program's -/
def btw (n a b : Int) : Bool := decide (a ≤ n) && decide (n ≤ b)
def lives (n : Int) : Bool := btw n 1 4 && (P.gs (n - 1).toNat).live
def owns (who : Int) : Bool := P.pages.any fun x => decide (x.own = who)
def uses (who : Int) (f : Nat) : Bool := decide ((P.pg f).own = who) || decide ((P.pg f).wit = who)
def paged (taken : List Int) (f : Nat) : Bool :=
  bif decide (f < 16) || decide ((P.pg f).own = -1) then (decide ((P.pg f).own = -1) && decide ((P.pg f).wit = -2)) && (decide (f < 16) || taken.any fun t => decide (t = (f : Int)))
  else bif decide ((P.pg f).own = 0) then decide ((P.pg f).wit = -2) || decide ((P.pg f).wit = -1) || P.lives (P.pg f).wit
  else bif btw (P.pg f).own 1 4 then decide ((P.pg f).wit = -2) || (decide ((P.pg f).wit = 0) && P.lives (P.pg f).own) else false
def mapAt (l : List MpD) (N : Nat) (i : Nat) : Bool :=
  btw (l.getD i default).mid 0 15 && (decide (i = 0) || decide ((l.getD (i - 1) default).mid < (l.getD i default).mid)) && btw (l.getD i default).frm 0 ((N : Int) - 1) && !((l.take i).any fun m => decide (m.frm = (l.getD i default).frm))
def mapped (i : Nat) : Bool := allB (P.gs i).maps.length (mapAt (P.gs i).maps P.pages.length) && allB P.pages.length fun f => ((P.gs i).maps.any fun m => decide (m.frm = (f : Int))) == P.uses ((i : Int) + 1) f
def vcpuAt (i : Nat) (v : Nat) : Bool :=
  decide ((P.gs i).vcpus.getD v 0 = -1) || (btw ((P.gs i).vcpus.getD v 0) 0 ((P.on.length : Int) - 1) && (decide ((P.st ((P.gs i).vcpus.getD v 0).toNat).vm = (i : Int) + 1) && decide ((P.st ((P.gs i).vcpus.getD v 0).toNat).cpu = (v : Int))))
def guested (i : Nat) : Bool :=
  bif (P.gs i).live then
    !(P.gs i).dying && btw (P.gs i).first 16 ((P.pages.length : Int) - 5) && decide ((P.gs i).vcpus.length ≤ 2) && P.mapped i &&
    allB 5 (fun k => decide ((P.pg ((P.gs i).first.toNat + k)).own = -1) && decide ((P.pg ((P.gs i).first.toNat + k)).wit = -2)) && allB (P.gs i).vcpus.length (P.vcpuAt i)
  else decide ((P.gs i).vcpus.length = 0) && decide ((P.gs i).maps.length = 0) && decide ((P.gs i).first = 0) && ((P.gs i).dying == P.owns ((i : Int) + 1))
def seated (c : Nat) : Bool :=
  bif decide ((P.st c).vm = 0) then decide ((P.st c).cpu = 0)
  else P.lives (P.st c).vm && btw (P.st c).cpu 0 (((P.gs ((P.st c).vm - 1).toNat).vcpus.length : Int) - 1) && decide ((P.gs ((P.st c).vm - 1).toNat).vcpus.getD (P.st c).cpu.toNat 0 = (c : Int))
def rows (i : Nat) : List Int := bif (P.gs i).live then [(P.gs i).first, (P.gs i).first + 1, (P.gs i).first + 2, (P.gs i).first + 3, (P.gs i).first + 4] else []
def taken (k : Nat) : List Int := (List.range k).flatMap P.rows
def round (i : Nat) : Bool := P.guested i && (!(P.gs i).live || allB 5 fun k => !((P.taken i).any fun t => decide (t = (P.gs i).first + (k : Int))))
def may : Bool :=
  (decide (24 ≤ P.pages.length) && decide (P.pages.length ≤ 64)) && decide (P.guests.length = 4) && (decide (1 ≤ P.on.length) && decide (P.on.length ≤ 3)) &&
  allB 4 P.round && allB P.pages.length (P.paged (P.taken 4)) && allB P.on.length P.seated
/-! ### The reference's -/
def who (n : Int) : Bool := decide (-1 ≤ n) && decide (n ≤ 4)
def guestR (vm : Int) : Bool := (decide (1 ≤ vm) && decide (vm ≤ P.guests.length)) && (P.gs (vm - 1).toNat).live
def within (f : Int) (g : GsD) : Bool := g.live && decide (g.first ≤ f) && decide (IntKind.i64.wrap (f - g.first) < 5)
def idx {α : Type} (p : α → Bool) : List α → Nat → Option Nat
  | [], _ => none
  | x :: r, i => bif p x then some i else idx p r (i + 1)
def tablesR (f : Int) : Int := match idx (within f) P.guests 0 with
  | some i => (i : Int) + 1
  | none => 0
def mappedR (l : List MpD) (frame : Int) : Int := match idx (fun m => decide (m.frm = frame)) l 0 with
  | some i => (i : Int)
  | none => -1
def hypR (f : Nat) : Bool := decide (f < 16) || decide (P.tablesR f > 0)
def pageR (f : Nat) : Bool :=
  !(!who (P.pg f).own || (decide ((P.pg f).wit ≠ -2) && !who (P.pg f).wit) || decide ((P.pg f).wit = (P.pg f).own)) &&
  !((P.hypR f != decide ((P.pg f).own = -1)) || (P.hypR f && decide ((P.pg f).wit ≠ -2))) &&
  !((decide ((P.pg f).own = 0) && decide ((P.pg f).wit > 0) && !P.guestR (P.pg f).wit) || (decide ((P.pg f).own > 0) && decide ((P.pg f).wit ≠ -2) && decide ((P.pg f).wit ≠ 0))) &&
  !(decide ((P.pg f).own > 0) && !(P.gs ((P.pg f).own - 1).toNat).live && (!(P.gs ((P.pg f).own - 1).toNat).dying || decide ((P.pg f).wit ≠ -2)))
def mapR (l : List MpD) (N k : Nat) : Bool :=
  !(!(decide (0 ≤ (l.getD k default).mid) && decide ((l.getD k default).mid ≤ 15)) || (decide (k > 0) && decide ((l.getD (k - 1) default).mid ≥ (l.getD k default).mid)) || !(decide (0 ≤ (l.getD k default).frm) && decide ((l.getD k default).frm ≤ (N : Int) - 1)) || decide (mappedR l (l.getD k default).frm ≠ (k : Int)))
def vcpuR (i k : Nat) : Bool :=
  !(decide ((P.gs i).vcpus.getD k 0 < -1) || decide ((P.gs i).vcpus.getD k 0 ≥ P.on.length) || (decide ((P.gs i).vcpus.getD k 0 ≥ 0) && !(decide ((P.st ((P.gs i).vcpus.getD k 0).toNat).vm = (i : Int) + 1) && decide ((P.st ((P.gs i).vcpus.getD k 0).toNat).cpu = (k : Int)))))
def apartR (i j : Nat) : Bool := !((P.gs j).live && decide ((P.gs j).first < (P.gs i).first + 5) && decide (IntKind.i64.wrap ((P.gs i).first - (P.gs j).first) < 5))
def useR (i f : Nat) : Bool := (decide ((P.pg f).own = (i : Int) + 1) || (decide ((P.pg f).own = 0) && decide ((P.pg f).wit = (i : Int) + 1))) == decide (mappedR (P.gs i).maps f ≥ 0)
def oneR (i : Nat) : Bool :=
  bif (P.gs i).live then
    !((P.gs i).dying || decide ((P.gs i).first < 16) || decide ((P.gs i).first > (P.pages.length : Int) - 5) || decide ((P.gs i).vcpus.length > 2)) &&
    allB 5 (fun k => decide (P.tablesR ((P.gs i).first + k) = (i : Int) + 1)) && allB (P.guests.length - (i + 1)) (fun k => P.apartR i (i + 1 + k)) &&
    allB (P.gs i).vcpus.length (P.vcpuR i) && allB (P.gs i).maps.length (mapR (P.gs i).maps P.pages.length) && allB P.pages.length (P.useR i)
  else decide ((P.gs i).first = 0) && decide ((P.gs i).vcpus.length = 0) && decide ((P.gs i).maps.length = 0) && ((P.gs i).dying == P.owns ((i : Int) + 1))
def seatR (c : Nat) : Bool :=
  !((decide ((P.st c).vm = 0) && decide ((P.st c).cpu ≠ 0)) || (decide ((P.st c).vm ≠ 0) && (!P.guestR (P.st c).vm || decide ((P.st c).cpu < 0) || decide ((P.st c).cpu ≥ ((P.gs ((P.st c).vm - 1).toNat).vcpus.length : Int)) || decide ((P.gs ((P.st c).vm - 1).toNat).vcpus.getD (P.st c).cpu.toNat 0 ≠ (c : Int)))))
def mayR : Bool :=
  !(decide (P.pages.length < 24) || decide (P.pages.length > 64) || decide (P.guests.length ≠ 4) || decide (P.on.length < 1) || decide (P.on.length > 3)) &&
  allB P.pages.length P.pageR && allB 4 P.oneR && allB P.on.length P.seatR
end PtD
end Go.Proofs.YtdfkcjjbflcafaaGreat
