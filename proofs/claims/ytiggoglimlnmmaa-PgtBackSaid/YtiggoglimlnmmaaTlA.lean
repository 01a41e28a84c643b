/- Layers 9, 10 and 17 (tlb, inval, bbm): data; the document's. -/
import Derived.Test.YtiggoglimlnmmaaExA
namespace Go.Proofs.Ytiggoglimlnmmaa
open Go.RowKit
set_option linter.unusedVariables false
set_option linter.unusedSimpArgs false
set_option maxRecDepth 20000
attribute [local irreducible] Hy St Ops DH DHF
/-- An entry. -/
structure EnD where
  kind : Int
  vmid : Int
  asid : Int
  all : Bool
  page : Int
  level : Int
  frame : Int
  mid : Int
  r : Bool
  w : Bool
  x : Bool
  af : Bool
  ng : Bool
  soft : Int
deriving DecidableEq
instance : Inhabited EnD := ⟨⟨0, 0, 0, false, 0, 0, 0, 0, false, false, false, false, false, 0⟩⟩
abbrev enV (e : EnD) : List Value := [.int .i64 e.kind, .int .i64 e.vmid, .int .i64 e.asid, .bool e.all, .int .i64 e.page, .int .i64 e.level, .int .i64 e.frame, .int .i64 e.mid, .bool e.r, .bool e.w, .bool e.x, .bool e.af, .bool e.ng, .int .i64 e.soft]
/-- What takes entries away. -/
structure IvD where
  kind : Int
  vmid : Int
  asid : Int
  page : Int
deriving DecidableEq
instance : Inhabited IvD := ⟨⟨0, 0, 0, 0⟩⟩
abbrev ivV (i : IvD) : List Value := [.int .i64 i.kind, .int .i64 i.vmid, .int .i64 i.asid, .int .i64 i.page]
def EnD.nums (e : EnD) : Bool := PtD.btw e.vmid 0 15 && PtD.btw e.asid 0 15 && PtD.btw e.page 0 4095 && PtD.btw e.frame 0 4095 && PtD.btw e.mid 0 4095 && decide (e.soft = 0)
def EnD.bare (e : EnD) : Bool := !e.r && !e.w && !e.x && !e.af && !e.ng && decide (e.soft = 0)
/-- A page without the bits that a table of a level tells itself. -/
def cutN (level page : Nat) : Nat := page - page % coversN level
def EnD.may (e : EnD) : Bool := e.nums &&
  bif decide (e.kind = 1) then decide (e.level = 0)
  else bif decide (e.kind = 2) then decide (e.asid = 0) && e.all && decide (e.level = 0) && decide (e.mid = 0) && !e.ng
  else bif decide (e.kind = 3) then PtD.btw e.level 1 3 && decide (cutN (e.level.toNat - 1) e.page.toNat = e.page.toNat) && decide (e.mid = 0) && e.bare
  else false
def IvD.may (i : IvD) : Bool := PtD.btw i.kind 1 6 && PtD.btw i.vmid 0 15 && PtD.btw i.asid 0 15 && PtD.btw i.page 0 4095
end Go.Proofs.Ytiggoglimlnmmaa
