/- The program's data, as plain data. -/
import Derived.Test.YtpkfagbllafehaaAmQ
namespace Go.Proofs.Am
open Go

structure PLine where
  seller : Int
  number : Int
  buyer : Int
  amount : Int
def PLine.cells (l : PLine) : List PV := [iv l.seller, iv l.number, iv l.buyer, iv l.amount]
def lineRows (l : List PLine) : List (List PV) := l.map PLine.cells
def intRows (l : List Int) : List (List PV) := l.map fun n => [iv n]

structure PMsg where
  kind : Int
  seller : Int
  number : Int
  buyer : Int
  currency : Int
  round : Int
  cycle : Int
  amount : Int
  yes : Bool
  lines : List PLine
  nets : List Int
def PMsg.cells (m : PMsg) : List PV := [iv m.kind, iv m.seller, iv m.number, iv m.buyer, iv m.currency, iv m.round, iv m.cycle, iv m.amount, bv m.yes, .seq 4 (lineRows m.lines), .seq 1 (intRows m.nets)]
def PMsg.av (m : PMsg) : AV := .agg (m.cells.map .p)
/-- So long as lists are that memory bears them. -/
def PMsg.fits (m : PMsg) : Prop := m.lines.length * 32 ≤ 140737488355328 ∧ m.nets.length * 8 ≤ 140737488355328

structure PPacket where
  sender : Int
  to : Int
  number : Int
  heard : Int
  msg : PMsg
def PPacket.cells (p : PPacket) : List PV := [iv p.sender, iv p.to, iv p.number, iv p.heard, iv p.msg.kind, iv p.msg.seller, iv p.msg.number, iv p.msg.buyer, iv p.msg.currency, iv p.msg.round, iv p.msg.cycle, iv p.msg.amount, bv p.msg.yes, .seq 4 (lineRows p.msg.lines), .seq 1 (intRows p.msg.nets)]
def PPacket.av (p : PPacket) : AV := .agg (p.cells.map .p)
def packRows (l : List PPacket) : List (List PV) := l.map PPacket.cells
def msgRows (l : List PMsg) : List (List PV) := l.map PMsg.cells

theorem up_length (rows : List (List PV)) : (up rows).length = rows.length := by simp [up]
@[simp] theorem lineRows_length (l : List PLine) : (lineRows l).length = l.length := by simp [lineRows]
@[simp] theorem intRows_length (l : List Int) : (intRows l).length = l.length := by simp [intRows]
@[simp] theorem packRows_length (l : List PPacket) : (packRows l).length = l.length := by simp [packRows]
@[simp] theorem msgRows_length (l : List PMsg) : (msgRows l).length = l.length := by simp [msgRows]
theorem up_get {l : List (List PV)} {i : Nat} {r : List PV} (h : l[i]? = some r) : (up l)[i]? = some (r.map .p) := by simp [up, h]
theorem map_get {α β : Type} {f : α → β} {l : List α} {i : Nat} {x : α} (h : l[i]? = some x) : (l.map f)[i]? = some (f x) := by simp [h]
end Go.Proofs.Am
