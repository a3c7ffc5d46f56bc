/- Parts of a proof: Tn To Tp Tq Ts. -/
import Derived.Test.YtikgokpbhldlnaaGreatDoorYMf
set_option linter.unusedVariables false
set_option linter.unusedSimpArgs false
set_option linter.unusedSectionVars false
section
namespace Go.Proofs.YtikgokpbhldlnaaGreatDoor
open Go Go.Ab
attribute [local irreducible] Wp WpO Qt OpT Ct Ent
/-! ### The kinds of parts -/
def classF (op : Int) : UInt8 :=
  if 1 ≤ op ∧ op ≤ 13 then 101 else if 25 ≤ op ∧ op ≤ 32 then 112 else if op = 23 ∨ op = 24 then 116 else if op = 16 ∨ op = 17 then 103 else if op = 21 ∨ op = 19 then 100 else 63
def allF (c : UInt8) (l : List UInt8) (lo hi : Int) : Bool := l.all (fun x => decide (x = c)) && (decide (lo ≤ (l.length : Int)) && decide ((l.length : Int) ≤ hi))
def onlyF (op : Int) (l : List Int) (lo hi : Int) : Bool := l.all (fun x => decide (x = op)) && (decide (lo ≤ (l.length : Int)) && decide ((l.length : Int) ≤ hi))
end Go.Proofs.YtikgokpbhldlnaaGreatDoor
end
section
namespace Go.Proofs.YtikgokpbhldlnaaGreatDoor
open Go Go.Ab
attribute [local irreducible] Wp WpO Qt OpT Ct Ent
def fieldsF (op num : Int) (l : List UInt8) : Bool :=
  if op = 3 ∨ op = 27 then decide (l = []) && decide (0 ≤ num) else
  if op = 4 ∨ op = 28 then (decide (l = []) && decide (0 ≤ num)) && decide (num ≤ 255) else
  if ¬ num = 0 then false else
  if op = 1 ∨ op = 19 ∨ op = 23 ∨ op = 25 then decide (nameF l = 1) else
  if op = 2 then decide (nameF l = 2) || decide (l = [40, 41]) else
  if op = 21 ∨ op = 22 then decide (nameF l = 2) else
  if op = 5 ∨ op = 24 ∨ op = 30 then true else
  if op = 29 then decide ((l.length : Int) ≤ 64) else
  if op = 13 then decide (l ∈ opTexts) else decide (l = [])
end Go.Proofs.YtikgokpbhldlnaaGreatDoor
end
section
namespace Go.Proofs.YtikgokpbhldlnaaGreatDoor
open Go Go.Ab
attribute [local irreducible] Wp WpO Qt OpT Ct Ent
end Go.Proofs.YtikgokpbhldlnaaGreatDoor
end
section
namespace Go.Proofs.YtikgokpbhldlnaaGreatDoor
open Go Go.Ab
attribute [local irreducible] Wp WpO Qt OpT Ct Ent
def cls (ops : List Int) : List UInt8 := ops.map classF
/-- Has the node the parts that the grammar can give it? -/
def partsF (op : Int) (ops : List Int) (l : List UInt8) : Bool :=
  if op = 1 ∨ op = 2 ∨ op = 3 ∨ op = 4 ∨ op = 5 ∨ op = 23 ∨ op = 25 ∨ op = 26 ∨ op = 27 ∨ op = 28 ∨ op = 29 then decide ((ops.length : Int) = 0) else
  if op = 6 then allF 101 (cls ops) 2 9 else
  if op = 7 then (decide ((2 : Int) ≤ (ops.length : Int)) && allF 112 ((cls ops).take (ops.length - 1)) 1 8) && decide (((at0 (cls ops) (ops.length - 1)).toNat : Int) = 101) else
  if op = 8 then (decide ((ops.length : Int) = 2) && decide (ops.getD 0 0 = 18)) && decide (((at0 (cls ops) 1).toNat : Int) = 101) else
  if op = 9 then allF 101 (cls ops) 3 3 else
  if op = 10 then (decide ((2 : Int) ≤ (ops.length : Int)) && decide (((at0 (cls ops) 0).toNat : Int) = 101)) && onlyF 14 (ops.drop 1) 1 6000 else
  if op = 11 then allF 101 (cls ops) 2 8 else
  if op = 12 then allF 101 (cls ops) 0 6000 else
  if op = 13 ∨ op = 16 then allF 101 (cls ops) 2 2 else
  if op = 17 then allF 101 (cls ops) 1 1 else
  if op = 14 then (decide ((ops.length : Int) = 2) && decide (((at0 (cls ops) 0).toNat : Int) = 112)) && decide (ops.getD 1 0 = 15) else
  if op = 15 then (decide ((2 : Int) ≤ (ops.length : Int)) && decide (ops.getD (ops.length - 1) 0 = 18)) && (onlyF 17 (ops.take (ops.length - 1)) 1 1 || onlyF 16 (ops.take (ops.length - 1)) 1 6000) else
  if op = 18 then onlyF 19 ops 0 6000 else
  if op = 19 then (decide ((1 : Int) ≤ (ops.length : Int)) && allF 112 ((cls ops).take (ops.length - 1)) 0 8) && decide (ops.getD (ops.length - 1) 0 = 15) else
  if op = 20 then allF 100 (cls ops) 0 6000 else
  if op = 21 then decide (((ops.takeWhile (fun x => decide (x = 23))).length : Int) ≤ 8) && onlyF 22 (ops.drop (ops.takeWhile (fun x => decide (x = 23))).length) 1 6000 else
  if op = 22 then allF 116 (cls ops) 0 8 else
  if op = 24 then allF 116 (cls ops) 0 8 && tyNames (nameF l) l ops.length else
  if op = 30 then allF 112 (cls ops) 0 8 && ((decide (nameF l = 2) || (decide (l = [40, 41]) && decide ((ops.length : Int) = 0))) || (decide (l = [58]) && decide ((ops.length : Int) = 2))) else
  if op = 31 then allF 112 (cls ops) 2 8 else
  if op = 32 then allF 112 (cls ops) 0 6000 else
  false
end Go.Proofs.YtikgokpbhldlnaaGreatDoor
end
section
namespace Go.Proofs.YtikgokpbhldlnaaGreatDoor
open Go Go.Ab
attribute [local irreducible] Wp WpO Qt OpT Ct Ent
def goodR (ops : List Int) (nd : Nd) : Bool := partsF nd.op ops (bs nd.text) && fieldsF nd.op nd.num (bs nd.text)
end Go.Proofs.YtikgokpbhldlnaaGreatDoor
end
