-- Written by a program of this work (a changed copy of a printer); Lean checks it.
import Derived.Test.YtpkfagbllafehaaQItemx0
import Derived.Test.YtpkfagbllafehaaQItemx1
import Derived.Test.YtpkfagbllafehaaQItemx2
import Derived.Test.YtpkfagbllafehaaQItemx3
import Derived.Test.YtpkfagbllafehaaQItemx5
import Derived.Test.YtpkfagbllafehaaQItemx6
import Derived.Test.YtpkfagbllafehaaQItemx7
namespace Go.Proofs.Ytpkfagbllafehaa.QItem
open Go.RowKit Go.Proofs.YtpkfagbllafehaaW.PrintWords Go.Proofs.YtpkfagbllafehaaW.PrintLast Go.Proofs.YtpkfagbllafehaaW.PrintMore
attribute [local go_sem] max2_int min2_int max_two min_two max_three min_three max_four min_four   -- for this text's walks alone
set_option linter.unusedVariables false
set_option linter.unusedSimpArgs false
abbrev q0 : Array Bool := #[false, false, false, false, false, false, false, false, false, false, false, false, false, false, false, false, false, false, false, false, false, false, false, false, false, false, false, false, false, false, false, false, false, false, false, false, false, false, false, false, false, false, false, false, false, false, false, false, false, false, false, false, false, false, false, false]
abbrev q1 : Array Bool := #[true, false, false, false, false, false, false, false, false, false, false, false, false, false, false, false, false, false, false, false, false, false, false, false, false, false, false, false, false, false, false, false, false, false, false, false, false, false, false, false, false, false, false, false, false, false, false, false, false, false, false, false, false, false, false, false]
abbrev q2 : Array Bool := #[true, false, true, false, false, false, false, false, false, false, false, false, false, false, false, false, false, false, false, false, false, false, false, false, false, false, false, false, false, false, false, false, false, false, false, false, false, false, false, false, false, false, false, false, false, false, false, false, false, false, false, false, false, false, false, false]
abbrev q3 : Array Bool := #[true, true, true, false, false, false, false, false, false, false, false, false, false, false, false, false, false, false, false, false, false, false, false, false, false, false, false, false, false, false, false, false, false, false, false, false, false, false, false, false, false, false, false, false, false, false, false, false, false, false, false, false, false, false, false, false]
abbrev q4 : Array Bool := #[true, true, true, true, false, false, false, false, false, false, false, false, false, false, false, false, false, false, false, false, false, false, false, false, false, false, false, false, false, false, false, false, false, false, false, false, false, false, false, false, false, false, false, false, false, false, false, false, false, false, false, false, false, false, false, false]
abbrev q5 : Array Bool := #[true, true, true, true, true, false, false, false, false, false, false, false, false, false, false, false, false, false, false, false, false, false, false, false, false, false, false, false, false, false, false, false, false, false, false, false, false, false, false, false, false, false, false, false, false, false, false, false, false, false, false, false, false, false, false, false]
abbrev q6 : Array Bool := #[true, true, true, true, true, true, false, false, false, false, false, false, false, false, false, false, false, false, false, false, false, false, false, false, false, false, false, false, false, false, false, false, false, false, false, false, false, false, false, false, false, false, false, false, false, false, false, false, false, false, false, false, false, false, false, false]
abbrev q7 : Array Bool := #[true, true, true, true, true, true, true, false, false, false, false, false, false, false, false, false, false, false, false, false, false, false, false, false, false, false, false, false, false, false, false, false, false, false, false, false, false, false, false, false, false, false, false, false, false, false, false, false, false, false, false, false, false, false, false, false]
abbrev q8 : Array Bool := #[true, true, true, true, true, true, true, false, true, false, false, false, false, false, false, false, false, false, false, false, false, false, false, false, false, false, false, false, false, false, false, false, false, false, false, false, false, false, false, false, false, false, false, false, false, false, false, false, false, false, false, false, false, false, false, false]
abbrev q9 : Array Bool := #[true, true, true, true, true, true, true, true, true, false, false, false, false, false, false, false, false, false, false, false, false, false, false, false, false, false, false, false, false, false, false, false, false, false, false, false, false, false, false, false, false, false, false, false, false, false, false, false, false, false, false, false, false, false, false, false]
abbrev q10 : Array Bool := #[true, true, true, true, true, true, true, true, true, true, false, false, false, false, false, false, false, false, false, false, false, false, false, false, false, false, false, false, false, false, false, false, false, false, false, false, false, false, false, false, false, false, false, false, false, false, false, false, false, false, false, false, false, false, false, false]
abbrev q11 : Array Bool := #[true, true, true, true, true, true, true, true, true, true, true, false, false, false, false, false, false, false, false, false, false, false, false, false, false, false, false, false, false, false, false, false, false, false, false, false, false, false, false, false, false, false, false, false, false, false, false, false, false, false, false, false, false, false, false, false]
abbrev q12 : Array Bool := #[true, true, true, true, true, true, true, true, true, true, true, true, false, false, false, false, false, false, false, false, false, false, false, false, false, false, false, false, false, false, false, false, false, false, false, false, false, false, false, false, false, false, false, false, false, false, false, false, false, false, false, false, false, false, false, false]
abbrev q13 : Array Bool := #[true, true, true, true, true, true, true, true, true, true, true, true, true, false, false, false, false, false, false, false, false, false, false, false, false, false, false, false, false, false, false, false, false, false, false, false, false, false, false, false, false, false, false, false, false, false, false, false, false, false, false, false, false, false, false, false]
abbrev q14 : Array Bool := #[true, true, true, true, true, true, true, true, true, true, true, true, true, true, false, false, false, false, false, false, false, false, false, false, false, false, false, false, false, false, false, false, false, false, false, false, false, false, false, false, false, false, false, false, false, false, false, false, false, false, false, false, false, false, false, false]
abbrev q15 : Array Bool := #[true, true, true, true, true, true, true, true, true, true, true, true, true, true, false, true, false, false, false, false, false, false, false, false, false, false, false, false, false, false, false, false, false, false, false, false, false, false, false, false, false, false, false, false, false, false, false, false, false, false, false, false, false, false, false, false]
abbrev q16 : Array Bool := #[true, true, true, true, true, true, true, true, true, true, true, true, true, true, true, true, false, false, false, false, false, false, false, false, false, false, false, false, false, false, false, false, false, false, false, false, false, false, false, false, false, false, false, false, false, false, false, false, false, false, false, false, false, false, false, false]
abbrev q17 : Array Bool := #[true, true, true, true, true, true, true, true, true, true, true, true, true, true, true, true, true, false, false, false, false, false, false, false, false, false, false, false, false, false, false, false, false, false, false, false, false, false, false, false, false, false, false, false, false, false, false, false, false, false, false, false, false, false, false, false]
abbrev q18 : Array Bool := #[true, true, true, true, true, true, true, true, true, true, true, true, true, true, true, true, true, true, false, false, false, false, false, false, false, false, false, false, false, false, false, false, false, false, false, false, false, false, false, false, false, false, false, false, false, false, false, false, false, false, false, false, false, false, false, false]
abbrev q19 : Array Bool := #[true, true, true, true, true, true, true, true, true, true, true, true, true, true, true, true, true, true, true, false, false, false, false, false, false, false, false, false, false, false, false, false, false, false, false, false, false, false, false, false, false, false, false, false, false, false, false, false, false, false, false, false, false, false, false, false]
abbrev q20 : Array Bool := #[true, true, true, true, true, true, true, true, true, true, true, true, true, true, true, true, true, true, true, true, false, false, false, false, false, false, false, false, false, false, false, false, false, false, false, false, false, false, false, false, false, false, false, false, false, false, false, false, false, false, false, false, false, false, false, false]
abbrev q21 : Array Bool := #[true, true, true, true, true, true, true, true, true, true, true, true, true, true, true, true, true, true, true, true, true, false, false, false, false, false, false, false, false, false, false, false, false, false, false, false, false, false, false, false, false, false, false, false, false, false, false, false, false, false, false, false, false, false, false, false]
abbrev q22 : Array Bool := #[true, true, true, true, true, true, true, true, true, true, true, true, true, true, true, true, true, true, true, true, true, false, true, false, false, false, false, false, false, false, false, false, false, false, false, false, false, false, false, false, false, false, false, false, false, false, false, false, false, false, false, false, false, false, false, false]
abbrev q23 : Array Bool := #[true, true, true, true, true, true, true, true, true, true, true, true, true, true, true, true, true, true, true, true, true, true, true, false, false, false, false, false, false, false, false, false, false, false, false, false, false, false, false, false, false, false, false, false, false, false, false, false, false, false, false, false, false, false, false, false]
abbrev q24 : Array Bool := #[true, true, true, true, true, true, true, true, true, true, true, true, true, true, true, true, true, true, true, true, true, true, true, true, false, false, false, false, false, false, false, false, false, false, false, false, false, false, false, false, false, false, false, false, false, false, false, false, false, false, false, false, false, false, false, false]
abbrev q25 : Array Bool := #[true, true, true, true, true, true, true, true, true, true, true, true, true, true, true, true, true, true, true, true, true, true, true, true, true, false, false, false, false, false, false, false, false, false, false, false, false, false, false, false, false, false, false, false, false, false, false, false, false, false, false, false, false, false, false, false]
abbrev q26 : Array Bool := #[true, true, true, true, true, true, true, true, true, true, true, true, true, true, true, true, true, true, true, true, true, true, true, true, true, true, false, false, false, false, false, false, false, false, false, false, false, false, false, false, false, false, false, false, false, false, false, false, false, false, false, false, false, false, false, false]
abbrev q27 : Array Bool := #[true, true, true, true, true, true, true, true, true, true, true, true, true, true, true, true, true, true, true, true, true, true, true, true, true, true, true, false, false, false, false, false, false, false, false, false, false, false, false, false, false, false, false, false, false, false, false, false, false, false, false, false, false, false, false, false]
abbrev q28 : Array Bool := #[true, true, true, true, true, true, true, true, true, true, true, true, true, true, true, true, true, true, true, true, true, true, true, true, true, true, true, true, false, false, false, false, false, false, false, false, false, false, false, false, false, false, false, false, false, false, false, false, false, false, false, false, false, false, false, false]
abbrev q29 : Array Bool := #[true, true, true, true, true, true, true, true, true, true, true, true, true, true, true, true, true, true, true, true, true, true, true, true, true, true, true, true, true, false, false, false, false, false, false, false, false, false, false, false, false, false, false, false, false, false, false, false, false, false, false, false, false, false, false, false]
abbrev q30 : Array Bool := #[true, true, true, true, true, true, true, true, true, true, true, true, true, true, true, true, true, true, true, true, true, true, true, true, true, true, true, true, true, true, false, false, false, false, false, false, false, false, false, false, false, false, false, false, false, false, false, false, false, false, false, false, false, false, false, false]
abbrev q31 : Array Bool := #[true, true, true, true, true, true, true, true, true, true, true, true, true, true, true, true, true, true, true, true, true, true, true, true, true, true, true, true, true, true, true, false, false, false, false, false, false, false, false, false, false, false, false, false, false, false, false, false, false, false, false, false, false, false, false, false]
abbrev q32 : Array Bool := #[true, true, true, true, true, true, true, true, true, true, true, true, true, true, true, true, true, true, true, true, true, true, true, true, true, true, true, true, true, true, true, true, false, false, false, false, false, false, false, false, false, false, false, false, false, false, false, false, false, false, false, false, false, false, false, false]
abbrev q33 : Array Bool := #[true, true, true, true, true, true, true, true, true, true, true, true, true, true, true, true, true, true, true, true, true, true, true, true, true, true, true, true, true, true, true, true, false, true, false, false, false, false, false, false, false, false, false, false, false, false, false, false, false, false, false, false, false, false, false, false]
abbrev q34 : Array Bool := #[true, true, true, true, true, true, true, true, true, true, true, true, true, true, true, true, true, true, true, true, true, true, true, true, true, true, true, true, true, true, true, true, true, true, false, false, false, false, false, false, false, false, false, false, false, false, false, false, false, false, false, false, false, false, false, false]
abbrev q35 : Array Bool := #[true, true, true, true, true, true, true, true, true, true, true, true, true, true, true, true, true, true, true, true, true, true, true, true, true, true, true, true, true, true, true, true, true, true, true, false, false, false, false, false, false, false, false, false, false, false, false, false, false, false, false, false, false, false, false, false]
abbrev q36 : Array Bool := #[true, true, true, true, true, true, true, true, true, true, true, true, true, true, true, true, true, true, true, true, true, true, true, true, true, true, true, true, true, true, true, true, true, true, true, true, false, false, false, false, false, false, false, false, false, false, false, false, false, false, false, false, false, false, false, false]
abbrev q37 : Array Bool := #[true, true, true, true, true, true, true, true, true, true, true, true, true, true, true, true, true, true, true, true, true, true, true, true, true, true, true, true, true, true, true, true, true, true, true, true, true, false, false, false, false, false, false, false, false, false, false, false, false, false, false, false, false, false, false, false]
abbrev q38 : Array Bool := #[true, true, true, true, true, true, true, true, true, true, true, true, true, true, true, true, true, true, true, true, true, true, true, true, true, true, true, true, true, true, true, true, true, true, true, true, true, true, false, false, false, false, false, false, false, false, false, false, false, false, false, false, false, false, false, false]
abbrev q39 : Array Bool := #[true, true, true, true, true, true, true, true, true, true, true, true, true, true, true, true, true, true, true, true, true, true, true, true, true, true, true, true, true, true, true, true, true, true, true, true, true, true, true, false, false, false, false, false, false, false, false, false, false, false, false, false, false, false, false, false]
abbrev q40 : Array Bool := #[true, true, true, true, true, true, true, true, true, true, true, true, true, true, true, true, true, true, true, true, true, true, true, true, true, true, true, true, true, true, true, true, true, true, true, true, true, true, true, true, false, false, false, false, false, false, false, false, false, false, false, false, false, false, false, false]
abbrev q41 : Array Bool := #[true, true, true, true, true, true, true, true, true, true, true, true, true, true, true, true, true, true, true, true, true, true, true, true, true, true, true, true, true, true, true, true, true, true, true, true, true, true, true, true, true, false, false, false, false, false, false, false, false, false, false, false, false, false, false, false]
abbrev q42 : Array Bool := #[true, true, true, true, true, true, true, true, true, true, true, true, true, true, true, true, true, true, true, true, true, true, true, true, true, true, true, true, true, true, true, true, true, true, true, true, true, true, true, true, true, true, false, false, false, false, false, false, false, false, false, false, false, false, false, false]
abbrev q43 : Array Bool := #[true, true, true, true, true, true, true, true, true, true, true, true, true, true, true, true, true, true, true, true, true, true, true, true, true, true, true, true, true, true, true, true, true, true, true, true, true, true, true, true, true, true, true, false, false, false, false, false, false, false, false, false, false, false, false, false]
abbrev q44 : Array Bool := #[true, true, true, true, true, true, true, true, true, true, true, true, true, true, true, true, true, true, true, true, true, true, true, true, true, true, true, true, true, true, true, true, true, true, true, true, true, true, true, true, true, true, true, true, false, false, false, false, false, false, false, false, false, false, false, false]
abbrev q45 : Array Bool := #[true, true, true, true, true, true, true, true, true, true, true, true, true, true, true, true, true, true, true, true, true, true, true, true, true, true, true, true, true, true, true, true, true, true, true, true, true, true, true, true, true, true, true, true, true, false, false, false, false, false, false, false, false, false, false, false]
abbrev q46 : Array Bool := #[true, true, true, true, true, true, true, true, true, true, true, true, true, true, true, true, true, true, true, true, true, true, true, true, true, true, true, true, true, true, true, true, true, true, true, true, true, true, true, true, true, true, true, true, true, true, false, false, false, false, false, false, false, false, false, false]
abbrev q47 : Array Bool := #[true, true, true, true, true, true, true, true, true, true, true, true, true, true, true, true, true, true, true, true, true, true, true, true, true, true, true, true, true, true, true, true, true, true, true, true, true, true, true, true, true, true, true, true, true, true, true, false, false, false, false, false, false, false, false, false]
abbrev q48 : Array Bool := #[true, true, true, true, true, true, true, true, true, true, true, true, true, true, true, true, true, true, true, true, true, true, true, true, true, true, true, true, true, true, true, true, true, true, true, true, true, true, true, true, true, true, true, true, true, true, true, true, false, false, false, false, false, false, false, false]
abbrev q49 : Array Bool := #[true, true, true, true, true, true, true, true, true, true, true, true, true, true, true, true, true, true, true, true, true, true, true, true, true, true, true, true, true, true, true, true, true, true, true, true, true, true, true, true, true, true, true, true, true, true, true, true, true, false, false, false, false, false, false, false]
abbrev q50 : Array Bool := #[true, true, true, true, true, true, true, true, true, true, true, true, true, true, true, true, true, true, true, true, true, true, true, true, true, true, true, true, true, true, true, true, true, true, true, true, true, true, true, true, true, true, true, true, true, true, true, true, true, true, false, false, false, false, false, false]
abbrev q51 : Array Bool := #[true, true, true, true, true, true, true, true, true, true, true, true, true, true, true, true, true, true, true, true, true, true, true, true, true, true, true, true, true, true, true, true, true, true, true, true, true, true, true, true, true, true, true, true, true, true, true, true, true, true, true, false, false, false, false, false]
abbrev q52 : Array Bool := #[true, true, true, true, true, true, true, true, true, true, true, true, true, true, true, true, true, true, true, true, true, true, true, true, true, true, true, true, true, true, true, true, true, true, true, true, true, true, true, true, true, true, true, true, true, true, true, true, true, true, true, true, false, false, false, false]
abbrev q53 : Array Bool := #[true, true, true, true, true, true, true, true, true, true, true, true, true, true, true, true, true, true, true, true, true, true, true, true, true, true, true, true, true, true, true, true, true, true, true, true, true, true, true, true, true, true, true, true, true, true, true, true, true, true, true, true, true, false, false, false]
abbrev q54 : Array Bool := #[true, true, true, true, true, true, true, true, true, true, true, true, true, true, true, true, true, true, true, true, true, true, true, true, true, true, true, true, true, true, true, true, true, true, true, true, true, true, true, true, true, true, true, true, true, true, true, true, true, true, true, true, true, true, false, false]
abbrev q55 : Array Bool := #[true, true, true, true, true, true, true, true, true, true, true, true, true, true, true, true, true, true, true, true, true, true, true, true, true, true, true, true, true, true, true, true, true, true, true, true, true, true, true, true, true, true, true, true, true, true, true, true, true, true, true, true, true, true, true, false]
abbrev q56 : Array Bool := #[true, true, true, true, true, true, true, true, true, true, true, true, true, true, true, true, true, true, true, true, true, true, true, true, true, true, true, true, true, true, true, true, true, true, true, true, true, true, true, true, true, true, true, true, true, true, true, true, true, true, true, true, true, true, true, true]
abbrev q57 : Array Bool := #[true, true, true, true, true, true, true, true, true, true, true, true, true, true, true, true, true, true, true, true, true, true, true, true, true, true, true, true, true, true, true, true, true, false, false, false, false, false, false, false, false, false, false, false, false, false, false, false, false, false, false, false, false, false, false, false]
theorem z1 {α : Type} {l : List α} {i : Nat} {a : α} : l.toArray.setIfInBounds i a = (l.set i a).toArray := List.setIfInBounds_toArray ..
theorem z2 {α : Type} {x b : α} {l : List α} : (x :: l).set 0 b = b :: l := rfl
theorem z3 {α : Type} {x b : α} {l : List α} {n : Nat} : (x :: l).set (n + 1) b = x :: l.set n b := rfl
theorem z4 (x : Int) : IntKind.i64.wrap x = wrap64 x := i64_w x
theorem z5 (x : Int) : IntKind.i32.wrap x = wrap32 x := i32_w x

/-! ### contralaw09_ItemForward: function 8 -/
mutual
def contralaw09_ItemForward.j0 : Nat → List (S93) → Bool → Int → Int → Int → Int → Int → Int → Int → Int → Option (Bool)
  | 0, _, _, _, _, _, _, _, _, _, _ => none
  | k + 1, x1, x18, x294000, x294001, x294002, x294003, x294004, x294005, x294006, x294007 => if x18 = true then (some true) else (contralaw09_ItemForward.l0 k x1 (x1.length : Int) 0 x294000 x294001 x294002 x294003 x294004 x294005 x294006 x294007)
def contralaw09_ItemForward.l0 : Nat → List (S93) → Int → Int → Int → Int → Int → Int → Int → Int → Int → Int → Option (Bool)
  | 0, _, _, _, _, _, _, _, _, _, _, _ => none
  | k + 1, x19, x20, x21, x294000, x294001, x294002, x294003, x294004, x294005, x294006, x294007 => if x21 < x20 then (if 0 ≤ x21 then (if x21 < (x19.length : Int) then ((contralaw09_act.f k x294000 x294001 x294002 x294003 x294004 x294005 x294006 x294007 ((rd_T93 x19 x21).f0) ((rd_T93 x19 x21).f1)).bind fun bt298 => ((item_Rank.f k bt298.1 bt298.2.1 bt298.2.2.1 bt298.2.2.2.1 bt298.2.2.2.2.1 bt298.2.2.2.2.2.1 bt298.2.2.2.2.2.2.1 bt298.2.2.2.2.2.2.2.1).bind fun t308 => ((item_Rank.f k x294000 x294001 x294002 x294003 x294004 x294005 x294006 x294007).bind fun t309 => (if t308 < t309 then (contralaw09_ItemForward.j2 k x19 x20 x21 true bt298.1 bt298.2.1 bt298.2.2.1 bt298.2.2.2.1 bt298.2.2.2.2.1 bt298.2.2.2.2.2.1 bt298.2.2.2.2.2.2.1 bt298.2.2.2.2.2.2.2.1) else (if (!(bt298.1 == x294000) || (!(bt298.2.1 == x294001))) = true then (contralaw09_ItemForward.j2 k x19 x20 x21 true bt298.1 bt298.2.1 bt298.2.2.1 bt298.2.2.2.1 bt298.2.2.2.2.1 bt298.2.2.2.2.2.1 bt298.2.2.2.2.2.2.1 bt298.2.2.2.2.2.2.2.1) else (if bt298.2.2.1 = x294002 then (if bt298.2.2.2.1 = x294003 then (if x294006 ≥ 3 then (if bt298.2.2.2.2.1 = x294004 then ((item_Over.f x294000 x294001 x294002 x294003 x294004 x294005 x294006 x294007).bind fun t310 => (if t310 = true then (if ((!(bt298.1 == x294000) || (!(bt298.2.1 == x294001))) || (!(bt298.2.2.1 == x294002) || (!(bt298.2.2.2.1 == x294003) || (!(bt298.2.2.2.2.1 == x294004) || (!(bt298.2.2.2.2.2.1 == x294005) || (!(bt298.2.2.2.2.2.2.1 == x294006) || (!(bt298.2.2.2.2.2.2.2.1 == x294007)))))))) = true then (contralaw09_ItemForward.j2 k x19 x20 x21 true bt298.1 bt298.2.1 bt298.2.2.1 bt298.2.2.2.1 bt298.2.2.2.2.1 bt298.2.2.2.2.2.1 bt298.2.2.2.2.2.2.1 bt298.2.2.2.2.2.2.2.1) else (if bt298.2.2.2.2.2.2.2.2 = 0 then (contralaw09_ItemForward.j2 k x19 x20 x21 false bt298.1 bt298.2.1 bt298.2.2.1 bt298.2.2.2.1 bt298.2.2.2.2.1 bt298.2.2.2.2.2.1 bt298.2.2.2.2.2.2.1 bt298.2.2.2.2.2.2.2.1) else (contralaw09_ItemForward.j2 k x19 x20 x21 ((!(bt298.1 == x294000) || (!(bt298.2.1 == x294001))) || (!(bt298.2.2.1 == x294002) || (!(bt298.2.2.2.1 == x294003) || (!(bt298.2.2.2.2.1 == x294004) || (!(bt298.2.2.2.2.2.1 == x294005) || (!(bt298.2.2.2.2.2.2.1 == x294006) || (!(bt298.2.2.2.2.2.2.2.1 == x294007)))))))) bt298.1 bt298.2.1 bt298.2.2.1 bt298.2.2.2.1 bt298.2.2.2.2.1 bt298.2.2.2.2.2.1 bt298.2.2.2.2.2.2.1 bt298.2.2.2.2.2.2.2.1))) else (if bt298.2.2.2.2.2.2.2.2 = 0 then (contralaw09_ItemForward.j2 k x19 x20 x21 false bt298.1 bt298.2.1 bt298.2.2.1 bt298.2.2.2.1 bt298.2.2.2.2.1 bt298.2.2.2.2.2.1 bt298.2.2.2.2.2.2.1 bt298.2.2.2.2.2.2.2.1) else (contralaw09_ItemForward.j2 k x19 x20 x21 ((!(bt298.1 == x294000) || (!(bt298.2.1 == x294001))) || (!(bt298.2.2.1 == x294002) || (!(bt298.2.2.2.1 == x294003) || (!(bt298.2.2.2.2.1 == x294004) || (!(bt298.2.2.2.2.2.1 == x294005) || (!(bt298.2.2.2.2.2.2.1 == x294006) || (!(bt298.2.2.2.2.2.2.2.1 == x294007)))))))) bt298.1 bt298.2.1 bt298.2.2.1 bt298.2.2.2.1 bt298.2.2.2.2.1 bt298.2.2.2.2.2.1 bt298.2.2.2.2.2.2.1 bt298.2.2.2.2.2.2.2.1)))) else (contralaw09_ItemForward.j2 k x19 x20 x21 true bt298.1 bt298.2.1 bt298.2.2.1 bt298.2.2.2.1 bt298.2.2.2.2.1 bt298.2.2.2.2.2.1 bt298.2.2.2.2.2.2.1 bt298.2.2.2.2.2.2.2.1)) else ((item_Over.f x294000 x294001 x294002 x294003 x294004 x294005 x294006 x294007).bind fun t311 => (if t311 = true then (if ((!(bt298.1 == x294000) || (!(bt298.2.1 == x294001))) || (!(bt298.2.2.1 == x294002) || (!(bt298.2.2.2.1 == x294003) || (!(bt298.2.2.2.2.1 == x294004) || (!(bt298.2.2.2.2.2.1 == x294005) || (!(bt298.2.2.2.2.2.2.1 == x294006) || (!(bt298.2.2.2.2.2.2.2.1 == x294007)))))))) = true then (contralaw09_ItemForward.j2 k x19 x20 x21 true bt298.1 bt298.2.1 bt298.2.2.1 bt298.2.2.2.1 bt298.2.2.2.2.1 bt298.2.2.2.2.2.1 bt298.2.2.2.2.2.2.1 bt298.2.2.2.2.2.2.2.1) else (if bt298.2.2.2.2.2.2.2.2 = 0 then (contralaw09_ItemForward.j2 k x19 x20 x21 false bt298.1 bt298.2.1 bt298.2.2.1 bt298.2.2.2.1 bt298.2.2.2.2.1 bt298.2.2.2.2.2.1 bt298.2.2.2.2.2.2.1 bt298.2.2.2.2.2.2.2.1) else (contralaw09_ItemForward.j2 k x19 x20 x21 ((!(bt298.1 == x294000) || (!(bt298.2.1 == x294001))) || (!(bt298.2.2.1 == x294002) || (!(bt298.2.2.2.1 == x294003) || (!(bt298.2.2.2.2.1 == x294004) || (!(bt298.2.2.2.2.2.1 == x294005) || (!(bt298.2.2.2.2.2.2.1 == x294006) || (!(bt298.2.2.2.2.2.2.2.1 == x294007)))))))) bt298.1 bt298.2.1 bt298.2.2.1 bt298.2.2.2.1 bt298.2.2.2.2.1 bt298.2.2.2.2.2.1 bt298.2.2.2.2.2.2.1 bt298.2.2.2.2.2.2.2.1))) else (if bt298.2.2.2.2.2.2.2.2 = 0 then (contralaw09_ItemForward.j2 k x19 x20 x21 false bt298.1 bt298.2.1 bt298.2.2.1 bt298.2.2.2.1 bt298.2.2.2.2.1 bt298.2.2.2.2.2.1 bt298.2.2.2.2.2.2.1 bt298.2.2.2.2.2.2.2.1) else (contralaw09_ItemForward.j2 k x19 x20 x21 ((!(bt298.1 == x294000) || (!(bt298.2.1 == x294001))) || (!(bt298.2.2.1 == x294002) || (!(bt298.2.2.2.1 == x294003) || (!(bt298.2.2.2.2.1 == x294004) || (!(bt298.2.2.2.2.2.1 == x294005) || (!(bt298.2.2.2.2.2.2.1 == x294006) || (!(bt298.2.2.2.2.2.2.2.1 == x294007)))))))) bt298.1 bt298.2.1 bt298.2.2.1 bt298.2.2.2.1 bt298.2.2.2.2.1 bt298.2.2.2.2.2.1 bt298.2.2.2.2.2.2.1 bt298.2.2.2.2.2.2.2.1))))) else (contralaw09_ItemForward.j2 k x19 x20 x21 true bt298.1 bt298.2.1 bt298.2.2.1 bt298.2.2.2.1 bt298.2.2.2.2.1 bt298.2.2.2.2.2.1 bt298.2.2.2.2.2.2.1 bt298.2.2.2.2.2.2.2.1)) else (contralaw09_ItemForward.j2 k x19 x20 x21 true bt298.1 bt298.2.1 bt298.2.2.1 bt298.2.2.2.1 bt298.2.2.2.2.1 bt298.2.2.2.2.2.1 bt298.2.2.2.2.2.2.1 bt298.2.2.2.2.2.2.2.1))))))) else (none)) else (none)) else (some true)
def contralaw09_ItemForward.j2 : Nat → List (S93) → Int → Int → Bool → Int → Int → Int → Int → Int → Int → Int → Int → Option (Bool)
  | 0, _, _, _, _, _, _, _, _, _, _, _, _ => none
  | k + 1, x19, x20, x21, x89, x308000, x308001, x308002, x308003, x308004, x308005, x308006, x308007 => if x89 = true then (some false) else (contralaw09_ItemForward.l0 k x19 x20 (wrap64 (x21 + 1)) x308000 x308001 x308002 x308003 x308004 x308005 x308006 x308007)
end
def contralaw09_ItemForward.f (k : Nat) (a0_0 : Int) (a0_1 : Int) (a0_2 : Int) (a0_3 : Int) (a0_4 : Int) (a0_5 : Int) (a0_6 : Int) (a0_7 : Int) (l1 : List (S93)) : Option (Bool) := (contralaw09_lives.f k).bind fun t294 => (if t294 = true then ((contraref09_Check.f k a0_0 a0_1 a0_2 a0_3 a0_4 a0_5 a0_6 a0_7).bind fun t295 => (if t295 = 0 then (contralaw09_ItemForward.j0 k l1 (decide ((l1.length : Int) > 60)) a0_0 a0_1 a0_2 a0_3 a0_4 a0_5 a0_6 a0_7) else (contralaw09_ItemForward.j0 k l1 true a0_0 a0_1 a0_2 a0_3 a0_4 a0_5 a0_6 a0_7))) else (some false))
theorem contralaw09_ItemForward.mono_l : ∀ k, (∀ y0 y1 y2 y3 y4 y5 y6 y7 y8 y9, LeO (contralaw09_ItemForward.j0 k y0 y1 y2 y3 y4 y5 y6 y7 y8 y9) (contralaw09_ItemForward.j0 (k + 1) y0 y1 y2 y3 y4 y5 y6 y7 y8 y9)) ∧ (∀ y0 y1 y2 y3 y4 y5 y6 y7 y8 y9 y10, LeO (contralaw09_ItemForward.l0 k y0 y1 y2 y3 y4 y5 y6 y7 y8 y9 y10) (contralaw09_ItemForward.l0 (k + 1) y0 y1 y2 y3 y4 y5 y6 y7 y8 y9 y10)) ∧ (∀ y0 y1 y2 y3 y4 y5 y6 y7 y8 y9 y10 y11, LeO (contralaw09_ItemForward.j2 k y0 y1 y2 y3 y4 y5 y6 y7 y8 y9 y10 y11) (contralaw09_ItemForward.j2 (k + 1) y0 y1 y2 y3 y4 y5 y6 y7 y8 y9 y10 y11))
  | 0 => ⟨fun _ _ _ _ _ _ _ _ _ _ r h => by simp [contralaw09_ItemForward.j0] at h, fun _ _ _ _ _ _ _ _ _ _ _ r h => by simp [contralaw09_ItemForward.l0] at h, fun _ _ _ _ _ _ _ _ _ _ _ _ r h => by simp [contralaw09_ItemForward.j2] at h⟩
  | k + 1 => by
    obtain ⟨ih0, ih1, ih2⟩ := contralaw09_ItemForward.mono_l k
    refine ⟨?_, ?_, ?_⟩
    · intro y0 y1 y2 y3 y4 y5 y6 y7 y8 y9
      unfold contralaw09_ItemForward.j0
      repeat' first
      | (with_reducible exact ih0 _ _ _ _ _ _ _ _ _ _)
      | (with_reducible exact ih1 _ _ _ _ _ _ _ _ _ _ _)
      | (with_reducible exact ih2 _ _ _ _ _ _ _ _ _ _ _ _)
      | (with_reducible exact contralaw09_act.mono _ _ _ _ _ _ _ _ _ _ _)
      | (with_reducible exact contralaw09_lives.mono _)
      | (with_reducible exact contraref09_Check.mono _ _ _ _ _ _ _ _ _)
      | (with_reducible exact item_Rank.mono _ _ _ _ _ _ _ _ _)
      | (with_reducible exact LeO.refl _)
      | (with_reducible exact LeO.none _)
      | (with_reducible refine LeO.ite ?_ ?_)
      | (with_reducible refine LeO.bind ?_ (fun _ => ?_))
      | exact ih0 _ _ _ _ _ _ _ _ _ _
      | exact ih1 _ _ _ _ _ _ _ _ _ _ _
      | exact ih2 _ _ _ _ _ _ _ _ _ _ _ _
      | exact contralaw09_act.mono _ _ _ _ _ _ _ _ _ _ _
      | exact contralaw09_lives.mono _
      | exact contraref09_Check.mono _ _ _ _ _ _ _ _ _
      | exact item_Rank.mono _ _ _ _ _ _ _ _ _
      | exact LeO.none _
      | refine LeO.ite ?_ ?_
      | refine LeO.bind ?_ (fun _ => ?_)
    · intro y0 y1 y2 y3 y4 y5 y6 y7 y8 y9 y10
      unfold contralaw09_ItemForward.l0
      repeat' first
      | (with_reducible exact ih0 _ _ _ _ _ _ _ _ _ _)
      | (with_reducible exact ih1 _ _ _ _ _ _ _ _ _ _ _)
      | (with_reducible exact ih2 _ _ _ _ _ _ _ _ _ _ _ _)
      | (with_reducible exact contralaw09_act.mono _ _ _ _ _ _ _ _ _ _ _)
      | (with_reducible exact contralaw09_lives.mono _)
      | (with_reducible exact contraref09_Check.mono _ _ _ _ _ _ _ _ _)
      | (with_reducible exact item_Rank.mono _ _ _ _ _ _ _ _ _)
      | (with_reducible exact LeO.refl _)
      | (with_reducible exact LeO.none _)
      | (with_reducible refine LeO.ite ?_ ?_)
      | (with_reducible refine LeO.bind ?_ (fun _ => ?_))
      | exact ih0 _ _ _ _ _ _ _ _ _ _
      | exact ih1 _ _ _ _ _ _ _ _ _ _ _
      | exact ih2 _ _ _ _ _ _ _ _ _ _ _ _
      | exact contralaw09_act.mono _ _ _ _ _ _ _ _ _ _ _
      | exact contralaw09_lives.mono _
      | exact contraref09_Check.mono _ _ _ _ _ _ _ _ _
      | exact item_Rank.mono _ _ _ _ _ _ _ _ _
      | exact LeO.none _
      | refine LeO.ite ?_ ?_
      | refine LeO.bind ?_ (fun _ => ?_)
    · intro y0 y1 y2 y3 y4 y5 y6 y7 y8 y9 y10 y11
      unfold contralaw09_ItemForward.j2
      repeat' first
      | (with_reducible exact ih0 _ _ _ _ _ _ _ _ _ _)
      | (with_reducible exact ih1 _ _ _ _ _ _ _ _ _ _ _)
      | (with_reducible exact ih2 _ _ _ _ _ _ _ _ _ _ _ _)
      | (with_reducible exact contralaw09_act.mono _ _ _ _ _ _ _ _ _ _ _)
      | (with_reducible exact contralaw09_lives.mono _)
      | (with_reducible exact contraref09_Check.mono _ _ _ _ _ _ _ _ _)
      | (with_reducible exact item_Rank.mono _ _ _ _ _ _ _ _ _)
      | (with_reducible exact LeO.refl _)
      | (with_reducible exact LeO.none _)
      | (with_reducible refine LeO.ite ?_ ?_)
      | (with_reducible refine LeO.bind ?_ (fun _ => ?_))
      | exact ih0 _ _ _ _ _ _ _ _ _ _
      | exact ih1 _ _ _ _ _ _ _ _ _ _ _
      | exact ih2 _ _ _ _ _ _ _ _ _ _ _ _
      | exact contralaw09_act.mono _ _ _ _ _ _ _ _ _ _ _
      | exact contralaw09_lives.mono _
      | exact contraref09_Check.mono _ _ _ _ _ _ _ _ _
      | exact item_Rank.mono _ _ _ _ _ _ _ _ _
      | exact LeO.none _
      | refine LeO.ite ?_ ?_
      | refine LeO.bind ?_ (fun _ => ?_)
theorem contralaw09_ItemForward.mono : ∀ a0 a1 a2 a3 a4 a5 a6 a7 a8 k, LeO (contralaw09_ItemForward.f k a0 a1 a2 a3 a4 a5 a6 a7 a8) (contralaw09_ItemForward.f (k + 1) a0 a1 a2 a3 a4 a5 a6 a7 a8) := by
  intro a0 a1 a2 a3 a4 a5 a6 a7 a8 k
  obtain ⟨ih0, ih1, ih2⟩ := contralaw09_ItemForward.mono_l k
  unfold contralaw09_ItemForward.f
  repeat' first
      | (with_reducible exact ih0 _ _ _ _ _ _ _ _ _ _)
      | (with_reducible exact ih1 _ _ _ _ _ _ _ _ _ _ _)
      | (with_reducible exact ih2 _ _ _ _ _ _ _ _ _ _ _ _)
      | (with_reducible exact contralaw09_act.mono _ _ _ _ _ _ _ _ _ _ _)
      | (with_reducible exact contralaw09_lives.mono _)
      | (with_reducible exact contraref09_Check.mono _ _ _ _ _ _ _ _ _)
      | (with_reducible exact item_Rank.mono _ _ _ _ _ _ _ _ _)
      | (with_reducible exact LeO.refl _)
      | (with_reducible exact LeO.none _)
      | (with_reducible refine LeO.ite ?_ ?_)
      | (with_reducible refine LeO.bind ?_ (fun _ => ?_))
      | exact ih0 _ _ _ _ _ _ _ _ _ _
      | exact ih1 _ _ _ _ _ _ _ _ _ _ _
      | exact ih2 _ _ _ _ _ _ _ _ _ _ _ _
      | exact contralaw09_act.mono _ _ _ _ _ _ _ _ _ _ _
      | exact contralaw09_lives.mono _
      | exact contraref09_Check.mono _ _ _ _ _ _ _ _ _
      | exact item_Rank.mono _ _ _ _ _ _ _ _ _
      | exact LeO.none _
      | refine LeO.ite ?_ ?_
      | refine LeO.bind ?_ (fun _ => ?_)
def contralaw09_ItemForward.T9 : Bool × List (List Nat × List Nat) := (true, [([], []), ([0], [0]), ([], []), ([2, 1], [2]), ([1, 3], [1, 3]), ([4, 3], [4]), ([5], [5]), ([6, 5], [5, 6]), ([5], [5]), ([8, 5], [5, 8]), ([7, 9, 5], [5, 7, 9]), ([5, 10], [5, 10]), ([11, 5], [11]), ([12], [12]), ([13, 12], [12, 13]), ([12], [12]), ([15, 12], [12, 15]), ([14, 16, 12], [12, 14, 16]), ([12, 17], [12, 17]), ([18, 12], [18]), ([19], [19]), ([20, 19], [19, 20]), ([19], [19]), ([22, 19], [19, 22]), ([21, 23, 19], [19, 21, 23]), ([19, 24], [19, 24]), ([25, 19], [25]), ([26], [26]), ([27, 26], [26, 27]), ([28, 26], [26, 28]), ([29, 26, 26], [26, 29]), ([30], [30]), ([31, 30], [30, 31]), ([30], [30]), ([33, 30], [30, 33]), ([32, 34, 30], [30, 32, 34]), ([30, 35, 26], [26, 30, 35]), ([26, 36], [26, 36]), ([37, 30], [37]), ([38], [38]), ([39, 38, 38], [38, 39]), ([40, 40, 38], [38, 40]), ([41], [41]), ([41], [41]), ([42, 43, 41], [41, 42, 43]), ([41, 44, 38], [38, 41, 44]), ([38, 45], [38, 45]), ([46, 41], [46]), ([47], [47]), ([48, 47], [47, 48]), ([49, 47, 47], [47, 49]), ([50], [50]), ([50], [50]), ([51, 52, 50], [50, 51, 52]), ([50, 53, 47], [47, 50, 53]), ([47, 54], [47, 54])])
def contralaw09_ItemForward.B9 : List Nat := [0, 1, 0, 7, 15, 31, 63, 127, 63, 319, 1023, 2047, 4095, 8191, 16383, 8191, 40959, 131071, 262143, 524287, 1048575, 2097151, 1048575, 5242879, 16777215, 33554431, 67108863, 134217727, 268435455, 536870911, 1073741823, 2147483647, 4294967295, 2147483647, 10737418239, 34359738367, 68719476735, 137438953471, 274877906943, 549755813887, 1099511627775, 2199023255551, 4398046511103, 4398046511103, 17592186044415, 35184372088831, 70368744177663, 140737488355327, 281474976710655, 562949953421311, 1125899906842623, 2251799813685247, 2251799813685247, 9007199254740991, 18014398509481983, 36028797018963967]
theorem contralaw09_ItemForward.tab9 : rtab .any (opsOf Try.f8 9) = contralaw09_ItemForward.T9 := by kernel_rfl
theorem contralaw09_ItemForward.bits9 : waitsOk contralaw09_ItemForward.T9.2 contralaw09_ItemForward.B9 = true := by kernel_rfl
end Go.Proofs.Ytpkfagbllafehaa.QItem

