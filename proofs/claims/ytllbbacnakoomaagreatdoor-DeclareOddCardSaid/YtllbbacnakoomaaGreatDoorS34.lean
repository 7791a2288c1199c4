/- Texts of this seat's proofs, laid into one file. -/
import Derived.Test.YtllbbacnakoomaaGreatDoorS15
import Derived.Test.YtllbbacnakoomaaGreatDoorS27
import Derived.Test.YtllbbacnakoomaaGreatDoorS28
import Derived.Test.YtllbbacnakoomaaGreatDoorS30
import Derived.Test.YtllbbacnakoomaaGreatDoorS33
set_option maxRecDepth 100000
set_option maxHeartbeats 16000000
namespace Go.Proofs.YtllbbacnakoomaaGreatDoor
open Go.RowKit
set_option linter.unusedVariables false
theorem goodN (L : List Ct) (ta : Option Addr) (tc rb : Nat) : ∀ n, Good L ta tc rb (recN L n)
 | 0 =>
   { expr := fun _ _ h => by cases h
     assign := fun _ _ h => by cases h
     cond := fun _ _ h => by cases h
     binary := fun _ _ _ h => by cases h
     cast := fun _ _ h => by cases h
     unary := fun _ _ h => by cases h
     init := fun _ _ h => by cases h
     typeName := fun _ _ h => by cases h
     specs := fun _ _ h => by cases h
     declr := fun _ _ _ h => by cases h
     pointer := fun _ _ _ h => by cases h }
 | n + 1 =>
   have G := goodN L ta tc rb n
   { expr := fun h hn hr => expr_step G h hn hr
     assign := fun h hn hr => assign_step G h hn hr
     cond := fun h hn hr => cond_step G h hn hr
     binary := fun h hl hn hr => binary_step G h hl hn hr
     cast := fun h hn hr => cast_step G h hn hr
     unary := fun h hn hr => unary_step G (primary_any G) h hn hr
     init := fun h hn hr => init_step G h hn hr
     typeName := fun h hn hr => typeName_step G h hn hr
     specs := fun h hn hr => specs_step (sOne_any G) h hn hr
     declr := fun h hn hm hr => declr_step G h hn hm hr
     pointer := fun h hn hm hr => pointer_step G (direct_any G) h hn hm hr }
end Go.Proofs.YtllbbacnakoomaaGreatDoor
