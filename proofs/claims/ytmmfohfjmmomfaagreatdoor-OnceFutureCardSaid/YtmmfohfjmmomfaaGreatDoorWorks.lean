/- The function returns what it returns, from every world in which the variables hold what is listed, and leaves what was there. -/
import Derived.Test.YtmmfohfjmmomfaaGreatDoorWorksR1
import Derived.Test.YtmmfohfjmmomfaaGreatDoorWorksR2
import Derived.Test.YtmmfohfjmmomfaaGreatDoorWorksR3
import Derived.Test.YtmmfohfjmmomfaaGreatDoorWorksR4
import Derived.Test.YtmmfohfjmmomfaaGreatDoorWorksR5
namespace Go.Proofs.YtmmfohfjmmomfaaGreatDoor
open Go Go.Ab Go.RowKit
theorem fine : fineProg PP = true := by kernel_rfl
theorem more : PP.globals.size < (begin PP (fun _ _ => 0) default).world.heap.size := by decide +kernel
theorem small : PP.globals.size ≤ 4294967296 := by decide +kernel
theorem hasWorks : hasBody PP 8 = true := by kernel_rfl
set_option maxRecDepth 100000 in
theorem works_told : Go.Ab.Told PP 8 (.bool true) wG := by
  intro w hR
  refine body_wp fine hasWorks (args := #[]) (m := globs PP) .nil (by kernel_rfl) fun a' hA => ?_
  refine first_wp (C := CC) (K := 1000) fine (knotF_ok fine 100) (L := itemsC PP 8) (items_fine fine hasWorks) (i := 0) (n := 5) (a := DAct.enter (fnOf PP 8).ntmps []) (M := globMem PP wG) (s' := w1) works1 hA hR (Below.refl _ _) fun a1 x1 h1 => ?_
  refine step_wp (C := CC) (K := 1000) fine (knotF_ok fine 100) (L := itemsC PP 8) (items_fine fine hasWorks) (i := 5) (n := 1) (s := w1) (s' := w2) works2 h1 fun a2 x2 h2 => ?_
  refine step_wp (C := CC) (K := 1000) fine (knotF_ok fine 100) (L := itemsC PP 8) (items_fine fine hasWorks) (i := 6) (n := 1) (s := w2) (s' := w3) works3 h2 fun a3 x3 h3 => ?_
  refine step_wp (C := CC) (K := 1000) fine (knotF_ok fine 100) (L := itemsC PP 8) (items_fine fine hasWorks) (i := 7) (n := 1) (s := w3) (s' := w4) works4 h3 fun a4 x4 h4 => ?_
  obtain ⟨m9, hA9, hR9, hb9⟩ := h4
  exact end_wp (C := CC) (K := 1000) (knotF_ok fine 100) (L := itemsC PP 8) (items_fine fine hasWorks) (i := 8) (fn := fnOf PP 8) (v := .bool true) (a := w4.act) (M := w4.mem) works5 hA9 hR9 hb9

set_option maxRecDepth 100000 in
theorem works_callers (base : Nat) : COK PP base (told 8 (.bool true) wG CC) := told_ok (by kernel_rfl) small works_told (knotF_ok fine 100)
end Go.Proofs.YtmmfohfjmmomfaaGreatDoor
