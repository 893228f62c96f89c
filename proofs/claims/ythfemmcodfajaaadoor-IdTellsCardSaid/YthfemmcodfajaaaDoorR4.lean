/- For every input the law IdTells returns true and each argument reads afterwards as before; the tables of the library that its row lists lie as the program's text lays them (the card's tie, given). -/
import Derived.Test.YthfemmcodfajaaaDoorR3
import Derived.Test.YthfemmcodfajaaaDoorCards
import Derived.Test.YthfemmcodfajaaaDoorTie
import Derived.SevenTiedAt
set_option linter.unusedVariables false
set_option linter.unusedSimpArgs false
namespace Go.Proofs.YthfemmcodfajaaaDoor
open Go
theorem IdTells_holds : Rows.IdTellsCardSaid :=
  Claim7.holds_tied_plain_at .later [] [.data, .data, .data] true (true, "755c13a0d8475e6235f6c9897f42b777f895671b9d0e65b324f2c77ec7bc3c36") false
    idTells_over (fun _ h => by cases h) (by kernel_rfl) (fun _ h => by cases h) idTells_row_tie rfl ⟨rfl, rfl⟩ (by kernel_rfl) rfl
    (fun f fn hf hfn => by
      obtain rfl : f = 3 := Option.some.inj ((show Tryd.prog.funcNamed "selvedge/selvedgelaw01.IdTells" = some 3 by kernel_rfl).symm.trans hf) |>.symm
      obtain rfl : fn = Tryd.f3 := (Option.some.inj (Tryd.func3.symm.trans hfn)).symm
      refine ⟨by kernel_rfl, fun j t ht => ?_⟩
      rw [Tryd.params3] at ht
      have h3 : t = 23 ∨ t = 24 := by
        rcases j with _ | _ | _ | j
        · exact .inl (by simpa using ht.symm)
        · exact .inl (by simpa using ht.symm)
        · exact .inr (by simpa using ht.symm)
        · simp at ht
      rcases h3 with rfl | rfl
      · exact (show Tryd.prog.wantsStandIn 23 = false by kernel_rfl)
      · exact (show Tryd.prog.wantsStandIn 24 = false by kernel_rfl))
    (by kernel_rfl)
#print axioms IdTells_holds
end Go.Proofs.YthfemmcodfajaaaDoor
