/- sheaflaw5.LeafTells answers true for every leaf, all bytes, every place and every byte, and its arguments read as they did; the two tables of package unicode/utf8 that its row lists are tied to the program's text. No other condition. -/
import Derived.Test.YtablmgnhpciljaaDoorLfq
import Derived.Test.YtablmgnhpciljaaDoorTie
import Derived.Test.YtablmgnhpciljaaDoorCards
import Derived.SevenTiedAt
namespace Go.Proofs.YtablmgnhpciljaaDoor
open Go

theorem LeafTells_card : Rows.LeafTellsCardSaid :=
  Claim7.holds_tied_plain_at .later [] [.data, .pinned] true (true, "976910024ff2a2eb21f501cedd4cfb97de87c195c4831093db65915413597c10") false LeafTells_row (fun _ h => by cases h) (by kernel_rfl) (fun _ h => by cases h) leafTells_row_tie rfl ⟨rfl, rfl⟩ (by kernel_rfl) rfl
    (fun f fn hf hfn => by
      obtain rfl : f = 3 := Option.some.inj ((show Tryd.prog.funcNamed "sheaf/sheaflaw5.LeafTells" = some 3 by kernel_rfl).symm.trans hf) |>.symm
      obtain rfl : fn = Tryd.f3 := (Option.some.inj (Tryd.func3.symm.trans hfn)).symm
      exact ⟨by kernel_rfl, fun j t ht => by
        rw [Tryd.params3] at ht
        have hm : t ∈ [24, 25, 3, 5] := by simpa using Array.mem_of_getElem? ht
        have hall : ([24, 25, 3, 5].all fun u => !Tryd.prog.wantsStandIn u) = true := by kernel_rfl
        exact (show Tryd.prog.wantsStandIn t = false by simpa using List.all_eq_true.1 hall t hm)⟩)
    (by kernel_rfl)
end Go.Proofs.YtablmgnhpciljaaDoor
