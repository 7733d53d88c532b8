/- A part of the proof: a calculus over values without addresses, and what the functions of the program compute in it. -/
import Derived.Test.YtjgkfoeomlpdnaaDoorC1
import Derived.Test.YtjgkfoeomlpdnaaDoorCards
import Derived.Test.YtjgkfoeomlpdnaaDoorTie
import Derived.SevenTiedAt
/- The card of SpareChecks. -/
namespace Go.Proofs.YtjgkfoeomlpdnaaDoor
open Go
theorem no_stand_in {f : FuncId} {fn : Func} {name : String} (k : FuncId) (g : Func) (h1 : Tryd.prog.funcNamed name = some k) (h2 : Tryd.prog.funcs[k]? = some g) (h3 : (g.params.toList.all fun t => Tryd.prog.wantsStandIn t == false) = true) (hf : Tryd.prog.funcNamed name = some f) (hfn : Tryd.prog.funcs[f]? = some fn) :
    false = Tryd.prog.looks [] ∧ ∀ (j : Nat) t, fn.params[j]? = some t → Tryd.prog.wantsStandIn t = false := by
  obtain rfl := Option.some.inj (h1.symm.trans hf)
  obtain rfl := Option.some.inj (h2.symm.trans hfn)
  refine ⟨by kernel_rfl, fun j t ht => ?_⟩
  have := List.all_eq_true.1 h3 t (Array.mem_toList_iff.2 (Array.mem_of_getElem? ht))
  simpa using this
theorem spareChecks_card : Rows.SpareChecksCardSaid :=
  Claim7.holds_tied_plain_at .later [] [.data, .data, .data] true (true, "e74d05969769f7c3d448502ea5deb57ea4b6d88c729443141329bcb8c5be4efe") false
    spareChecks_holds (fun _ h => by cases h) (by kernel_rfl) (fun _ h => by cases h) spareChecks_row_tie rfl ⟨rfl, rfl⟩ (by kernel_rfl) rfl
    (fun f fn hf hfn => no_stand_in 6 Tryd.f6 (by kernel_rfl) Tryd.func6 (by kernel_rfl) hf hfn)
    (by kernel_rfl)
end Go.Proofs.YtjgkfoeomlpdnaaDoor
