/- A part of the proof: a calculus over values without addresses, and what the functions of the program compute in it. -/
import Derived.Test.YtjgkfoeomlpdnaaDoorC2
import Derived.Test.YtjgkfoeomlpdnaaDoorC3
import Derived.Test.YtjgkfoeomlpdnaaDoorB6
/- The row and the card of 'hopmeshlaw44.SpareTaken': for every input that the row describes the law returns true and each argument reads behind the call as it read before. Condition: the three listed tables of Go's library hold what the row lists; the card ties them to the program's text by the given tie. -/
namespace Go.Proofs.YtjgkfoeomlpdnaaDoor
open Go Go.RowKit Go.ChangeShapes Go.WideShapes Go.ChangeAt Go.WideMaps Go.WideElems Go.Vm Go.Vm.D
set_option maxRecDepth 100000 in
theorem spareTaken_lifted (os : Os) (started : os.Started) (H : Type) (enc : TypeId × Value → H) :
    ReturnsInHanded {} Tryd.checked os 5 .any (fun w args => (Rows.spareTakenSpec.pre enc Tryd.prog Tryd.f5 [] false w args ∧ laidMetH Tryd.prog laid3 w) ∧ sizedMet enc Tryd.prog Tryd.f5 (OpenSpec.ofChange Rows.spareTakenSpec) false w args)
      (Rows.spareTakenSpec.post enc Tryd.prog Tryd.f5 false true false false) := by
  refine returnsInHanded_of_change_and (C := Tryd.checked) (X := fun w _ => laidMetH Tryd.prog laid3 w) (fun _ _ _ hh h => h.of_heap hh) own started (by kernel_rfl) Tryd.func5
    (ChangeSpec.witness_shaped (enc := enc) (C := Tryd.checked) (os := os) (X := fun w _ => laidMetH Tryd.prog laid3 w) false (World.doorLaid Tryd.prog 400 os) #[.agg #[.int .i64 0, .int .i64 0, .slice Option.none 0 0], .slice Option.none 0 0, .int .i64 0, .int .i64 0] 8 rfl (World.shaped_of_RefB (by kernel_rfl) (by kernel_rfl)) (by kernel_rfl) (by kernel_rfl) (by kernel_rfl) (door_met os _)) ?_
  intro W base args ds gs before hval0 hW hcnd hsz0 hL _
  have hsz : (DataW.weightsEach Tryd.prog (Tryd.f5.params.toList ++ Rows.spareTakenSpec.plain.varTypes Tryd.prog) (ds ++ gs)).all (· ≤ reachBytes) = true := hsz0
  have hval : ∀ (j : Nat) t v, Tryd.f5.params[j]? = some t → args[j]? = some v → Value.okWide Tryd.prog W .any base t v := hval0
  have hW' := hW
  obtain ⟨p, q, hA0, hV, rfl, hfz, hnd⟩ := hW
  have hA : DataW.TrodAll enc Tryd.prog W 0 (fun _ => true) true Tryd.f5.params.toList args.toList ds p := hA0
  rw [Tryd.params5] at hA hval hsz
  obtain ⟨v0, vs0, d0, ds0, p0, q0, hargs, rfl, rfl, h0, r0⟩ := trodAll_cons hA
  obtain ⟨v1, vs1, d1, ds1, p1, q1, rfl, rfl, rfl, h1, r1⟩ := trodAll_cons r0
  obtain ⟨v2, vs2, d2, ds2, p2, q2, rfl, rfl, rfl, h2, r2⟩ := trodAll_cons r1
  obtain ⟨v3, vs3, d3, ds3, p3, q3, rfl, rfl, rfl, h3, r3⟩ := trodAll_cons r2
  obtain ⟨rfl, rfl, rfl⟩ := trodAll_nil r3
  obtain rfl : args = #[v0, v1, v2, v3] := by cases args; simp_all
  obtain ⟨rfl, rfl⟩ := trodVars_none hV
  have lt0 : ∀ x ∈ p0, x.block < W.heap.size := by obtain ⟨m, hm⟩ := h0; exact DataW.trod_lt m _ _ _ hm
  obtain ⟨a0, g0, rv0⟩ := opn_agg Tryd.underlying24 opnSch (hval 0 24 v0 rfl rfl) h0 (weights_each hsz (j := 0) rfl rfl)
  obtain ⟨gl0, go0, gc0, gn0⟩ := g0
  have lt1 : ∀ x ∈ p1, x.block < W.heap.size := by obtain ⟨m, hm⟩ := h1; exact DataW.trod_lt m _ _ _ hm
  obtain ⟨a1, ⟨g1, z1⟩, rv1⟩ := opn_one (opnCells) (fun _ => rfl) (cells_slice (hval 1 22 v1 rfl rfl) Tryd.underlying22) h1 (weights_each hsz (j := 1) rfl rfl) (lies_arg (hval 1 22 v1 rfl rfl) Tryd.underlying22)
  rw [bytes29] at z1
  obtain ⟨a2, rfl, rfl, rfl, w2⟩ := open_int Tryd.underlying3 (hval 2 3 v2 rfl rfl) h2
  obtain ⟨a3, rfl, rfl, rfl, w3⟩ := open_int Tryd.underlying3 (hval 3 3 v3 rfl rfl) h3
  obtain ⟨G, hG, hT⟩ := tabG_of (tab_of_laid hL)
  have hr : reachBytes = 140737488351232 := rfl
  refine (call_of_vcall hG (f5_ok (print_ok hT) a0 a1 a2 a3 [] (by omega) (by omega)) (rvs_cons rv0 (rvs_cons (rv1 _ rfl) (rvs_cons (.c _) (rvs_cons (.c _) rvs_nil))))).mono ?_
  rintro e W' ⟨v, rfl, bel, V', r, h', hv, rfl, _⟩
  obtain rfl := hv.c_inv
  exact ⟨_, rfl, _, _, _, [], _, [], hW', trodAll_mk1 (shut_bool Tryd.underlying4 _), (trodAll_cons_mk (Below.trod laidOut (by kernel_rfl) (of_decide_eq_true (by kernel_rfl)) h0 bel lt0) (trodAll_cons_mk (Below.trod laidOut (by kernel_rfl) (of_decide_eq_true (by kernel_rfl)) h1 bel lt1) (trodAll_cons_mk (shut_int Tryd.underlying3 w2) (trodAll_cons_mk (shut_int Tryd.underlying3 w3) trodAll_mk0)))), rfl, bel.frame _, fun h => by cases h⟩
theorem spareTaken_holds : Rows.SpareTakenSaid :=
  OpenClaim.holds_of_wide 5 Tryd.f5 rfl rfl rfl rfl rfl rfl rfl ⟨rfl, rfl, rfl, rfl, rfl⟩ rfl rfl rfl rfl rfl (by kernel_rfl) Tryd.func5 (by kernel_rfl)
    (of_decide_eq_true (by kernel_rfl)) (by unfold Func.isWrapper; first | (rw [if_pos (by decide +kernel)]; kernel_rfl) | (rw [if_neg (by decide +kernel)]; exact ⟨rfl, rfl⟩))
    (fun os started H enc _ => spareTaken_lifted os started H enc)
theorem spareTaken_card : Rows.SpareTakenCardSaid :=
  Claim7.holds_tied_plain_at .later [] [.data, .data, .data] true (true, "e74d05969769f7c3d448502ea5deb57ea4b6d88c729443141329bcb8c5be4efe") false
    spareTaken_holds (fun _ h => by cases h) (by kernel_rfl) (fun _ h => by cases h) spareTaken_row_tie rfl ⟨rfl, rfl⟩ (by kernel_rfl) rfl
    (fun f fn hf hfn => no_stand_in 5 Tryd.f5 (by kernel_rfl) Tryd.func5 (by kernel_rfl) hf hfn)
    (by kernel_rfl)
end Go.Proofs.YtjgkfoeomlpdnaaDoor
