/- A part of the proof: a calculus over values without addresses, and what the functions of the program compute in it. -/
import Derived.Test.YtjgkfoeomlpdnaaDoorA3
import Derived.Test.YtjgkfoeomlpdnaaDoorB4
import Derived.Test.YtjgkfoeomlpdnaaDoorRows
import Derived.ProofKit
import Derived.LaidMore
import Derived.OpenShut
import Derived.Stop.Joined
import Derived.SizedLaws
/- The row of SpareChecks. -/
namespace Go.Proofs.YtjgkfoeomlpdnaaDoor
open Go Go.RowKit Go.ChangeShapes Go.WideShapes Go.ChangeAt Go.WideMaps Go.WideElems Go.Vm

theorem own : ownKnob Tryd.prog.godebug = Option.none := by kernel_rfl
theorem laidOut : laidOutB Tryd.prog = true := by kernel_rfl
def laid3 : List (String × DataW Unit) := [("math/bits.deBruijn32tab", Rows.laid_math_bits_deBruijn32tab), ("math/bits.deBruijn64tab", Rows.laid_math_bits_deBruijn64tab), ("internal/strconv.uint64pow10", Rows.laid_internal_strconv_uint64pow10)]

theorem door_met (os : Os) (args : Array Value) : laidMetH Tryd.prog laid3 ((World.doorLaid Tryd.prog 400 os).forCall (fun _ _ => 0) ⟨#[], args, []⟩).memory :=
  laidMetH_of_parts3 (fuel := 8) (laidMet_of_run' 8 (by kernel_rfl) (by kernel_rfl)) (by kernel_rfl) (by kernel_rfl)

theorem gTab : Tryd.prog.globalNamed "internal/strconv.uint64pow10" = some 0 := by kernel_rfl
theorem tTab : (Tryd.prog.globals[0]?).map (·.type) = some 101 := by kernel_rfl
theorem uTab : Tryd.prog.underlying 101 = some (.array 20 94) := by kernel_rfl
theorem uTabE : Tryd.prog.underlying 94 = some (.int .u64) := by kernel_rfl

theorem tab_of_laid {W : World} (h : laidMetH Tryd.prog laid3 W) : Lib.TabIs Tryd.prog W "internal/strconv.uint64pow10" .u64 Lib.pow10Tab := by
  rw [MakeChecks.laidMetH_plain _ _ _ (by kernel_rfl)] at h
  obtain ⟨ps, ⟨g0, t0, cs0, f0, p0, q0, hg0, ht0, hv0, hd0, ⟨g1, t1, cs1, f1, p1, q1, hg1, ht1, hv1, hd1, ⟨g2, t2, cs2, f2, p2, q2, hg2, ht2, hv2, hd2, _, _⟩, _⟩, _⟩, _, _⟩ := h
  obtain rfl := Option.some.inj (gTab.symm.trans hg2)
  obtain rfl := Option.some.inj (tTab.symm.trans ht2)
  have hc := Lib.cells_of_tab (k := .u64) (zs := Lib.pow10Tab) uTab uTabE (by kernel_rfl) (by kernel_rfl) (show DataW.trod _ _ _ _ _ _ f2 101 cs2.toList = some (Lib.tabData .u64 Lib.pow10Tab, p2) from hd2)
  unfold Lib.TabIs
  rw [hv2, ← hc]

theorem tabG_of {W : World} (h : Lib.TabIs Tryd.prog W "internal/strconv.uint64pow10" .u64 Lib.pow10Tab) : ∃ G : List (Nat × Obj), (∀ g o, (g, o) ∈ G → W.heap[g]? = some o) ∧ TabG G := by
  unfold Lib.TabIs World.var? at h
  rw [gTab] at h
  simp only [Option.bind_some] at h
  split at h
  · rename_i cs T fr hh
    refine ⟨[(0, .cells cs T fr)], by simpa using hh, fun w hw => ?_⟩
    have := hw 0 (.cells cs T fr) (by simp)
    unfold Lib.TabIs World.var?
    rw [gTab]
    simp only [Option.bind_some, this]
    exact h
  · cases h

theorem wf_of {n : Int} (h : -9223372036854775808 ≤ n ∧ n ≤ 9223372036854775807) : (Lit.int .i64 n).wf = true := by
  simp only [Lit.wf, Bool.and_eq_true, decide_eq_true_eq]; exact h

section
variable {H : Type} {enc : TypeId × Value → H} {W : World}
theorem opnInt : Opn enc Tryd.prog W 3 (fun n : Int => [.c (.int .i64 n)]) (fun n => -9223372036854775808 ≤ n ∧ n ≤ 9223372036854775807) := opn_int Tryd.underlying3
theorem noSlice {fuel t : Nat} {k : IntKind} (ht : Tryd.prog.underlying t = some (.int k)) {cs : List Value} {y : DataW H × List MemPlace} (h : DataW.trod enc Tryd.prog W 0 (fun _ => true) true fuel t cs = some y) : ∀ v, v ∈ cs → Lies W v := by
  obtain ⟨n, rfl, _, _⟩ := DataW.trod_int ht h
  intro v hv a len cap e
  simp only [List.mem_singleton] at hv; subst hv; cases e
theorem opnInts {t : Nat} (ht : Tryd.prog.underlying t = some (.slice 3)) : Opn enc Tryd.prog W t (fun xs : List Int => [.sl 1 (xs.map iv)]) (fun xs => (∀ x, x ∈ xs → -9223372036854775808 ≤ x ∧ x ≤ 9223372036854775807) ∧ xs.length * Tryd.prog.bytesOf 3 ≤ reachBytes) :=
  opn_slice 1 ht (by kernel_rfl) opnInt (fun b ar T fr _ fuel cs y h _ => noSlice Tryd.underlying3 h)
theorem bytes3 : Tryd.prog.bytesOf 3 = 8 := by kernel_rfl
end

set_option maxRecDepth 100000 in
theorem checks_lifted (os : Os) (started : os.Started) (H : Type) (enc : TypeId × Value → H) :
    ReturnsInHanded {} Tryd.checked os 6 .any (fun w args => (Rows.spareChecksSpec.pre enc Tryd.prog Tryd.f6 [] false w args ∧ laidMetH Tryd.prog laid3 w) ∧ sizedMet enc Tryd.prog Tryd.f6 (OpenSpec.ofChange Rows.spareChecksSpec) false w args)
      (Rows.spareChecksSpec.post enc Tryd.prog Tryd.f6 false true false false) := by
  refine returnsInHanded_of_change_and (C := Tryd.checked) (X := fun w _ => laidMetH Tryd.prog laid3 w) (fun _ _ _ hh h => h.of_heap hh) own started (by kernel_rfl) Tryd.func6
    (ChangeSpec.witness_shaped (enc := enc) (C := Tryd.checked) (os := os) (X := fun w _ => laidMetH Tryd.prog laid3 w) false (World.doorLaid Tryd.prog 400 os) #[.slice Option.none 0 0, .slice Option.none 0 0, .int .i64 0, .int .i64 0] 8 rfl (World.shaped_of_RefB (by kernel_rfl) (by kernel_rfl)) (by kernel_rfl) (by kernel_rfl) (by kernel_rfl) (door_met os _)) ?_
  intro W base args ds gs before hval0 hW hcnd hsz0 hL _
  have hsz : (DataW.weightsEach Tryd.prog (Tryd.f6.params.toList ++ Rows.spareChecksSpec.plain.varTypes Tryd.prog) (ds ++ gs)).all (· ≤ reachBytes) = true := hsz0
  have hval : ∀ (j : Nat) t v, Tryd.f6.params[j]? = some t → args[j]? = some v → Value.okWide Tryd.prog W .any base t v := hval0
  have hW' := hW
  obtain ⟨p, q, hA0, hV, rfl, hfz, hnd⟩ := hW
  have hA : DataW.TrodAll enc Tryd.prog W 0 (fun _ => true) true Tryd.f6.params.toList args.toList ds p := hA0
  rw [Tryd.params6] at hA hval hsz
  obtain ⟨v0, vs0, d0, ds0, p0, q0, hargs, rfl, rfl, h0, r0⟩ := trodAll_cons hA
  obtain ⟨v1, vs1, d1, ds1, p1, q1, rfl, rfl, rfl, h1, r1⟩ := trodAll_cons r0
  obtain ⟨v2, vs2, d2, ds2, p2, q2, rfl, rfl, rfl, h2, r2⟩ := trodAll_cons r1
  obtain ⟨v3, vs3, d3, ds3, p3, q3, rfl, rfl, rfl, h3, r3⟩ := trodAll_cons r2
  obtain ⟨rfl, rfl, rfl⟩ := trodAll_nil r3
  obtain rfl : args = #[v0, v1, v2, v3] := by cases args; simp_all
  obtain ⟨rfl, rfl⟩ := trodVars_none hV
  have lt0 : ∀ x ∈ p0, x.block < W.heap.size := by obtain ⟨m, hm⟩ := h0; exact DataW.trod_lt m _ _ _ hm
  have lt1 : ∀ x ∈ p1, x.block < W.heap.size := by obtain ⟨m, hm⟩ := h1; exact DataW.trod_lt m _ _ _ hm
  obtain ⟨xs, ⟨gx, zx⟩, rx⟩ := opn_one (opnInts Tryd.underlying26) (fun _ => rfl) (cells_slice (hval 0 26 v0 rfl rfl) Tryd.underlying26) h0 (weights_each hsz (j := 0) rfl rfl) (lies_arg (hval 0 26 v0 rfl rfl) Tryd.underlying26)
  obtain ⟨ys, ⟨gy, zy⟩, ry⟩ := opn_one (opnInts Tryd.underlying26) (fun _ => rfl) (cells_slice (hval 1 26 v1 rfl rfl) Tryd.underlying26) h1 (weights_each hsz (j := 1) rfl rfl) (lies_arg (hval 1 26 v1 rfl rfl) Tryd.underlying26)
  obtain ⟨a2, rfl, rfl, rfl, w2⟩ := open_int Tryd.underlying3 (hval 2 3 v2 rfl rfl) h2
  obtain ⟨a3, rfl, rfl, rfl, w3⟩ := open_int Tryd.underlying3 (hval 3 3 v3 rfl rfl) h3
  obtain ⟨G, hG, hT⟩ := tabG_of (tab_of_laid hL)
  rw [bytes3] at zx zy
  have hr : reachBytes = 140737488351232 := rfl
  refine (call_of_vcall hG (f6_ok (print_ok hT) xs ys a2 a3 [] (by omega) (by omega)) (rvs_cons (rx _ rfl) (rvs_cons (ry _ rfl) (rvs_cons (.c _) (rvs_cons (.c _) rvs_nil))))).mono ?_
  rintro e W' ⟨v, rfl, bel, V', r, h', hv, rfl, _⟩
  obtain rfl := hv.c_inv
  exact ⟨_, rfl, _, _, _, [], _, [], hW', trodAll_mk1 (shut_bool Tryd.underlying4 _), (trodAll_cons_mk (Below.trod laidOut (by kernel_rfl) (of_decide_eq_true (by kernel_rfl)) h0 bel lt0) (trodAll_cons_mk (Below.trod laidOut (by kernel_rfl) (of_decide_eq_true (by kernel_rfl)) h1 bel lt1)
    (trodAll_cons_mk (shut_int Tryd.underlying3 w2) (trodAll_cons_mk (shut_int Tryd.underlying3 w3) trodAll_mk0)))), rfl, bel.frame _, fun h => by cases h⟩

theorem spareChecks_holds : Rows.SpareChecksSaid :=
  OpenClaim.holds_of_wide 6 Tryd.f6 rfl rfl rfl rfl rfl rfl rfl ⟨rfl, rfl, rfl, rfl, rfl⟩ rfl rfl rfl rfl rfl (by kernel_rfl) Tryd.func6 (by kernel_rfl)
    (of_decide_eq_true (by kernel_rfl)) (by unfold Func.isWrapper; first | (rw [if_pos (by decide +kernel)]; kernel_rfl) | (rw [if_neg (by decide +kernel)]; exact ⟨rfl, rfl⟩))
    (fun os started H enc _ => checks_lifted os started H enc)
end Go.Proofs.YtjgkfoeomlpdnaaDoor
