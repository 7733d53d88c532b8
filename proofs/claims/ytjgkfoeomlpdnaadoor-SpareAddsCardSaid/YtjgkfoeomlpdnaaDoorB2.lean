/- A part of the proof: a calculus over values without addresses, and what the functions of the program compute in it. -/
import Derived.Test.YtjgkfoeomlpdnaaDoorB1
/- Contracts: the program's masks: Check and Count. -/
namespace Go.Vm
open Go Go.RowKit Go.Proofs
set_option linter.unusedSimpArgs false
set_option linter.unusedVariables false

theorem f35_0 {G} (k : Int) (h : Hp) : VCall Tryd.prog G (.fn 35 []) [.c (.int .i64 k)] (h ++ []) (fun r h' => r = .fn 46 [.ptr (List.length h) 0] ∧ h' = h ++ [.blk [.c (.int .i64 k)]]) := by
  simpa using f35_ok k h
theorem f46_at {G} (m k : Int) (h : Hp) (hk0 : 0 ≤ k) : VPure Tryd.prog G (.fn 46 [.ptr (List.length h) 0]) [.c (.int .i64 m)] (h ++ [.blk [.c (.int .i64 k)]]) (.c (.bool (decide (m < 0) || decide (ishl .i64 1 k ≤ m)))) :=
  f46_ok m k _ _ (by rw [get_append_0]; rfl) hk0
def outP (off m : Int) : Bool := decide (m < 0) || decide (ishl .i64 1 off ≤ m)
theorem ishl_one {off : Int} (h1 : 1 ≤ off) (h2 : off ≤ 16) : 2 ≤ ishl .i64 1 off ∧ ishl .i64 1 off ≤ 65536 := by
  obtain ⟨n, rfl⟩ : ∃ n : Nat, off = n := ⟨off.toNat, by omega⟩
  have key : ∀ n : Nat, n < 17 → 1 ≤ n → 2 ≤ ishl .i64 1 (n : Int) ∧ ishl .i64 1 (n : Int) ≤ 65536 := by decide
  exact key n (by omega) (by omega)
theorem outP_eq {off : Int} (h1 : 1 ≤ off) (h2 : off ≤ 16) (m : Int) : outP off m = outM off m := by
  have b := ishl_one h1 h2
  unfold outP outM inB
  rw [wrap64 (by omega) (by omega)]
  by_cases c1 : m < 0 <;> by_cases c2 : ishl .i64 1 off ≤ m <;> simp [c1, c2] <;> omega
theorem outP_fn {off : Int} (h1 : 1 ≤ off) (h2 : off ≤ 16) : outP off = outM off := funext (outP_eq h1 h2)
theorem outM_16 (m : Int) : outM 16 m = !inB m 0 65535 := rfl

theorem f11_ok {G} (xs : List Int) (len off : Int) (h : Hp) (hlen : xs.length < 4611686018427387904) : VPure Tryd.prog G (.fn 11 []) [.sl 1 (xs.map iv), .c (.int .i64 len), .c (.int .i64 off)] h (.c (.int .i64 (chkS xs len off))) := by
  refine VCall_fn' (tdOf_ok _) Tryd.func11 rfl (by rfl) 32 rfl (by simp) (by simp only [ents, List.cons_append, List.nil_append, List.append_nil] <;> rfl) (fun hk ha hc => ?_)
  with_reducible repeat (first | refine n1 ?_ | refine n2 ?_ | refine n3 ?_ | refine n4 ?_ | refine n5 ?_ | refine n6 ?_ | refine n7 rfl ?_ | refine W_seq ?_ | refine W_block ?_ | refine W_skip ?_ | refine W_exit ?_ | refine W_ret ?_)
  by_cases hg : (inB len 1 512 && inB off 1 16) = false
  · have key : ∃ a b c d, decide (len < 1) = a ∧ decide (len > 512) = b ∧ decide (off < 1) = c ∧ decide (off > 16) = d ∧ (a = true ∨ a = false ∧ b = true ∨ a = false ∧ b = false ∧ c = true ∨ a = false ∧ b = false ∧ c = false ∧ d = true) := by
      refine ⟨_, _, _, _, rfl, rfl, rfl, rfl, ?_⟩
      simp [inB] at hg ⊢
      omega
    obtain ⟨a, b, c, d, h1, h2, h3, h4, hh⟩ := key
    obtain rfl | ⟨rfl, rfl⟩ | ⟨rfl, rfl, rfl⟩ | ⟨rfl, rfl, rfl, rfl⟩ := hh
    all_goals
      refine W_go (by simp only [ev0, ev1, ev2, ev3, ev4, Nat.reduceLT, Nat.reduceLeDiff, Nat.reduceEqDiff, Nat.reduceAdd, Nat.reduceMul, Nat.reduceBEq, reduceCtorEq, len26] <;> rfl) (Nat.le_of_ble_eq_true rfl) ?_
      refine WL_end ?_
      with_reducible repeat (first | refine n1 ?_ | refine n2 ?_ | refine n3 ?_ | refine n4 ?_ | refine n5 ?_ | refine n6 ?_ | refine n7 rfl ?_ | refine W_seq ?_ | refine W_block ?_ | refine W_skip ?_ | refine W_exit ?_ | refine W_ret ?_)
      refine W_go (by simp only [ev0, ev1, ev2, ev3, ev4, Nat.reduceLT, Nat.reduceLeDiff, Nat.reduceEqDiff, Nat.reduceAdd, Nat.reduceMul, Nat.reduceBEq, reduceCtorEq, len26, h1, h2, h3, h4] <;> rfl) (Nat.le_of_ble_eq_true rfl) ?_
      refine WL_endk (ks := [7]) (by simp only [ev0, ev4, Nat.reduceEqDiff] <;> rfl) ?_
      with_reducible repeat (first | refine n1 ?_ | refine n2 ?_ | refine n3 ?_ | refine n4 ?_ | refine n5 ?_ | refine n6 ?_ | refine n7 rfl ?_ | refine W_seq ?_ | refine W_block ?_ | refine W_skip ?_ | refine W_exit ?_ | refine W_ret ?_)
      refine W_true rfl ?_
      with_reducible repeat (first | refine n1 ?_ | refine n2 ?_ | refine n3 ?_ | refine n4 ?_ | refine n5 ?_ | refine n6 ?_ | refine n7 rfl ?_ | refine W_seq ?_ | refine W_block ?_ | refine W_skip ?_ | refine W_exit ?_ | refine W_ret ?_)
      refine W_go (by simp only [ev0, ev1, ev2, ev3, ev4, Nat.reduceLT, Nat.reduceLeDiff, Nat.reduceEqDiff, Nat.reduceAdd, Nat.reduceMul, Nat.reduceBEq, reduceCtorEq, len26] <;> rfl) (Nat.le_of_ble_eq_true rfl) ?_
      refine WL_endk (ks := [6]) (by simp only [ev0, ev4, Nat.reduceEqDiff] <;> rfl) ?_
      with_reducible repeat (first | refine n1 ?_ | refine n2 ?_ | refine n3 ?_ | refine n4 ?_ | refine n5 ?_ | refine n6 ?_ | refine n7 rfl ?_ | refine W_seq ?_ | refine W_block ?_ | refine W_skip ?_ | refine W_exit ?_ | refine W_ret ?_)
      refine Fin_pure [] _ (by first | exact .inl rfl | exact .inr rfl) rfl (by simp only [Tryd.results11, vres, vresL, vres1, one_, vload_eq, Option.map_some, ev0, ev3, ev4, Nat.reduceEqDiff, Nat.reduceAdd, Nat.reduceLeDiff] <;> rfl) rfl (by simp only [one_, rf_c, rf_any, rf_sl, rf_ptr, rf_fn, rf_agg, rf_tup, rf, List.map_cons, List.map_nil] <;> rfl) hk (by simp) ?_
      exact ⟨by simp only [chkS, hg, if_true], rfl⟩
  have hg' : 1 ≤ len ∧ len ≤ 512 ∧ 1 ≤ off ∧ off ≤ 16 := by simp [inB] at hg; omega
  have h1 : decide (len < 1) = false := by simp; omega
  have h2 : decide (len > 512) = false := by simp; omega
  have h3 : decide (off < 1) = false := by simp; omega
  have h4 : decide (off > 16) = false := by simp; omega
  refine W_go (by simp only [ev0, ev1, ev2, ev3, ev4, Nat.reduceLT, Nat.reduceLeDiff, Nat.reduceEqDiff, Nat.reduceAdd, Nat.reduceMul, Nat.reduceBEq, reduceCtorEq, len26] <;> rfl) (Nat.le_of_ble_eq_true rfl) ?_
  refine WL_end ?_
  with_reducible repeat (first | refine n1 ?_ | refine n2 ?_ | refine n3 ?_ | refine n4 ?_ | refine n5 ?_ | refine n6 ?_ | refine n7 rfl ?_ | refine W_seq ?_ | refine W_block ?_ | refine W_skip ?_ | refine W_exit ?_ | refine W_ret ?_)
  refine W_go (by simp only [ev0, ev1, ev2, ev3, ev4, Nat.reduceLT, Nat.reduceLeDiff, Nat.reduceEqDiff, Nat.reduceAdd, Nat.reduceMul, Nat.reduceBEq, reduceCtorEq, len26, h1, h2, h3, h4] <;> rfl) (Nat.le_of_ble_eq_true rfl) ?_
  refine WL_endk (ks := [0, 1, 2, 7]) (by simp only [ev0, ev4, Nat.reduceEqDiff] <;> rfl) ?_
  with_reducible repeat (first | refine n1 ?_ | refine n2 ?_ | refine n3 ?_ | refine n4 ?_ | refine n5 ?_ | refine n6 ?_ | refine n7 rfl ?_ | refine W_seq ?_ | refine W_block ?_ | refine W_skip ?_ | refine W_exit ?_ | refine W_ret ?_)
  refine W_false rfl ?_
  with_reducible repeat (first | refine n1 ?_ | refine n2 ?_ | refine n3 ?_ | refine n4 ?_ | refine n5 ?_ | refine n6 ?_ | refine n7 rfl ?_ | refine W_seq ?_ | refine W_block ?_ | refine W_skip ?_ | refine W_exit ?_ | refine W_ret ?_)
  by_cases hl : (xs.length : Int) = len
  · have hl' : ((xs.length : Int) != len) = false := by simp [hl]
    refine W_go (by simp only [ev0, ev1, ev2, ev3, ev4, Nat.reduceLT, Nat.reduceLeDiff, Nat.reduceEqDiff, Nat.reduceAdd, Nat.reduceMul, Nat.reduceBEq, reduceCtorEq, len26, hl'] <;> rfl) (Nat.le_of_ble_eq_true rfl) ?_
    refine WL_endk (ks := [0, 2, 22]) (by simp only [ev0, ev4, Nat.reduceEqDiff] <;> rfl) ?_
    with_reducible repeat (first | refine n1 ?_ | refine n2 ?_ | refine n3 ?_ | refine n4 ?_ | refine n5 ?_ | refine n6 ?_ | refine n7 rfl ?_ | refine W_seq ?_ | refine W_block ?_ | refine W_skip ?_ | refine W_exit ?_ | refine W_ret ?_)
    refine W_false rfl ?_
    with_reducible repeat (first | refine n1 ?_ | refine n2 ?_ | refine n3 ?_ | refine n4 ?_ | refine n5 ?_ | refine n6 ?_ | refine n7 rfl ?_ | refine W_seq ?_ | refine W_block ?_ | refine W_skip ?_ | refine W_exit ?_ | refine W_ret ?_)
    refine W_go (by simp only [ev0, ev1, ev2, ev3, ev4, Nat.reduceLT, Nat.reduceLeDiff, Nat.reduceEqDiff, Nat.reduceAdd, Nat.reduceMul, Nat.reduceBEq, reduceCtorEq, len26] <;> rfl) (Nat.le_of_ble_eq_true rfl) ?_
    refine WL_call' (f35_0 off h) rfl (.inl rfl) (by simp only [ev0, ev1, ev2, ev3, ev4, Nat.reduceLT, Nat.reduceLeDiff, Nat.reduceEqDiff, Nat.reduceAdd, Nat.reduceMul, Nat.reduceBEq, reduceCtorEq, len26] <;> rfl) (by simp only [ev0, ev1, ev2, ev3, ev4, Nat.reduceLT, Nat.reduceLeDiff, Nat.reduceEqDiff, Nat.reduceAdd, Nat.reduceMul, Nat.reduceBEq, reduceCtorEq, len26] <;> rfl) rfl ?_
    rintro _ _ ⟨rfl, rfl⟩
    refine WL_go (by simp only [ev0, ev1, ev2, ev3, ev4, Nat.reduceLT, Nat.reduceLeDiff, Nat.reduceEqDiff, Nat.reduceAdd, Nat.reduceMul, Nat.reduceBEq, reduceCtorEq, len26] <;> rfl) (Nat.le_of_ble_eq_true rfl) ?_
    refine WL_pure (f34_ok (outP off) _ xs _ hlen (fun x _ => f46_at x off h (by omega))) rfl (.inl rfl) (by simp only [ev0, ev1, ev2, ev3, ev4, Nat.reduceLT, Nat.reduceLeDiff, Nat.reduceEqDiff, Nat.reduceAdd, Nat.reduceMul, Nat.reduceBEq, reduceCtorEq, len26] <;> rfl) (by simp only [ev0, ev1, ev2, ev3, ev4, Nat.reduceLT, Nat.reduceLeDiff, Nat.reduceEqDiff, Nat.reduceAdd, Nat.reduceMul, Nat.reduceBEq, reduceCtorEq, len26] <;> rfl) rfl (by simp only [ev0, ev1, ev2, ev3, ev4, Nat.reduceLT, Nat.reduceLeDiff, Nat.reduceEqDiff, Nat.reduceAdd, Nat.reduceMul, Nat.reduceBEq, reduceCtorEq, len26] <;> rfl) ?_
    refine WL_go (by simp only [ev0, ev1, ev2, ev3, ev4, Nat.reduceLT, Nat.reduceLeDiff, Nat.reduceEqDiff, Nat.reduceAdd, Nat.reduceMul, Nat.reduceBEq, reduceCtorEq, len26] <;> rfl) (Nat.le_of_ble_eq_true rfl) ?_
    refine WL_endk (ks := [27]) (by simp only [ev0, ev4, Nat.reduceEqDiff] <;> rfl) ?_
    with_reducible repeat (first | refine n1 ?_ | refine n2 ?_ | refine n3 ?_ | refine n4 ?_ | refine n5 ?_ | refine n6 ?_ | refine n7 rfl ?_ | refine W_seq ?_ | refine W_block ?_ | refine W_skip ?_ | refine W_exit ?_ | refine W_ret ?_)
    refine W_cond rfl (fun hp => ?_) (fun hp => ?_)
    · with_reducible repeat (first | refine n1 ?_ | refine n2 ?_ | refine n3 ?_ | refine n4 ?_ | refine n5 ?_ | refine n6 ?_ | refine n7 rfl ?_ | refine W_seq ?_ | refine W_block ?_ | refine W_skip ?_ | refine W_exit ?_ | refine W_ret ?_)
      refine W_go (by simp only [ev0, ev1, ev2, ev3, ev4, Nat.reduceLT, Nat.reduceLeDiff, Nat.reduceEqDiff, Nat.reduceAdd, Nat.reduceMul, Nat.reduceBEq, reduceCtorEq, len26] <;> rfl) (Nat.le_of_ble_eq_true rfl) ?_
      refine WL_endk (ks := [6]) (by simp only [ev0, ev4, Nat.reduceEqDiff] <;> rfl) ?_
      with_reducible repeat (first | refine n1 ?_ | refine n2 ?_ | refine n3 ?_ | refine n4 ?_ | refine n5 ?_ | refine n6 ?_ | refine n7 rfl ?_ | refine W_seq ?_ | refine W_block ?_ | refine W_skip ?_ | refine W_exit ?_ | refine W_ret ?_)
      refine Fin_pure [.blk [.c (.int .i64 off)]] _ (by first | exact .inl rfl | exact .inr rfl) rfl (by simp only [Tryd.results11, vres, vresL, vres1, one_, vload_eq, Option.map_some, ev0, ev3, ev4, Nat.reduceEqDiff, Nat.reduceAdd, Nat.reduceLeDiff] <;> rfl) rfl (by simp only [one_, rf_c, rf_any, rf_sl, rf_ptr, rf_fn, rf_agg, rf_tup, rf, List.map_cons, List.map_nil] <;> rfl) hk (by simp) ?_
      rw [outP_fn hg'.2.2.1 hg'.2.2.2] at hp
      exact ⟨by simp [chkS, hg, hl, hp], rfl⟩
    · with_reducible repeat (first | refine n1 ?_ | refine n2 ?_ | refine n3 ?_ | refine n4 ?_ | refine n5 ?_ | refine n6 ?_ | refine n7 rfl ?_ | refine W_seq ?_ | refine W_block ?_ | refine W_skip ?_ | refine W_exit ?_ | refine W_ret ?_)
      refine W_go (by simp only [ev0, ev1, ev2, ev3, ev4, Nat.reduceLT, Nat.reduceLeDiff, Nat.reduceEqDiff, Nat.reduceAdd, Nat.reduceMul, Nat.reduceBEq, reduceCtorEq, len26] <;> rfl) (Nat.le_of_ble_eq_true rfl) ?_
      refine WL_endk (ks := [6]) (by simp only [ev0, ev4, Nat.reduceEqDiff] <;> rfl) ?_
      with_reducible repeat (first | refine n1 ?_ | refine n2 ?_ | refine n3 ?_ | refine n4 ?_ | refine n5 ?_ | refine n6 ?_ | refine n7 rfl ?_ | refine W_seq ?_ | refine W_block ?_ | refine W_skip ?_ | refine W_exit ?_ | refine W_ret ?_)
      refine Fin_pure [.blk [.c (.int .i64 off)]] _ (by first | exact .inl rfl | exact .inr rfl) rfl (by simp only [Tryd.results11, vres, vresL, vres1, one_, vload_eq, Option.map_some, ev0, ev3, ev4, Nat.reduceEqDiff, Nat.reduceAdd, Nat.reduceLeDiff] <;> rfl) rfl (by simp only [one_, rf_c, rf_any, rf_sl, rf_ptr, rf_fn, rf_agg, rf_tup, rf, List.map_cons, List.map_nil] <;> rfl) hk (by simp) ?_
      rw [outP_fn hg'.2.2.1 hg'.2.2.2] at hp
      exact ⟨by simp [chkS, hg, hl, hp], rfl⟩
  · have hl' : ((xs.length : Int) != len) = true := by simp [hl]
    refine W_go (by simp only [ev0, ev1, ev2, ev3, ev4, Nat.reduceLT, Nat.reduceLeDiff, Nat.reduceEqDiff, Nat.reduceAdd, Nat.reduceMul, Nat.reduceBEq, reduceCtorEq, len26, hl'] <;> rfl) (Nat.le_of_ble_eq_true rfl) ?_
    refine WL_endk (ks := [22]) (by simp only [ev0, ev4, Nat.reduceEqDiff] <;> rfl) ?_
    with_reducible repeat (first | refine n1 ?_ | refine n2 ?_ | refine n3 ?_ | refine n4 ?_ | refine n5 ?_ | refine n6 ?_ | refine n7 rfl ?_ | refine W_seq ?_ | refine W_block ?_ | refine W_skip ?_ | refine W_exit ?_ | refine W_ret ?_)
    refine W_true rfl ?_
    with_reducible repeat (first | refine n1 ?_ | refine n2 ?_ | refine n3 ?_ | refine n4 ?_ | refine n5 ?_ | refine n6 ?_ | refine n7 rfl ?_ | refine W_seq ?_ | refine W_block ?_ | refine W_skip ?_ | refine W_exit ?_ | refine W_ret ?_)
    refine W_go (by simp only [ev0, ev1, ev2, ev3, ev4, Nat.reduceLT, Nat.reduceLeDiff, Nat.reduceEqDiff, Nat.reduceAdd, Nat.reduceMul, Nat.reduceBEq, reduceCtorEq, len26] <;> rfl) (Nat.le_of_ble_eq_true rfl) ?_
    refine WL_endk (ks := [6]) (by simp only [ev0, ev4, Nat.reduceEqDiff] <;> rfl) ?_
    with_reducible repeat (first | refine n1 ?_ | refine n2 ?_ | refine n3 ?_ | refine n4 ?_ | refine n5 ?_ | refine n6 ?_ | refine n7 rfl ?_ | refine W_seq ?_ | refine W_block ?_ | refine W_skip ?_ | refine W_exit ?_ | refine W_ret ?_)
    refine Fin_pure [] _ (by first | exact .inl rfl | exact .inr rfl) rfl (by simp only [Tryd.results11, vres, vresL, vres1, one_, vload_eq, Option.map_some, ev0, ev3, ev4, Nat.reduceEqDiff, Nat.reduceAdd, Nat.reduceLeDiff] <;> rfl) rfl (by simp only [one_, rf_c, rf_any, rf_sl, rf_ptr, rf_fn, rf_agg, rf_tup, rf, List.map_cons, List.map_nil] <;> rfl) hk (by simp) ?_
    exact ⟨by simp [chkS, hg, hl], rfl⟩
def blkC (A : Nat → Int) : List Val := (List.range 16).map fun j => .c (.int .i64 (A j))
theorem blkC_len (A : Nat → Int) : (blkC A).length = 16 := by simp [blkC]
theorem blkC_get {A : Nat → Int} {k : Nat} (h : k < 16) : (blkC A)[k]? = some (.c (.int .i64 (A k))) := by simp [blkC, h]
theorem blkC_ext {A B : Nat → Int} (h : ∀ j, j < 16 → A j = B j) : blkC A = blkC B := by
  unfold blkC
  refine List.map_congr_left fun j hj => ?_
  rw [h j (by simpa using hj)]
theorem blkC_one (A : Nat → Int) : (blkC A).all one1 = true := by simp [blkC, one1, oneC]
def colK (A : Nat → Int) (m : Int) (k : Nat) : Nat → Int := fun j => if j < k then A j + bitS m j else A j
theorem vl_at {cs : List Val} {k : Nat} {v : Value} (h : cs[k]? = some (.c v)) : vl false 1 cs k = some (.c v) := h
theorem splice_at {A : Nat → Int} {k : Nat} {x : Int} (h : k < 16) : splice (blkC A) k [.c (.int .i64 x)] = blkC (fun j => if j = k then x else A j) := by
  have e : splice (blkC A) k [.c (.int .i64 x)] = (blkC A).set k (.c (.int .i64 x)) := by
    rw [List.set_eq_take_append_cons_drop, if_pos (by rw [blkC_len]; exact h)]
    simp [splice]
  rw [e]
  apply List.ext_getElem?
  intro i
  rw [List.getElem?_set]
  by_cases hi : i < 16
  · rw [blkC_get hi, blkC_get hi]
    by_cases e2 : k = i
    · subst e2; simp [blkC_len, h]
    · simp [e2, Ne.symm e2]
  · rw [List.getElem?_eq_none (by rw [blkC_len]; omega), List.getElem?_eq_none (by rw [blkC_len]; omega)]
    simp [blkC_len, show k ≠ i by omega]

theorem blk_put {A : Nat → Int} {k : Nat} {x : Int} (h : k < 16) : (blkC A).take k ++ Val.c (.int .i64 x) :: (blkC A).drop (k + 1) = blkC (fun j => if j = k then x else A j) := by
  rw [← splice_at h]; simp [splice]
theorem colK_put (A : Nat → Int) (m : Int) {k : Nat} (h : k < 16) : blkC (fun j => if j = k then A k + bitS m k else colK A m k j) = blkC (colK A m (k + 1)) := by
  refine blkC_ext fun j hj => ?_
  unfold colK
  by_cases e : j = k
  · subst e; simp
  · by_cases e2 : j < k
    · simp [e, e2, show j < k + 1 by omega]
    · simp [e, e2, show ¬ j < k + 1 by omega]

theorem ix58a {A : Nat → Int} {k : Nat} (h : k < 16) : aIndex (tdOf Tryd.prog 58) (tdOf Tryd.prog (elemT (tdOf Tryd.prog 58))) (.agg (blkC A)) (.c (.int .i64 (k : Int))) = q_ (.c (.int .i64 (A k))) := by
  have e : elemT (tdOf Tryd.prog 58) = 3 := by rw [td58]; rfl
  rw [e, td58, td3]
  have hc : (0 : Int) ≤ (k : Int) ∧ (k : Int) < ((16 : Nat) : Int) := by omega
  have hv : vload ⟨.int .i64, 1, 8, [.int .i64 0]⟩ (blkC A) ((k : Int).toNat * 1) = some (.c (.int .i64 (A k))) := by
    rw [Int.toNat_natCast, Nat.mul_one]; exact blkC_get h
  show (if 0 ≤ (k : Int) ∧ (k : Int) < ((16 : Nat) : Int) then _ else none) = _
  rw [if_pos hc]
  show (match vload ⟨.int .i64, 1, 8, [.int .i64 0]⟩ (blkC A) ((k : Int).toNat * 1) with | some r => q_ r | none => none) = _
  rw [hv]

set_option maxRecDepth 4000 in
theorem f12_ok {G} (xs : List Int) (h : Hp) (hlen : xs.length < 4611686018427387904) : VPure Tryd.prog G (.fn 12 []) [.sl 1 (xs.map iv)] h (.c (.int .i64 (cnt xs))) := by
  refine VCall_fn' (tdOf_ok _) Tryd.func12 rfl (by rfl) 47 rfl (by simp) (by simp only [ents, List.cons_append, List.nil_append, List.append_nil] <;> rfl) (fun hk ha hc => ?_)
  with_reducible repeat (first | refine n1 ?_ | refine n2 ?_ | refine n3 ?_ | refine n4 ?_ | refine n5 ?_ | refine n6 ?_ | refine n7 rfl ?_ | refine W_seq ?_ | refine W_block ?_ | refine W_skip ?_ | refine W_exit ?_ | refine W_ret ?_)
  by_cases hl : 512 < xs.length
  · have hl' : decide ((xs.length : Int) > 512) = true := by simp; omega
    refine W_go (by simp only [ev0, ev1, ev2, ev3, ev4, Nat.reduceLT, Nat.reduceLeDiff, Nat.reduceEqDiff, Nat.reduceAdd, Nat.reduceMul, Nat.reduceBEq, reduceCtorEq, len26, alc58, ix26, ld3, ix58, sto3, ld58, td58] <;> rfl) (Nat.le_of_ble_eq_true rfl) ?_
    refine WL_end ?_
    with_reducible repeat (first | refine n1 ?_ | refine n2 ?_ | refine n3 ?_ | refine n4 ?_ | refine n5 ?_ | refine n6 ?_ | refine n7 rfl ?_ | refine W_seq ?_ | refine W_block ?_ | refine W_skip ?_ | refine W_exit ?_ | refine W_ret ?_)
    refine W_go (by simp only [ev0, ev1, ev2, ev3, ev4, Nat.reduceLT, Nat.reduceLeDiff, Nat.reduceEqDiff, Nat.reduceAdd, Nat.reduceMul, Nat.reduceBEq, reduceCtorEq, len26, alc58, ix26, ld3, ix58, sto3, ld58, td58, hl'] <;> rfl) (Nat.le_of_ble_eq_true rfl) ?_
    refine WL_endk (ks := [17]) (by simp only [ev0, ev4, Nat.reduceEqDiff] <;> rfl) ?_
    with_reducible repeat (first | refine n1 ?_ | refine n2 ?_ | refine n3 ?_ | refine n4 ?_ | refine n5 ?_ | refine n6 ?_ | refine n7 rfl ?_ | refine W_seq ?_ | refine W_block ?_ | refine W_skip ?_ | refine W_exit ?_ | refine W_ret ?_)
    refine W_true rfl ?_
    with_reducible repeat (first | refine n1 ?_ | refine n2 ?_ | refine n3 ?_ | refine n4 ?_ | refine n5 ?_ | refine n6 ?_ | refine n7 rfl ?_ | refine W_seq ?_ | refine W_block ?_ | refine W_skip ?_ | refine W_exit ?_ | refine W_ret ?_)
    refine W_go (by simp only [ev0, ev1, ev2, ev3, ev4, Nat.reduceLT, Nat.reduceLeDiff, Nat.reduceEqDiff, Nat.reduceAdd, Nat.reduceMul, Nat.reduceBEq, reduceCtorEq, len26, alc58, ix26, ld3, ix58, sto3, ld58, td58] <;> rfl) (Nat.le_of_ble_eq_true rfl) ?_
    refine WL_endk (ks := [2]) (by simp only [ev0, ev4, Nat.reduceEqDiff] <;> rfl) ?_
    with_reducible repeat (first | refine n1 ?_ | refine n2 ?_ | refine n3 ?_ | refine n4 ?_ | refine n5 ?_ | refine n6 ?_ | refine n7 rfl ?_ | refine W_seq ?_ | refine W_block ?_ | refine W_skip ?_ | refine W_exit ?_ | refine W_ret ?_)
    refine Fin_pure [] _ (by first | exact .inl rfl | exact .inr rfl) rfl (by simp only [Tryd.results12, vres, vresL, vres1, one_, vload_eq, Option.map_some, ev0, ev3, ev4, Nat.reduceEqDiff, Nat.reduceAdd, Nat.reduceLeDiff] <;> rfl) rfl (by simp only [one_, rf_c, rf_any, rf_sl, rf_ptr, rf_fn, rf_agg, rf_tup, rf, List.map_cons, List.map_nil] <;> rfl) hk (by simp) ?_
    exact ⟨by simp [cnt, hl], rfl⟩
  have hl' : decide ((xs.length : Int) > 512) = false := by simp; omega
  refine W_go (by simp only [ev0, ev1, ev2, ev3, ev4, Nat.reduceLT, Nat.reduceLeDiff, Nat.reduceEqDiff, Nat.reduceAdd, Nat.reduceMul, Nat.reduceBEq, reduceCtorEq, len26, alc58, ix26, ld3, ix58, sto3, ld58, td58] <;> rfl) (Nat.le_of_ble_eq_true rfl) ?_
  refine WL_end ?_
  with_reducible repeat (first | refine n1 ?_ | refine n2 ?_ | refine n3 ?_ | refine n4 ?_ | refine n5 ?_ | refine n6 ?_ | refine n7 rfl ?_ | refine W_seq ?_ | refine W_block ?_ | refine W_skip ?_ | refine W_exit ?_ | refine W_ret ?_)
  refine W_go (by simp only [ev0, ev1, ev2, ev3, ev4, Nat.reduceLT, Nat.reduceLeDiff, Nat.reduceEqDiff, Nat.reduceAdd, Nat.reduceMul, Nat.reduceBEq, reduceCtorEq, len26, alc58, ix26, ld3, ix58, sto3, ld58, td58, hl'] <;> rfl) (Nat.le_of_ble_eq_true rfl) ?_
  refine WL_call' (f35_0 16 h) rfl (Wants_at (j := 3) rfl rfl (by simp only [ev0, ev1, ev2, ev3, ev4, Nat.reduceLT, Nat.reduceLeDiff, Nat.reduceEqDiff, Nat.reduceAdd, Nat.reduceMul, Nat.reduceBEq, reduceCtorEq, len26, alc58, ix26, ld3, ix58, sto3, ld58, td58, hl'] <;> rfl)) (by simp only [ev0, ev1, ev2, ev3, ev4, Nat.reduceLT, Nat.reduceLeDiff, Nat.reduceEqDiff, Nat.reduceAdd, Nat.reduceMul, Nat.reduceBEq, reduceCtorEq, len26, alc58, ix26, ld3, ix58, sto3, ld58, td58, hl'] <;> rfl) (by simp only [ev0, ev1, ev2, ev3, ev4, Nat.reduceLT, Nat.reduceLeDiff, Nat.reduceEqDiff, Nat.reduceAdd, Nat.reduceMul, Nat.reduceBEq, reduceCtorEq, len26, alc58, ix26, ld3, ix58, sto3, ld58, td58, hl'] <;> rfl) rfl ?_
  rintro _ _ ⟨rfl, rfl⟩
  refine WL_go (by simp only [ev0, ev1, ev2, ev3, ev4, Nat.reduceLT, Nat.reduceLeDiff, Nat.reduceEqDiff, Nat.reduceAdd, Nat.reduceMul, Nat.reduceBEq, reduceCtorEq, len26, alc58, ix26, ld3, ix58, sto3, ld58, td58, hl'] <;> rfl) (Nat.le_of_ble_eq_true rfl) ?_
  refine WL_pure (f34_ok (outP 16) _ xs _ hlen (fun x _ => f46_at x 16 h (by omega))) rfl (Wants_at (j := 3) rfl rfl (by simp only [ev0, ev1, ev2, ev3, ev4, Nat.reduceLT, Nat.reduceLeDiff, Nat.reduceEqDiff, Nat.reduceAdd, Nat.reduceMul, Nat.reduceBEq, reduceCtorEq, len26, alc58, ix26, ld3, ix58, sto3, ld58, td58, hl'] <;> rfl)) (by simp only [ev0, ev1, ev2, ev3, ev4, Nat.reduceLT, Nat.reduceLeDiff, Nat.reduceEqDiff, Nat.reduceAdd, Nat.reduceMul, Nat.reduceBEq, reduceCtorEq, len26, alc58, ix26, ld3, ix58, sto3, ld58, td58, hl'] <;> rfl) (by simp only [ev0, ev1, ev2, ev3, ev4, Nat.reduceLT, Nat.reduceLeDiff, Nat.reduceEqDiff, Nat.reduceAdd, Nat.reduceMul, Nat.reduceBEq, reduceCtorEq, len26, alc58, ix26, ld3, ix58, sto3, ld58, td58, hl'] <;> rfl) rfl (by simp only [ev0, ev1, ev2, ev3, ev4, Nat.reduceLT, Nat.reduceLeDiff, Nat.reduceEqDiff, Nat.reduceAdd, Nat.reduceMul, Nat.reduceBEq, reduceCtorEq, len26, alc58, ix26, ld3, ix58, sto3, ld58, td58, hl'] <;> rfl) ?_
  refine WL_go (by simp only [ev0, ev1, ev2, ev3, ev4, Nat.reduceLT, Nat.reduceLeDiff, Nat.reduceEqDiff, Nat.reduceAdd, Nat.reduceMul, Nat.reduceBEq, reduceCtorEq, len26, alc58, ix26, ld3, ix58, sto3, ld58, td58, hl'] <;> rfl) (Nat.le_of_ble_eq_true rfl) ?_
  refine WL_endk (ks := [0, 17]) (by simp only [ev0, ev4, Nat.reduceEqDiff] <;> rfl) ?_
  with_reducible repeat (first | refine n1 ?_ | refine n2 ?_ | refine n3 ?_ | refine n4 ?_ | refine n5 ?_ | refine n6 ?_ | refine n7 rfl ?_ | refine W_seq ?_ | refine W_block ?_ | refine W_skip ?_ | refine W_exit ?_ | refine W_ret ?_)
  refine W_cond rfl (fun hp => ?_) (fun hp => ?_)
  · with_reducible repeat (first | refine n1 ?_ | refine n2 ?_ | refine n3 ?_ | refine n4 ?_ | refine n5 ?_ | refine n6 ?_ | refine n7 rfl ?_ | refine W_seq ?_ | refine W_block ?_ | refine W_skip ?_ | refine W_exit ?_ | refine W_ret ?_)
    refine W_go (by simp only [ev0, ev1, ev2, ev3, ev4, Nat.reduceLT, Nat.reduceLeDiff, Nat.reduceEqDiff, Nat.reduceAdd, Nat.reduceMul, Nat.reduceBEq, reduceCtorEq, len26, alc58, ix26, ld3, ix58, sto3, ld58, td58] <;> rfl) (Nat.le_of_ble_eq_true rfl) ?_
    refine WL_endk (ks := [2]) (by simp only [ev0, ev4, Nat.reduceEqDiff] <;> rfl) ?_
    with_reducible repeat (first | refine n1 ?_ | refine n2 ?_ | refine n3 ?_ | refine n4 ?_ | refine n5 ?_ | refine n6 ?_ | refine n7 rfl ?_ | refine W_seq ?_ | refine W_block ?_ | refine W_skip ?_ | refine W_exit ?_ | refine W_ret ?_)
    refine Fin_pure [.blk [.c (.int .i64 16)]] _ (by first | exact .inl rfl | exact .inr rfl) rfl (by simp only [Tryd.results12, vres, vresL, vres1, one_, vload_eq, Option.map_some, ev0, ev3, ev4, Nat.reduceEqDiff, Nat.reduceAdd, Nat.reduceLeDiff] <;> rfl) rfl (by simp only [one_, rf_c, rf_any, rf_sl, rf_ptr, rf_fn, rf_agg, rf_tup, rf, List.map_cons, List.map_nil] <;> rfl) hk (by simp) ?_
    exact ⟨by rw [outP_fn (by decide) (by decide)] at hp
              have e : xs.any (fun m => !inB m 0 65535) = true := hp
              simp only [cnt, e, or_true, if_true], rfl⟩
  rw [outP_fn (by decide) (by decide)] at hp
  have e0 : xs.any (fun m => !inB m 0 65535) = false := hp
  with_reducible repeat (first | refine n1 ?_ | refine n2 ?_ | refine n3 ?_ | refine n4 ?_ | refine n5 ?_ | refine n6 ?_ | refine n7 rfl ?_ | refine W_seq ?_ | refine W_block ?_ | refine W_skip ?_ | refine W_exit ?_ | refine W_ret ?_)
  refine W_go (by simp only [ev0, ev1, ev2, ev3, ev4, Nat.reduceLT, Nat.reduceLeDiff, Nat.reduceEqDiff, Nat.reduceAdd, Nat.reduceMul, Nat.reduceBEq, reduceCtorEq, len26, alc58, ix26, ld3, ix58, sto3, ld58, td58] <;> rfl) (Nat.le_of_ble_eq_true rfl) ?_
  refine WL_end ?_
  with_reducible repeat (first | refine n1 ?_ | refine n2 ?_ | refine n3 ?_ | refine n4 ?_ | refine n5 ?_ | refine n6 ?_ | refine n7 rfl ?_ | refine W_seq ?_ | refine W_block ?_ | refine W_skip ?_ | refine W_exit ?_ | refine W_ret ?_)
  refine W_go (by simp only [ev0, ev1, ev2, ev3, ev4, Nat.reduceLT, Nat.reduceLeDiff, Nat.reduceEqDiff, Nat.reduceAdd, Nat.reduceMul, Nat.reduceBEq, reduceCtorEq, len26, alc58, ix26, ld3, ix58, sto3, ld58, td58] <;> rfl) (Nat.le_of_ble_eq_true rfl) ?_
  refine WL_endk (ks := [0, 3, 18, 19, 20]) (by simp only [ev0, ev4, Nat.reduceEqDiff] <;> rfl) ?_
  with_reducible repeat (first | refine n1 ?_ | refine n2 ?_ | refine n3 ?_ | refine n4 ?_ | refine n5 ?_ | refine n6 ?_ | refine n7 rfl ?_ | refine W_seq ?_ | refine W_block ?_ | refine W_skip ?_ | refine W_exit ?_ | refine W_ret ?_)
  refine W_loopS (fun i : Nat => ⟨47, [(0, .sl 1 (xs.map iv)), (3, .ptr (List.length h + 1) 0), (18, .sl 1 (xs.map iv)), (19, .c (.int .i64 xs.length)), (20, .c (.int .i64 i))], h ++ [.blk [.c (.int .i64 16)], .blk (blkC (colS (xs.take i)))], []⟩) (fun i => i ≤ xs.length) (fun i => xs.length - i) 0 (by simp) rfl (fun i hI => ?_)
  with_reducible repeat (first | refine n1 ?_ | refine n2 ?_ | refine n3 ?_ | refine n4 ?_ | refine n5 ?_ | refine n6 ?_ | refine n7 rfl ?_ | refine W_seq ?_ | refine W_block ?_ | refine W_skip ?_ | refine W_exit ?_ | refine W_ret ?_)
  refine W_go (by simp only [ev0, ev1, ev2, ev3, ev4, Nat.reduceLT, Nat.reduceLeDiff, Nat.reduceEqDiff, Nat.reduceAdd, Nat.reduceMul, Nat.reduceBEq, reduceCtorEq, len26, alc58, ix26, ld3, ix58, sto3, ld58, td58] <;> rfl) (Nat.le_of_ble_eq_true rfl) ?_
  refine WL_end ?_
  with_reducible repeat (first | refine n1 ?_ | refine n2 ?_ | refine n3 ?_ | refine n4 ?_ | refine n5 ?_ | refine n6 ?_ | refine n7 rfl ?_ | refine W_seq ?_ | refine W_block ?_ | refine W_skip ?_ | refine W_exit ?_ | refine W_ret ?_)
  refine W_cond rfl (fun hb => ?_) (fun hb => ?_)
  · with_reducible repeat (first | refine n1 ?_ | refine n2 ?_ | refine n3 ?_ | refine n4 ?_ | refine n5 ?_ | refine n6 ?_ | refine n7 rfl ?_ | refine W_seq ?_ | refine W_block ?_ | refine W_skip ?_ | refine W_exit ?_ | refine W_ret ?_)
    have hlt : i < xs.length := by simpa using hb
    have hx := map_get (f := iv) hlt
    refine W_go (by simp only [ev0, ev1, ev2, ev3, ev4, Nat.reduceLT, Nat.reduceLeDiff, Nat.reduceEqDiff, Nat.reduceAdd, Nat.reduceMul, Nat.reduceBEq, reduceCtorEq, len26, alc58, ix26, ld3, ix58, sto3, ld58, td58, hx, iv] <;> rfl) (Nat.le_of_ble_eq_true rfl) ?_
    refine WL_endk (ks := [0, 3, 5, 18, 19, 20]) (by simp only [ev0, ev4, Nat.reduceEqDiff] <;> rfl) ?_
    with_reducible repeat (first | refine n1 ?_ | refine n2 ?_ | refine n3 ?_ | refine n4 ?_ | refine n5 ?_ | refine n6 ?_ | refine n7 rfl ?_ | refine W_seq ?_ | refine W_block ?_ | refine W_skip ?_ | refine W_exit ?_ | refine W_ret ?_)
    refine W_go (by simp only [ev0, ev1, ev2, ev3, ev4, Nat.reduceLT, Nat.reduceLeDiff, Nat.reduceEqDiff, Nat.reduceAdd, Nat.reduceMul, Nat.reduceBEq, reduceCtorEq, len26, alc58, ix26, ld3, ix58, sto3, ld58, td58] <;> rfl) (Nat.le_of_ble_eq_true rfl) ?_
    refine WL_endk (ks := [0, 3, 5, 18, 19, 20, 24]) (by simp only [ev0, ev4, Nat.reduceEqDiff] <;> rfl) ?_
    with_reducible repeat (first | refine n1 ?_ | refine n2 ?_ | refine n3 ?_ | refine n4 ?_ | refine n5 ?_ | refine n6 ?_ | refine n7 rfl ?_ | refine W_seq ?_ | refine W_block ?_ | refine W_skip ?_ | refine W_exit ?_ | refine W_ret ?_)
    refine W_loopS (fun k : Nat => ⟨47, [(0, .sl 1 (xs.map iv)), (3, .ptr (List.length h + 1) 0), (5, .c (.int .i64 xs[i])), (18, .sl 1 (xs.map iv)), (19, .c (.int .i64 xs.length)), (20, .c (.int .i64 i)), (24, .c (.int .i64 k))], h ++ [.blk [.c (.int .i64 16)], .blk (blkC (colK (colS (xs.take i)) xs[i] k))], []⟩) (fun k => k ≤ 16) (fun k => 16 - k) 0 (by simp) rfl (fun k hK => ?_)
    with_reducible repeat (first | refine n1 ?_ | refine n2 ?_ | refine n3 ?_ | refine n4 ?_ | refine n5 ?_ | refine n6 ?_ | refine n7 rfl ?_ | refine W_seq ?_ | refine W_block ?_ | refine W_skip ?_ | refine W_exit ?_ | refine W_ret ?_)
    refine W_go (by simp only [ev0, ev1, ev2, ev3, ev4, Nat.reduceLT, Nat.reduceLeDiff, Nat.reduceEqDiff, Nat.reduceAdd, Nat.reduceMul, Nat.reduceBEq, reduceCtorEq, len26, alc58, ix26, ld3, ix58, sto3, ld58, td58] <;> rfl) (Nat.le_of_ble_eq_true rfl) ?_
    refine WL_end ?_
    with_reducible repeat (first | refine n1 ?_ | refine n2 ?_ | refine n3 ?_ | refine n4 ?_ | refine n5 ?_ | refine n6 ?_ | refine n7 rfl ?_ | refine W_seq ?_ | refine W_block ?_ | refine W_skip ?_ | refine W_exit ?_ | refine W_ret ?_)
    refine W_cond rfl (fun hb => ?_) (fun hb => ?_)
    · have hk16 : k < 16 := by
        have : (k : Int) < 16 := by simpa using hb
        omega
      have hk0 : (0 : Int) ≤ (k : Int) := by omega
      have hk1 : (k : Int) < ((16 : Nat) : Int) := by omega
      have hg : ∀ A : Nat → Int, vl false 1 (blkC A) k = some (.c (.int .i64 (A k))) := fun A => blkC_get hk16
      have hle : k + 1 ≤ 16 := hk16
      with_reducible repeat (first | refine n1 ?_ | refine n2 ?_ | refine n3 ?_ | refine n4 ?_ | refine n5 ?_ | refine n6 ?_ | refine n7 rfl ?_ | refine W_seq ?_ | refine W_block ?_ | refine W_skip ?_ | refine W_exit ?_ | refine W_ret ?_)
      refine W_go (by simp only [ev0, ev1, ev2, ev3, ev4, Nat.reduceLT, Nat.reduceLeDiff, Nat.reduceEqDiff, Nat.reduceAdd, Nat.reduceMul, Nat.reduceBEq, reduceCtorEq, len26, alc58, ix26, ld3, ix58, sto3, ld58, td58] <;> rfl) (Nat.le_of_ble_eq_true rfl) ?_
      refine WL_endk (ks := [0, 3, 5, 6, 18, 19, 20, 24]) (by simp only [ev0, ev4, Nat.reduceEqDiff] <;> rfl) ?_
      with_reducible repeat (first | refine n1 ?_ | refine n2 ?_ | refine n3 ?_ | refine n4 ?_ | refine n5 ?_ | refine n6 ?_ | refine n7 rfl ?_ | refine W_seq ?_ | refine W_block ?_ | refine W_skip ?_ | refine W_exit ?_ | refine W_ret ?_)
      refine W_draw (by kernel_rfl) (DR_end (by simp only [ev0, ev1, ev2, ev3, ev4, Nat.reduceLT, Nat.reduceLeDiff, Nat.reduceEqDiff, Nat.reduceAdd, Nat.reduceMul, Nat.reduceBEq, reduceCtorEq, len26, alc58, ix26, ld3, ix58, sto3, ld58, hk0, hk1, hg, hle, blkC_len, Int.toNat_natCast, Nat.mul_one, Nat.zero_add, Nat.add_zero] <;> rfl)) (by kernel_rfl) (by first | exact trivial | kernel_rfl) ?_
      with_reducible repeat (first | refine n1 ?_ | refine n2 ?_ | refine n3 ?_ | refine n4 ?_ | refine n5 ?_ | refine n6 ?_ | refine n7 rfl ?_ | refine W_seq ?_ | refine W_block ?_ | refine W_skip ?_ | refine W_exit ?_ | refine W_ret ?_)
      refine W_keep' (ks := [0, 3, 5, 18, 19, 20, 24]) (by simp only [ev0, ev4, Nat.reduceEqDiff] <;> rfl) ?_
      refine W_go (by simp only [ev0, ev1, ev2, ev3, ev4, Nat.reduceLT, Nat.reduceLeDiff, Nat.reduceEqDiff, Nat.reduceAdd, Nat.reduceMul, Nat.reduceBEq, reduceCtorEq, len26, alc58, ix26, ld3, ix58, sto3, ld58] <;> rfl) (Nat.le_of_ble_eq_true rfl) ?_
      refine WL_endk (ks := [0, 3, 5, 18, 19, 20, 24]) (by simp only [ev0, ev4, Nat.reduceEqDiff] <;> rfl) ?_
      with_reducible repeat (first | refine n1 ?_ | refine n2 ?_ | refine n3 ?_ | refine n4 ?_ | refine n5 ?_ | refine n6 ?_ | refine n7 rfl ?_ | refine W_seq ?_ | refine W_block ?_ | refine W_skip ?_ | refine W_exit ?_ | refine W_ret ?_)
      have b1 := colS_bound (xs.take i) k
      have b3 := bitS_bound xs[i] k
      have b4 : (xs.take i).length ≤ 512 := by simp; omega
      have b5 : bitS xs[i] k = iand .i64 (ishr .i64 xs[i] k) 1 := rfl
      have b6 : colK (colS (xs.take i)) xs[i] k k = colS (xs.take i) k := by simp [colK]
      exact ⟨k + 1, by rw [wrap64 (n := (k : Int) + 1) (by omega) (by omega), b6, ← b5, wrap64 (by omega) (by omega), blk_put hk16, colK_put _ _ hk16]; rfl, by omega, by omega⟩
    · with_reducible repeat (first | refine n1 ?_ | refine n2 ?_ | refine n3 ?_ | refine n4 ?_ | refine n5 ?_ | refine n6 ?_ | refine n7 rfl ?_ | refine W_seq ?_ | refine W_block ?_ | refine W_skip ?_ | refine W_exit ?_ | refine W_ret ?_)
      have hk16 : k = 16 := by
        have : (16 : Int) ≤ k := by simpa using hb
        omega
      refine W_go (by simp only [ev0, ev1, ev2, ev3, ev4, Nat.reduceLT, Nat.reduceLeDiff, Nat.reduceEqDiff, Nat.reduceAdd, Nat.reduceMul, Nat.reduceBEq, reduceCtorEq, len26, alc58, ix26, ld3, ix58, sto3, ld58] <;> rfl) (Nat.le_of_ble_eq_true rfl) ?_
      refine WL_endk (ks := [0, 3, 18, 19, 20]) (by simp only [ev0, ev4, Nat.reduceEqDiff] <;> rfl) ?_
      with_reducible repeat (first | refine n1 ?_ | refine n2 ?_ | refine n3 ?_ | refine n4 ?_ | refine n5 ?_ | refine n6 ?_ | refine n7 rfl ?_ | refine W_seq ?_ | refine W_block ?_ | refine W_skip ?_ | refine W_exit ?_ | refine W_ret ?_)
      have e1 : blkC (colK (colS (xs.take i)) xs[i] k) = blkC (colS (xs.take (i + 1))) := blkC_ext fun j hj => by
        rw [colS_take hlt]; simp [colK, hk16, hj]
      exact ⟨i + 1, by rw [wrap64 (by omega) (by omega), e1]; rfl, by omega, by omega⟩
  · with_reducible repeat (first | refine n1 ?_ | refine n2 ?_ | refine n3 ?_ | refine n4 ?_ | refine n5 ?_ | refine n6 ?_ | refine n7 rfl ?_ | refine W_seq ?_ | refine W_block ?_ | refine W_skip ?_ | refine W_exit ?_ | refine W_ret ?_)
    have hge : xs.length ≤ i := by simpa using hb
    rw [List.take_of_length_le hge]
    refine W_go (by simp only [ev0, ev1, ev2, ev3, ev4, Nat.reduceLT, Nat.reduceLeDiff, Nat.reduceEqDiff, Nat.reduceAdd, Nat.reduceMul, Nat.reduceBEq, reduceCtorEq, len26, alc58, ix26, ld3, ix58, sto3, ld58] <;> rfl) (Nat.le_of_ble_eq_true rfl) ?_
    refine WL_endk (ks := [3, 7]) (by simp only [ev0, ev4, Nat.reduceEqDiff] <;> rfl) ?_
    with_reducible repeat (first | refine n1 ?_ | refine n2 ?_ | refine n3 ?_ | refine n4 ?_ | refine n5 ?_ | refine n6 ?_ | refine n7 rfl ?_ | refine W_seq ?_ | refine W_block ?_ | refine W_skip ?_ | refine W_exit ?_ | refine W_ret ?_)
    have hg0 : vl true 16 (blkC (colS xs)) 0 = some (.agg (blkC (colS xs))) := by simp [vl, blkC_len, List.take_of_length_le]
    refine W_go (by simp only [ev0, ev1, ev2, ev3, ev4, Nat.reduceLT, Nat.reduceLeDiff, Nat.reduceEqDiff, Nat.reduceAdd, Nat.reduceMul, Nat.reduceBEq, reduceCtorEq, len26, alc58, ix26, ld3, ix58, sto3, ld58, hg0] <;> rfl) (Nat.le_of_ble_eq_true rfl) ?_
    refine WL_endk (ks := [7, 38, 39]) (by simp only [ev0, ev4, Nat.reduceEqDiff] <;> rfl) ?_
    with_reducible repeat (first | refine n1 ?_ | refine n2 ?_ | refine n3 ?_ | refine n4 ?_ | refine n5 ?_ | refine n6 ?_ | refine n7 rfl ?_ | refine W_seq ?_ | refine W_block ?_ | refine W_skip ?_ | refine W_exit ?_ | refine W_ret ?_)
    refine W_loopS (fun k : Nat => ⟨47, [(7, .c (.int .i64 (sumN (colS xs) k))), (38, .agg (blkC (colS xs))), (39, .c (.int .i64 k))], h ++ [.blk [.c (.int .i64 16)], .blk (blkC (colS xs))], []⟩) (fun k => k ≤ 16) (fun k => 16 - k) 0 (by simp) rfl (fun k hK => ?_)
    with_reducible repeat (first | refine n1 ?_ | refine n2 ?_ | refine n3 ?_ | refine n4 ?_ | refine n5 ?_ | refine n6 ?_ | refine n7 rfl ?_ | refine W_seq ?_ | refine W_block ?_ | refine W_skip ?_ | refine W_exit ?_ | refine W_ret ?_)
    refine W_go (by simp only [ev0, ev1, ev2, ev3, ev4, Nat.reduceLT, Nat.reduceLeDiff, Nat.reduceEqDiff, Nat.reduceAdd, Nat.reduceMul, Nat.reduceBEq, reduceCtorEq, len26, alc58, ix26, ld3, ix58, sto3, ld58] <;> rfl) (Nat.le_of_ble_eq_true rfl) ?_
    refine WL_end ?_
    with_reducible repeat (first | refine n1 ?_ | refine n2 ?_ | refine n3 ?_ | refine n4 ?_ | refine n5 ?_ | refine n6 ?_ | refine n7 rfl ?_ | refine W_seq ?_ | refine W_block ?_ | refine W_skip ?_ | refine W_exit ?_ | refine W_ret ?_)
    refine W_cond rfl (fun hb => ?_) (fun hb => ?_)
    · have hk16 : k < 16 := by
        have : (k : Int) < 16 := by simpa using hb
        omega
      have hk0 : (0 : Int) ≤ (k : Int) := by omega
      have hk1 : (k : Int) < ((16 : Nat) : Int) := by omega
      with_reducible repeat (first | refine n1 ?_ | refine n2 ?_ | refine n3 ?_ | refine n4 ?_ | refine n5 ?_ | refine n6 ?_ | refine n7 rfl ?_ | refine W_seq ?_ | refine W_block ?_ | refine W_skip ?_ | refine W_exit ?_ | refine W_ret ?_)
      refine W_go (by simp only [ev0, ev1, ev2, ev3, ev4, Nat.reduceLT, Nat.reduceLeDiff, Nat.reduceEqDiff, Nat.reduceAdd, Nat.reduceMul, Nat.reduceBEq, reduceCtorEq, len26, alc58, ix26, ld3, ix58, sto3, ld58, ix58a hk16] <;> rfl) (Nat.le_of_ble_eq_true rfl) ?_
      refine WL_endk (ks := [7, 9, 38, 39]) (by simp only [ev0, ev4, Nat.reduceEqDiff] <;> rfl) ?_
      with_reducible repeat (first | refine n1 ?_ | refine n2 ?_ | refine n3 ?_ | refine n4 ?_ | refine n5 ?_ | refine n6 ?_ | refine n7 rfl ?_ | refine W_seq ?_ | refine W_block ?_ | refine W_skip ?_ | refine W_exit ?_ | refine W_ret ?_)
      refine W_go (by simp only [ev0, ev1, ev2, ev3, ev4, Nat.reduceLT, Nat.reduceLeDiff, Nat.reduceEqDiff, Nat.reduceAdd, Nat.reduceMul, Nat.reduceBEq, reduceCtorEq, len26, alc58, ix26, ld3, ix58, sto3, ld58] <;> rfl) (Nat.le_of_ble_eq_true rfl) ?_
      refine WL_endk (ks := [7, 38, 39]) (by simp only [ev0, ev4, Nat.reduceEqDiff] <;> rfl) ?_
      with_reducible repeat (first | refine n1 ?_ | refine n2 ?_ | refine n3 ?_ | refine n4 ?_ | refine n5 ?_ | refine n6 ?_ | refine n7 rfl ?_ | refine W_seq ?_ | refine W_block ?_ | refine W_skip ?_ | refine W_exit ?_ | refine W_ret ?_)
      refine W_go (by simp only [ev0, ev1, ev2, ev3, ev4, Nat.reduceLT, Nat.reduceLeDiff, Nat.reduceEqDiff, Nat.reduceAdd, Nat.reduceMul, Nat.reduceBEq, reduceCtorEq, len26, alc58, ix26, ld3, ix58, sto3, ld58] <;> rfl) (Nat.le_of_ble_eq_true rfl) ?_
      refine WL_endk (ks := [7, 38, 39]) (by simp only [ev0, ev4, Nat.reduceEqDiff] <;> rfl) ?_
      with_reducible repeat (first | refine n1 ?_ | refine n2 ?_ | refine n3 ?_ | refine n4 ?_ | refine n5 ?_ | refine n6 ?_ | refine n7 rfl ?_ | refine W_seq ?_ | refine W_block ?_ | refine W_skip ?_ | refine W_exit ?_ | refine W_ret ?_)
      have b1 := colS_bound xs k
      have b2 := sumN_bound (f := colS xs) (b := xs.length) (colS_bound xs) k
      have b3 : (k : Int) * xs.length ≤ 16 * 512 := by
        have : k * xs.length ≤ 16 * 512 := Nat.mul_le_mul (by omega) (by omega)
        omega
      exact ⟨k + 1, by rw [wrap64 (n := (k : Int) + 1) (by omega) (by omega), wrap64 (by omega) (by omega)]; rfl, by omega, by omega⟩
    · with_reducible repeat (first | refine n1 ?_ | refine n2 ?_ | refine n3 ?_ | refine n4 ?_ | refine n5 ?_ | refine n6 ?_ | refine n7 rfl ?_ | refine W_seq ?_ | refine W_block ?_ | refine W_skip ?_ | refine W_exit ?_ | refine W_ret ?_)
      have hk16 : k = 16 := by
        have : (16 : Int) ≤ k := by simpa using hb
        omega
      refine W_go (by simp only [ev0, ev1, ev2, ev3, ev4, Nat.reduceLT, Nat.reduceLeDiff, Nat.reduceEqDiff, Nat.reduceAdd, Nat.reduceMul, Nat.reduceBEq, reduceCtorEq, len26, alc58, ix26, ld3, ix58, sto3, ld58] <;> rfl) (Nat.le_of_ble_eq_true rfl) ?_
      refine WL_endk (ks := [2]) (by simp only [ev0, ev4, Nat.reduceEqDiff] <;> rfl) ?_
      with_reducible repeat (first | refine n1 ?_ | refine n2 ?_ | refine n3 ?_ | refine n4 ?_ | refine n5 ?_ | refine n6 ?_ | refine n7 rfl ?_ | refine W_seq ?_ | refine W_block ?_ | refine W_skip ?_ | refine W_exit ?_ | refine W_ret ?_)
      refine Fin_pure [.blk [.c (.int .i64 16)], .blk (blkC (colS xs))] _ (by first | exact .inl rfl | exact .inr rfl) rfl (by simp only [Tryd.results12, vres, vresL, vres1, one_, vload_eq, Option.map_some, ev0, ev3, ev4, Nat.reduceEqDiff, Nat.reduceAdd, Nat.reduceLeDiff] <;> rfl) rfl (by simp only [one_, rf_c, rf_any, rf_sl, rf_ptr, rf_fn, rf_agg, rf_tup, rf, List.map_cons, List.map_nil] <;> rfl) hk (by simp) ?_
      exact ⟨by rw [hk16, sum_cols]; simp [cnt, e0, hl], rfl⟩
end Go.Vm
/- Contracts: growing and joining slices. -/
namespace Go.Vm
open Go Go.RowKit Go.Proofs
set_option linter.unusedSimpArgs false
set_option linter.unusedVariables false

theorem wsub00 : IntKind.i64.wrap (0 - 0) = 0 := by decide


theorem f47_ok {G} (n : Nat) (h : Hp) (hn : n * 8 ≤ 140737488355328) : VCall Tryd.prog G (.fn 47 []) [.c (.slice none 0 0), .c (.int .i64 n)] h (fun r h' => r = .os (List.length h) 0 ∧ h' = h ++ [.arr 3 1 []]) := by
  refine VCall_fn' (tdOf_ok _) Tryd.func47 rfl (by rfl) 27 rfl (by simp) (by simp only [ents, List.cons_append, List.nil_append, List.append_nil] <;> rfl) (fun hk ha hc => ?_)
  with_reducible repeat (first | refine n1 ?_ | refine n2 ?_ | refine n3 ?_ | refine n4 ?_ | refine n5 ?_ | refine n6 ?_ | refine n7 rfl ?_ | refine W_seq ?_ | refine W_block ?_ | refine W_skip ?_ | refine W_exit ?_ | refine W_ret ?_)
  have h1 : decide ((n : Int) < 0) = false := by simp
  have h2 : IntKind.i64.wrap ((n : Int) - 0) = n := by rw [Int.sub_zero, wrap64 (by omega) (by omega)]
  refine W_go (by simp only [ev0, ev1, ev2, ev3, ev4, Nat.reduceLT, Nat.reduceLeDiff, Nat.reduceEqDiff, Nat.reduceAdd, Nat.reduceMul, Nat.reduceBEq, reduceCtorEq, len26] <;> rfl) (Nat.le_of_ble_eq_true rfl) ?_
  refine WL_end ?_
  with_reducible repeat (first | refine n1 ?_ | refine n2 ?_ | refine n3 ?_ | refine n4 ?_ | refine n5 ?_ | refine n6 ?_ | refine n7 rfl ?_ | refine W_seq ?_ | refine W_block ?_ | refine W_skip ?_ | refine W_exit ?_ | refine W_ret ?_)
  refine W_go (by simp only [ev0, ev1, ev2, ev3, ev4, Nat.reduceLT, Nat.reduceLeDiff, Nat.reduceEqDiff, Nat.reduceAdd, Nat.reduceMul, Nat.reduceBEq, reduceCtorEq, len26, h1] <;> rfl) (Nat.le_of_ble_eq_true rfl) ?_
  refine WL_endk (ks := [0, 1, 6]) (by simp only [ev0, ev4, Nat.reduceEqDiff] <;> rfl) ?_
  with_reducible repeat (first | refine n1 ?_ | refine n2 ?_ | refine n3 ?_ | refine n4 ?_ | refine n5 ?_ | refine n6 ?_ | refine n7 rfl ?_ | refine W_seq ?_ | refine W_block ?_ | refine W_skip ?_ | refine W_exit ?_ | refine W_ret ?_)
  refine W_false rfl ?_
  with_reducible repeat (first | refine n1 ?_ | refine n2 ?_ | refine n3 ?_ | refine n4 ?_ | refine n5 ?_ | refine n6 ?_ | refine n7 rfl ?_ | refine W_seq ?_ | refine W_block ?_ | refine W_skip ?_ | refine W_exit ?_ | refine W_ret ?_)
  refine W_go (by simp only [ev0, ev1, ev2, ev3, ev4, Nat.reduceLT, Nat.reduceLeDiff, Nat.reduceEqDiff, Nat.reduceAdd, Nat.reduceMul, Nat.reduceBEq, reduceCtorEq, len26] <;> rfl) (Nat.le_of_ble_eq_true rfl) ?_
  refine WL_ex (fid := none) (ob := .gone) (Does_cap_nil (tdOf_ok _) rfl td26 rfl (by simp only [ev0, ev1, ev2, ev3, ev4, Nat.reduceLT, Nat.reduceLeDiff, Nat.reduceEqDiff, Nat.reduceAdd, Nat.reduceMul, Nat.reduceBEq, reduceCtorEq, len26] <;> rfl)) (by intro c hc; cases hc) (.inl rfl) (by intro id hid; cases hid) (by simp only [ev0, ev1, ev2, ev3, ev4, Nat.reduceLT, Nat.reduceLeDiff, Nat.reduceEqDiff, Nat.reduceAdd, Nat.reduceMul, Nat.reduceBEq, reduceCtorEq, len26] <;> rfl) ?_
  refine WL_go (by simp only [ev0, ev1, ev2, ev3, ev4, Nat.reduceLT, Nat.reduceLeDiff, Nat.reduceEqDiff, Nat.reduceAdd, Nat.reduceMul, Nat.reduceBEq, reduceCtorEq, len26, len_nil, wsub00, h2] <;> rfl) (Nat.le_of_ble_eq_true rfl) ?_
  refine WL_endk (ks := [0, 1]) (by simp only [ev0, ev4, Nat.reduceEqDiff] <;> rfl) ?_
  with_reducible repeat (first | refine n1 ?_ | refine n2 ?_ | refine n3 ?_ | refine n4 ?_ | refine n5 ?_ | refine n6 ?_ | refine n7 rfl ?_ | refine W_seq ?_ | refine W_block ?_ | refine W_skip ?_ | refine W_exit ?_ | refine W_ret ?_)
  by_cases h0 : n = 0
  · have h3 : decide ((n : Int) > 0) = false := by simp; omega
    refine W_go (by simp only [ev0, ev1, ev2, ev3, ev4, Nat.reduceLT, Nat.reduceLeDiff, Nat.reduceEqDiff, Nat.reduceAdd, Nat.reduceMul, Nat.reduceBEq, reduceCtorEq, len26, h3] <;> rfl) (Nat.le_of_ble_eq_true rfl) ?_
    refine WL_endk (ks := [0, 16]) (by simp only [ev0, ev4, Nat.reduceEqDiff] <;> rfl) ?_
    with_reducible repeat (first | refine n1 ?_ | refine n2 ?_ | refine n3 ?_ | refine n4 ?_ | refine n5 ?_ | refine n6 ?_ | refine n7 rfl ?_ | refine W_seq ?_ | refine W_block ?_ | refine W_skip ?_ | refine W_exit ?_ | refine W_ret ?_)
    refine W_false rfl ?_
    with_reducible repeat (first | refine n1 ?_ | refine n2 ?_ | refine n3 ?_ | refine n4 ?_ | refine n5 ?_ | refine n6 ?_ | refine n7 rfl ?_ | refine W_seq ?_ | refine W_block ?_ | refine W_skip ?_ | refine W_exit ?_ | refine W_ret ?_)
    refine W_keep' (ks := [0]) (by simp only [ev0, ev4, Nat.reduceEqDiff] <;> rfl) ?_
    refine W_nil 3 1 ?_
    refine W_go (by simp only [ev0, ev1, ev2, ev3, ev4, Nat.reduceLT, Nat.reduceLeDiff, Nat.reduceEqDiff, Nat.reduceAdd, Nat.reduceMul, Nat.reduceBEq, reduceCtorEq, len26] <;> rfl) (Nat.le_of_ble_eq_true rfl) ?_
    refine WL_endk (ks := [4]) (by simp only [ev0, ev4, Nat.reduceEqDiff] <;> rfl) ?_
    with_reducible repeat (first | refine n1 ?_ | refine n2 ?_ | refine n3 ?_ | refine n4 ?_ | refine n5 ?_ | refine n6 ?_ | refine n7 rfl ?_ | refine W_seq ?_ | refine W_block ?_ | refine W_skip ?_ | refine W_exit ?_ | refine W_ret ?_)
    refine Fin_ext [.arr 3 1 []] _ (by first | exact .inl rfl | exact .inr rfl) rfl (by simp only [Tryd.results47, vres, vresL, vres1, one_, vload_eq, Option.map_some, ev0, ev3, ev4, Nat.reduceEqDiff, Nat.reduceAdd, Nat.reduceLeDiff] <;> rfl) rfl (by simp only [one_, rf_c, rf_any, rf_sl, rf_ptr, rf_fn, rf_agg, rf_tup, rf, List.map_cons, List.map_nil] <;> rfl) hk ?_ ?_ ?_
    · simp [OkO]
    · simp
    · exact ⟨by simp, rfl⟩
  · have h3 : decide ((n : Int) > 0) = true := by simp; omega
    refine W_go (by simp only [ev0, ev1, ev2, ev3, ev4, Nat.reduceLT, Nat.reduceLeDiff, Nat.reduceEqDiff, Nat.reduceAdd, Nat.reduceMul, Nat.reduceBEq, reduceCtorEq, len26, h3] <;> rfl) (Nat.le_of_ble_eq_true rfl) ?_
    refine WL_endk (ks := [0, 1, 16]) (by simp only [ev0, ev4, Nat.reduceEqDiff] <;> rfl) ?_
    with_reducible repeat (first | refine n1 ?_ | refine n2 ?_ | refine n3 ?_ | refine n4 ?_ | refine n5 ?_ | refine n6 ?_ | refine n7 rfl ?_ | refine W_seq ?_ | refine W_block ?_ | refine W_skip ?_ | refine W_exit ?_ | refine W_ret ?_)
    refine W_true rfl ?_
    with_reducible repeat (first | refine n1 ?_ | refine n2 ?_ | refine n3 ?_ | refine n4 ?_ | refine n5 ?_ | refine n6 ?_ | refine n7 rfl ?_ | refine W_seq ?_ | refine W_block ?_ | refine W_skip ?_ | refine W_exit ?_ | refine W_ret ?_)
    refine W_go (by simp only [ev0, ev1, ev2, ev3, ev4, Nat.reduceLT, Nat.reduceLeDiff, Nat.reduceEqDiff, Nat.reduceAdd, Nat.reduceMul, Nat.reduceBEq, reduceCtorEq, len26] <;> rfl) (Nat.le_of_ble_eq_true rfl) ?_
    refine WL_ex (fid := none) (ob := .gone) (Does_cap_nil (tdOf_ok _) rfl td26 rfl (by simp only [ev0, ev1, ev2, ev3, ev4, Nat.reduceLT, Nat.reduceLeDiff, Nat.reduceEqDiff, Nat.reduceAdd, Nat.reduceMul, Nat.reduceBEq, reduceCtorEq, len26] <;> rfl)) (by intro c hc; cases hc) (.inl rfl) (by intro id hid; cases hid) (by simp only [ev0, ev1, ev2, ev3, ev4, Nat.reduceLT, Nat.reduceLeDiff, Nat.reduceEqDiff, Nat.reduceAdd, Nat.reduceMul, Nat.reduceBEq, reduceCtorEq, len26] <;> rfl) ?_
    refine WL_go (by simp only [ev0, ev1, ev2, ev3, ev4, Nat.reduceLT, Nat.reduceLeDiff, Nat.reduceEqDiff, Nat.reduceAdd, Nat.reduceMul, Nat.reduceBEq, reduceCtorEq, len26, len_nil] <;> rfl) (Nat.le_of_ble_eq_true rfl) ?_
    refine WL_ex (fid := none) (ob := .gone) (Does_slice_nil (tdOf_ok _) rfl td26 rfl td3 (by simp only [ev0, ev1, ev2, ev3, ev4, Nat.reduceLT, Nat.reduceLeDiff, Nat.reduceEqDiff, Nat.reduceAdd, Nat.reduceMul, Nat.reduceBEq, reduceCtorEq, len26] <;> rfl) (by simp only [ev0, ev1, ev2, ev3, ev4, Nat.reduceLT, Nat.reduceLeDiff, Nat.reduceEqDiff, Nat.reduceAdd, Nat.reduceMul, Nat.reduceBEq, reduceCtorEq, len26] <;> rfl)) (by intro c hc; cases hc) (.inl rfl) (by intro id hid; cases hid) (by simp only [ev0, ev1, ev2, ev3, ev4, Nat.reduceLT, Nat.reduceLeDiff, Nat.reduceEqDiff, Nat.reduceAdd, Nat.reduceMul, Nat.reduceBEq, reduceCtorEq, len26] <;> rfl) ?_
    refine WL_go (by simp only [ev0, ev1, ev2, ev3, ev4, Nat.reduceLT, Nat.reduceLeDiff, Nat.reduceEqDiff, Nat.reduceAdd, Nat.reduceMul, Nat.reduceBEq, reduceCtorEq, len26, len_nil] <;> rfl) (Nat.le_of_ble_eq_true rfl) ?_
    refine WL_ex (fid := none) (ob := .gone) (Does_append_make (n := n) (tdOf_ok _) rfl td26 rfl td3 rfl td3 rfl (by decide) (by simp only [ev0, ev1, ev2, ev3, ev4, Nat.reduceLT, Nat.reduceLeDiff, Nat.reduceEqDiff, Nat.reduceAdd, Nat.reduceMul, Nat.reduceBEq, reduceCtorEq, len26] <;> rfl) (by simp only [ev0, ev1, ev2, ev3, ev4, Nat.reduceLT, Nat.reduceLeDiff, Nat.reduceEqDiff, Nat.reduceAdd, Nat.reduceMul, Nat.reduceBEq, reduceCtorEq, len26] <;> rfl) (by omega) (by omega) (by omega)) (by intro c hc; cases hc) (.inl rfl) (by intro id hid; cases hid) (by simp only [ev0, ev1, ev2, ev3, ev4, Nat.reduceLT, Nat.reduceLeDiff, Nat.reduceEqDiff, Nat.reduceAdd, Nat.reduceMul, Nat.reduceBEq, reduceCtorEq, len26] <;> rfl) ?_
    refine WL_go (by simp only [ev0, ev1, ev2, ev3, ev4, Nat.reduceLT, Nat.reduceLeDiff, Nat.reduceEqDiff, Nat.reduceAdd, Nat.reduceMul, Nat.reduceBEq, reduceCtorEq, len26, len_nil] <;> rfl) (Nat.le_of_ble_eq_true rfl) ?_
    refine WL_ex (fid := none) (ob := .gone) (Does_slice_os0 (tdOf_ok _) rfl td26 rfl td3 (by simp only [ev0, ev1, ev2, ev3, ev4, Nat.reduceLT, Nat.reduceLeDiff, Nat.reduceEqDiff, Nat.reduceAdd, Nat.reduceMul, Nat.reduceBEq, reduceCtorEq, len26] <;> rfl) (by simp only [ev0, ev1, ev2, ev3, ev4, Nat.reduceLT, Nat.reduceLeDiff, Nat.reduceEqDiff, Nat.reduceAdd, Nat.reduceMul, Nat.reduceBEq, reduceCtorEq, len26] <;> rfl)) (by intro c hc; cases hc) (.inl rfl) (by intro id hid; cases hid) (by simp only [ev0, ev1, ev2, ev3, ev4, Nat.reduceLT, Nat.reduceLeDiff, Nat.reduceEqDiff, Nat.reduceAdd, Nat.reduceMul, Nat.reduceBEq, reduceCtorEq, len26] <;> rfl) ?_
    refine WL_go (by simp only [ev0, ev1, ev2, ev3, ev4, Nat.reduceLT, Nat.reduceLeDiff, Nat.reduceEqDiff, Nat.reduceAdd, Nat.reduceMul, Nat.reduceBEq, reduceCtorEq, len26, len_nil] <;> rfl) (Nat.le_of_ble_eq_true rfl) ?_
    refine WL_endk (ks := [0]) (by simp only [ev0, ev4, Nat.reduceEqDiff] <;> rfl) ?_
    with_reducible repeat (first | refine n1 ?_ | refine n2 ?_ | refine n3 ?_ | refine n4 ?_ | refine n5 ?_ | refine n6 ?_ | refine n7 rfl ?_ | refine W_seq ?_ | refine W_block ?_ | refine W_skip ?_ | refine W_exit ?_ | refine W_ret ?_)
    refine W_go (by simp only [ev0, ev1, ev2, ev3, ev4, Nat.reduceLT, Nat.reduceLeDiff, Nat.reduceEqDiff, Nat.reduceAdd, Nat.reduceMul, Nat.reduceBEq, reduceCtorEq, len26] <;> rfl) (Nat.le_of_ble_eq_true rfl) ?_
    refine WL_endk (ks := [4]) (by simp only [ev0, ev4, Nat.reduceEqDiff] <;> rfl) ?_
    with_reducible repeat (first | refine n1 ?_ | refine n2 ?_ | refine n3 ?_ | refine n4 ?_ | refine n5 ?_ | refine n6 ?_ | refine n7 rfl ?_ | refine W_seq ?_ | refine W_block ?_ | refine W_skip ?_ | refine W_exit ?_ | refine W_ret ?_)
    refine Fin_ext [.arr 3 1 []] _ (by first | exact .inl rfl | exact .inr rfl) rfl (by simp only [Tryd.results47, vres, vresL, vres1, one_, vload_eq, Option.map_some, ev0, ev3, ev4, Nat.reduceEqDiff, Nat.reduceAdd, Nat.reduceLeDiff] <;> rfl) rfl (by simp only [one_, rf_c, rf_any, rf_sl, rf_ptr, rf_fn, rf_agg, rf_tup, rf, List.map_cons, List.map_nil] <;> rfl) hk ?_ ?_ ?_
    · simp [OkO]
    · simp
    · exact ⟨by simp, rfl⟩

theorem f40_ok {G} (n : Nat) (h : Hp) (hn : n * 40 ≤ 140737488355328) : VCall Tryd.prog G (.fn 40 []) [.c (.slice none 0 0), .c (.int .i64 n)] h (fun r h' => r = .os (List.length h) 0 ∧ h' = h ++ [.arr 29 5 []]) := by
  refine VCall_fn' (tdOf_ok _) Tryd.func40 rfl (by rfl) 27 rfl (by simp) (by simp only [ents, List.cons_append, List.nil_append, List.append_nil] <;> rfl) (fun hk ha hc => ?_)
  with_reducible repeat (first | refine n1 ?_ | refine n2 ?_ | refine n3 ?_ | refine n4 ?_ | refine n5 ?_ | refine n6 ?_ | refine n7 rfl ?_ | refine W_seq ?_ | refine W_block ?_ | refine W_skip ?_ | refine W_exit ?_ | refine W_ret ?_)
  have h1 : decide ((n : Int) < 0) = false := by simp
  have h2 : IntKind.i64.wrap ((n : Int) - 0) = n := by rw [Int.sub_zero, wrap64 (by omega) (by omega)]
  refine W_go (by simp only [ev0, ev1, ev2, ev3, ev4, Nat.reduceLT, Nat.reduceLeDiff, Nat.reduceEqDiff, Nat.reduceAdd, Nat.reduceMul, Nat.reduceBEq, reduceCtorEq, len22] <;> rfl) (Nat.le_of_ble_eq_true rfl) ?_
  refine WL_end ?_
  with_reducible repeat (first | refine n1 ?_ | refine n2 ?_ | refine n3 ?_ | refine n4 ?_ | refine n5 ?_ | refine n6 ?_ | refine n7 rfl ?_ | refine W_seq ?_ | refine W_block ?_ | refine W_skip ?_ | refine W_exit ?_ | refine W_ret ?_)
  refine W_go (by simp only [ev0, ev1, ev2, ev3, ev4, Nat.reduceLT, Nat.reduceLeDiff, Nat.reduceEqDiff, Nat.reduceAdd, Nat.reduceMul, Nat.reduceBEq, reduceCtorEq, len22, h1] <;> rfl) (Nat.le_of_ble_eq_true rfl) ?_
  refine WL_endk (ks := [0, 1, 6]) (by simp only [ev0, ev4, Nat.reduceEqDiff] <;> rfl) ?_
  with_reducible repeat (first | refine n1 ?_ | refine n2 ?_ | refine n3 ?_ | refine n4 ?_ | refine n5 ?_ | refine n6 ?_ | refine n7 rfl ?_ | refine W_seq ?_ | refine W_block ?_ | refine W_skip ?_ | refine W_exit ?_ | refine W_ret ?_)
  refine W_false rfl ?_
  with_reducible repeat (first | refine n1 ?_ | refine n2 ?_ | refine n3 ?_ | refine n4 ?_ | refine n5 ?_ | refine n6 ?_ | refine n7 rfl ?_ | refine W_seq ?_ | refine W_block ?_ | refine W_skip ?_ | refine W_exit ?_ | refine W_ret ?_)
  refine W_go (by simp only [ev0, ev1, ev2, ev3, ev4, Nat.reduceLT, Nat.reduceLeDiff, Nat.reduceEqDiff, Nat.reduceAdd, Nat.reduceMul, Nat.reduceBEq, reduceCtorEq, len22] <;> rfl) (Nat.le_of_ble_eq_true rfl) ?_
  refine WL_ex (fid := none) (ob := .gone) (Does_cap_nil (tdOf_ok _) rfl td22 rfl (by simp only [ev0, ev1, ev2, ev3, ev4, Nat.reduceLT, Nat.reduceLeDiff, Nat.reduceEqDiff, Nat.reduceAdd, Nat.reduceMul, Nat.reduceBEq, reduceCtorEq, len22] <;> rfl)) (by intro c hc; cases hc) (.inl rfl) (by intro id hid; cases hid) (by simp only [ev0, ev1, ev2, ev3, ev4, Nat.reduceLT, Nat.reduceLeDiff, Nat.reduceEqDiff, Nat.reduceAdd, Nat.reduceMul, Nat.reduceBEq, reduceCtorEq, len22] <;> rfl) ?_
  refine WL_go (by simp only [ev0, ev1, ev2, ev3, ev4, Nat.reduceLT, Nat.reduceLeDiff, Nat.reduceEqDiff, Nat.reduceAdd, Nat.reduceMul, Nat.reduceBEq, reduceCtorEq, len22, len_nil, wsub00, h2] <;> rfl) (Nat.le_of_ble_eq_true rfl) ?_
  refine WL_endk (ks := [0, 1]) (by simp only [ev0, ev4, Nat.reduceEqDiff] <;> rfl) ?_
  with_reducible repeat (first | refine n1 ?_ | refine n2 ?_ | refine n3 ?_ | refine n4 ?_ | refine n5 ?_ | refine n6 ?_ | refine n7 rfl ?_ | refine W_seq ?_ | refine W_block ?_ | refine W_skip ?_ | refine W_exit ?_ | refine W_ret ?_)
  by_cases h0 : n = 0
  · have h3 : decide ((n : Int) > 0) = false := by simp; omega
    refine W_go (by simp only [ev0, ev1, ev2, ev3, ev4, Nat.reduceLT, Nat.reduceLeDiff, Nat.reduceEqDiff, Nat.reduceAdd, Nat.reduceMul, Nat.reduceBEq, reduceCtorEq, len22, h3] <;> rfl) (Nat.le_of_ble_eq_true rfl) ?_
    refine WL_endk (ks := [0, 16]) (by simp only [ev0, ev4, Nat.reduceEqDiff] <;> rfl) ?_
    with_reducible repeat (first | refine n1 ?_ | refine n2 ?_ | refine n3 ?_ | refine n4 ?_ | refine n5 ?_ | refine n6 ?_ | refine n7 rfl ?_ | refine W_seq ?_ | refine W_block ?_ | refine W_skip ?_ | refine W_exit ?_ | refine W_ret ?_)
    refine W_false rfl ?_
    with_reducible repeat (first | refine n1 ?_ | refine n2 ?_ | refine n3 ?_ | refine n4 ?_ | refine n5 ?_ | refine n6 ?_ | refine n7 rfl ?_ | refine W_seq ?_ | refine W_block ?_ | refine W_skip ?_ | refine W_exit ?_ | refine W_ret ?_)
    refine W_keep' (ks := [0]) (by simp only [ev0, ev4, Nat.reduceEqDiff] <;> rfl) ?_
    refine W_nil 29 5 ?_
    refine W_go (by simp only [ev0, ev1, ev2, ev3, ev4, Nat.reduceLT, Nat.reduceLeDiff, Nat.reduceEqDiff, Nat.reduceAdd, Nat.reduceMul, Nat.reduceBEq, reduceCtorEq, len22] <;> rfl) (Nat.le_of_ble_eq_true rfl) ?_
    refine WL_endk (ks := [4]) (by simp only [ev0, ev4, Nat.reduceEqDiff] <;> rfl) ?_
    with_reducible repeat (first | refine n1 ?_ | refine n2 ?_ | refine n3 ?_ | refine n4 ?_ | refine n5 ?_ | refine n6 ?_ | refine n7 rfl ?_ | refine W_seq ?_ | refine W_block ?_ | refine W_skip ?_ | refine W_exit ?_ | refine W_ret ?_)
    refine Fin_ext [.arr 29 5 []] _ (by first | exact .inl rfl | exact .inr rfl) rfl (by simp only [Tryd.results40, vres, vresL, vres1, one_, vload_eq, Option.map_some, ev0, ev3, ev4, Nat.reduceEqDiff, Nat.reduceAdd, Nat.reduceLeDiff] <;> rfl) rfl (by simp only [one_, rf_c, rf_any, rf_sl, rf_ptr, rf_fn, rf_agg, rf_tup, rf, List.map_cons, List.map_nil] <;> rfl) hk ?_ ?_ ?_
    · simp [OkO]
    · simp
    · exact ⟨by simp, rfl⟩
  · have h3 : decide ((n : Int) > 0) = true := by simp; omega
    refine W_go (by simp only [ev0, ev1, ev2, ev3, ev4, Nat.reduceLT, Nat.reduceLeDiff, Nat.reduceEqDiff, Nat.reduceAdd, Nat.reduceMul, Nat.reduceBEq, reduceCtorEq, len22, h3] <;> rfl) (Nat.le_of_ble_eq_true rfl) ?_
    refine WL_endk (ks := [0, 1, 16]) (by simp only [ev0, ev4, Nat.reduceEqDiff] <;> rfl) ?_
    with_reducible repeat (first | refine n1 ?_ | refine n2 ?_ | refine n3 ?_ | refine n4 ?_ | refine n5 ?_ | refine n6 ?_ | refine n7 rfl ?_ | refine W_seq ?_ | refine W_block ?_ | refine W_skip ?_ | refine W_exit ?_ | refine W_ret ?_)
    refine W_true rfl ?_
    with_reducible repeat (first | refine n1 ?_ | refine n2 ?_ | refine n3 ?_ | refine n4 ?_ | refine n5 ?_ | refine n6 ?_ | refine n7 rfl ?_ | refine W_seq ?_ | refine W_block ?_ | refine W_skip ?_ | refine W_exit ?_ | refine W_ret ?_)
    refine W_go (by simp only [ev0, ev1, ev2, ev3, ev4, Nat.reduceLT, Nat.reduceLeDiff, Nat.reduceEqDiff, Nat.reduceAdd, Nat.reduceMul, Nat.reduceBEq, reduceCtorEq, len22] <;> rfl) (Nat.le_of_ble_eq_true rfl) ?_
    refine WL_ex (fid := none) (ob := .gone) (Does_cap_nil (tdOf_ok _) rfl td22 rfl (by simp only [ev0, ev1, ev2, ev3, ev4, Nat.reduceLT, Nat.reduceLeDiff, Nat.reduceEqDiff, Nat.reduceAdd, Nat.reduceMul, Nat.reduceBEq, reduceCtorEq, len22] <;> rfl)) (by intro c hc; cases hc) (.inl rfl) (by intro id hid; cases hid) (by simp only [ev0, ev1, ev2, ev3, ev4, Nat.reduceLT, Nat.reduceLeDiff, Nat.reduceEqDiff, Nat.reduceAdd, Nat.reduceMul, Nat.reduceBEq, reduceCtorEq, len22] <;> rfl) ?_
    refine WL_go (by simp only [ev0, ev1, ev2, ev3, ev4, Nat.reduceLT, Nat.reduceLeDiff, Nat.reduceEqDiff, Nat.reduceAdd, Nat.reduceMul, Nat.reduceBEq, reduceCtorEq, len22, len_nil] <;> rfl) (Nat.le_of_ble_eq_true rfl) ?_
    refine WL_ex (fid := none) (ob := .gone) (Does_slice_nil (tdOf_ok _) rfl td22 rfl td29 (by simp only [ev0, ev1, ev2, ev3, ev4, Nat.reduceLT, Nat.reduceLeDiff, Nat.reduceEqDiff, Nat.reduceAdd, Nat.reduceMul, Nat.reduceBEq, reduceCtorEq, len22] <;> rfl) (by simp only [ev0, ev1, ev2, ev3, ev4, Nat.reduceLT, Nat.reduceLeDiff, Nat.reduceEqDiff, Nat.reduceAdd, Nat.reduceMul, Nat.reduceBEq, reduceCtorEq, len22] <;> rfl)) (by intro c hc; cases hc) (.inl rfl) (by intro id hid; cases hid) (by simp only [ev0, ev1, ev2, ev3, ev4, Nat.reduceLT, Nat.reduceLeDiff, Nat.reduceEqDiff, Nat.reduceAdd, Nat.reduceMul, Nat.reduceBEq, reduceCtorEq, len22] <;> rfl) ?_
    refine WL_go (by simp only [ev0, ev1, ev2, ev3, ev4, Nat.reduceLT, Nat.reduceLeDiff, Nat.reduceEqDiff, Nat.reduceAdd, Nat.reduceMul, Nat.reduceBEq, reduceCtorEq, len22, len_nil] <;> rfl) (Nat.le_of_ble_eq_true rfl) ?_
    refine WL_ex (fid := none) (ob := .gone) (Does_append_make (n := n) (tdOf_ok _) rfl td22 rfl td3 rfl td29 rfl (by decide) (by simp only [ev0, ev1, ev2, ev3, ev4, Nat.reduceLT, Nat.reduceLeDiff, Nat.reduceEqDiff, Nat.reduceAdd, Nat.reduceMul, Nat.reduceBEq, reduceCtorEq, len22] <;> rfl) (by simp only [ev0, ev1, ev2, ev3, ev4, Nat.reduceLT, Nat.reduceLeDiff, Nat.reduceEqDiff, Nat.reduceAdd, Nat.reduceMul, Nat.reduceBEq, reduceCtorEq, len22] <;> rfl) (by omega) (by omega) (by omega)) (by intro c hc; cases hc) (.inl rfl) (by intro id hid; cases hid) (by simp only [ev0, ev1, ev2, ev3, ev4, Nat.reduceLT, Nat.reduceLeDiff, Nat.reduceEqDiff, Nat.reduceAdd, Nat.reduceMul, Nat.reduceBEq, reduceCtorEq, len22] <;> rfl) ?_
    refine WL_go (by simp only [ev0, ev1, ev2, ev3, ev4, Nat.reduceLT, Nat.reduceLeDiff, Nat.reduceEqDiff, Nat.reduceAdd, Nat.reduceMul, Nat.reduceBEq, reduceCtorEq, len22, len_nil] <;> rfl) (Nat.le_of_ble_eq_true rfl) ?_
    refine WL_ex (fid := none) (ob := .gone) (Does_slice_os0 (tdOf_ok _) rfl td22 rfl td29 (by simp only [ev0, ev1, ev2, ev3, ev4, Nat.reduceLT, Nat.reduceLeDiff, Nat.reduceEqDiff, Nat.reduceAdd, Nat.reduceMul, Nat.reduceBEq, reduceCtorEq, len22] <;> rfl) (by simp only [ev0, ev1, ev2, ev3, ev4, Nat.reduceLT, Nat.reduceLeDiff, Nat.reduceEqDiff, Nat.reduceAdd, Nat.reduceMul, Nat.reduceBEq, reduceCtorEq, len22] <;> rfl)) (by intro c hc; cases hc) (.inl rfl) (by intro id hid; cases hid) (by simp only [ev0, ev1, ev2, ev3, ev4, Nat.reduceLT, Nat.reduceLeDiff, Nat.reduceEqDiff, Nat.reduceAdd, Nat.reduceMul, Nat.reduceBEq, reduceCtorEq, len22] <;> rfl) ?_
    refine WL_go (by simp only [ev0, ev1, ev2, ev3, ev4, Nat.reduceLT, Nat.reduceLeDiff, Nat.reduceEqDiff, Nat.reduceAdd, Nat.reduceMul, Nat.reduceBEq, reduceCtorEq, len22, len_nil] <;> rfl) (Nat.le_of_ble_eq_true rfl) ?_
    refine WL_endk (ks := [0]) (by simp only [ev0, ev4, Nat.reduceEqDiff] <;> rfl) ?_
    with_reducible repeat (first | refine n1 ?_ | refine n2 ?_ | refine n3 ?_ | refine n4 ?_ | refine n5 ?_ | refine n6 ?_ | refine n7 rfl ?_ | refine W_seq ?_ | refine W_block ?_ | refine W_skip ?_ | refine W_exit ?_ | refine W_ret ?_)
    refine W_go (by simp only [ev0, ev1, ev2, ev3, ev4, Nat.reduceLT, Nat.reduceLeDiff, Nat.reduceEqDiff, Nat.reduceAdd, Nat.reduceMul, Nat.reduceBEq, reduceCtorEq, len22] <;> rfl) (Nat.le_of_ble_eq_true rfl) ?_
    refine WL_endk (ks := [4]) (by simp only [ev0, ev4, Nat.reduceEqDiff] <;> rfl) ?_
    with_reducible repeat (first | refine n1 ?_ | refine n2 ?_ | refine n3 ?_ | refine n4 ?_ | refine n5 ?_ | refine n6 ?_ | refine n7 rfl ?_ | refine W_seq ?_ | refine W_block ?_ | refine W_skip ?_ | refine W_exit ?_ | refine W_ret ?_)
    refine Fin_ext [.arr 29 5 []] _ (by first | exact .inl rfl | exact .inr rfl) rfl (by simp only [Tryd.results40, vres, vresL, vres1, one_, vload_eq, Option.map_some, ev0, ev3, ev4, Nat.reduceEqDiff, Nat.reduceAdd, Nat.reduceLeDiff] <;> rfl) rfl (by simp only [one_, rf_c, rf_any, rf_sl, rf_ptr, rf_fn, rf_agg, rf_tup, rf, List.map_cons, List.map_nil] <;> rfl) hk ?_ ?_ ?_
    · simp [OkO]
    · simp
    · exact ⟨by simp, rfl⟩
def tot (a b : Int) : Nat → Int
  | 0 => 0
  | 1 => a
  | _ + 2 => a + b
theorem two0 {α : Type} (a b : α) : [a, b][0]? = some a := rfl
theorem two1 {α : Type} (a b : α) : [a, b][1]? = some b := rfl

theorem rf_os_ext {h ext : Hp} {j len e sz : Nat} {xs : List (List Val)} (hg : Hp.get ext j = .arr e sz xs) (hl : len ≤ xs.length) : rf (List.length h) (h ++ ext) (.os (List.length h + j) len) = .sl sz (xs.take len) := by
  simp only [rf, get_append_r, hg, hl, if_true]
  rw [if_neg (by omega)]

theorem ok_iv {D : Nat → Prop} (xs : List Int) : Ok D (.sl 1 (xs.map iv)) := by
  rw [Ok_sl]
  intro x hx d hd
  obtain ⟨a, _, rfl⟩ := List.mem_map.1 hx
  simp [iv] at hd; subst hd; exact Ok_c _
theorem ok_cellV {D : Nat → Prop} (xs : List Cell) : Ok D (.sl 5 (xs.map cellV)) := by
  rw [Ok_sl]
  intro x hx d hd
  obtain ⟨a, _, rfl⟩ := List.mem_map.1 hx
  simp [cellV] at hd
  rcases hd with rfl | rfl | rfl | rfl | rfl <;> exact Ok_c _

theorem f47_0 {G} (n : Nat) (h : Hp) (hn : n * 8 ≤ 140737488355328) : VCall Tryd.prog G (.fn 47 []) [.c (.slice none 0 0), .c (.int .i64 n)] (h ++ []) (fun r h' => r = .os (List.length h) 0 ∧ h' = h ++ [.arr 3 1 []]) := by
  simpa using f47_ok n h hn
theorem f40_0 {G} (n : Nat) (h : Hp) (hn : n * 40 ≤ 140737488355328) : VCall Tryd.prog G (.fn 40 []) [.c (.slice none 0 0), .c (.int .i64 n)] (h ++ []) (fun r h' => r = .os (List.length h) 0 ∧ h' = h ++ [.arr 29 5 []]) := by
  simpa using f40_ok n h hn

theorem f37_ok {G} (xs ys : List Int) (h : Hp) (hl1 : xs.length ≤ 100000) (hl2 : ys.length ≤ 100000) : VPure Tryd.prog G (.fn 37 []) [.sl 1 [[.sl 1 (xs.map iv)], [.sl 1 (ys.map iv)]]] h (.sl 1 ((xs ++ ys).map iv)) := by
  refine VCall_fn' (tdOf_ok _) Tryd.func37 rfl (by rfl) 36 rfl (by simp) (by simp only [ents, List.cons_append, List.nil_append, List.append_nil] <;> rfl) (fun hk ha hc => ?_)
  with_reducible repeat (first | refine n1 ?_ | refine n2 ?_ | refine n3 ?_ | refine n4 ?_ | refine n5 ?_ | refine n6 ?_ | refine n7 rfl ?_ | refine W_seq ?_ | refine W_block ?_ | refine W_skip ?_ | refine W_exit ?_ | refine W_ret ?_)
  have q0 : xs.length * 8 ≤ 140737488355328 ∧ xs.length ≤ 140737488355328 := by omega
  have q1 : (xs.length + ys.length) * 8 ≤ 140737488355328 ∧ xs.length + ys.length ≤ 140737488355328 := by omega
  have w0 : IntKind.i64.wrap (tot xs.length ys.length 0 + (xs.length : Int)) = xs.length := by simp only [tot]; rw [Int.zero_add, wrap64 (by omega) (by omega)]
  have w1 : IntKind.i64.wrap (tot xs.length ys.length 1 + (ys.length : Int)) = tot xs.length ys.length 2 := by simp only [tot]; rw [wrap64 (by omega) (by omega)]
  have wt : tot xs.length ys.length 2 = ((xs.length + ys.length : Nat) : Int) := by simp only [tot]; push_cast; rfl
  refine W_go (by simp only [ev0, ev1, ev2, ev3, ev4, Nat.reduceLT, Nat.reduceLeDiff, Nat.reduceEqDiff, Nat.reduceAdd, Nat.reduceMul, Nat.reduceBEq, reduceCtorEq, len69, ix69, ld26, len26, apd26] <;> rfl) (Nat.le_of_ble_eq_true rfl) ?_
  refine WL_end ?_
  with_reducible repeat (first | refine n1 ?_ | refine n2 ?_ | refine n3 ?_ | refine n4 ?_ | refine n5 ?_ | refine n6 ?_ | refine n7 rfl ?_ | refine W_seq ?_ | refine W_block ?_ | refine W_skip ?_ | refine W_exit ?_ | refine W_ret ?_)
  refine W_go (by simp only [ev0, ev1, ev2, ev3, ev4, Nat.reduceLT, Nat.reduceLeDiff, Nat.reduceEqDiff, Nat.reduceAdd, Nat.reduceMul, Nat.reduceBEq, reduceCtorEq, len69, ix69, ld26, len26, apd26] <;> rfl) (Nat.le_of_ble_eq_true rfl) ?_
  refine WL_endk (ks := [0, 3]) (by simp only [ev0, ev4, Nat.reduceEqDiff] <;> rfl) ?_
  with_reducible repeat (first | refine n1 ?_ | refine n2 ?_ | refine n3 ?_ | refine n4 ?_ | refine n5 ?_ | refine n6 ?_ | refine n7 rfl ?_ | refine W_seq ?_ | refine W_block ?_ | refine W_skip ?_ | refine W_exit ?_ | refine W_ret ?_)
  refine W_go (by simp only [ev0, ev1, ev2, ev3, ev4, Nat.reduceLT, Nat.reduceLeDiff, Nat.reduceEqDiff, Nat.reduceAdd, Nat.reduceMul, Nat.reduceBEq, reduceCtorEq, len69, ix69, ld26, len26, apd26] <;> rfl) (Nat.le_of_ble_eq_true rfl) ?_
  refine WL_endk (ks := [0, 3, 9, 10, 11]) (by simp only [ev0, ev4, Nat.reduceEqDiff] <;> rfl) ?_
  with_reducible repeat (first | refine n1 ?_ | refine n2 ?_ | refine n3 ?_ | refine n4 ?_ | refine n5 ?_ | refine n6 ?_ | refine n7 rfl ?_ | refine W_seq ?_ | refine W_block ?_ | refine W_skip ?_ | refine W_exit ?_ | refine W_ret ?_)
  refine W_loopS (fun k : Nat => ⟨36, [(0, .sl 1 [[.sl 1 (xs.map iv)], [.sl 1 (ys.map iv)]]), (3, .c (.int .i64 (tot xs.length ys.length k))), (9, .sl 1 [[.sl 1 (xs.map iv)], [.sl 1 (ys.map iv)]]), (10, .c (.int .i64 2)), (11, .c (.int .i64 k))], h ++ [], []⟩) (fun k => k ≤ 2) (fun k => 2 - k) 0 (by simp) rfl (fun k hI => ?_)
  obtain rfl | rfl | rfl : k = 0 ∨ k = 1 ∨ k = 2 := by omega
  · with_reducible repeat (first | refine n1 ?_ | refine n2 ?_ | refine n3 ?_ | refine n4 ?_ | refine n5 ?_ | refine n6 ?_ | refine n7 rfl ?_ | refine W_seq ?_ | refine W_block ?_ | refine W_skip ?_ | refine W_exit ?_ | refine W_ret ?_)
    refine W_go (by simp only [ev0, ev1, ev2, ev3, ev4, Nat.reduceLT, Nat.reduceLeDiff, Nat.reduceEqDiff, Nat.reduceAdd, Nat.reduceMul, Nat.reduceBEq, reduceCtorEq, len69, ix69, ld26, len26, apd26] <;> rfl) (Nat.le_of_ble_eq_true rfl) ?_
    refine WL_end ?_
    with_reducible repeat (first | refine n1 ?_ | refine n2 ?_ | refine n3 ?_ | refine n4 ?_ | refine n5 ?_ | refine n6 ?_ | refine n7 rfl ?_ | refine W_seq ?_ | refine W_block ?_ | refine W_skip ?_ | refine W_exit ?_ | refine W_ret ?_)
    refine W_true rfl ?_
    with_reducible repeat (first | refine n1 ?_ | refine n2 ?_ | refine n3 ?_ | refine n4 ?_ | refine n5 ?_ | refine n6 ?_ | refine n7 rfl ?_ | refine W_seq ?_ | refine W_block ?_ | refine W_skip ?_ | refine W_exit ?_ | refine W_ret ?_)
    refine W_go (by simp only [ev0, ev1, ev2, ev3, ev4, Nat.reduceLT, Nat.reduceLeDiff, Nat.reduceEqDiff, Nat.reduceAdd, Nat.reduceMul, Nat.reduceBEq, reduceCtorEq, len69, ix69, ld26, len26, apd26, two0, Int.toNat_natCast] <;> rfl) (Nat.le_of_ble_eq_true rfl) ?_
    refine WL_endk (ks := [0, 3, 5, 9, 10, 11]) (by simp only [ev0, ev4, Nat.reduceEqDiff] <;> rfl) ?_
    with_reducible repeat (first | refine n1 ?_ | refine n2 ?_ | refine n3 ?_ | refine n4 ?_ | refine n5 ?_ | refine n6 ?_ | refine n7 rfl ?_ | refine W_seq ?_ | refine W_block ?_ | refine W_skip ?_ | refine W_exit ?_ | refine W_ret ?_)
    refine W_go (by simp only [ev0, ev1, ev2, ev3, ev4, Nat.reduceLT, Nat.reduceLeDiff, Nat.reduceEqDiff, Nat.reduceAdd, Nat.reduceMul, Nat.reduceBEq, reduceCtorEq, len69, ix69, ld26, len26, apd26] <;> rfl) (Nat.le_of_ble_eq_true rfl) ?_
    refine WL_endk (ks := [0, 3, 5, 9, 10, 11]) (by simp only [ev0, ev4, Nat.reduceEqDiff] <;> rfl) ?_
    with_reducible repeat (first | refine n1 ?_ | refine n2 ?_ | refine n3 ?_ | refine n4 ?_ | refine n5 ?_ | refine n6 ?_ | refine n7 rfl ?_ | refine W_seq ?_ | refine W_block ?_ | refine W_skip ?_ | refine W_exit ?_ | refine W_ret ?_)
    refine W_go (by simp only [ev0, ev1, ev2, ev3, ev4, Nat.reduceLT, Nat.reduceLeDiff, Nat.reduceEqDiff, Nat.reduceAdd, Nat.reduceMul, Nat.reduceBEq, reduceCtorEq, len69, ix69, ld26, len26, apd26, w0] <;> rfl) (Nat.le_of_ble_eq_true rfl) ?_
    refine WL_endk (ks := [0, 3, 9, 10, 11, 20]) (by simp only [ev0, ev4, Nat.reduceEqDiff] <;> rfl) ?_
    with_reducible repeat (first | refine n1 ?_ | refine n2 ?_ | refine n3 ?_ | refine n4 ?_ | refine n5 ?_ | refine n6 ?_ | refine n7 rfl ?_ | refine W_seq ?_ | refine W_block ?_ | refine W_skip ?_ | refine W_exit ?_ | refine W_ret ?_)
    refine W_cond rfl (fun hb => by simp at hb; omega) (fun _ => ?_)
    with_reducible repeat (first | refine n1 ?_ | refine n2 ?_ | refine n3 ?_ | refine n4 ?_ | refine n5 ?_ | refine n6 ?_ | refine n7 rfl ?_ | refine W_seq ?_ | refine W_block ?_ | refine W_skip ?_ | refine W_exit ?_ | refine W_ret ?_)
    refine W_go (by simp only [ev0, ev1, ev2, ev3, ev4, Nat.reduceLT, Nat.reduceLeDiff, Nat.reduceEqDiff, Nat.reduceAdd, Nat.reduceMul, Nat.reduceBEq, reduceCtorEq, len69, ix69, ld26, len26, apd26] <;> rfl) (Nat.le_of_ble_eq_true rfl) ?_
    refine WL_endk (ks := [0, 3, 9, 10, 11]) (by simp only [ev0, ev4, Nat.reduceEqDiff] <;> rfl) ?_
    with_reducible repeat (first | refine n1 ?_ | refine n2 ?_ | refine n3 ?_ | refine n4 ?_ | refine n5 ?_ | refine n6 ?_ | refine n7 rfl ?_ | refine W_seq ?_ | refine W_block ?_ | refine W_skip ?_ | refine W_exit ?_ | refine W_ret ?_)
    exact ⟨1, rfl, by omega, by omega⟩
  · with_reducible repeat (first | refine n1 ?_ | refine n2 ?_ | refine n3 ?_ | refine n4 ?_ | refine n5 ?_ | refine n6 ?_ | refine n7 rfl ?_ | refine W_seq ?_ | refine W_block ?_ | refine W_skip ?_ | refine W_exit ?_ | refine W_ret ?_)
    refine W_go (by simp only [ev0, ev1, ev2, ev3, ev4, Nat.reduceLT, Nat.reduceLeDiff, Nat.reduceEqDiff, Nat.reduceAdd, Nat.reduceMul, Nat.reduceBEq, reduceCtorEq, len69, ix69, ld26, len26, apd26] <;> rfl) (Nat.le_of_ble_eq_true rfl) ?_
    refine WL_end ?_
    with_reducible repeat (first | refine n1 ?_ | refine n2 ?_ | refine n3 ?_ | refine n4 ?_ | refine n5 ?_ | refine n6 ?_ | refine n7 rfl ?_ | refine W_seq ?_ | refine W_block ?_ | refine W_skip ?_ | refine W_exit ?_ | refine W_ret ?_)
    refine W_true rfl ?_
    with_reducible repeat (first | refine n1 ?_ | refine n2 ?_ | refine n3 ?_ | refine n4 ?_ | refine n5 ?_ | refine n6 ?_ | refine n7 rfl ?_ | refine W_seq ?_ | refine W_block ?_ | refine W_skip ?_ | refine W_exit ?_ | refine W_ret ?_)
    refine W_go (by simp only [ev0, ev1, ev2, ev3, ev4, Nat.reduceLT, Nat.reduceLeDiff, Nat.reduceEqDiff, Nat.reduceAdd, Nat.reduceMul, Nat.reduceBEq, reduceCtorEq, len69, ix69, ld26, len26, apd26, two1, Int.toNat_natCast] <;> rfl) (Nat.le_of_ble_eq_true rfl) ?_
    refine WL_endk (ks := [0, 3, 5, 9, 10, 11]) (by simp only [ev0, ev4, Nat.reduceEqDiff] <;> rfl) ?_
    with_reducible repeat (first | refine n1 ?_ | refine n2 ?_ | refine n3 ?_ | refine n4 ?_ | refine n5 ?_ | refine n6 ?_ | refine n7 rfl ?_ | refine W_seq ?_ | refine W_block ?_ | refine W_skip ?_ | refine W_exit ?_ | refine W_ret ?_)
    refine W_go (by simp only [ev0, ev1, ev2, ev3, ev4, Nat.reduceLT, Nat.reduceLeDiff, Nat.reduceEqDiff, Nat.reduceAdd, Nat.reduceMul, Nat.reduceBEq, reduceCtorEq, len69, ix69, ld26, len26, apd26] <;> rfl) (Nat.le_of_ble_eq_true rfl) ?_
    refine WL_endk (ks := [0, 3, 5, 9, 10, 11]) (by simp only [ev0, ev4, Nat.reduceEqDiff] <;> rfl) ?_
    with_reducible repeat (first | refine n1 ?_ | refine n2 ?_ | refine n3 ?_ | refine n4 ?_ | refine n5 ?_ | refine n6 ?_ | refine n7 rfl ?_ | refine W_seq ?_ | refine W_block ?_ | refine W_skip ?_ | refine W_exit ?_ | refine W_ret ?_)
    refine W_go (by simp only [ev0, ev1, ev2, ev3, ev4, Nat.reduceLT, Nat.reduceLeDiff, Nat.reduceEqDiff, Nat.reduceAdd, Nat.reduceMul, Nat.reduceBEq, reduceCtorEq, len69, ix69, ld26, len26, apd26, w1] <;> rfl) (Nat.le_of_ble_eq_true rfl) ?_
    refine WL_endk (ks := [0, 3, 9, 10, 11, 20]) (by simp only [ev0, ev4, Nat.reduceEqDiff] <;> rfl) ?_
    with_reducible repeat (first | refine n1 ?_ | refine n2 ?_ | refine n3 ?_ | refine n4 ?_ | refine n5 ?_ | refine n6 ?_ | refine n7 rfl ?_ | refine W_seq ?_ | refine W_block ?_ | refine W_skip ?_ | refine W_exit ?_ | refine W_ret ?_)
    refine W_cond rfl (fun hb => by simp at hb; omega) (fun _ => ?_)
    with_reducible repeat (first | refine n1 ?_ | refine n2 ?_ | refine n3 ?_ | refine n4 ?_ | refine n5 ?_ | refine n6 ?_ | refine n7 rfl ?_ | refine W_seq ?_ | refine W_block ?_ | refine W_skip ?_ | refine W_exit ?_ | refine W_ret ?_)
    refine W_go (by simp only [ev0, ev1, ev2, ev3, ev4, Nat.reduceLT, Nat.reduceLeDiff, Nat.reduceEqDiff, Nat.reduceAdd, Nat.reduceMul, Nat.reduceBEq, reduceCtorEq, len69, ix69, ld26, len26, apd26] <;> rfl) (Nat.le_of_ble_eq_true rfl) ?_
    refine WL_endk (ks := [0, 3, 9, 10, 11]) (by simp only [ev0, ev4, Nat.reduceEqDiff] <;> rfl) ?_
    with_reducible repeat (first | refine n1 ?_ | refine n2 ?_ | refine n3 ?_ | refine n4 ?_ | refine n5 ?_ | refine n6 ?_ | refine n7 rfl ?_ | refine W_seq ?_ | refine W_block ?_ | refine W_skip ?_ | refine W_exit ?_ | refine W_ret ?_)
    exact ⟨2, rfl, by omega, by omega⟩
  with_reducible repeat (first | refine n1 ?_ | refine n2 ?_ | refine n3 ?_ | refine n4 ?_ | refine n5 ?_ | refine n6 ?_ | refine n7 rfl ?_ | refine W_seq ?_ | refine W_block ?_ | refine W_skip ?_ | refine W_exit ?_ | refine W_ret ?_)
  refine W_go (by simp only [ev0, ev1, ev2, ev3, ev4, Nat.reduceLT, Nat.reduceLeDiff, Nat.reduceEqDiff, Nat.reduceAdd, Nat.reduceMul, Nat.reduceBEq, reduceCtorEq, len69, ix69, ld26, len26, apd26] <;> rfl) (Nat.le_of_ble_eq_true rfl) ?_
  refine WL_end ?_
  with_reducible repeat (first | refine n1 ?_ | refine n2 ?_ | refine n3 ?_ | refine n4 ?_ | refine n5 ?_ | refine n6 ?_ | refine n7 rfl ?_ | refine W_seq ?_ | refine W_block ?_ | refine W_skip ?_ | refine W_exit ?_ | refine W_ret ?_)
  refine W_false rfl ?_
  with_reducible repeat (first | refine n1 ?_ | refine n2 ?_ | refine n3 ?_ | refine n4 ?_ | refine n5 ?_ | refine n6 ?_ | refine n7 rfl ?_ | refine W_seq ?_ | refine W_block ?_ | refine W_skip ?_ | refine W_exit ?_ | refine W_ret ?_)
  refine W_keep' (ks := [0, 3]) (by simp only [ev0, ev4, Nat.reduceEqDiff] <;> rfl) ?_
  refine W_go (by simp only [ev0, ev1, ev2, ev3, ev4, Nat.reduceLT, Nat.reduceLeDiff, Nat.reduceEqDiff, Nat.reduceAdd, Nat.reduceMul, Nat.reduceBEq, reduceCtorEq, len69, ix69, ld26, len26, apd26, wt] <;> rfl) (Nat.le_of_ble_eq_true rfl) ?_
  refine WL_call' (f47_0 (xs.length + ys.length) h (by omega)) rfl (.inl rfl) (by simp only [ev0, ev1, ev2, ev3, ev4, Nat.reduceLT, Nat.reduceLeDiff, Nat.reduceEqDiff, Nat.reduceAdd, Nat.reduceMul, Nat.reduceBEq, reduceCtorEq, len69, ix69, ld26, len26, apd26, wt] <;> rfl) (by simp only [ev0, ev1, ev2, ev3, ev4, Nat.reduceLT, Nat.reduceLeDiff, Nat.reduceEqDiff, Nat.reduceAdd, Nat.reduceMul, Nat.reduceBEq, reduceCtorEq, len69, ix69, ld26, len26, apd26, wt] <;> rfl) rfl ?_
  rintro _ _ ⟨rfl, rfl⟩
  refine WL_go (by simp only [ev0, ev1, ev2, ev3, ev4, Nat.reduceLT, Nat.reduceLeDiff, Nat.reduceEqDiff, Nat.reduceAdd, Nat.reduceMul, Nat.reduceBEq, reduceCtorEq, len69, ix69, ld26, len26, apd26] <;> rfl) (Nat.le_of_ble_eq_true rfl) ?_
  refine WL_endk (ks := [0, 6]) (by simp only [ev0, ev4, Nat.reduceEqDiff] <;> rfl) ?_
  with_reducible repeat (first | refine n1 ?_ | refine n2 ?_ | refine n3 ?_ | refine n4 ?_ | refine n5 ?_ | refine n6 ?_ | refine n7 rfl ?_ | refine W_seq ?_ | refine W_block ?_ | refine W_skip ?_ | refine W_exit ?_ | refine W_ret ?_)
  refine W_go (by simp only [ev0, ev1, ev2, ev3, ev4, Nat.reduceLT, Nat.reduceLeDiff, Nat.reduceEqDiff, Nat.reduceAdd, Nat.reduceMul, Nat.reduceBEq, reduceCtorEq, len69, ix69, ld26, len26, apd26] <;> rfl) (Nat.le_of_ble_eq_true rfl) ?_
  refine WL_endk (ks := [0, 6, 25, 26, 27]) (by simp only [ev0, ev4, Nat.reduceEqDiff] <;> rfl) ?_
  with_reducible repeat (first | refine n1 ?_ | refine n2 ?_ | refine n3 ?_ | refine n4 ?_ | refine n5 ?_ | refine n6 ?_ | refine n7 rfl ?_ | refine W_seq ?_ | refine W_block ?_ | refine W_skip ?_ | refine W_exit ?_ | refine W_ret ?_)
  refine W_loopS (fun k : Nat => match k with
    | 0 => ⟨36, [(0, .sl 1 [[.sl 1 (xs.map iv)], [.sl 1 (ys.map iv)]]), (6, .os (List.length h) 0), (25, .sl 1 [[.sl 1 (xs.map iv)], [.sl 1 (ys.map iv)]]), (26, .c (.int .i64 2)), (27, .c (.int .i64 ((0 : Nat) : Int)))], h ++ [.arr 3 1 []], []⟩
    | 1 => ⟨36, [(0, .sl 1 [[.sl 1 (xs.map iv)], [.sl 1 (ys.map iv)]]), (6, .os (List.length h + 1) xs.length), (25, .sl 1 [[.sl 1 (xs.map iv)], [.sl 1 (ys.map iv)]]), (26, .c (.int .i64 2)), (27, .c (.int .i64 ((1 : Nat) : Int)))], h ++ [.gone, .arr 3 1 (xs.map iv)], []⟩
    | _ => ⟨36, [(0, .sl 1 [[.sl 1 (xs.map iv)], [.sl 1 (ys.map iv)]]), (6, .os (List.length h + 2) (xs.length + ys.length)), (25, .sl 1 [[.sl 1 (xs.map iv)], [.sl 1 (ys.map iv)]]), (26, .c (.int .i64 2)), (27, .c (.int .i64 ((2 : Nat) : Int)))], h ++ [.gone, .gone, .arr 3 1 (xs.map iv ++ ys.map iv)], []⟩) (fun k => k ≤ 2) (fun k => 2 - k) 0 (by simp) rfl (fun k hI => ?_)
  obtain rfl | rfl | rfl : k = 0 ∨ k = 1 ∨ k = 2 := by omega
  · with_reducible repeat (first | refine n1 ?_ | refine n2 ?_ | refine n3 ?_ | refine n4 ?_ | refine n5 ?_ | refine n6 ?_ | refine n7 rfl ?_ | refine W_seq ?_ | refine W_block ?_ | refine W_skip ?_ | refine W_exit ?_ | refine W_ret ?_)
    refine W_go (by simp only [ev0, ev1, ev2, ev3, ev4, Nat.reduceLT, Nat.reduceLeDiff, Nat.reduceEqDiff, Nat.reduceAdd, Nat.reduceMul, Nat.reduceBEq, reduceCtorEq, len69, ix69, ld26, len26, apd26] <;> rfl) (Nat.le_of_ble_eq_true rfl) ?_
    refine WL_end ?_
    with_reducible repeat (first | refine n1 ?_ | refine n2 ?_ | refine n3 ?_ | refine n4 ?_ | refine n5 ?_ | refine n6 ?_ | refine n7 rfl ?_ | refine W_seq ?_ | refine W_block ?_ | refine W_skip ?_ | refine W_exit ?_ | refine W_ret ?_)
    refine W_true rfl ?_
    with_reducible repeat (first | refine n1 ?_ | refine n2 ?_ | refine n3 ?_ | refine n4 ?_ | refine n5 ?_ | refine n6 ?_ | refine n7 rfl ?_ | refine W_seq ?_ | refine W_block ?_ | refine W_skip ?_ | refine W_exit ?_ | refine W_ret ?_)
    refine W_go (by simp only [ev0, ev1, ev2, ev3, ev4, Nat.reduceLT, Nat.reduceLeDiff, Nat.reduceEqDiff, Nat.reduceAdd, Nat.reduceMul, Nat.reduceBEq, reduceCtorEq, len69, ix69, ld26, len26, apd26, two0, Int.toNat_natCast] <;> rfl) (Nat.le_of_ble_eq_true rfl) ?_
    refine WL_endk (ks := [0, 6, 8, 25, 26, 27]) (by simp only [ev0, ev4, Nat.reduceEqDiff] <;> rfl) ?_
    with_reducible repeat (first | refine n1 ?_ | refine n2 ?_ | refine n3 ?_ | refine n4 ?_ | refine n5 ?_ | refine n6 ?_ | refine n7 rfl ?_ | refine W_seq ?_ | refine W_block ?_ | refine W_skip ?_ | refine W_exit ?_ | refine W_ret ?_)
    refine W_go (by simp only [ev0, ev1, ev2, ev3, ev4, Nat.reduceLT, Nat.reduceLeDiff, Nat.reduceEqDiff, Nat.reduceAdd, Nat.reduceMul, Nat.reduceBEq, reduceCtorEq, len69, ix69, ld26, len26, apd26, q0] <;> rfl) (Nat.le_of_ble_eq_true rfl) ?_
    refine WL_endk (ks := [0, 6, 25, 26, 27]) (by simp only [ev0, ev4, Nat.reduceEqDiff] <;> rfl) ?_
    with_reducible repeat (first | refine n1 ?_ | refine n2 ?_ | refine n3 ?_ | refine n4 ?_ | refine n5 ?_ | refine n6 ?_ | refine n7 rfl ?_ | refine W_seq ?_ | refine W_block ?_ | refine W_skip ?_ | refine W_exit ?_ | refine W_ret ?_)
    refine W_go (by simp only [ev0, ev1, ev2, ev3, ev4, Nat.reduceLT, Nat.reduceLeDiff, Nat.reduceEqDiff, Nat.reduceAdd, Nat.reduceMul, Nat.reduceBEq, reduceCtorEq, len69, ix69, ld26, len26, apd26] <;> rfl) (Nat.le_of_ble_eq_true rfl) ?_
    refine WL_endk (ks := [0, 6, 25, 26, 27]) (by simp only [ev0, ev4, Nat.reduceEqDiff] <;> rfl) ?_
    with_reducible repeat (first | refine n1 ?_ | refine n2 ?_ | refine n3 ?_ | refine n4 ?_ | refine n5 ?_ | refine n6 ?_ | refine n7 rfl ?_ | refine W_seq ?_ | refine W_block ?_ | refine W_skip ?_ | refine W_exit ?_ | refine W_ret ?_)
    exact ⟨1, rfl, by omega, by omega⟩
  · with_reducible repeat (first | refine n1 ?_ | refine n2 ?_ | refine n3 ?_ | refine n4 ?_ | refine n5 ?_ | refine n6 ?_ | refine n7 rfl ?_ | refine W_seq ?_ | refine W_block ?_ | refine W_skip ?_ | refine W_exit ?_ | refine W_ret ?_)
    refine W_go (by simp only [ev0, ev1, ev2, ev3, ev4, Nat.reduceLT, Nat.reduceLeDiff, Nat.reduceEqDiff, Nat.reduceAdd, Nat.reduceMul, Nat.reduceBEq, reduceCtorEq, len69, ix69, ld26, len26, apd26] <;> rfl) (Nat.le_of_ble_eq_true rfl) ?_
    refine WL_end ?_
    with_reducible repeat (first | refine n1 ?_ | refine n2 ?_ | refine n3 ?_ | refine n4 ?_ | refine n5 ?_ | refine n6 ?_ | refine n7 rfl ?_ | refine W_seq ?_ | refine W_block ?_ | refine W_skip ?_ | refine W_exit ?_ | refine W_ret ?_)
    refine W_true rfl ?_
    with_reducible repeat (first | refine n1 ?_ | refine n2 ?_ | refine n3 ?_ | refine n4 ?_ | refine n5 ?_ | refine n6 ?_ | refine n7 rfl ?_ | refine W_seq ?_ | refine W_block ?_ | refine W_skip ?_ | refine W_exit ?_ | refine W_ret ?_)
    refine W_go (by simp only [ev0, ev1, ev2, ev3, ev4, Nat.reduceLT, Nat.reduceLeDiff, Nat.reduceEqDiff, Nat.reduceAdd, Nat.reduceMul, Nat.reduceBEq, reduceCtorEq, len69, ix69, ld26, len26, apd26, two1, Int.toNat_natCast] <;> rfl) (Nat.le_of_ble_eq_true rfl) ?_
    refine WL_endk (ks := [0, 6, 8, 25, 26, 27]) (by simp only [ev0, ev4, Nat.reduceEqDiff] <;> rfl) ?_
    with_reducible repeat (first | refine n1 ?_ | refine n2 ?_ | refine n3 ?_ | refine n4 ?_ | refine n5 ?_ | refine n6 ?_ | refine n7 rfl ?_ | refine W_seq ?_ | refine W_block ?_ | refine W_skip ?_ | refine W_exit ?_ | refine W_ret ?_)
    refine W_go (by simp only [ev0, ev1, ev2, ev3, ev4, Nat.reduceLT, Nat.reduceLeDiff, Nat.reduceEqDiff, Nat.reduceAdd, Nat.reduceMul, Nat.reduceBEq, reduceCtorEq, len69, ix69, ld26, len26, apd26, q1, List.length_map] <;> rfl) (Nat.le_of_ble_eq_true rfl) ?_
    refine WL_endk (ks := [0, 6, 25, 26, 27]) (by simp only [ev0, ev4, Nat.reduceEqDiff] <;> rfl) ?_
    with_reducible repeat (first | refine n1 ?_ | refine n2 ?_ | refine n3 ?_ | refine n4 ?_ | refine n5 ?_ | refine n6 ?_ | refine n7 rfl ?_ | refine W_seq ?_ | refine W_block ?_ | refine W_skip ?_ | refine W_exit ?_ | refine W_ret ?_)
    refine W_go (by simp only [ev0, ev1, ev2, ev3, ev4, Nat.reduceLT, Nat.reduceLeDiff, Nat.reduceEqDiff, Nat.reduceAdd, Nat.reduceMul, Nat.reduceBEq, reduceCtorEq, len69, ix69, ld26, len26, apd26] <;> rfl) (Nat.le_of_ble_eq_true rfl) ?_
    refine WL_endk (ks := [0, 6, 25, 26, 27]) (by simp only [ev0, ev4, Nat.reduceEqDiff] <;> rfl) ?_
    with_reducible repeat (first | refine n1 ?_ | refine n2 ?_ | refine n3 ?_ | refine n4 ?_ | refine n5 ?_ | refine n6 ?_ | refine n7 rfl ?_ | refine W_seq ?_ | refine W_block ?_ | refine W_skip ?_ | refine W_exit ?_ | refine W_ret ?_)
    exact ⟨2, rfl, by omega, by omega⟩
  with_reducible repeat (first | refine n1 ?_ | refine n2 ?_ | refine n3 ?_ | refine n4 ?_ | refine n5 ?_ | refine n6 ?_ | refine n7 rfl ?_ | refine W_seq ?_ | refine W_block ?_ | refine W_skip ?_ | refine W_exit ?_ | refine W_ret ?_)
  refine W_go (by simp only [ev0, ev1, ev2, ev3, ev4, Nat.reduceLT, Nat.reduceLeDiff, Nat.reduceEqDiff, Nat.reduceAdd, Nat.reduceMul, Nat.reduceBEq, reduceCtorEq, len69, ix69, ld26, len26, apd26] <;> rfl) (Nat.le_of_ble_eq_true rfl) ?_
  refine WL_end ?_
  with_reducible repeat (first | refine n1 ?_ | refine n2 ?_ | refine n3 ?_ | refine n4 ?_ | refine n5 ?_ | refine n6 ?_ | refine n7 rfl ?_ | refine W_seq ?_ | refine W_block ?_ | refine W_skip ?_ | refine W_exit ?_ | refine W_ret ?_)
  refine W_false rfl ?_
  with_reducible repeat (first | refine n1 ?_ | refine n2 ?_ | refine n3 ?_ | refine n4 ?_ | refine n5 ?_ | refine n6 ?_ | refine n7 rfl ?_ | refine W_seq ?_ | refine W_block ?_ | refine W_skip ?_ | refine W_exit ?_ | refine W_ret ?_)
  refine W_go (by simp only [ev0, ev1, ev2, ev3, ev4, Nat.reduceLT, Nat.reduceLeDiff, Nat.reduceEqDiff, Nat.reduceAdd, Nat.reduceMul, Nat.reduceBEq, reduceCtorEq, len69, ix69, ld26, len26, apd26] <;> rfl) (Nat.le_of_ble_eq_true rfl) ?_
  refine WL_endk (ks := [2]) (by simp only [ev0, ev4, Nat.reduceEqDiff] <;> rfl) ?_
  with_reducible repeat (first | refine n1 ?_ | refine n2 ?_ | refine n3 ?_ | refine n4 ?_ | refine n5 ?_ | refine n6 ?_ | refine n7 rfl ?_ | refine W_seq ?_ | refine W_block ?_ | refine W_skip ?_ | refine W_exit ?_ | refine W_ret ?_)
  refine Fin_pure [.gone, .gone, .arr 3 1 (xs.map iv ++ ys.map iv)] (.sl 1 ((xs ++ ys).map iv)) (by first | exact .inl rfl | exact .inr rfl) rfl (by simp only [Tryd.results37, vres, vresL, vres1, one_, vload_eq, Option.map_some, ev0, ev3, ev4, Nat.reduceEqDiff, Nat.reduceAdd, Nat.reduceLeDiff] <;> rfl) rfl ?_ hk ?_ ⟨rfl, rfl⟩
  · rw [rf_os_ext (j := 2) (xs := xs.map iv ++ ys.map iv) rfl (by simp), List.take_of_length_le (by simp), List.map_append]
  · exact ok_iv _
theorem f25_ok {G} (xs ys : List Cell) (h : Hp) (hl1 : xs.length ≤ 100000) (hl2 : ys.length ≤ 100000) : VPure Tryd.prog G (.fn 25 []) [.sl 1 [[.sl 5 (xs.map cellV)], [.sl 5 (ys.map cellV)]]] h (.sl 5 ((xs ++ ys).map cellV)) := by
  refine VCall_fn' (tdOf_ok _) Tryd.func25 rfl (by rfl) 36 rfl (by simp) (by simp only [ents, List.cons_append, List.nil_append, List.append_nil] <;> rfl) (fun hk ha hc => ?_)
  with_reducible repeat (first | refine n1 ?_ | refine n2 ?_ | refine n3 ?_ | refine n4 ?_ | refine n5 ?_ | refine n6 ?_ | refine n7 rfl ?_ | refine W_seq ?_ | refine W_block ?_ | refine W_skip ?_ | refine W_exit ?_ | refine W_ret ?_)
  have q0 : xs.length * 40 ≤ 140737488355328 ∧ xs.length ≤ 140737488355328 := by omega
  have q1 : (xs.length + ys.length) * 40 ≤ 140737488355328 ∧ xs.length + ys.length ≤ 140737488355328 := by omega
  have w0 : IntKind.i64.wrap (tot xs.length ys.length 0 + (xs.length : Int)) = xs.length := by simp only [tot]; rw [Int.zero_add, wrap64 (by omega) (by omega)]
  have w1 : IntKind.i64.wrap (tot xs.length ys.length 1 + (ys.length : Int)) = tot xs.length ys.length 2 := by simp only [tot]; rw [wrap64 (by omega) (by omega)]
  have wt : tot xs.length ys.length 2 = ((xs.length + ys.length : Nat) : Int) := by simp only [tot]; push_cast; rfl
  refine W_go (by simp only [ev0, ev1, ev2, ev3, ev4, Nat.reduceLT, Nat.reduceLeDiff, Nat.reduceEqDiff, Nat.reduceAdd, Nat.reduceMul, Nat.reduceBEq, reduceCtorEq, len64, ix64, ld22, len22, apd22] <;> rfl) (Nat.le_of_ble_eq_true rfl) ?_
  refine WL_end ?_
  with_reducible repeat (first | refine n1 ?_ | refine n2 ?_ | refine n3 ?_ | refine n4 ?_ | refine n5 ?_ | refine n6 ?_ | refine n7 rfl ?_ | refine W_seq ?_ | refine W_block ?_ | refine W_skip ?_ | refine W_exit ?_ | refine W_ret ?_)
  refine W_go (by simp only [ev0, ev1, ev2, ev3, ev4, Nat.reduceLT, Nat.reduceLeDiff, Nat.reduceEqDiff, Nat.reduceAdd, Nat.reduceMul, Nat.reduceBEq, reduceCtorEq, len64, ix64, ld22, len22, apd22] <;> rfl) (Nat.le_of_ble_eq_true rfl) ?_
  refine WL_endk (ks := [0, 3]) (by simp only [ev0, ev4, Nat.reduceEqDiff] <;> rfl) ?_
  with_reducible repeat (first | refine n1 ?_ | refine n2 ?_ | refine n3 ?_ | refine n4 ?_ | refine n5 ?_ | refine n6 ?_ | refine n7 rfl ?_ | refine W_seq ?_ | refine W_block ?_ | refine W_skip ?_ | refine W_exit ?_ | refine W_ret ?_)
  refine W_go (by simp only [ev0, ev1, ev2, ev3, ev4, Nat.reduceLT, Nat.reduceLeDiff, Nat.reduceEqDiff, Nat.reduceAdd, Nat.reduceMul, Nat.reduceBEq, reduceCtorEq, len64, ix64, ld22, len22, apd22] <;> rfl) (Nat.le_of_ble_eq_true rfl) ?_
  refine WL_endk (ks := [0, 3, 9, 10, 11]) (by simp only [ev0, ev4, Nat.reduceEqDiff] <;> rfl) ?_
  with_reducible repeat (first | refine n1 ?_ | refine n2 ?_ | refine n3 ?_ | refine n4 ?_ | refine n5 ?_ | refine n6 ?_ | refine n7 rfl ?_ | refine W_seq ?_ | refine W_block ?_ | refine W_skip ?_ | refine W_exit ?_ | refine W_ret ?_)
  refine W_loopS (fun k : Nat => ⟨36, [(0, .sl 1 [[.sl 5 (xs.map cellV)], [.sl 5 (ys.map cellV)]]), (3, .c (.int .i64 (tot xs.length ys.length k))), (9, .sl 1 [[.sl 5 (xs.map cellV)], [.sl 5 (ys.map cellV)]]), (10, .c (.int .i64 2)), (11, .c (.int .i64 k))], h ++ [], []⟩) (fun k => k ≤ 2) (fun k => 2 - k) 0 (by simp) rfl (fun k hI => ?_)
  obtain rfl | rfl | rfl : k = 0 ∨ k = 1 ∨ k = 2 := by omega
  · with_reducible repeat (first | refine n1 ?_ | refine n2 ?_ | refine n3 ?_ | refine n4 ?_ | refine n5 ?_ | refine n6 ?_ | refine n7 rfl ?_ | refine W_seq ?_ | refine W_block ?_ | refine W_skip ?_ | refine W_exit ?_ | refine W_ret ?_)
    refine W_go (by simp only [ev0, ev1, ev2, ev3, ev4, Nat.reduceLT, Nat.reduceLeDiff, Nat.reduceEqDiff, Nat.reduceAdd, Nat.reduceMul, Nat.reduceBEq, reduceCtorEq, len64, ix64, ld22, len22, apd22] <;> rfl) (Nat.le_of_ble_eq_true rfl) ?_
    refine WL_end ?_
    with_reducible repeat (first | refine n1 ?_ | refine n2 ?_ | refine n3 ?_ | refine n4 ?_ | refine n5 ?_ | refine n6 ?_ | refine n7 rfl ?_ | refine W_seq ?_ | refine W_block ?_ | refine W_skip ?_ | refine W_exit ?_ | refine W_ret ?_)
    refine W_true rfl ?_
    with_reducible repeat (first | refine n1 ?_ | refine n2 ?_ | refine n3 ?_ | refine n4 ?_ | refine n5 ?_ | refine n6 ?_ | refine n7 rfl ?_ | refine W_seq ?_ | refine W_block ?_ | refine W_skip ?_ | refine W_exit ?_ | refine W_ret ?_)
    refine W_go (by simp only [ev0, ev1, ev2, ev3, ev4, Nat.reduceLT, Nat.reduceLeDiff, Nat.reduceEqDiff, Nat.reduceAdd, Nat.reduceMul, Nat.reduceBEq, reduceCtorEq, len64, ix64, ld22, len22, apd22, two0, Int.toNat_natCast] <;> rfl) (Nat.le_of_ble_eq_true rfl) ?_
    refine WL_endk (ks := [0, 3, 5, 9, 10, 11]) (by simp only [ev0, ev4, Nat.reduceEqDiff] <;> rfl) ?_
    with_reducible repeat (first | refine n1 ?_ | refine n2 ?_ | refine n3 ?_ | refine n4 ?_ | refine n5 ?_ | refine n6 ?_ | refine n7 rfl ?_ | refine W_seq ?_ | refine W_block ?_ | refine W_skip ?_ | refine W_exit ?_ | refine W_ret ?_)
    refine W_go (by simp only [ev0, ev1, ev2, ev3, ev4, Nat.reduceLT, Nat.reduceLeDiff, Nat.reduceEqDiff, Nat.reduceAdd, Nat.reduceMul, Nat.reduceBEq, reduceCtorEq, len64, ix64, ld22, len22, apd22] <;> rfl) (Nat.le_of_ble_eq_true rfl) ?_
    refine WL_endk (ks := [0, 3, 5, 9, 10, 11]) (by simp only [ev0, ev4, Nat.reduceEqDiff] <;> rfl) ?_
    with_reducible repeat (first | refine n1 ?_ | refine n2 ?_ | refine n3 ?_ | refine n4 ?_ | refine n5 ?_ | refine n6 ?_ | refine n7 rfl ?_ | refine W_seq ?_ | refine W_block ?_ | refine W_skip ?_ | refine W_exit ?_ | refine W_ret ?_)
    refine W_go (by simp only [ev0, ev1, ev2, ev3, ev4, Nat.reduceLT, Nat.reduceLeDiff, Nat.reduceEqDiff, Nat.reduceAdd, Nat.reduceMul, Nat.reduceBEq, reduceCtorEq, len64, ix64, ld22, len22, apd22, w0] <;> rfl) (Nat.le_of_ble_eq_true rfl) ?_
    refine WL_endk (ks := [0, 3, 9, 10, 11, 20]) (by simp only [ev0, ev4, Nat.reduceEqDiff] <;> rfl) ?_
    with_reducible repeat (first | refine n1 ?_ | refine n2 ?_ | refine n3 ?_ | refine n4 ?_ | refine n5 ?_ | refine n6 ?_ | refine n7 rfl ?_ | refine W_seq ?_ | refine W_block ?_ | refine W_skip ?_ | refine W_exit ?_ | refine W_ret ?_)
    refine W_cond rfl (fun hb => by simp at hb; omega) (fun _ => ?_)
    with_reducible repeat (first | refine n1 ?_ | refine n2 ?_ | refine n3 ?_ | refine n4 ?_ | refine n5 ?_ | refine n6 ?_ | refine n7 rfl ?_ | refine W_seq ?_ | refine W_block ?_ | refine W_skip ?_ | refine W_exit ?_ | refine W_ret ?_)
    refine W_go (by simp only [ev0, ev1, ev2, ev3, ev4, Nat.reduceLT, Nat.reduceLeDiff, Nat.reduceEqDiff, Nat.reduceAdd, Nat.reduceMul, Nat.reduceBEq, reduceCtorEq, len64, ix64, ld22, len22, apd22] <;> rfl) (Nat.le_of_ble_eq_true rfl) ?_
    refine WL_endk (ks := [0, 3, 9, 10, 11]) (by simp only [ev0, ev4, Nat.reduceEqDiff] <;> rfl) ?_
    with_reducible repeat (first | refine n1 ?_ | refine n2 ?_ | refine n3 ?_ | refine n4 ?_ | refine n5 ?_ | refine n6 ?_ | refine n7 rfl ?_ | refine W_seq ?_ | refine W_block ?_ | refine W_skip ?_ | refine W_exit ?_ | refine W_ret ?_)
    exact ⟨1, rfl, by omega, by omega⟩
  · with_reducible repeat (first | refine n1 ?_ | refine n2 ?_ | refine n3 ?_ | refine n4 ?_ | refine n5 ?_ | refine n6 ?_ | refine n7 rfl ?_ | refine W_seq ?_ | refine W_block ?_ | refine W_skip ?_ | refine W_exit ?_ | refine W_ret ?_)
    refine W_go (by simp only [ev0, ev1, ev2, ev3, ev4, Nat.reduceLT, Nat.reduceLeDiff, Nat.reduceEqDiff, Nat.reduceAdd, Nat.reduceMul, Nat.reduceBEq, reduceCtorEq, len64, ix64, ld22, len22, apd22] <;> rfl) (Nat.le_of_ble_eq_true rfl) ?_
    refine WL_end ?_
    with_reducible repeat (first | refine n1 ?_ | refine n2 ?_ | refine n3 ?_ | refine n4 ?_ | refine n5 ?_ | refine n6 ?_ | refine n7 rfl ?_ | refine W_seq ?_ | refine W_block ?_ | refine W_skip ?_ | refine W_exit ?_ | refine W_ret ?_)
    refine W_true rfl ?_
    with_reducible repeat (first | refine n1 ?_ | refine n2 ?_ | refine n3 ?_ | refine n4 ?_ | refine n5 ?_ | refine n6 ?_ | refine n7 rfl ?_ | refine W_seq ?_ | refine W_block ?_ | refine W_skip ?_ | refine W_exit ?_ | refine W_ret ?_)
    refine W_go (by simp only [ev0, ev1, ev2, ev3, ev4, Nat.reduceLT, Nat.reduceLeDiff, Nat.reduceEqDiff, Nat.reduceAdd, Nat.reduceMul, Nat.reduceBEq, reduceCtorEq, len64, ix64, ld22, len22, apd22, two1, Int.toNat_natCast] <;> rfl) (Nat.le_of_ble_eq_true rfl) ?_
    refine WL_endk (ks := [0, 3, 5, 9, 10, 11]) (by simp only [ev0, ev4, Nat.reduceEqDiff] <;> rfl) ?_
    with_reducible repeat (first | refine n1 ?_ | refine n2 ?_ | refine n3 ?_ | refine n4 ?_ | refine n5 ?_ | refine n6 ?_ | refine n7 rfl ?_ | refine W_seq ?_ | refine W_block ?_ | refine W_skip ?_ | refine W_exit ?_ | refine W_ret ?_)
    refine W_go (by simp only [ev0, ev1, ev2, ev3, ev4, Nat.reduceLT, Nat.reduceLeDiff, Nat.reduceEqDiff, Nat.reduceAdd, Nat.reduceMul, Nat.reduceBEq, reduceCtorEq, len64, ix64, ld22, len22, apd22] <;> rfl) (Nat.le_of_ble_eq_true rfl) ?_
    refine WL_endk (ks := [0, 3, 5, 9, 10, 11]) (by simp only [ev0, ev4, Nat.reduceEqDiff] <;> rfl) ?_
    with_reducible repeat (first | refine n1 ?_ | refine n2 ?_ | refine n3 ?_ | refine n4 ?_ | refine n5 ?_ | refine n6 ?_ | refine n7 rfl ?_ | refine W_seq ?_ | refine W_block ?_ | refine W_skip ?_ | refine W_exit ?_ | refine W_ret ?_)
    refine W_go (by simp only [ev0, ev1, ev2, ev3, ev4, Nat.reduceLT, Nat.reduceLeDiff, Nat.reduceEqDiff, Nat.reduceAdd, Nat.reduceMul, Nat.reduceBEq, reduceCtorEq, len64, ix64, ld22, len22, apd22, w1] <;> rfl) (Nat.le_of_ble_eq_true rfl) ?_
    refine WL_endk (ks := [0, 3, 9, 10, 11, 20]) (by simp only [ev0, ev4, Nat.reduceEqDiff] <;> rfl) ?_
    with_reducible repeat (first | refine n1 ?_ | refine n2 ?_ | refine n3 ?_ | refine n4 ?_ | refine n5 ?_ | refine n6 ?_ | refine n7 rfl ?_ | refine W_seq ?_ | refine W_block ?_ | refine W_skip ?_ | refine W_exit ?_ | refine W_ret ?_)
    refine W_cond rfl (fun hb => by simp at hb; omega) (fun _ => ?_)
    with_reducible repeat (first | refine n1 ?_ | refine n2 ?_ | refine n3 ?_ | refine n4 ?_ | refine n5 ?_ | refine n6 ?_ | refine n7 rfl ?_ | refine W_seq ?_ | refine W_block ?_ | refine W_skip ?_ | refine W_exit ?_ | refine W_ret ?_)
    refine W_go (by simp only [ev0, ev1, ev2, ev3, ev4, Nat.reduceLT, Nat.reduceLeDiff, Nat.reduceEqDiff, Nat.reduceAdd, Nat.reduceMul, Nat.reduceBEq, reduceCtorEq, len64, ix64, ld22, len22, apd22] <;> rfl) (Nat.le_of_ble_eq_true rfl) ?_
    refine WL_endk (ks := [0, 3, 9, 10, 11]) (by simp only [ev0, ev4, Nat.reduceEqDiff] <;> rfl) ?_
    with_reducible repeat (first | refine n1 ?_ | refine n2 ?_ | refine n3 ?_ | refine n4 ?_ | refine n5 ?_ | refine n6 ?_ | refine n7 rfl ?_ | refine W_seq ?_ | refine W_block ?_ | refine W_skip ?_ | refine W_exit ?_ | refine W_ret ?_)
    exact ⟨2, rfl, by omega, by omega⟩
  with_reducible repeat (first | refine n1 ?_ | refine n2 ?_ | refine n3 ?_ | refine n4 ?_ | refine n5 ?_ | refine n6 ?_ | refine n7 rfl ?_ | refine W_seq ?_ | refine W_block ?_ | refine W_skip ?_ | refine W_exit ?_ | refine W_ret ?_)
  refine W_go (by simp only [ev0, ev1, ev2, ev3, ev4, Nat.reduceLT, Nat.reduceLeDiff, Nat.reduceEqDiff, Nat.reduceAdd, Nat.reduceMul, Nat.reduceBEq, reduceCtorEq, len64, ix64, ld22, len22, apd22] <;> rfl) (Nat.le_of_ble_eq_true rfl) ?_
  refine WL_end ?_
  with_reducible repeat (first | refine n1 ?_ | refine n2 ?_ | refine n3 ?_ | refine n4 ?_ | refine n5 ?_ | refine n6 ?_ | refine n7 rfl ?_ | refine W_seq ?_ | refine W_block ?_ | refine W_skip ?_ | refine W_exit ?_ | refine W_ret ?_)
  refine W_false rfl ?_
  with_reducible repeat (first | refine n1 ?_ | refine n2 ?_ | refine n3 ?_ | refine n4 ?_ | refine n5 ?_ | refine n6 ?_ | refine n7 rfl ?_ | refine W_seq ?_ | refine W_block ?_ | refine W_skip ?_ | refine W_exit ?_ | refine W_ret ?_)
  refine W_keep' (ks := [0, 3]) (by simp only [ev0, ev4, Nat.reduceEqDiff] <;> rfl) ?_
  refine W_go (by simp only [ev0, ev1, ev2, ev3, ev4, Nat.reduceLT, Nat.reduceLeDiff, Nat.reduceEqDiff, Nat.reduceAdd, Nat.reduceMul, Nat.reduceBEq, reduceCtorEq, len64, ix64, ld22, len22, apd22, wt] <;> rfl) (Nat.le_of_ble_eq_true rfl) ?_
  refine WL_call' (f40_0 (xs.length + ys.length) h (by omega)) rfl (.inl rfl) (by simp only [ev0, ev1, ev2, ev3, ev4, Nat.reduceLT, Nat.reduceLeDiff, Nat.reduceEqDiff, Nat.reduceAdd, Nat.reduceMul, Nat.reduceBEq, reduceCtorEq, len64, ix64, ld22, len22, apd22, wt] <;> rfl) (by simp only [ev0, ev1, ev2, ev3, ev4, Nat.reduceLT, Nat.reduceLeDiff, Nat.reduceEqDiff, Nat.reduceAdd, Nat.reduceMul, Nat.reduceBEq, reduceCtorEq, len64, ix64, ld22, len22, apd22, wt] <;> rfl) rfl ?_
  rintro _ _ ⟨rfl, rfl⟩
  refine WL_go (by simp only [ev0, ev1, ev2, ev3, ev4, Nat.reduceLT, Nat.reduceLeDiff, Nat.reduceEqDiff, Nat.reduceAdd, Nat.reduceMul, Nat.reduceBEq, reduceCtorEq, len64, ix64, ld22, len22, apd22] <;> rfl) (Nat.le_of_ble_eq_true rfl) ?_
  refine WL_endk (ks := [0, 6]) (by simp only [ev0, ev4, Nat.reduceEqDiff] <;> rfl) ?_
  with_reducible repeat (first | refine n1 ?_ | refine n2 ?_ | refine n3 ?_ | refine n4 ?_ | refine n5 ?_ | refine n6 ?_ | refine n7 rfl ?_ | refine W_seq ?_ | refine W_block ?_ | refine W_skip ?_ | refine W_exit ?_ | refine W_ret ?_)
  refine W_go (by simp only [ev0, ev1, ev2, ev3, ev4, Nat.reduceLT, Nat.reduceLeDiff, Nat.reduceEqDiff, Nat.reduceAdd, Nat.reduceMul, Nat.reduceBEq, reduceCtorEq, len64, ix64, ld22, len22, apd22] <;> rfl) (Nat.le_of_ble_eq_true rfl) ?_
  refine WL_endk (ks := [0, 6, 25, 26, 27]) (by simp only [ev0, ev4, Nat.reduceEqDiff] <;> rfl) ?_
  with_reducible repeat (first | refine n1 ?_ | refine n2 ?_ | refine n3 ?_ | refine n4 ?_ | refine n5 ?_ | refine n6 ?_ | refine n7 rfl ?_ | refine W_seq ?_ | refine W_block ?_ | refine W_skip ?_ | refine W_exit ?_ | refine W_ret ?_)
  refine W_loopS (fun k : Nat => match k with
    | 0 => ⟨36, [(0, .sl 1 [[.sl 5 (xs.map cellV)], [.sl 5 (ys.map cellV)]]), (6, .os (List.length h) 0), (25, .sl 1 [[.sl 5 (xs.map cellV)], [.sl 5 (ys.map cellV)]]), (26, .c (.int .i64 2)), (27, .c (.int .i64 ((0 : Nat) : Int)))], h ++ [.arr 29 5 []], []⟩
    | 1 => ⟨36, [(0, .sl 1 [[.sl 5 (xs.map cellV)], [.sl 5 (ys.map cellV)]]), (6, .os (List.length h + 1) xs.length), (25, .sl 1 [[.sl 5 (xs.map cellV)], [.sl 5 (ys.map cellV)]]), (26, .c (.int .i64 2)), (27, .c (.int .i64 ((1 : Nat) : Int)))], h ++ [.gone, .arr 29 5 (xs.map cellV)], []⟩
    | _ => ⟨36, [(0, .sl 1 [[.sl 5 (xs.map cellV)], [.sl 5 (ys.map cellV)]]), (6, .os (List.length h + 2) (xs.length + ys.length)), (25, .sl 1 [[.sl 5 (xs.map cellV)], [.sl 5 (ys.map cellV)]]), (26, .c (.int .i64 2)), (27, .c (.int .i64 ((2 : Nat) : Int)))], h ++ [.gone, .gone, .arr 29 5 (xs.map cellV ++ ys.map cellV)], []⟩) (fun k => k ≤ 2) (fun k => 2 - k) 0 (by simp) rfl (fun k hI => ?_)
  obtain rfl | rfl | rfl : k = 0 ∨ k = 1 ∨ k = 2 := by omega
  · with_reducible repeat (first | refine n1 ?_ | refine n2 ?_ | refine n3 ?_ | refine n4 ?_ | refine n5 ?_ | refine n6 ?_ | refine n7 rfl ?_ | refine W_seq ?_ | refine W_block ?_ | refine W_skip ?_ | refine W_exit ?_ | refine W_ret ?_)
    refine W_go (by simp only [ev0, ev1, ev2, ev3, ev4, Nat.reduceLT, Nat.reduceLeDiff, Nat.reduceEqDiff, Nat.reduceAdd, Nat.reduceMul, Nat.reduceBEq, reduceCtorEq, len64, ix64, ld22, len22, apd22] <;> rfl) (Nat.le_of_ble_eq_true rfl) ?_
    refine WL_end ?_
    with_reducible repeat (first | refine n1 ?_ | refine n2 ?_ | refine n3 ?_ | refine n4 ?_ | refine n5 ?_ | refine n6 ?_ | refine n7 rfl ?_ | refine W_seq ?_ | refine W_block ?_ | refine W_skip ?_ | refine W_exit ?_ | refine W_ret ?_)
    refine W_true rfl ?_
    with_reducible repeat (first | refine n1 ?_ | refine n2 ?_ | refine n3 ?_ | refine n4 ?_ | refine n5 ?_ | refine n6 ?_ | refine n7 rfl ?_ | refine W_seq ?_ | refine W_block ?_ | refine W_skip ?_ | refine W_exit ?_ | refine W_ret ?_)
    refine W_go (by simp only [ev0, ev1, ev2, ev3, ev4, Nat.reduceLT, Nat.reduceLeDiff, Nat.reduceEqDiff, Nat.reduceAdd, Nat.reduceMul, Nat.reduceBEq, reduceCtorEq, len64, ix64, ld22, len22, apd22, two0, Int.toNat_natCast] <;> rfl) (Nat.le_of_ble_eq_true rfl) ?_
    refine WL_endk (ks := [0, 6, 8, 25, 26, 27]) (by simp only [ev0, ev4, Nat.reduceEqDiff] <;> rfl) ?_
    with_reducible repeat (first | refine n1 ?_ | refine n2 ?_ | refine n3 ?_ | refine n4 ?_ | refine n5 ?_ | refine n6 ?_ | refine n7 rfl ?_ | refine W_seq ?_ | refine W_block ?_ | refine W_skip ?_ | refine W_exit ?_ | refine W_ret ?_)
    refine W_go (by simp only [ev0, ev1, ev2, ev3, ev4, Nat.reduceLT, Nat.reduceLeDiff, Nat.reduceEqDiff, Nat.reduceAdd, Nat.reduceMul, Nat.reduceBEq, reduceCtorEq, len64, ix64, ld22, len22, apd22, q0] <;> rfl) (Nat.le_of_ble_eq_true rfl) ?_
    refine WL_endk (ks := [0, 6, 25, 26, 27]) (by simp only [ev0, ev4, Nat.reduceEqDiff] <;> rfl) ?_
    with_reducible repeat (first | refine n1 ?_ | refine n2 ?_ | refine n3 ?_ | refine n4 ?_ | refine n5 ?_ | refine n6 ?_ | refine n7 rfl ?_ | refine W_seq ?_ | refine W_block ?_ | refine W_skip ?_ | refine W_exit ?_ | refine W_ret ?_)
    refine W_go (by simp only [ev0, ev1, ev2, ev3, ev4, Nat.reduceLT, Nat.reduceLeDiff, Nat.reduceEqDiff, Nat.reduceAdd, Nat.reduceMul, Nat.reduceBEq, reduceCtorEq, len64, ix64, ld22, len22, apd22] <;> rfl) (Nat.le_of_ble_eq_true rfl) ?_
    refine WL_endk (ks := [0, 6, 25, 26, 27]) (by simp only [ev0, ev4, Nat.reduceEqDiff] <;> rfl) ?_
    with_reducible repeat (first | refine n1 ?_ | refine n2 ?_ | refine n3 ?_ | refine n4 ?_ | refine n5 ?_ | refine n6 ?_ | refine n7 rfl ?_ | refine W_seq ?_ | refine W_block ?_ | refine W_skip ?_ | refine W_exit ?_ | refine W_ret ?_)
    exact ⟨1, rfl, by omega, by omega⟩
  · with_reducible repeat (first | refine n1 ?_ | refine n2 ?_ | refine n3 ?_ | refine n4 ?_ | refine n5 ?_ | refine n6 ?_ | refine n7 rfl ?_ | refine W_seq ?_ | refine W_block ?_ | refine W_skip ?_ | refine W_exit ?_ | refine W_ret ?_)
    refine W_go (by simp only [ev0, ev1, ev2, ev3, ev4, Nat.reduceLT, Nat.reduceLeDiff, Nat.reduceEqDiff, Nat.reduceAdd, Nat.reduceMul, Nat.reduceBEq, reduceCtorEq, len64, ix64, ld22, len22, apd22] <;> rfl) (Nat.le_of_ble_eq_true rfl) ?_
    refine WL_end ?_
    with_reducible repeat (first | refine n1 ?_ | refine n2 ?_ | refine n3 ?_ | refine n4 ?_ | refine n5 ?_ | refine n6 ?_ | refine n7 rfl ?_ | refine W_seq ?_ | refine W_block ?_ | refine W_skip ?_ | refine W_exit ?_ | refine W_ret ?_)
    refine W_true rfl ?_
    with_reducible repeat (first | refine n1 ?_ | refine n2 ?_ | refine n3 ?_ | refine n4 ?_ | refine n5 ?_ | refine n6 ?_ | refine n7 rfl ?_ | refine W_seq ?_ | refine W_block ?_ | refine W_skip ?_ | refine W_exit ?_ | refine W_ret ?_)
    refine W_go (by simp only [ev0, ev1, ev2, ev3, ev4, Nat.reduceLT, Nat.reduceLeDiff, Nat.reduceEqDiff, Nat.reduceAdd, Nat.reduceMul, Nat.reduceBEq, reduceCtorEq, len64, ix64, ld22, len22, apd22, two1, Int.toNat_natCast] <;> rfl) (Nat.le_of_ble_eq_true rfl) ?_
    refine WL_endk (ks := [0, 6, 8, 25, 26, 27]) (by simp only [ev0, ev4, Nat.reduceEqDiff] <;> rfl) ?_
    with_reducible repeat (first | refine n1 ?_ | refine n2 ?_ | refine n3 ?_ | refine n4 ?_ | refine n5 ?_ | refine n6 ?_ | refine n7 rfl ?_ | refine W_seq ?_ | refine W_block ?_ | refine W_skip ?_ | refine W_exit ?_ | refine W_ret ?_)
    refine W_go (by simp only [ev0, ev1, ev2, ev3, ev4, Nat.reduceLT, Nat.reduceLeDiff, Nat.reduceEqDiff, Nat.reduceAdd, Nat.reduceMul, Nat.reduceBEq, reduceCtorEq, len64, ix64, ld22, len22, apd22, q1, List.length_map] <;> rfl) (Nat.le_of_ble_eq_true rfl) ?_
    refine WL_endk (ks := [0, 6, 25, 26, 27]) (by simp only [ev0, ev4, Nat.reduceEqDiff] <;> rfl) ?_
    with_reducible repeat (first | refine n1 ?_ | refine n2 ?_ | refine n3 ?_ | refine n4 ?_ | refine n5 ?_ | refine n6 ?_ | refine n7 rfl ?_ | refine W_seq ?_ | refine W_block ?_ | refine W_skip ?_ | refine W_exit ?_ | refine W_ret ?_)
    refine W_go (by simp only [ev0, ev1, ev2, ev3, ev4, Nat.reduceLT, Nat.reduceLeDiff, Nat.reduceEqDiff, Nat.reduceAdd, Nat.reduceMul, Nat.reduceBEq, reduceCtorEq, len64, ix64, ld22, len22, apd22] <;> rfl) (Nat.le_of_ble_eq_true rfl) ?_
    refine WL_endk (ks := [0, 6, 25, 26, 27]) (by simp only [ev0, ev4, Nat.reduceEqDiff] <;> rfl) ?_
    with_reducible repeat (first | refine n1 ?_ | refine n2 ?_ | refine n3 ?_ | refine n4 ?_ | refine n5 ?_ | refine n6 ?_ | refine n7 rfl ?_ | refine W_seq ?_ | refine W_block ?_ | refine W_skip ?_ | refine W_exit ?_ | refine W_ret ?_)
    exact ⟨2, rfl, by omega, by omega⟩
  with_reducible repeat (first | refine n1 ?_ | refine n2 ?_ | refine n3 ?_ | refine n4 ?_ | refine n5 ?_ | refine n6 ?_ | refine n7 rfl ?_ | refine W_seq ?_ | refine W_block ?_ | refine W_skip ?_ | refine W_exit ?_ | refine W_ret ?_)
  refine W_go (by simp only [ev0, ev1, ev2, ev3, ev4, Nat.reduceLT, Nat.reduceLeDiff, Nat.reduceEqDiff, Nat.reduceAdd, Nat.reduceMul, Nat.reduceBEq, reduceCtorEq, len64, ix64, ld22, len22, apd22] <;> rfl) (Nat.le_of_ble_eq_true rfl) ?_
  refine WL_end ?_
  with_reducible repeat (first | refine n1 ?_ | refine n2 ?_ | refine n3 ?_ | refine n4 ?_ | refine n5 ?_ | refine n6 ?_ | refine n7 rfl ?_ | refine W_seq ?_ | refine W_block ?_ | refine W_skip ?_ | refine W_exit ?_ | refine W_ret ?_)
  refine W_false rfl ?_
  with_reducible repeat (first | refine n1 ?_ | refine n2 ?_ | refine n3 ?_ | refine n4 ?_ | refine n5 ?_ | refine n6 ?_ | refine n7 rfl ?_ | refine W_seq ?_ | refine W_block ?_ | refine W_skip ?_ | refine W_exit ?_ | refine W_ret ?_)
  refine W_go (by simp only [ev0, ev1, ev2, ev3, ev4, Nat.reduceLT, Nat.reduceLeDiff, Nat.reduceEqDiff, Nat.reduceAdd, Nat.reduceMul, Nat.reduceBEq, reduceCtorEq, len64, ix64, ld22, len22, apd22] <;> rfl) (Nat.le_of_ble_eq_true rfl) ?_
  refine WL_endk (ks := [2]) (by simp only [ev0, ev4, Nat.reduceEqDiff] <;> rfl) ?_
  with_reducible repeat (first | refine n1 ?_ | refine n2 ?_ | refine n3 ?_ | refine n4 ?_ | refine n5 ?_ | refine n6 ?_ | refine n7 rfl ?_ | refine W_seq ?_ | refine W_block ?_ | refine W_skip ?_ | refine W_exit ?_ | refine W_ret ?_)
  refine Fin_pure [.gone, .gone, .arr 29 5 (xs.map cellV ++ ys.map cellV)] (.sl 5 ((xs ++ ys).map cellV)) (by first | exact .inl rfl | exact .inr rfl) rfl (by simp only [Tryd.results25, vres, vresL, vres1, one_, vload_eq, Option.map_some, ev0, ev3, ev4, Nat.reduceEqDiff, Nat.reduceAdd, Nat.reduceLeDiff] <;> rfl) rfl ?_ hk ?_ ⟨rfl, rfl⟩
  · rw [rf_os_ext (j := 2) (xs := xs.map cellV ++ ys.map cellV) rfl (by simp), List.take_of_length_le (by simp), List.map_append]
  · exact ok_cellV _
end Go.Vm
/- Contracts: what is free in both masks. -/
namespace Go.Vm
open Go Go.RowKit Go.Proofs
set_option linter.unusedSimpArgs false
set_option linter.unusedVariables false

/-- What is free in both masks, and the fault. -/
def meetE (xs ys : List Int) : Int := if xs.length ≠ ys.length then 11 else if 512 < xs.length then 8 else if (xs ++ ys).any (fun m => !inB m 0 65535) = true then 2 else 0
def meetV (xs ys : List Int) : List Int := if meetE xs ys = 0 then List.zipWith (iand .i64) xs ys else []
theorem zip_take {f : Int → Int → Int} {xs ys : List Int} {k : Nat} (h1 : k < xs.length) (h2 : k < ys.length) : (List.zipWith f xs ys).take (k + 1) = (List.zipWith f xs ys).take k ++ [f xs[k] ys[k]] := by
  have hz : k < (List.zipWith f xs ys).length := by simp; omega
  rw [take_get hz]; simp
theorem app1 (H : Hp) (o p : Ob) : H ++ [o, p] = (H ++ [o]) ++ [p] := by simp

theorem ok_meet {D : Nat → Prop} (xs ys : List Int) : Ok D (.tup [.sl 1 ((meetV xs ys).map iv), .c (.int .i64 (meetE xs ys))]) := by
  rw [Ok_tup]
  intro d hd
  simp only [List.mem_cons, List.not_mem_nil, or_false] at hd
  rcases hd with rfl | rfl
  · exact ok_iv _
  · exact Ok_c _


theorem f17_ok {G} (xs ys : List Int) (h : Hp) (hl1 : xs.length ≤ 100000) (hl2 : ys.length ≤ 100000) : VPure Tryd.prog G (.fn 17 []) [.sl 1 (xs.map iv), .sl 1 (ys.map iv)] h (.tup [.sl 1 ((meetV xs ys).map iv), .c (.int .i64 (meetE xs ys))]) := by
  refine VCall_fn' (tdOf_ok _) Tryd.func17 rfl (by rfl) 44 rfl (by simp) (by simp only [ents, List.cons_append, List.nil_append, List.append_nil] <;> rfl) (fun hk ha hc => ?_)
  with_reducible repeat (first | refine n1 ?_ | refine n2 ?_ | refine n3 ?_ | refine n4 ?_ | refine n5 ?_ | refine n6 ?_ | refine n7 rfl ?_ | refine W_seq ?_ | refine W_block ?_ | refine W_skip ?_ | refine W_exit ?_ | refine W_ret ?_)
  by_cases hl : xs.length = ys.length
  · have hl' : ((xs.length : Int) != (ys.length : Int)) = false := by simp [hl]
    refine W_go (by simp only [ev0, ev1, ev2, ev3, ev4, Nat.reduceLT, Nat.reduceLeDiff, Nat.reduceEqDiff, Nat.reduceAdd, Nat.reduceMul, Nat.reduceBEq, reduceCtorEq, len26, bsl69, ix26, ld3, bsl26, apd26] <;> rfl) (Nat.le_of_ble_eq_true rfl) ?_
    refine WL_end ?_
    with_reducible repeat (first | refine n1 ?_ | refine n2 ?_ | refine n3 ?_ | refine n4 ?_ | refine n5 ?_ | refine n6 ?_ | refine n7 rfl ?_ | refine W_seq ?_ | refine W_block ?_ | refine W_skip ?_ | refine W_exit ?_ | refine W_ret ?_)
    refine W_go (by simp only [ev0, ev1, ev2, ev3, ev4, Nat.reduceLT, Nat.reduceLeDiff, Nat.reduceEqDiff, Nat.reduceAdd, Nat.reduceMul, Nat.reduceBEq, reduceCtorEq, len26, bsl69, ix26, ld3, bsl26, apd26, hl'] <;> rfl) (Nat.le_of_ble_eq_true rfl) ?_
    refine WL_endk (ks := [0, 1, 8]) (by simp only [ev0, ev4, Nat.reduceEqDiff] <;> rfl) ?_
    with_reducible repeat (first | refine n1 ?_ | refine n2 ?_ | refine n3 ?_ | refine n4 ?_ | refine n5 ?_ | refine n6 ?_ | refine n7 rfl ?_ | refine W_seq ?_ | refine W_block ?_ | refine W_skip ?_ | refine W_exit ?_ | refine W_ret ?_)
    refine W_false rfl ?_
    with_reducible repeat (first | refine n1 ?_ | refine n2 ?_ | refine n3 ?_ | refine n4 ?_ | refine n5 ?_ | refine n6 ?_ | refine n7 rfl ?_ | refine W_seq ?_ | refine W_block ?_ | refine W_skip ?_ | refine W_exit ?_ | refine W_ret ?_)
    by_cases h5 : 512 < xs.length
    · have h5l : 512 < ys.length := by omega
      have h5' : decide ((xs.length : Int) > 512) = true := by simp; omega
      refine W_go (by simp only [ev0, ev1, ev2, ev3, ev4, Nat.reduceLT, Nat.reduceLeDiff, Nat.reduceEqDiff, Nat.reduceAdd, Nat.reduceMul, Nat.reduceBEq, reduceCtorEq, len26, bsl69, ix26, ld3, bsl26, apd26, h5'] <;> rfl) (Nat.le_of_ble_eq_true rfl) ?_
      refine WL_endk (ks := [14]) (by simp only [ev0, ev4, Nat.reduceEqDiff] <;> rfl) ?_
      with_reducible repeat (first | refine n1 ?_ | refine n2 ?_ | refine n3 ?_ | refine n4 ?_ | refine n5 ?_ | refine n6 ?_ | refine n7 rfl ?_ | refine W_seq ?_ | refine W_block ?_ | refine W_skip ?_ | refine W_exit ?_ | refine W_ret ?_)
      refine W_true rfl ?_
      with_reducible repeat (first | refine n1 ?_ | refine n2 ?_ | refine n3 ?_ | refine n4 ?_ | refine n5 ?_ | refine n6 ?_ | refine n7 rfl ?_ | refine W_seq ?_ | refine W_block ?_ | refine W_skip ?_ | refine W_exit ?_ | refine W_ret ?_)
      refine W_go (by simp only [ev0, ev1, ev2, ev3, ev4, Nat.reduceLT, Nat.reduceLeDiff, Nat.reduceEqDiff, Nat.reduceAdd, Nat.reduceMul, Nat.reduceBEq, reduceCtorEq, len26, bsl69, ix26, ld3, bsl26, apd26] <;> rfl) (Nat.le_of_ble_eq_true rfl) ?_
      refine WL_endk (ks := [4, 5]) (by simp only [ev0, ev4, Nat.reduceEqDiff] <;> rfl) ?_
      with_reducible repeat (first | refine n1 ?_ | refine n4 ?_)
      refine W_nilsl 1 ?_
      with_reducible repeat (first | refine n1 ?_ | refine n2 ?_ | refine n3 ?_ | refine n4 ?_ | refine n5 ?_ | refine n6 ?_ | refine n7 rfl ?_ | refine W_seq ?_ | refine W_block ?_ | refine W_skip ?_ | refine W_exit ?_ | refine W_ret ?_)
      refine Fin_pure [] (.tup [.sl 1 ((meetV xs ys).map iv), .c (.int .i64 (meetE xs ys))]) (by first | exact .inl rfl | exact .inr rfl) rfl (by simp only [Tryd.results17, vres, vresL, vres1, one_, vload_eq, Option.map_some, ev0, ev3, ev4, Nat.reduceEqDiff, Nat.reduceAdd, Nat.reduceLeDiff] <;> rfl) rfl ?_ hk ?_ ⟨rfl, rfl⟩
      · simp [meetV, meetE, hl, h5l, h5]
      · exact ok_meet xs ys
    · have h5l : ¬ 512 < ys.length := by omega
      have h5' : decide ((xs.length : Int) > 512) = false := by simp; omega
      refine W_go (by simp only [ev0, ev1, ev2, ev3, ev4, Nat.reduceLT, Nat.reduceLeDiff, Nat.reduceEqDiff, Nat.reduceAdd, Nat.reduceMul, Nat.reduceBEq, reduceCtorEq, len26, bsl69, ix26, ld3, bsl26, apd26, h5'] <;> rfl) (Nat.le_of_ble_eq_true rfl) ?_
      refine WL_endk (ks := [0, 1, 14]) (by simp only [ev0, ev4, Nat.reduceEqDiff] <;> rfl) ?_
      with_reducible repeat (first | refine n1 ?_ | refine n2 ?_ | refine n3 ?_ | refine n4 ?_ | refine n5 ?_ | refine n6 ?_ | refine n7 rfl ?_ | refine W_seq ?_ | refine W_block ?_ | refine W_skip ?_ | refine W_exit ?_ | refine W_ret ?_)
      refine W_false rfl ?_
      with_reducible repeat (first | refine n1 ?_ | refine n2 ?_ | refine n3 ?_ | refine n4 ?_ | refine n5 ?_ | refine n6 ?_ | refine n7 rfl ?_ | refine W_seq ?_ | refine W_block ?_ | refine W_skip ?_ | refine W_exit ?_ | refine W_ret ?_)
      refine W_go (by simp only [ev0, ev1, ev2, ev3, ev4, Nat.reduceLT, Nat.reduceLeDiff, Nat.reduceEqDiff, Nat.reduceAdd, Nat.reduceMul, Nat.reduceBEq, reduceCtorEq, len26, bsl69, ix26, ld3, bsl26, apd26] <;> rfl) (Nat.le_of_ble_eq_true rfl) ?_
      refine WL_pure ((f37_ok xs ys _ hl1 hl2)) rfl (.inl rfl) (by simp only [ev0, ev1, ev2, ev3, ev4, Nat.reduceLT, Nat.reduceLeDiff, Nat.reduceEqDiff, Nat.reduceAdd, Nat.reduceMul, Nat.reduceBEq, reduceCtorEq, len26, bsl69, ix26, ld3, bsl26, apd26] <;> rfl) (by simp only [ev0, ev1, ev2, ev3, ev4, Nat.reduceLT, Nat.reduceLeDiff, Nat.reduceEqDiff, Nat.reduceAdd, Nat.reduceMul, Nat.reduceBEq, reduceCtorEq, len26, bsl69, ix26, ld3, bsl26, apd26] <;> rfl) rfl (by simp only [ev0, ev1, ev2, ev3, ev4, Nat.reduceLT, Nat.reduceLeDiff, Nat.reduceEqDiff, Nat.reduceAdd, Nat.reduceMul, Nat.reduceBEq, reduceCtorEq, len26, bsl69, ix26, ld3, bsl26, apd26] <;> rfl) ?_
      refine WL_go (by simp only [ev0, ev1, ev2, ev3, ev4, Nat.reduceLT, Nat.reduceLeDiff, Nat.reduceEqDiff, Nat.reduceAdd, Nat.reduceMul, Nat.reduceBEq, reduceCtorEq, len26, bsl69, ix26, ld3, bsl26, apd26] <;> rfl) (Nat.le_of_ble_eq_true rfl) ?_
      refine WL_call' (f35_0 16 h) rfl (.inl rfl) (by simp only [ev0, ev1, ev2, ev3, ev4, Nat.reduceLT, Nat.reduceLeDiff, Nat.reduceEqDiff, Nat.reduceAdd, Nat.reduceMul, Nat.reduceBEq, reduceCtorEq, len26, bsl69, ix26, ld3, bsl26, apd26] <;> rfl) (by simp only [ev0, ev1, ev2, ev3, ev4, Nat.reduceLT, Nat.reduceLeDiff, Nat.reduceEqDiff, Nat.reduceAdd, Nat.reduceMul, Nat.reduceBEq, reduceCtorEq, len26, bsl69, ix26, ld3, bsl26, apd26] <;> rfl) rfl ?_
      rintro _ _ ⟨rfl, rfl⟩
      refine WL_go (by simp only [ev0, ev1, ev2, ev3, ev4, Nat.reduceLT, Nat.reduceLeDiff, Nat.reduceEqDiff, Nat.reduceAdd, Nat.reduceMul, Nat.reduceBEq, reduceCtorEq, len26, bsl69, ix26, ld3, bsl26, apd26] <;> rfl) (Nat.le_of_ble_eq_true rfl) ?_
      refine WL_pure (f34_ok (outP 16) _ (xs ++ ys) _ (by simp; omega) (fun x _ => f46_at x 16 h (by omega))) rfl (.inl rfl) (by simp only [ev0, ev1, ev2, ev3, ev4, Nat.reduceLT, Nat.reduceLeDiff, Nat.reduceEqDiff, Nat.reduceAdd, Nat.reduceMul, Nat.reduceBEq, reduceCtorEq, len26, bsl69, ix26, ld3, bsl26, apd26] <;> rfl) (by simp only [ev0, ev1, ev2, ev3, ev4, Nat.reduceLT, Nat.reduceLeDiff, Nat.reduceEqDiff, Nat.reduceAdd, Nat.reduceMul, Nat.reduceBEq, reduceCtorEq, len26, bsl69, ix26, ld3, bsl26, apd26] <;> rfl) rfl (by simp only [ev0, ev1, ev2, ev3, ev4, Nat.reduceLT, Nat.reduceLeDiff, Nat.reduceEqDiff, Nat.reduceAdd, Nat.reduceMul, Nat.reduceBEq, reduceCtorEq, len26, bsl69, ix26, ld3, bsl26, apd26] <;> rfl) ?_
      refine WL_go (by simp only [ev0, ev1, ev2, ev3, ev4, Nat.reduceLT, Nat.reduceLeDiff, Nat.reduceEqDiff, Nat.reduceAdd, Nat.reduceMul, Nat.reduceBEq, reduceCtorEq, len26, bsl69, ix26, ld3, bsl26, apd26] <;> rfl) (Nat.le_of_ble_eq_true rfl) ?_
      refine WL_endk (ks := [0, 1, 18]) (by simp only [ev0, ev4, Nat.reduceEqDiff] <;> rfl) ?_
      with_reducible repeat (first | refine n1 ?_ | refine n2 ?_ | refine n3 ?_ | refine n4 ?_ | refine n5 ?_ | refine n6 ?_ | refine n7 rfl ?_ | refine W_seq ?_ | refine W_block ?_ | refine W_skip ?_ | refine W_exit ?_ | refine W_ret ?_)
      refine W_cond rfl (fun hp => ?_) (fun hp => ?_)
      · rw [outP_fn (by decide) (by decide)] at hp
        with_reducible repeat (first | refine n1 ?_ | refine n2 ?_ | refine n3 ?_ | refine n4 ?_ | refine n5 ?_ | refine n6 ?_ | refine n7 rfl ?_ | refine W_seq ?_ | refine W_block ?_ | refine W_skip ?_ | refine W_exit ?_ | refine W_ret ?_)
        refine W_go (by simp only [ev0, ev1, ev2, ev3, ev4, Nat.reduceLT, Nat.reduceLeDiff, Nat.reduceEqDiff, Nat.reduceAdd, Nat.reduceMul, Nat.reduceBEq, reduceCtorEq, len26, bsl69, ix26, ld3, bsl26, apd26] <;> rfl) (Nat.le_of_ble_eq_true rfl) ?_
        refine WL_endk (ks := [4, 5]) (by simp only [ev0, ev4, Nat.reduceEqDiff] <;> rfl) ?_
        with_reducible repeat (first | refine n1 ?_ | refine n4 ?_)
        refine W_nilsl 1 ?_
        with_reducible repeat (first | refine n1 ?_ | refine n2 ?_ | refine n3 ?_ | refine n4 ?_ | refine n5 ?_ | refine n6 ?_ | refine n7 rfl ?_ | refine W_seq ?_ | refine W_block ?_ | refine W_skip ?_ | refine W_exit ?_ | refine W_ret ?_)
        refine Fin_pure [.blk [.c (.int .i64 16)]] (.tup [.sl 1 ((meetV xs ys).map iv), .c (.int .i64 (meetE xs ys))]) (by first | exact .inl rfl | exact .inr rfl) rfl (by simp only [Tryd.results17, vres, vresL, vres1, one_, vload_eq, Option.map_some, ev0, ev3, ev4, Nat.reduceEqDiff, Nat.reduceAdd, Nat.reduceLeDiff] <;> rfl) rfl ?_ hk ?_ ⟨rfl, rfl⟩
        · have e : (xs ++ ys).any (fun m => !inB m 0 65535) = true := hp
          simp only [meetV, meetE, e]
          simp [hl, h5l]
        · exact ok_meet xs ys
      · rw [outP_fn (by decide) (by decide)] at hp
        with_reducible repeat (first | refine n1 ?_ | refine n2 ?_ | refine n3 ?_ | refine n4 ?_ | refine n5 ?_ | refine n6 ?_ | refine n7 rfl ?_ | refine W_seq ?_ | refine W_block ?_ | refine W_skip ?_ | refine W_exit ?_ | refine W_ret ?_)
        refine W_go (by simp only [ev0, ev1, ev2, ev3, ev4, Nat.reduceLT, Nat.reduceLeDiff, Nat.reduceEqDiff, Nat.reduceAdd, Nat.reduceMul, Nat.reduceBEq, reduceCtorEq, len26, bsl69, ix26, ld3, bsl26, apd26] <;> rfl) (Nat.le_of_ble_eq_true rfl) ?_
        refine WL_endk (ks := [6, 0, 1]) (by simp only [ev0, ev4, Nat.reduceEqDiff] <;> rfl) ?_
        with_reducible repeat (first | refine n1 ?_ | refine n2 ?_ | refine n3 ?_ | refine n4 ?_ | refine n5 ?_ | refine n6 ?_ | refine n7 rfl ?_ | refine W_seq ?_ | refine W_block ?_ | refine W_skip ?_ | refine W_exit ?_ | refine W_ret ?_)
        refine W_nil' 3 1 ?_
        refine W_go (by simp only [ev0, ev1, ev2, ev3, ev4, Nat.reduceLT, Nat.reduceLeDiff, Nat.reduceEqDiff, Nat.reduceAdd, Nat.reduceMul, Nat.reduceBEq, reduceCtorEq, len26, bsl69, ix26, ld3, bsl26, apd26] <;> rfl) (Nat.le_of_ble_eq_true rfl) ?_
        refine WL_endk (ks := [6, 0, 1, 26, 27]) (by simp only [ev0, ev4, Nat.reduceEqDiff] <;> rfl) ?_
        with_reducible repeat (first | refine n1 ?_ | refine n2 ?_ | refine n3 ?_ | refine n4 ?_ | refine n5 ?_ | refine n6 ?_ | refine n7 rfl ?_ | refine W_seq ?_ | refine W_block ?_ | refine W_skip ?_ | refine W_exit ?_ | refine W_ret ?_)
        have hz : (List.zipWith (iand .i64) xs ys).length = xs.length := by simp; omega
        refine W_loopS (fun (p : Nat × Hp) => ⟨44, [(6, .os (List.length p.2) p.1), (0, .sl 1 (xs.map iv)), (1, .sl 1 (ys.map iv)), (26, .c (.int .i64 xs.length)), (27, .c (.int .i64 p.1))], p.2 ++ [.arr 3 1 (((List.zipWith (iand .i64) xs ys).take p.1).map iv)], []⟩) (fun p => p.1 ≤ xs.length ∧ ∃ gs, p.2 = h ++ gs) (fun p => xs.length - p.1) (0, h ++ [.blk [.c (.int .i64 16)]]) ⟨by simp, [.blk [.c (.int .i64 16)]], by simp⟩ (by simp) (fun p hI => ?_)
        obtain ⟨k, H⟩ := p
        obtain ⟨hI, gs, hgs⟩ := hI
        simp only at hI hgs
        with_reducible repeat (first | refine n1 ?_ | refine n2 ?_ | refine n3 ?_ | refine n4 ?_ | refine n5 ?_ | refine n6 ?_ | refine n7 rfl ?_ | refine W_seq ?_ | refine W_block ?_ | refine W_skip ?_ | refine W_exit ?_ | refine W_ret ?_)
        refine W_go (by simp only [ev0, ev1, ev2, ev3, ev4, Nat.reduceLT, Nat.reduceLeDiff, Nat.reduceEqDiff, Nat.reduceAdd, Nat.reduceMul, Nat.reduceBEq, reduceCtorEq, len26, bsl69, ix26, ld3, bsl26, apd26] <;> rfl) (Nat.le_of_ble_eq_true rfl) ?_
        refine WL_end ?_
        with_reducible repeat (first | refine n1 ?_ | refine n2 ?_ | refine n3 ?_ | refine n4 ?_ | refine n5 ?_ | refine n6 ?_ | refine n7 rfl ?_ | refine W_seq ?_ | refine W_block ?_ | refine W_skip ?_ | refine W_exit ?_ | refine W_ret ?_)
        refine W_cond rfl (fun hb => ?_) (fun hb => ?_)
        · with_reducible repeat (first | refine n1 ?_ | refine n2 ?_ | refine n3 ?_ | refine n4 ?_ | refine n5 ?_ | refine n6 ?_ | refine n7 rfl ?_ | refine W_seq ?_ | refine W_block ?_ | refine W_skip ?_ | refine W_exit ?_ | refine W_ret ?_)
          have hlt : k < xs.length := by simpa using hb
          have hlt2 : k < ys.length := by omega
          have hx := map_get (f := iv) hlt
          have hy := map_get (f := iv) hlt2
          have q0 : (((List.zipWith (iand .i64) xs ys).take k).map iv).length = k := by simp; omega
          have q1 : (k + 1) * 8 ≤ 140737488355328 ∧ k + 1 ≤ 140737488355328 := by omega
          refine W_go (by simp only [ev0, ev1, ev2, ev3, ev4, Nat.reduceLT, Nat.reduceLeDiff, Nat.reduceEqDiff, Nat.reduceAdd, Nat.reduceMul, Nat.reduceBEq, reduceCtorEq, len26, bsl69, ix26, ld3, bsl26, apd26] <;> rfl) (Nat.le_of_ble_eq_true rfl) ?_
          refine WL_endk (ks := [6, 7, 0, 1, 26, 27]) (by simp only [ev0, ev4, Nat.reduceEqDiff] <;> rfl) ?_
          with_reducible repeat (first | refine n1 ?_ | refine n2 ?_ | refine n3 ?_ | refine n4 ?_ | refine n5 ?_ | refine n6 ?_ | refine n7 rfl ?_ | refine W_seq ?_ | refine W_block ?_ | refine W_skip ?_ | refine W_exit ?_ | refine W_ret ?_)
          refine W_draw (by kernel_rfl) (DR_end (by simp only [ev0, ev1, ev2, ev3, ev4, Nat.reduceLT, Nat.reduceLeDiff, Nat.reduceEqDiff, Nat.reduceAdd, Nat.reduceMul, Nat.reduceBEq, reduceCtorEq, len26, bsl69, ix26, ld3, bsl26, apd26, hx, hy, iv, q0, q1, List.length_map, List.length_take, hz] <;> rfl)) (by kernel_rfl) (by first | exact trivial | kernel_rfl) ?_
          with_reducible repeat (first | refine n1 ?_ | refine n2 ?_ | refine n3 ?_ | refine n4 ?_ | refine n5 ?_ | refine n6 ?_ | refine n7 rfl ?_ | refine W_seq ?_ | refine W_block ?_ | refine W_skip ?_ | refine W_exit ?_ | refine W_ret ?_)
          refine W_keep' (ks := [6, 0, 1, 26, 27]) (by simp only [ev0, ev4, Nat.reduceEqDiff] <;> rfl) ?_
          refine W_go (by simp only [ev0, ev1, ev2, ev3, ev4, Nat.reduceLT, Nat.reduceLeDiff, Nat.reduceEqDiff, Nat.reduceAdd, Nat.reduceMul, Nat.reduceBEq, reduceCtorEq, len26, bsl69, ix26, ld3, bsl26, apd26] <;> rfl) (Nat.le_of_ble_eq_true rfl) ?_
          refine WL_endk (ks := [6, 0, 1, 26, 27]) (by simp only [ev0, ev4, Nat.reduceEqDiff] <;> rfl) ?_
          with_reducible repeat (first | refine n1 ?_ | refine n2 ?_ | refine n3 ?_ | refine n4 ?_ | refine n5 ?_ | refine n6 ?_ | refine n7 rfl ?_ | refine W_seq ?_ | refine W_block ?_ | refine W_skip ?_ | refine W_exit ?_ | refine W_ret ?_)
          exact ⟨(k + 1, H ++ [.gone]), by rw [wrap64 (by omega) (by omega)]; simp [zip_take hlt hlt2, iv], ⟨by simp only; omega, gs ++ [.gone], by simp [hgs]⟩, by simp only; omega⟩
        · with_reducible repeat (first | refine n1 ?_ | refine n2 ?_ | refine n3 ?_ | refine n4 ?_ | refine n5 ?_ | refine n6 ?_ | refine n7 rfl ?_ | refine W_seq ?_ | refine W_block ?_ | refine W_skip ?_ | refine W_exit ?_ | refine W_ret ?_)
          have hge : k = xs.length := by
            have : xs.length ≤ k := by simpa using hb
            omega
          subst hgs
          rw [List.append_assoc, List.length_append]
          refine W_go (by simp only [ev0, ev1, ev2, ev3, ev4, Nat.reduceLT, Nat.reduceLeDiff, Nat.reduceEqDiff, Nat.reduceAdd, Nat.reduceMul, Nat.reduceBEq, reduceCtorEq, len26, bsl69, ix26, ld3, bsl26, apd26] <;> rfl) (Nat.le_of_ble_eq_true rfl) ?_
          refine WL_endk (ks := [4, 5]) (by simp only [ev0, ev4, Nat.reduceEqDiff] <;> rfl) ?_
          with_reducible repeat (first | refine n1 ?_ | refine n2 ?_ | refine n3 ?_ | refine n4 ?_ | refine n5 ?_ | refine n6 ?_ | refine n7 rfl ?_ | refine W_seq ?_ | refine W_block ?_ | refine W_skip ?_ | refine W_exit ?_ | refine W_ret ?_)
          refine Fin_pure (gs ++ [.arr 3 1 (((List.zipWith (iand .i64) xs ys).take k).map iv)]) (.tup [.sl 1 ((meetV xs ys).map iv), .c (.int .i64 (meetE xs ys))]) (by first | exact .inl rfl | exact .inr rfl) rfl (by simp only [Tryd.results17, vres, vresL, vres1, one_, vload_eq, Option.map_some, ev0, ev3, ev4, Nat.reduceEqDiff, Nat.reduceAdd, Nat.reduceLeDiff] <;> rfl) rfl ?_ hk ?_ ⟨rfl, rfl⟩
          · have e : (xs ++ ys).any (fun m => !inB m 0 65535) = false := hp
            have e2 : meetE xs ys = 0 := by simp only [meetE, e]; simp [hl, h5l]
            rw [rf_tup, List.map_cons, List.map_cons, List.map_nil, rf_c, e2, rf_os_ext (j := List.length gs) (by rw [get_append_0]; rfl) (by simp [hge, hl])]
            simp only [meetV, e2, if_true]
            rw [List.take_of_length_le (by simp [hge, hl]), hge, List.take_of_length_le (by simp; omega)]
          · exact ok_meet xs ys
  · have hl' : ((xs.length : Int) != (ys.length : Int)) = true := by simp; omega
    refine W_go (by simp only [ev0, ev1, ev2, ev3, ev4, Nat.reduceLT, Nat.reduceLeDiff, Nat.reduceEqDiff, Nat.reduceAdd, Nat.reduceMul, Nat.reduceBEq, reduceCtorEq, len26, bsl69, ix26, ld3, bsl26, apd26] <;> rfl) (Nat.le_of_ble_eq_true rfl) ?_
    refine WL_end ?_
    with_reducible repeat (first | refine n1 ?_ | refine n2 ?_ | refine n3 ?_ | refine n4 ?_ | refine n5 ?_ | refine n6 ?_ | refine n7 rfl ?_ | refine W_seq ?_ | refine W_block ?_ | refine W_skip ?_ | refine W_exit ?_ | refine W_ret ?_)
    refine W_go (by simp only [ev0, ev1, ev2, ev3, ev4, Nat.reduceLT, Nat.reduceLeDiff, Nat.reduceEqDiff, Nat.reduceAdd, Nat.reduceMul, Nat.reduceBEq, reduceCtorEq, len26, bsl69, ix26, ld3, bsl26, apd26, hl'] <;> rfl) (Nat.le_of_ble_eq_true rfl) ?_
    refine WL_endk (ks := [8]) (by simp only [ev0, ev4, Nat.reduceEqDiff] <;> rfl) ?_
    with_reducible repeat (first | refine n1 ?_ | refine n2 ?_ | refine n3 ?_ | refine n4 ?_ | refine n5 ?_ | refine n6 ?_ | refine n7 rfl ?_ | refine W_seq ?_ | refine W_block ?_ | refine W_skip ?_ | refine W_exit ?_ | refine W_ret ?_)
    refine W_true rfl ?_
    with_reducible repeat (first | refine n1 ?_ | refine n2 ?_ | refine n3 ?_ | refine n4 ?_ | refine n5 ?_ | refine n6 ?_ | refine n7 rfl ?_ | refine W_seq ?_ | refine W_block ?_ | refine W_skip ?_ | refine W_exit ?_ | refine W_ret ?_)
    refine W_go (by simp only [ev0, ev1, ev2, ev3, ev4, Nat.reduceLT, Nat.reduceLeDiff, Nat.reduceEqDiff, Nat.reduceAdd, Nat.reduceMul, Nat.reduceBEq, reduceCtorEq, len26, bsl69, ix26, ld3, bsl26, apd26] <;> rfl) (Nat.le_of_ble_eq_true rfl) ?_
    refine WL_endk (ks := [4, 5]) (by simp only [ev0, ev4, Nat.reduceEqDiff] <;> rfl) ?_
    with_reducible repeat (first | refine n1 ?_ | refine n4 ?_)
    refine W_nilsl 1 ?_
    with_reducible repeat (first | refine n1 ?_ | refine n2 ?_ | refine n3 ?_ | refine n4 ?_ | refine n5 ?_ | refine n6 ?_ | refine n7 rfl ?_ | refine W_seq ?_ | refine W_block ?_ | refine W_skip ?_ | refine W_exit ?_ | refine W_ret ?_)
    refine Fin_pure [] (.tup [.sl 1 ((meetV xs ys).map iv), .c (.int .i64 (meetE xs ys))]) (by first | exact .inl rfl | exact .inr rfl) rfl (by simp only [Tryd.results17, vres, vresL, vres1, one_, vload_eq, Option.map_some, ev0, ev3, ev4, Nat.reduceEqDiff, Nat.reduceAdd, Nat.reduceLeDiff] <;> rfl) rfl ?_ hk ?_ ⟨rfl, rfl⟩
    · simp [meetV, meetE, hl]
    · exact ok_meet xs ys
theorem f18_ok {G} (xs ys : List Int) (h : Hp) (hl1 : xs.length ≤ 100000) (hl2 : ys.length ≤ 100000) : VPure Tryd.prog G (.fn 18 []) [.sl 1 (xs.map iv), .sl 1 (ys.map iv)] h (.tup [.sl 1 ((meetV xs ys).map iv), .c (.int .i64 (meetE xs ys))]) := by
  refine VCall_fn' (tdOf_ok _) Tryd.func18 rfl (by rfl) 44 rfl (by simp) (by simp only [ents, List.cons_append, List.nil_append, List.append_nil] <;> rfl) (fun hk ha hc => ?_)
  with_reducible repeat (first | refine n1 ?_ | refine n2 ?_ | refine n3 ?_ | refine n4 ?_ | refine n5 ?_ | refine n6 ?_ | refine n7 rfl ?_ | refine W_seq ?_ | refine W_block ?_ | refine W_skip ?_ | refine W_exit ?_ | refine W_ret ?_)
  by_cases hl : xs.length = ys.length
  · have hl' : ((xs.length : Int) != (ys.length : Int)) = false := by simp [hl]
    refine W_go (by simp only [ev0, ev1, ev2, ev3, ev4, Nat.reduceLT, Nat.reduceLeDiff, Nat.reduceEqDiff, Nat.reduceAdd, Nat.reduceMul, Nat.reduceBEq, reduceCtorEq, len26, bsl26, ix26, ld3, apd26] <;> rfl) (Nat.le_of_ble_eq_true rfl) ?_
    refine WL_end ?_
    with_reducible repeat (first | refine n1 ?_ | refine n2 ?_ | refine n3 ?_ | refine n4 ?_ | refine n5 ?_ | refine n6 ?_ | refine n7 rfl ?_ | refine W_seq ?_ | refine W_block ?_ | refine W_skip ?_ | refine W_exit ?_ | refine W_ret ?_)
    refine W_go (by simp only [ev0, ev1, ev2, ev3, ev4, Nat.reduceLT, Nat.reduceLeDiff, Nat.reduceEqDiff, Nat.reduceAdd, Nat.reduceMul, Nat.reduceBEq, reduceCtorEq, len26, bsl26, ix26, ld3, apd26, hl'] <;> rfl) (Nat.le_of_ble_eq_true rfl) ?_
    refine WL_endk (ks := [0, 1, 12]) (by simp only [ev0, ev4, Nat.reduceEqDiff] <;> rfl) ?_
    with_reducible repeat (first | refine n1 ?_ | refine n2 ?_ | refine n3 ?_ | refine n4 ?_ | refine n5 ?_ | refine n6 ?_ | refine n7 rfl ?_ | refine W_seq ?_ | refine W_block ?_ | refine W_skip ?_ | refine W_exit ?_ | refine W_ret ?_)
    refine W_false rfl ?_
    with_reducible repeat (first | refine n1 ?_ | refine n2 ?_ | refine n3 ?_ | refine n4 ?_ | refine n5 ?_ | refine n6 ?_ | refine n7 rfl ?_ | refine W_seq ?_ | refine W_block ?_ | refine W_skip ?_ | refine W_exit ?_ | refine W_ret ?_)
    by_cases h5 : 512 < xs.length
    · have h5l : 512 < ys.length := by omega
      have h5' : decide ((xs.length : Int) > 512) = true := by simp; omega
      refine W_go (by simp only [ev0, ev1, ev2, ev3, ev4, Nat.reduceLT, Nat.reduceLeDiff, Nat.reduceEqDiff, Nat.reduceAdd, Nat.reduceMul, Nat.reduceBEq, reduceCtorEq, len26, bsl26, ix26, ld3, apd26, h5'] <;> rfl) (Nat.le_of_ble_eq_true rfl) ?_
      refine WL_endk (ks := [15]) (by simp only [ev0, ev4, Nat.reduceEqDiff] <;> rfl) ?_
      with_reducible repeat (first | refine n1 ?_ | refine n2 ?_ | refine n3 ?_ | refine n4 ?_ | refine n5 ?_ | refine n6 ?_ | refine n7 rfl ?_ | refine W_seq ?_ | refine W_block ?_ | refine W_skip ?_ | refine W_exit ?_ | refine W_ret ?_)
      refine W_true rfl ?_
      with_reducible repeat (first | refine n1 ?_ | refine n2 ?_ | refine n3 ?_ | refine n4 ?_ | refine n5 ?_ | refine n6 ?_ | refine n7 rfl ?_ | refine W_seq ?_ | refine W_block ?_ | refine W_skip ?_ | refine W_exit ?_ | refine W_ret ?_)
      refine W_go (by simp only [ev0, ev1, ev2, ev3, ev4, Nat.reduceLT, Nat.reduceLeDiff, Nat.reduceEqDiff, Nat.reduceAdd, Nat.reduceMul, Nat.reduceBEq, reduceCtorEq, len26, bsl26, ix26, ld3, apd26] <;> rfl) (Nat.le_of_ble_eq_true rfl) ?_
      refine WL_endk (ks := [4, 5]) (by simp only [ev0, ev4, Nat.reduceEqDiff] <;> rfl) ?_
      with_reducible repeat (first | refine n1 ?_ | refine n4 ?_)
      refine W_nilsl 1 ?_
      with_reducible repeat (first | refine n1 ?_ | refine n2 ?_ | refine n3 ?_ | refine n4 ?_ | refine n5 ?_ | refine n6 ?_ | refine n7 rfl ?_ | refine W_seq ?_ | refine W_block ?_ | refine W_skip ?_ | refine W_exit ?_ | refine W_ret ?_)
      refine Fin_pure [] (.tup [.sl 1 ((meetV xs ys).map iv), .c (.int .i64 (meetE xs ys))]) (by first | exact .inl rfl | exact .inr rfl) rfl (by simp only [Tryd.results18, vres, vresL, vres1, one_, vload_eq, Option.map_some, ev0, ev3, ev4, Nat.reduceEqDiff, Nat.reduceAdd, Nat.reduceLeDiff] <;> rfl) rfl ?_ hk ?_ ⟨rfl, rfl⟩
      · simp [meetV, meetE, hl, h5l, h5]
      · exact ok_meet xs ys
    have h5l : ¬ 512 < ys.length := by omega
    have h5' : decide ((xs.length : Int) > 512) = false := by simp; omega
    refine W_go (by simp only [ev0, ev1, ev2, ev3, ev4, Nat.reduceLT, Nat.reduceLeDiff, Nat.reduceEqDiff, Nat.reduceAdd, Nat.reduceMul, Nat.reduceBEq, reduceCtorEq, len26, bsl26, ix26, ld3, apd26, h5'] <;> rfl) (Nat.le_of_ble_eq_true rfl) ?_
    refine WL_endk (ks := [0, 1, 15]) (by simp only [ev0, ev4, Nat.reduceEqDiff] <;> rfl) ?_
    with_reducible repeat (first | refine n1 ?_ | refine n2 ?_ | refine n3 ?_ | refine n4 ?_ | refine n5 ?_ | refine n6 ?_ | refine n7 rfl ?_ | refine W_seq ?_ | refine W_block ?_ | refine W_skip ?_ | refine W_exit ?_ | refine W_ret ?_)
    refine W_false rfl ?_
    with_reducible repeat (first | refine n1 ?_ | refine n2 ?_ | refine n3 ?_ | refine n4 ?_ | refine n5 ?_ | refine n6 ?_ | refine n7 rfl ?_ | refine W_seq ?_ | refine W_block ?_ | refine W_skip ?_ | refine W_exit ?_ | refine W_ret ?_)
    cases h6 : xs.any (fun m => !inB m 0 65535)
    · cases h7 : ys.any (fun m => !inB m 0 65535)
      · have hp : (xs ++ ys).any (fun m => !inB m 0 65535) = false := by rw [List.any_append, h6, h7]; rfl
        refine W_go (by simp only [ev0, ev1, ev2, ev3, ev4, Nat.reduceLT, Nat.reduceLeDiff, Nat.reduceEqDiff, Nat.reduceAdd, Nat.reduceMul, Nat.reduceBEq, reduceCtorEq, len26, bsl26, ix26, ld3, apd26] <;> rfl) (Nat.le_of_ble_eq_true rfl) ?_
        refine WL_pure (f38_ok xs _ (by omega)) rfl (.inl rfl) (by simp only [ev0, ev1, ev2, ev3, ev4, Nat.reduceLT, Nat.reduceLeDiff, Nat.reduceEqDiff, Nat.reduceAdd, Nat.reduceMul, Nat.reduceBEq, reduceCtorEq, len26, bsl26, ix26, ld3, apd26] <;> rfl) (by simp only [ev0, ev1, ev2, ev3, ev4, Nat.reduceLT, Nat.reduceLeDiff, Nat.reduceEqDiff, Nat.reduceAdd, Nat.reduceMul, Nat.reduceBEq, reduceCtorEq, len26, bsl26, ix26, ld3, apd26] <;> rfl) rfl (by simp only [ev0, ev1, ev2, ev3, ev4, Nat.reduceLT, Nat.reduceLeDiff, Nat.reduceEqDiff, Nat.reduceAdd, Nat.reduceMul, Nat.reduceBEq, reduceCtorEq, len26, bsl26, ix26, ld3, apd26] <;> rfl) ?_
        refine WL_go (by simp only [ev0, ev1, ev2, ev3, ev4, Nat.reduceLT, Nat.reduceLeDiff, Nat.reduceEqDiff, Nat.reduceAdd, Nat.reduceMul, Nat.reduceBEq, reduceCtorEq, len26, bsl26, ix26, ld3, apd26, h6, Bool.not_false, Bool.not_true] <;> rfl) (Nat.le_of_ble_eq_true rfl) ?_
        refine WL_pure (f38_ok ys _ (by omega)) rfl (Wants_at (j := 3) rfl rfl (by simp only [ev0, ev1, ev2, ev3, ev4, Nat.reduceLT, Nat.reduceLeDiff, Nat.reduceEqDiff, Nat.reduceAdd, Nat.reduceMul, Nat.reduceBEq, reduceCtorEq, len26, bsl26, ix26, ld3, apd26, h6, Bool.not_false, Bool.not_true] <;> rfl)) (by simp only [ev0, ev1, ev2, ev3, ev4, Nat.reduceLT, Nat.reduceLeDiff, Nat.reduceEqDiff, Nat.reduceAdd, Nat.reduceMul, Nat.reduceBEq, reduceCtorEq, len26, bsl26, ix26, ld3, apd26, h6, Bool.not_false, Bool.not_true] <;> rfl) (by simp only [ev0, ev1, ev2, ev3, ev4, Nat.reduceLT, Nat.reduceLeDiff, Nat.reduceEqDiff, Nat.reduceAdd, Nat.reduceMul, Nat.reduceBEq, reduceCtorEq, len26, bsl26, ix26, ld3, apd26, h6, Bool.not_false, Bool.not_true] <;> rfl) rfl (by simp only [ev0, ev1, ev2, ev3, ev4, Nat.reduceLT, Nat.reduceLeDiff, Nat.reduceEqDiff, Nat.reduceAdd, Nat.reduceMul, Nat.reduceBEq, reduceCtorEq, len26, bsl26, ix26, ld3, apd26, h6, Bool.not_false, Bool.not_true] <;> rfl) ?_
        refine WL_go (by simp only [ev0, ev1, ev2, ev3, ev4, Nat.reduceLT, Nat.reduceLeDiff, Nat.reduceEqDiff, Nat.reduceAdd, Nat.reduceMul, Nat.reduceBEq, reduceCtorEq, len26, bsl26, ix26, ld3, apd26, h6, h7, Bool.not_false, Bool.not_true] <;> rfl) (Nat.le_of_ble_eq_true rfl) ?_
        refine WL_endk (ks := [0, 1, 23]) (by simp only [ev0, ev4, Nat.reduceEqDiff] <;> rfl) ?_
        with_reducible repeat (first | refine n1 ?_ | refine n2 ?_ | refine n3 ?_ | refine n4 ?_ | refine n5 ?_ | refine n6 ?_ | refine n7 rfl ?_ | refine W_seq ?_ | refine W_block ?_ | refine W_skip ?_ | refine W_exit ?_ | refine W_ret ?_)
        refine W_false rfl ?_
        with_reducible repeat (first | refine n1 ?_ | refine n2 ?_ | refine n3 ?_ | refine n4 ?_ | refine n5 ?_ | refine n6 ?_ | refine n7 rfl ?_ | refine W_seq ?_ | refine W_block ?_ | refine W_skip ?_ | refine W_exit ?_ | refine W_ret ?_)
        refine W_region ?_
        refine WL_ex (fid := none) (ob := .gone) (Does_buildSlice_os (len := 0) (parts := #[]) (xs := []) (tdOf_ok _) rfl td26 rfl td3 rfl (by decide) rfl rfl) (by intro c hc; cases hc) (.inl rfl) (by intro id hid; cases hid) (by simp only [ev0, ev1, ev2, ev3, ev4, Nat.reduceLT, Nat.reduceLeDiff, Nat.reduceEqDiff, Nat.reduceAdd, Nat.reduceMul, Nat.reduceBEq, reduceCtorEq, len26, bsl26, ix26, ld3, apd26] <;> rfl) ?_
        refine WL_go (by simp only [ev0, ev1, ev2, ev3, ev4, Nat.reduceLT, Nat.reduceLeDiff, Nat.reduceEqDiff, Nat.reduceAdd, Nat.reduceMul, Nat.reduceBEq, reduceCtorEq, len26, bsl26, ix26, ld3, apd26] <;> rfl) (Nat.le_of_ble_eq_true rfl) ?_
        refine WL_endk (ks := [6, 0, 1]) (by simp only [ev0, ev4, Nat.reduceEqDiff] <;> rfl) ?_
        with_reducible repeat (first | refine n1 ?_ | refine n2 ?_ | refine n3 ?_ | refine n4 ?_ | refine n5 ?_ | refine n6 ?_ | refine n7 rfl ?_ | refine W_seq ?_ | refine W_block ?_ | refine W_skip ?_ | refine W_exit ?_ | refine W_ret ?_)
        refine W_go (by simp only [ev0, ev1, ev2, ev3, ev4, Nat.reduceLT, Nat.reduceLeDiff, Nat.reduceEqDiff, Nat.reduceAdd, Nat.reduceMul, Nat.reduceBEq, reduceCtorEq, len26, bsl26, ix26, ld3, apd26] <;> rfl) (Nat.le_of_ble_eq_true rfl) ?_
        refine WL_endk (ks := [6, 0, 1, 7]) (by simp only [ev0, ev4, Nat.reduceEqDiff] <;> rfl) ?_
        with_reducible repeat (first | refine n1 ?_ | refine n2 ?_ | refine n3 ?_ | refine n4 ?_ | refine n5 ?_ | refine n6 ?_ | refine n7 rfl ?_ | refine W_seq ?_ | refine W_block ?_ | refine W_skip ?_ | refine W_exit ?_ | refine W_ret ?_)
        have hz : (List.zipWith (iand .i64) xs ys).length = xs.length := by simp; omega
        refine W_loopS (fun (p : Nat × Hp) => ⟨44, [(6, .os (List.length p.2) p.1), (0, .sl 1 (xs.map iv)), (1, .sl 1 (ys.map iv)), (7, .c (.int .i64 p.1))], p.2 ++ [.arr 3 1 (((List.zipWith (iand .i64) xs ys).take p.1).map iv)], []⟩) (fun p => p.1 ≤ xs.length ∧ ∃ gs, p.2 = h ++ gs) (fun p => xs.length - p.1) (0, h) ⟨by simp, [], by simp⟩ (by simp) (fun p hI => ?_)
        obtain ⟨k, H⟩ := p
        obtain ⟨hI, gs, hgs⟩ := hI
        simp only at hI hgs
        with_reducible repeat (first | refine n1 ?_ | refine n2 ?_ | refine n3 ?_ | refine n4 ?_ | refine n5 ?_ | refine n6 ?_ | refine n7 rfl ?_ | refine W_seq ?_ | refine W_block ?_ | refine W_skip ?_ | refine W_exit ?_ | refine W_ret ?_)
        refine W_go (by simp only [ev0, ev1, ev2, ev3, ev4, Nat.reduceLT, Nat.reduceLeDiff, Nat.reduceEqDiff, Nat.reduceAdd, Nat.reduceMul, Nat.reduceBEq, reduceCtorEq, len26, bsl26, ix26, ld3, apd26] <;> rfl) (Nat.le_of_ble_eq_true rfl) ?_
        refine WL_end ?_
        with_reducible repeat (first | refine n1 ?_ | refine n2 ?_ | refine n3 ?_ | refine n4 ?_ | refine n5 ?_ | refine n6 ?_ | refine n7 rfl ?_ | refine W_seq ?_ | refine W_block ?_ | refine W_skip ?_ | refine W_exit ?_ | refine W_ret ?_)
        refine W_cond rfl (fun hb => ?_) (fun hb => ?_)
        · with_reducible repeat (first | refine n1 ?_ | refine n2 ?_ | refine n3 ?_ | refine n4 ?_ | refine n5 ?_ | refine n6 ?_ | refine n7 rfl ?_ | refine W_seq ?_ | refine W_block ?_ | refine W_skip ?_ | refine W_exit ?_ | refine W_ret ?_)
          have hlt : k < xs.length := by simpa using hb
          have hlt2 : k < ys.length := by omega
          have hx := map_get (f := iv) hlt
          have hy := map_get (f := iv) hlt2
          have q0 : (((List.zipWith (iand .i64) xs ys).take k).map iv).length = k := by simp; omega
          have q1 : (k + 1) * 8 ≤ 140737488355328 ∧ k + 1 ≤ 140737488355328 := by omega
          with_reducible repeat (first | refine n1 ?_ | refine n2 ?_ | refine n3 ?_ | refine n4 ?_ | refine n5 ?_ | refine n6 ?_ | refine n7 rfl ?_ | refine W_seq ?_ | refine W_block ?_ | refine W_skip ?_ | refine W_exit ?_ | refine W_ret ?_)
          refine W_draw (by kernel_rfl) (DR_end (by simp only [ev0, ev1, ev2, ev3, ev4, Nat.reduceLT, Nat.reduceLeDiff, Nat.reduceEqDiff, Nat.reduceAdd, Nat.reduceMul, Nat.reduceBEq, reduceCtorEq, len26, bsl26, ix26, ld3, apd26, hx, hy, iv, q0, q1, List.length_map, List.length_take, hz] <;> rfl)) (by kernel_rfl) (by first | exact trivial | kernel_rfl) ?_
          with_reducible repeat (first | refine n1 ?_ | refine n2 ?_ | refine n3 ?_ | refine n4 ?_ | refine n5 ?_ | refine n6 ?_ | refine n7 rfl ?_ | refine W_seq ?_ | refine W_block ?_ | refine W_skip ?_ | refine W_exit ?_ | refine W_ret ?_)
          refine W_keep' (ks := [6, 0, 1, 7]) (by simp only [ev0, ev4, Nat.reduceEqDiff] <;> rfl) ?_
          refine W_go (by simp only [ev0, ev1, ev2, ev3, ev4, Nat.reduceLT, Nat.reduceLeDiff, Nat.reduceEqDiff, Nat.reduceAdd, Nat.reduceMul, Nat.reduceBEq, reduceCtorEq, len26, bsl26, ix26, ld3, apd26] <;> rfl) (Nat.le_of_ble_eq_true rfl) ?_
          refine WL_endk (ks := [6, 0, 1, 7]) (by simp only [ev0, ev4, Nat.reduceEqDiff] <;> rfl) ?_
          with_reducible repeat (first | refine n1 ?_ | refine n2 ?_ | refine n3 ?_ | refine n4 ?_ | refine n5 ?_ | refine n6 ?_ | refine n7 rfl ?_ | refine W_seq ?_ | refine W_block ?_ | refine W_skip ?_ | refine W_exit ?_ | refine W_ret ?_)
          exact ⟨(k + 1, H ++ [.gone]), by rw [wrap64 (by omega) (by omega)]; simp [zip_take hlt hlt2, iv], ⟨by simp only; omega, gs ++ [.gone], by simp [hgs]⟩, by simp only; omega⟩
        · with_reducible repeat (first | refine n1 ?_ | refine n2 ?_ | refine n3 ?_ | refine n4 ?_ | refine n5 ?_ | refine n6 ?_ | refine n7 rfl ?_ | refine W_seq ?_ | refine W_block ?_ | refine W_skip ?_ | refine W_exit ?_ | refine W_ret ?_)
          have hge : k = xs.length := by
            have : xs.length ≤ k := by simpa using hb
            omega
          subst hgs
          rw [List.append_assoc, List.length_append]
          refine W_go (by simp only [ev0, ev1, ev2, ev3, ev4, Nat.reduceLT, Nat.reduceLeDiff, Nat.reduceEqDiff, Nat.reduceAdd, Nat.reduceMul, Nat.reduceBEq, reduceCtorEq, len26, bsl26, ix26, ld3, apd26] <;> rfl) (Nat.le_of_ble_eq_true rfl) ?_
          refine WL_endk (ks := [4, 5]) (by simp only [ev0, ev4, Nat.reduceEqDiff] <;> rfl) ?_
          with_reducible repeat (first | refine n1 ?_ | refine n2 ?_ | refine n3 ?_ | refine n4 ?_ | refine n5 ?_ | refine n6 ?_ | refine n7 rfl ?_ | refine W_seq ?_ | refine W_block ?_ | refine W_skip ?_ | refine W_exit ?_ | refine W_ret ?_)
          refine Fin_pure (gs ++ [.arr 3 1 (((List.zipWith (iand .i64) xs ys).take k).map iv)]) (.tup [.sl 1 ((meetV xs ys).map iv), .c (.int .i64 (meetE xs ys))]) (by first | exact .inl rfl | exact .inr rfl) rfl (by simp only [Tryd.results18, vres, vresL, vres1, one_, vload_eq, Option.map_some, ev0, ev3, ev4, Nat.reduceEqDiff, Nat.reduceAdd, Nat.reduceLeDiff] <;> rfl) rfl ?_ hk ?_ ⟨rfl, rfl⟩
          · have e : (xs ++ ys).any (fun m => !inB m 0 65535) = false := hp
            have e2 : meetE xs ys = 0 := by simp only [meetE, e]; simp [hl, h5l]
            rw [rf_tup, List.map_cons, List.map_cons, List.map_nil, rf_c, e2, rf_os_ext (j := List.length gs) (by rw [get_append_0]; rfl) (by simp [hge, hl])]
            simp only [meetV, e2, if_true]
            rw [List.take_of_length_le (by simp [hge, hl]), hge, List.take_of_length_le (by simp; omega)]
          · exact ok_meet xs ys
      · have hp : (xs ++ ys).any (fun m => !inB m 0 65535) = true := by rw [List.any_append, h6, h7]; rfl
        refine W_go (by simp only [ev0, ev1, ev2, ev3, ev4, Nat.reduceLT, Nat.reduceLeDiff, Nat.reduceEqDiff, Nat.reduceAdd, Nat.reduceMul, Nat.reduceBEq, reduceCtorEq, len26, bsl26, ix26, ld3, apd26] <;> rfl) (Nat.le_of_ble_eq_true rfl) ?_
        refine WL_pure (f38_ok xs _ (by omega)) rfl (.inl rfl) (by simp only [ev0, ev1, ev2, ev3, ev4, Nat.reduceLT, Nat.reduceLeDiff, Nat.reduceEqDiff, Nat.reduceAdd, Nat.reduceMul, Nat.reduceBEq, reduceCtorEq, len26, bsl26, ix26, ld3, apd26] <;> rfl) (by simp only [ev0, ev1, ev2, ev3, ev4, Nat.reduceLT, Nat.reduceLeDiff, Nat.reduceEqDiff, Nat.reduceAdd, Nat.reduceMul, Nat.reduceBEq, reduceCtorEq, len26, bsl26, ix26, ld3, apd26] <;> rfl) rfl (by simp only [ev0, ev1, ev2, ev3, ev4, Nat.reduceLT, Nat.reduceLeDiff, Nat.reduceEqDiff, Nat.reduceAdd, Nat.reduceMul, Nat.reduceBEq, reduceCtorEq, len26, bsl26, ix26, ld3, apd26] <;> rfl) ?_
        refine WL_go (by simp only [ev0, ev1, ev2, ev3, ev4, Nat.reduceLT, Nat.reduceLeDiff, Nat.reduceEqDiff, Nat.reduceAdd, Nat.reduceMul, Nat.reduceBEq, reduceCtorEq, len26, bsl26, ix26, ld3, apd26, h6, Bool.not_false, Bool.not_true] <;> rfl) (Nat.le_of_ble_eq_true rfl) ?_
        refine WL_pure (f38_ok ys _ (by omega)) rfl (Wants_at (j := 3) rfl rfl (by simp only [ev0, ev1, ev2, ev3, ev4, Nat.reduceLT, Nat.reduceLeDiff, Nat.reduceEqDiff, Nat.reduceAdd, Nat.reduceMul, Nat.reduceBEq, reduceCtorEq, len26, bsl26, ix26, ld3, apd26, h6, Bool.not_false, Bool.not_true] <;> rfl)) (by simp only [ev0, ev1, ev2, ev3, ev4, Nat.reduceLT, Nat.reduceLeDiff, Nat.reduceEqDiff, Nat.reduceAdd, Nat.reduceMul, Nat.reduceBEq, reduceCtorEq, len26, bsl26, ix26, ld3, apd26, h6, Bool.not_false, Bool.not_true] <;> rfl) (by simp only [ev0, ev1, ev2, ev3, ev4, Nat.reduceLT, Nat.reduceLeDiff, Nat.reduceEqDiff, Nat.reduceAdd, Nat.reduceMul, Nat.reduceBEq, reduceCtorEq, len26, bsl26, ix26, ld3, apd26, h6, Bool.not_false, Bool.not_true] <;> rfl) rfl (by simp only [ev0, ev1, ev2, ev3, ev4, Nat.reduceLT, Nat.reduceLeDiff, Nat.reduceEqDiff, Nat.reduceAdd, Nat.reduceMul, Nat.reduceBEq, reduceCtorEq, len26, bsl26, ix26, ld3, apd26, h6, Bool.not_false, Bool.not_true] <;> rfl) ?_
        refine WL_go (by simp only [ev0, ev1, ev2, ev3, ev4, Nat.reduceLT, Nat.reduceLeDiff, Nat.reduceEqDiff, Nat.reduceAdd, Nat.reduceMul, Nat.reduceBEq, reduceCtorEq, len26, bsl26, ix26, ld3, apd26, h6, h7, Bool.not_false, Bool.not_true] <;> rfl) (Nat.le_of_ble_eq_true rfl) ?_
        refine WL_endk (ks := [0, 1, 23]) (by simp only [ev0, ev4, Nat.reduceEqDiff] <;> rfl) ?_
        with_reducible repeat (first | refine n1 ?_ | refine n2 ?_ | refine n3 ?_ | refine n4 ?_ | refine n5 ?_ | refine n6 ?_ | refine n7 rfl ?_ | refine W_seq ?_ | refine W_block ?_ | refine W_skip ?_ | refine W_exit ?_ | refine W_ret ?_)
        refine W_true rfl ?_
        with_reducible repeat (first | refine n1 ?_ | refine n2 ?_ | refine n3 ?_ | refine n4 ?_ | refine n5 ?_ | refine n6 ?_ | refine n7 rfl ?_ | refine W_seq ?_ | refine W_block ?_ | refine W_skip ?_ | refine W_exit ?_ | refine W_ret ?_)
        refine W_go (by simp only [ev0, ev1, ev2, ev3, ev4, Nat.reduceLT, Nat.reduceLeDiff, Nat.reduceEqDiff, Nat.reduceAdd, Nat.reduceMul, Nat.reduceBEq, reduceCtorEq, len26, bsl26, ix26, ld3, apd26] <;> rfl) (Nat.le_of_ble_eq_true rfl) ?_
        refine WL_endk (ks := [4, 5]) (by simp only [ev0, ev4, Nat.reduceEqDiff] <;> rfl) ?_
        with_reducible repeat (first | refine n1 ?_ | refine n4 ?_)
        refine W_nilsl 1 ?_
        with_reducible repeat (first | refine n1 ?_ | refine n2 ?_ | refine n3 ?_ | refine n4 ?_ | refine n5 ?_ | refine n6 ?_ | refine n7 rfl ?_ | refine W_seq ?_ | refine W_block ?_ | refine W_skip ?_ | refine W_exit ?_ | refine W_ret ?_)
        refine Fin_pure [] (.tup [.sl 1 ((meetV xs ys).map iv), .c (.int .i64 (meetE xs ys))]) (by first | exact .inl rfl | exact .inr rfl) rfl (by simp only [Tryd.results18, vres, vresL, vres1, one_, vload_eq, Option.map_some, ev0, ev3, ev4, Nat.reduceEqDiff, Nat.reduceAdd, Nat.reduceLeDiff] <;> rfl) rfl ?_ hk ?_ ⟨rfl, rfl⟩
        · simp only [meetV, meetE, hp]
          simp [hl, h5l]
        · exact ok_meet xs ys
    · have hp : (xs ++ ys).any (fun m => !inB m 0 65535) = true := by rw [List.any_append, h6]; rfl
      refine W_go (by simp only [ev0, ev1, ev2, ev3, ev4, Nat.reduceLT, Nat.reduceLeDiff, Nat.reduceEqDiff, Nat.reduceAdd, Nat.reduceMul, Nat.reduceBEq, reduceCtorEq, len26, bsl26, ix26, ld3, apd26] <;> rfl) (Nat.le_of_ble_eq_true rfl) ?_
      refine WL_pure (f38_ok xs _ (by omega)) rfl (.inl rfl) (by simp only [ev0, ev1, ev2, ev3, ev4, Nat.reduceLT, Nat.reduceLeDiff, Nat.reduceEqDiff, Nat.reduceAdd, Nat.reduceMul, Nat.reduceBEq, reduceCtorEq, len26, bsl26, ix26, ld3, apd26] <;> rfl) (by simp only [ev0, ev1, ev2, ev3, ev4, Nat.reduceLT, Nat.reduceLeDiff, Nat.reduceEqDiff, Nat.reduceAdd, Nat.reduceMul, Nat.reduceBEq, reduceCtorEq, len26, bsl26, ix26, ld3, apd26] <;> rfl) rfl (by simp only [ev0, ev1, ev2, ev3, ev4, Nat.reduceLT, Nat.reduceLeDiff, Nat.reduceEqDiff, Nat.reduceAdd, Nat.reduceMul, Nat.reduceBEq, reduceCtorEq, len26, bsl26, ix26, ld3, apd26] <;> rfl) ?_
      refine WL_go (by simp only [ev0, ev1, ev2, ev3, ev4, Nat.reduceLT, Nat.reduceLeDiff, Nat.reduceEqDiff, Nat.reduceAdd, Nat.reduceMul, Nat.reduceBEq, reduceCtorEq, len26, bsl26, ix26, ld3, apd26, h6, Bool.not_false, Bool.not_true] <;> rfl) (Nat.le_of_ble_eq_true rfl) ?_
      refine WL_endk (ks := [0, 1, 23]) (by simp only [ev0, ev4, Nat.reduceEqDiff] <;> rfl) ?_
      with_reducible repeat (first | refine n1 ?_ | refine n2 ?_ | refine n3 ?_ | refine n4 ?_ | refine n5 ?_ | refine n6 ?_ | refine n7 rfl ?_ | refine W_seq ?_ | refine W_block ?_ | refine W_skip ?_ | refine W_exit ?_ | refine W_ret ?_)
      refine W_true rfl ?_
      with_reducible repeat (first | refine n1 ?_ | refine n2 ?_ | refine n3 ?_ | refine n4 ?_ | refine n5 ?_ | refine n6 ?_ | refine n7 rfl ?_ | refine W_seq ?_ | refine W_block ?_ | refine W_skip ?_ | refine W_exit ?_ | refine W_ret ?_)
      refine W_go (by simp only [ev0, ev1, ev2, ev3, ev4, Nat.reduceLT, Nat.reduceLeDiff, Nat.reduceEqDiff, Nat.reduceAdd, Nat.reduceMul, Nat.reduceBEq, reduceCtorEq, len26, bsl26, ix26, ld3, apd26] <;> rfl) (Nat.le_of_ble_eq_true rfl) ?_
      refine WL_endk (ks := [4, 5]) (by simp only [ev0, ev4, Nat.reduceEqDiff] <;> rfl) ?_
      with_reducible repeat (first | refine n1 ?_ | refine n4 ?_)
      refine W_nilsl 1 ?_
      with_reducible repeat (first | refine n1 ?_ | refine n2 ?_ | refine n3 ?_ | refine n4 ?_ | refine n5 ?_ | refine n6 ?_ | refine n7 rfl ?_ | refine W_seq ?_ | refine W_block ?_ | refine W_skip ?_ | refine W_exit ?_ | refine W_ret ?_)
      refine Fin_pure [] (.tup [.sl 1 ((meetV xs ys).map iv), .c (.int .i64 (meetE xs ys))]) (by first | exact .inl rfl | exact .inr rfl) rfl (by simp only [Tryd.results18, vres, vresL, vres1, one_, vload_eq, Option.map_some, ev0, ev3, ev4, Nat.reduceEqDiff, Nat.reduceAdd, Nat.reduceLeDiff] <;> rfl) rfl ?_ hk ?_ ⟨rfl, rfl⟩
      · simp only [meetV, meetE, hp]
        simp [hl, h5l]
      · exact ok_meet xs ys
  · have hl' : ((xs.length : Int) != (ys.length : Int)) = true := by simp; omega
    refine W_go (by simp only [ev0, ev1, ev2, ev3, ev4, Nat.reduceLT, Nat.reduceLeDiff, Nat.reduceEqDiff, Nat.reduceAdd, Nat.reduceMul, Nat.reduceBEq, reduceCtorEq, len26, bsl26, ix26, ld3, apd26] <;> rfl) (Nat.le_of_ble_eq_true rfl) ?_
    refine WL_end ?_
    with_reducible repeat (first | refine n1 ?_ | refine n2 ?_ | refine n3 ?_ | refine n4 ?_ | refine n5 ?_ | refine n6 ?_ | refine n7 rfl ?_ | refine W_seq ?_ | refine W_block ?_ | refine W_skip ?_ | refine W_exit ?_ | refine W_ret ?_)
    refine W_go (by simp only [ev0, ev1, ev2, ev3, ev4, Nat.reduceLT, Nat.reduceLeDiff, Nat.reduceEqDiff, Nat.reduceAdd, Nat.reduceMul, Nat.reduceBEq, reduceCtorEq, len26, bsl26, ix26, ld3, apd26, hl'] <;> rfl) (Nat.le_of_ble_eq_true rfl) ?_
    refine WL_endk (ks := [12]) (by simp only [ev0, ev4, Nat.reduceEqDiff] <;> rfl) ?_
    with_reducible repeat (first | refine n1 ?_ | refine n2 ?_ | refine n3 ?_ | refine n4 ?_ | refine n5 ?_ | refine n6 ?_ | refine n7 rfl ?_ | refine W_seq ?_ | refine W_block ?_ | refine W_skip ?_ | refine W_exit ?_ | refine W_ret ?_)
    refine W_true rfl ?_
    with_reducible repeat (first | refine n1 ?_ | refine n2 ?_ | refine n3 ?_ | refine n4 ?_ | refine n5 ?_ | refine n6 ?_ | refine n7 rfl ?_ | refine W_seq ?_ | refine W_block ?_ | refine W_skip ?_ | refine W_exit ?_ | refine W_ret ?_)
    refine W_go (by simp only [ev0, ev1, ev2, ev3, ev4, Nat.reduceLT, Nat.reduceLeDiff, Nat.reduceEqDiff, Nat.reduceAdd, Nat.reduceMul, Nat.reduceBEq, reduceCtorEq, len26, bsl26, ix26, ld3, apd26] <;> rfl) (Nat.le_of_ble_eq_true rfl) ?_
    refine WL_endk (ks := [4, 5]) (by simp only [ev0, ev4, Nat.reduceEqDiff] <;> rfl) ?_
    with_reducible repeat (first | refine n1 ?_ | refine n4 ?_)
    refine W_nilsl 1 ?_
    with_reducible repeat (first | refine n1 ?_ | refine n2 ?_ | refine n3 ?_ | refine n4 ?_ | refine n5 ?_ | refine n6 ?_ | refine n7 rfl ?_ | refine W_seq ?_ | refine W_block ?_ | refine W_skip ?_ | refine W_exit ?_ | refine W_ret ?_)
    refine Fin_pure [] (.tup [.sl 1 ((meetV xs ys).map iv), .c (.int .i64 (meetE xs ys))]) (by first | exact .inl rfl | exact .inr rfl) rfl (by simp only [Tryd.results18, vres, vresL, vres1, one_, vload_eq, Option.map_some, ev0, ev3, ev4, Nat.reduceEqDiff, Nat.reduceAdd, Nat.reduceLeDiff] <;> rfl) rfl ?_ hk ?_ ⟨rfl, rfl⟩
    · simp [meetV, meetE, hl]
    · exact ok_meet xs ys
end Go.Vm
/- Contracts: the form of a schedule (the program's). -/
namespace Go.Vm
open Go Go.RowKit Go.Proofs
set_option linter.unusedSimpArgs false
set_option linter.unusedVariables false

structure Sch where
  len : Int
  offs : Int
  cells : List Cell

def schV (s : Sch) : List Val := [.c (.int .i64 s.len), .c (.int .i64 s.offs), .sl 5 (s.cells.map cellV)]
def inside (x n : Int) : Bool := decide (x ≥ 0) && decide (x < n)
def placed (s : Sch) (c : Cell) : Bool := inside c.slot s.len && inside c.offset s.offs
def formed (s : Sch) (c : Cell) : Bool := placed s c && inside c.src 32 && inside c.to 32 && inside c.flow 256
def sized (s : Sch) : Bool := decide (s.len ≥ 1) && decide (s.len ≤ 512) && decide (s.offs ≥ 1) && decide (s.offs ≤ 16)
def cmp1 (x y : Int) : Int := if x < y then -1 else if y < x then 1 else 0
def cmpL : List Int → List Int → Int
  | x :: xs, y :: ys => if cmp1 x y ≠ 0 then cmp1 x y else cmpL xs ys
  | _, _ => 0
def nums (c : Cell) : List Int := [c.slot, c.offset, c.src, c.to, c.flow]
def cmpC (a b : Cell) : Int := cmpL (nums a) (nums b)

theorem and4 (a b c d : Bool) : (a = false ∧ True ∧ True ∧ True) ∨ (a = true ∧ b = false ∧ True ∧ True) ∨ (a = true ∧ b = true ∧ c = false ∧ True) ∨ (a = true ∧ b = true ∧ c = true ∧ d = false) ∨ (a = true ∧ b = true ∧ c = true ∧ d = true) := by
  cases a <;> cases b <;> cases c <;> cases d <;> simp

theorem f54_ok {G} (s : Sch) (h : Hp) : VPure Tryd.prog G (.fn 54 []) [.agg (schV s)] h (.c (.bool (sized s))) := by
  refine VCall_fn' (tdOf_ok _) Tryd.func54 rfl (by rfl) 21 rfl (by simp) (by simp only [ents, List.cons_append, List.nil_append, List.append_nil] <;> rfl) (fun hk ha hc => ?_)
  with_reducible repeat (first | refine n1 ?_ | refine n2 ?_ | refine n3 ?_ | refine n4 ?_ | refine n5 ?_ | refine n6 ?_ | refine n7 rfl ?_ | refine W_seq ?_ | refine W_block ?_ | refine W_skip ?_ | refine W_exit ?_ | refine W_ret ?_)
  obtain ⟨h1, h2, h3, h4⟩ | ⟨h1, h2, h3, h4⟩ | ⟨h1, h2, h3, h4⟩ | ⟨h1, h2, h3, h4⟩ | ⟨h1, h2, h3, h4⟩ := and4 (decide (s.len ≥ 1)) (decide (s.len ≤ 512)) (decide (s.offs ≥ 1)) (decide (s.offs ≤ 16))
  all_goals
    refine W_go (by simp only [ev0, ev1, ev2, ev3, ev4, Nat.reduceLT, Nat.reduceLeDiff, Nat.reduceEqDiff, Nat.reduceAdd, Nat.reduceMul, Nat.reduceBEq, reduceCtorEq, fa24_0, ld3, fa24_1, schV] <;> rfl) (Nat.le_of_ble_eq_true rfl) ?_
    refine WL_end ?_
    with_reducible repeat (first | refine n1 ?_ | refine n2 ?_ | refine n3 ?_ | refine n4 ?_ | refine n5 ?_ | refine n6 ?_ | refine n7 rfl ?_ | refine W_seq ?_ | refine W_block ?_ | refine W_skip ?_ | refine W_exit ?_ | refine W_ret ?_)
    refine W_go (by simp only [ev0, ev1, ev2, ev3, ev4, Nat.reduceLT, Nat.reduceLeDiff, Nat.reduceEqDiff, Nat.reduceAdd, Nat.reduceMul, Nat.reduceBEq, reduceCtorEq, fa24_0, ld3, fa24_1, h1, h2, h3, h4] <;> rfl) (Nat.le_of_ble_eq_true rfl) ?_
    refine WL_endk (ks := [2]) (by simp only [ev0, ev4, Nat.reduceEqDiff] <;> rfl) ?_
    with_reducible repeat (first | refine n1 ?_ | refine n2 ?_ | refine n3 ?_ | refine n4 ?_ | refine n5 ?_ | refine n6 ?_ | refine n7 rfl ?_ | refine W_seq ?_ | refine W_block ?_ | refine W_skip ?_ | refine W_exit ?_ | refine W_ret ?_)
    refine Fin_pure [.blk (schV s)] _ (by first | exact .inl rfl | exact .inr rfl) rfl (by simp only [Tryd.results54, vres, vresL, vres1, one_, vload_eq, Option.map_some, ev0, ev3, ev4, Nat.reduceEqDiff, Nat.reduceAdd, Nat.reduceLeDiff] <;> rfl) rfl (by simp only [one_, rf_c, rf_any, rf_sl, rf_ptr, rf_fn, rf_agg, rf_tup, rf, List.map_cons, List.map_nil] <;> rfl) hk (by simp) ?_
    exact ⟨by simp only [sized, h1, h2, h3, h4]; rfl, rfl⟩

theorem f60_ok {G} (x n : Int) (h : Hp) : VPure Tryd.prog G (.fn 60 []) [.c (.int .i64 x), .c (.int .i64 n)] h (.c (.bool (inside x n))) := by
  refine VCall_fn' (tdOf_ok _) Tryd.func60 rfl (by rfl) 12 rfl (by simp) (by simp only [ents, List.cons_append, List.nil_append, List.append_nil] <;> rfl) (fun hk ha hc => ?_)
  with_reducible repeat (first | refine n1 ?_ | refine n2 ?_ | refine n3 ?_ | refine n4 ?_ | refine n5 ?_ | refine n6 ?_ | refine n7 rfl ?_ | refine W_seq ?_ | refine W_block ?_ | refine W_skip ?_ | refine W_exit ?_ | refine W_ret ?_)
  cases h1 : decide (x ≥ 0) <;> cases h2 : decide (x < n)
  all_goals
    refine W_go (by simp only [ev0, ev1, ev2, ev3, ev4, Nat.reduceLT, Nat.reduceLeDiff, Nat.reduceEqDiff, Nat.reduceAdd, Nat.reduceMul, Nat.reduceBEq, reduceCtorEq] <;> rfl) (Nat.le_of_ble_eq_true rfl) ?_
    refine WL_end ?_
    with_reducible repeat (first | refine n1 ?_ | refine n2 ?_ | refine n3 ?_ | refine n4 ?_ | refine n5 ?_ | refine n6 ?_ | refine n7 rfl ?_ | refine W_seq ?_ | refine W_block ?_ | refine W_skip ?_ | refine W_exit ?_ | refine W_ret ?_)
    refine W_go (by simp only [ev0, ev1, ev2, ev3, ev4, Nat.reduceLT, Nat.reduceLeDiff, Nat.reduceEqDiff, Nat.reduceAdd, Nat.reduceMul, Nat.reduceBEq, reduceCtorEq, h1, h2] <;> rfl) (Nat.le_of_ble_eq_true rfl) ?_
    refine WL_endk (ks := [4]) (by simp only [ev0, ev4, Nat.reduceEqDiff] <;> rfl) ?_
    with_reducible repeat (first | refine n1 ?_ | refine n2 ?_ | refine n3 ?_ | refine n4 ?_ | refine n5 ?_ | refine n6 ?_ | refine n7 rfl ?_ | refine W_seq ?_ | refine W_block ?_ | refine W_skip ?_ | refine W_exit ?_ | refine W_ret ?_)
    refine Fin_pure [] _ (by first | exact .inl rfl | exact .inr rfl) rfl (by simp only [Tryd.results60, vres, vresL, vres1, one_, vload_eq, Option.map_some, ev0, ev3, ev4, Nat.reduceEqDiff, Nat.reduceAdd, Nat.reduceLeDiff] <;> rfl) rfl (by simp only [one_, rf_c, rf_any, rf_sl, rf_ptr, rf_fn, rf_agg, rf_tup, rf, List.map_cons, List.map_nil] <;> rfl) hk (by simp) ?_
    exact ⟨by simp only [inside, h1, h2]; rfl, rfl⟩
theorem f59_ok {G} (s : Sch) (c : Cell) (h : Hp) : VPure Tryd.prog G (.fn 59 []) [.agg (schV s), .agg (cellV c)] h (.c (.bool (placed s c))) := by
  refine VCall_fn' (tdOf_ok _) Tryd.func59 rfl (by rfl) 17 rfl (by simp) (by simp only [ents, List.cons_append, List.nil_append, List.append_nil] <;> rfl) (fun hk ha hc => ?_)
  with_reducible repeat (first | refine n1 ?_ | refine n2 ?_ | refine n3 ?_ | refine n4 ?_ | refine n5 ?_ | refine n6 ?_ | refine n7 rfl ?_ | refine W_seq ?_ | refine W_block ?_ | refine W_skip ?_ | refine W_exit ?_ | refine W_ret ?_)
  cases h1 : inside c.slot s.len
  · refine W_go (by simp only [ev0, ev1, ev2, ev3, ev4, Nat.reduceLT, Nat.reduceLeDiff, Nat.reduceEqDiff, Nat.reduceAdd, Nat.reduceMul, Nat.reduceBEq, reduceCtorEq, fa29_0, ld3, fa24_0, fa29_1, fa24_1, schV, cellV] <;> rfl) (Nat.le_of_ble_eq_true rfl) ?_
    refine WL_end ?_
    with_reducible repeat (first | refine n1 ?_ | refine n2 ?_ | refine n3 ?_ | refine n4 ?_ | refine n5 ?_ | refine n6 ?_ | refine n7 rfl ?_ | refine W_seq ?_ | refine W_block ?_ | refine W_skip ?_ | refine W_exit ?_ | refine W_ret ?_)
    refine W_go (by simp only [ev0, ev1, ev2, ev3, ev4, Nat.reduceLT, Nat.reduceLeDiff, Nat.reduceEqDiff, Nat.reduceAdd, Nat.reduceMul, Nat.reduceBEq, reduceCtorEq, fa29_0, ld3, fa24_0, fa29_1, fa24_1] <;> rfl) (Nat.le_of_ble_eq_true rfl) ?_
    refine WL_pure (f60_ok c.slot s.len _) rfl (.inl rfl) (by simp only [ev0, ev1, ev2, ev3, ev4, Nat.reduceLT, Nat.reduceLeDiff, Nat.reduceEqDiff, Nat.reduceAdd, Nat.reduceMul, Nat.reduceBEq, reduceCtorEq, fa29_0, ld3, fa24_0, fa29_1, fa24_1] <;> rfl) (by simp only [ev0, ev1, ev2, ev3, ev4, Nat.reduceLT, Nat.reduceLeDiff, Nat.reduceEqDiff, Nat.reduceAdd, Nat.reduceMul, Nat.reduceBEq, reduceCtorEq, fa29_0, ld3, fa24_0, fa29_1, fa24_1] <;> rfl) rfl (by simp only [ev0, ev1, ev2, ev3, ev4, Nat.reduceLT, Nat.reduceLeDiff, Nat.reduceEqDiff, Nat.reduceAdd, Nat.reduceMul, Nat.reduceBEq, reduceCtorEq, fa29_0, ld3, fa24_0, fa29_1, fa24_1] <;> rfl) ?_
    refine WL_go (by simp only [ev0, ev1, ev2, ev3, ev4, Nat.reduceLT, Nat.reduceLeDiff, Nat.reduceEqDiff, Nat.reduceAdd, Nat.reduceMul, Nat.reduceBEq, reduceCtorEq, fa29_0, ld3, fa24_0, fa29_1, fa24_1, h1] <;> rfl) (Nat.le_of_ble_eq_true rfl) ?_
    refine WL_endk (ks := [4]) (by simp only [ev0, ev4, Nat.reduceEqDiff] <;> rfl) ?_
    with_reducible repeat (first | refine n1 ?_ | refine n2 ?_ | refine n3 ?_ | refine n4 ?_ | refine n5 ?_ | refine n6 ?_ | refine n7 rfl ?_ | refine W_seq ?_ | refine W_block ?_ | refine W_skip ?_ | refine W_exit ?_ | refine W_ret ?_)
    refine Fin_pure [.blk (schV s), .blk (cellV c)] _ (by first | exact .inl rfl | exact .inr rfl) rfl (by simp only [Tryd.results59, vres, vresL, vres1, one_, vload_eq, Option.map_some, ev0, ev3, ev4, Nat.reduceEqDiff, Nat.reduceAdd, Nat.reduceLeDiff] <;> rfl) rfl (by simp only [one_, rf_c, rf_any, rf_sl, rf_ptr, rf_fn, rf_agg, rf_tup, rf, List.map_cons, List.map_nil] <;> rfl) hk (by simp) ?_
    exact ⟨by simp only [placed, h1]; rfl, rfl⟩
  · refine W_go (by simp only [ev0, ev1, ev2, ev3, ev4, Nat.reduceLT, Nat.reduceLeDiff, Nat.reduceEqDiff, Nat.reduceAdd, Nat.reduceMul, Nat.reduceBEq, reduceCtorEq, fa29_0, ld3, fa24_0, fa29_1, fa24_1, schV, cellV] <;> rfl) (Nat.le_of_ble_eq_true rfl) ?_
    refine WL_end ?_
    with_reducible repeat (first | refine n1 ?_ | refine n2 ?_ | refine n3 ?_ | refine n4 ?_ | refine n5 ?_ | refine n6 ?_ | refine n7 rfl ?_ | refine W_seq ?_ | refine W_block ?_ | refine W_skip ?_ | refine W_exit ?_ | refine W_ret ?_)
    refine W_go (by simp only [ev0, ev1, ev2, ev3, ev4, Nat.reduceLT, Nat.reduceLeDiff, Nat.reduceEqDiff, Nat.reduceAdd, Nat.reduceMul, Nat.reduceBEq, reduceCtorEq, fa29_0, ld3, fa24_0, fa29_1, fa24_1] <;> rfl) (Nat.le_of_ble_eq_true rfl) ?_
    refine WL_pure (f60_ok c.slot s.len _) rfl (.inl rfl) (by simp only [ev0, ev1, ev2, ev3, ev4, Nat.reduceLT, Nat.reduceLeDiff, Nat.reduceEqDiff, Nat.reduceAdd, Nat.reduceMul, Nat.reduceBEq, reduceCtorEq, fa29_0, ld3, fa24_0, fa29_1, fa24_1] <;> rfl) (by simp only [ev0, ev1, ev2, ev3, ev4, Nat.reduceLT, Nat.reduceLeDiff, Nat.reduceEqDiff, Nat.reduceAdd, Nat.reduceMul, Nat.reduceBEq, reduceCtorEq, fa29_0, ld3, fa24_0, fa29_1, fa24_1] <;> rfl) rfl (by simp only [ev0, ev1, ev2, ev3, ev4, Nat.reduceLT, Nat.reduceLeDiff, Nat.reduceEqDiff, Nat.reduceAdd, Nat.reduceMul, Nat.reduceBEq, reduceCtorEq, fa29_0, ld3, fa24_0, fa29_1, fa24_1] <;> rfl) ?_
    refine WL_go (by simp only [ev0, ev1, ev2, ev3, ev4, Nat.reduceLT, Nat.reduceLeDiff, Nat.reduceEqDiff, Nat.reduceAdd, Nat.reduceMul, Nat.reduceBEq, reduceCtorEq, fa29_0, ld3, fa24_0, fa29_1, fa24_1, h1] <;> rfl) (Nat.le_of_ble_eq_true rfl) ?_
    refine WL_pure (f60_ok c.offset s.offs _) rfl (Wants_at (j := 5) rfl rfl (by simp only [ev0, ev1, ev2, ev3, ev4, Nat.reduceLT, Nat.reduceLeDiff, Nat.reduceEqDiff, Nat.reduceAdd, Nat.reduceMul, Nat.reduceBEq, reduceCtorEq, fa29_0, ld3, fa24_0, fa29_1, fa24_1, h1] <;> rfl)) (by simp only [ev0, ev1, ev2, ev3, ev4, Nat.reduceLT, Nat.reduceLeDiff, Nat.reduceEqDiff, Nat.reduceAdd, Nat.reduceMul, Nat.reduceBEq, reduceCtorEq, fa29_0, ld3, fa24_0, fa29_1, fa24_1, h1] <;> rfl) (by simp only [ev0, ev1, ev2, ev3, ev4, Nat.reduceLT, Nat.reduceLeDiff, Nat.reduceEqDiff, Nat.reduceAdd, Nat.reduceMul, Nat.reduceBEq, reduceCtorEq, fa29_0, ld3, fa24_0, fa29_1, fa24_1, h1] <;> rfl) rfl (by simp only [ev0, ev1, ev2, ev3, ev4, Nat.reduceLT, Nat.reduceLeDiff, Nat.reduceEqDiff, Nat.reduceAdd, Nat.reduceMul, Nat.reduceBEq, reduceCtorEq, fa29_0, ld3, fa24_0, fa29_1, fa24_1, h1] <;> rfl) ?_
    refine WL_go (by simp only [ev0, ev1, ev2, ev3, ev4, Nat.reduceLT, Nat.reduceLeDiff, Nat.reduceEqDiff, Nat.reduceAdd, Nat.reduceMul, Nat.reduceBEq, reduceCtorEq, fa29_0, ld3, fa24_0, fa29_1, fa24_1, h1] <;> rfl) (Nat.le_of_ble_eq_true rfl) ?_
    refine WL_endk (ks := [4]) (by simp only [ev0, ev4, Nat.reduceEqDiff] <;> rfl) ?_
    with_reducible repeat (first | refine n1 ?_ | refine n2 ?_ | refine n3 ?_ | refine n4 ?_ | refine n5 ?_ | refine n6 ?_ | refine n7 rfl ?_ | refine W_seq ?_ | refine W_block ?_ | refine W_skip ?_ | refine W_exit ?_ | refine W_ret ?_)
    refine Fin_pure [.blk (schV s), .blk (cellV c)] _ (by first | exact .inl rfl | exact .inr rfl) rfl (by simp only [Tryd.results59, vres, vresL, vres1, one_, vload_eq, Option.map_some, ev0, ev3, ev4, Nat.reduceEqDiff, Nat.reduceAdd, Nat.reduceLeDiff] <;> rfl) rfl (by simp only [one_, rf_c, rf_any, rf_sl, rf_ptr, rf_fn, rf_agg, rf_tup, rf, List.map_cons, List.map_nil] <;> rfl) hk (by simp) ?_
    exact ⟨by simp only [placed, h1]; rfl, rfl⟩

theorem f55_ok {G} (s : Sch) (c : Cell) (h : Hp) : VPure Tryd.prog G (.fn 55 []) [.agg (schV s), .agg (cellV c)] h (.c (.bool (formed s c))) := by
  refine VCall_fn' (tdOf_ok _) Tryd.func55 rfl (by rfl) 23 rfl (by simp) (by simp only [ents, List.cons_append, List.nil_append, List.append_nil] <;> rfl) (fun hk ha hc => ?_)
  with_reducible repeat (first | refine n1 ?_ | refine n2 ?_ | refine n3 ?_ | refine n4 ?_ | refine n5 ?_ | refine n6 ?_ | refine n7 rfl ?_ | refine W_seq ?_ | refine W_block ?_ | refine W_skip ?_ | refine W_exit ?_ | refine W_ret ?_)
  obtain ⟨h1, h2, h3, h4⟩ | ⟨h1, h2, h3, h4⟩ | ⟨h1, h2, h3, h4⟩ | ⟨h1, h2, h3, h4⟩ | ⟨h1, h2, h3, h4⟩ := and4 (placed s c) (inside c.src 32) (inside c.to 32) (inside c.flow 256)
  · refine W_go (by simp only [ev0, ev1, ev2, ev3, ev4, Nat.reduceLT, Nat.reduceLeDiff, Nat.reduceEqDiff, Nat.reduceAdd, Nat.reduceMul, Nat.reduceBEq, reduceCtorEq, ld24, ld29, fa29_2, ld3, fa29_3, fa29_4, schV, cellV] <;> rfl) (Nat.le_of_ble_eq_true rfl) ?_
    refine WL_end ?_
    with_reducible repeat (first | refine n1 ?_ | refine n2 ?_ | refine n3 ?_ | refine n4 ?_ | refine n5 ?_ | refine n6 ?_ | refine n7 rfl ?_ | refine W_seq ?_ | refine W_block ?_ | refine W_skip ?_ | refine W_exit ?_ | refine W_ret ?_)
    refine W_go (by simp only [ev0, ev1, ev2, ev3, ev4, Nat.reduceLT, Nat.reduceLeDiff, Nat.reduceEqDiff, Nat.reduceAdd, Nat.reduceMul, Nat.reduceBEq, reduceCtorEq, ld24, ld29, fa29_2, ld3, fa29_3, fa29_4] <;> rfl) (Nat.le_of_ble_eq_true rfl) ?_
    refine WL_pure (f59_ok s c _) rfl (.inl rfl) (by simp only [ev0, ev1, ev2, ev3, ev4, Nat.reduceLT, Nat.reduceLeDiff, Nat.reduceEqDiff, Nat.reduceAdd, Nat.reduceMul, Nat.reduceBEq, reduceCtorEq, ld24, ld29, fa29_2, ld3, fa29_3, fa29_4] <;> rfl) (by simp only [ev0, ev1, ev2, ev3, ev4, Nat.reduceLT, Nat.reduceLeDiff, Nat.reduceEqDiff, Nat.reduceAdd, Nat.reduceMul, Nat.reduceBEq, reduceCtorEq, ld24, ld29, fa29_2, ld3, fa29_3, fa29_4] <;> rfl) rfl (by simp only [ev0, ev1, ev2, ev3, ev4, Nat.reduceLT, Nat.reduceLeDiff, Nat.reduceEqDiff, Nat.reduceAdd, Nat.reduceMul, Nat.reduceBEq, reduceCtorEq, ld24, ld29, fa29_2, ld3, fa29_3, fa29_4] <;> rfl) ?_
    refine WL_go (by simp only [ev0, ev1, ev2, ev3, ev4, Nat.reduceLT, Nat.reduceLeDiff, Nat.reduceEqDiff, Nat.reduceAdd, Nat.reduceMul, Nat.reduceBEq, reduceCtorEq, ld24, ld29, fa29_2, ld3, fa29_3, fa29_4, h1] <;> rfl) (Nat.le_of_ble_eq_true rfl) ?_
    refine WL_endk (ks := [4]) (by simp only [ev0, ev4, Nat.reduceEqDiff] <;> rfl) ?_
    with_reducible repeat (first | refine n1 ?_ | refine n2 ?_ | refine n3 ?_ | refine n4 ?_ | refine n5 ?_ | refine n6 ?_ | refine n7 rfl ?_ | refine W_seq ?_ | refine W_block ?_ | refine W_skip ?_ | refine W_exit ?_ | refine W_ret ?_)
    refine Fin_pure [.blk (schV s), .blk (cellV c)] _ (by first | exact .inl rfl | exact .inr rfl) rfl (by simp only [Tryd.results55, vres, vresL, vres1, one_, vload_eq, Option.map_some, ev0, ev3, ev4, Nat.reduceEqDiff, Nat.reduceAdd, Nat.reduceLeDiff] <;> rfl) rfl (by simp only [one_, rf_c, rf_any, rf_sl, rf_ptr, rf_fn, rf_agg, rf_tup, rf, List.map_cons, List.map_nil] <;> rfl) hk (by simp) ?_
    exact ⟨by simp only [formed, h1, h2, h3]; rfl, rfl⟩
  · refine W_go (by simp only [ev0, ev1, ev2, ev3, ev4, Nat.reduceLT, Nat.reduceLeDiff, Nat.reduceEqDiff, Nat.reduceAdd, Nat.reduceMul, Nat.reduceBEq, reduceCtorEq, ld24, ld29, fa29_2, ld3, fa29_3, fa29_4, schV, cellV] <;> rfl) (Nat.le_of_ble_eq_true rfl) ?_
    refine WL_end ?_
    with_reducible repeat (first | refine n1 ?_ | refine n2 ?_ | refine n3 ?_ | refine n4 ?_ | refine n5 ?_ | refine n6 ?_ | refine n7 rfl ?_ | refine W_seq ?_ | refine W_block ?_ | refine W_skip ?_ | refine W_exit ?_ | refine W_ret ?_)
    refine W_go (by simp only [ev0, ev1, ev2, ev3, ev4, Nat.reduceLT, Nat.reduceLeDiff, Nat.reduceEqDiff, Nat.reduceAdd, Nat.reduceMul, Nat.reduceBEq, reduceCtorEq, ld24, ld29, fa29_2, ld3, fa29_3, fa29_4] <;> rfl) (Nat.le_of_ble_eq_true rfl) ?_
    refine WL_pure (f59_ok s c _) rfl (.inl rfl) (by simp only [ev0, ev1, ev2, ev3, ev4, Nat.reduceLT, Nat.reduceLeDiff, Nat.reduceEqDiff, Nat.reduceAdd, Nat.reduceMul, Nat.reduceBEq, reduceCtorEq, ld24, ld29, fa29_2, ld3, fa29_3, fa29_4] <;> rfl) (by simp only [ev0, ev1, ev2, ev3, ev4, Nat.reduceLT, Nat.reduceLeDiff, Nat.reduceEqDiff, Nat.reduceAdd, Nat.reduceMul, Nat.reduceBEq, reduceCtorEq, ld24, ld29, fa29_2, ld3, fa29_3, fa29_4] <;> rfl) rfl (by simp only [ev0, ev1, ev2, ev3, ev4, Nat.reduceLT, Nat.reduceLeDiff, Nat.reduceEqDiff, Nat.reduceAdd, Nat.reduceMul, Nat.reduceBEq, reduceCtorEq, ld24, ld29, fa29_2, ld3, fa29_3, fa29_4] <;> rfl) ?_
    refine WL_go (by simp only [ev0, ev1, ev2, ev3, ev4, Nat.reduceLT, Nat.reduceLeDiff, Nat.reduceEqDiff, Nat.reduceAdd, Nat.reduceMul, Nat.reduceBEq, reduceCtorEq, ld24, ld29, fa29_2, ld3, fa29_3, fa29_4, h1] <;> rfl) (Nat.le_of_ble_eq_true rfl) ?_
    refine WL_pure (f60_ok c.src 32 _) rfl (Wants_at (j := 3) rfl rfl (by simp only [ev0, ev1, ev2, ev3, ev4, Nat.reduceLT, Nat.reduceLeDiff, Nat.reduceEqDiff, Nat.reduceAdd, Nat.reduceMul, Nat.reduceBEq, reduceCtorEq, ld24, ld29, fa29_2, ld3, fa29_3, fa29_4, h1] <;> rfl)) (by simp only [ev0, ev1, ev2, ev3, ev4, Nat.reduceLT, Nat.reduceLeDiff, Nat.reduceEqDiff, Nat.reduceAdd, Nat.reduceMul, Nat.reduceBEq, reduceCtorEq, ld24, ld29, fa29_2, ld3, fa29_3, fa29_4, h1] <;> rfl) (by simp only [ev0, ev1, ev2, ev3, ev4, Nat.reduceLT, Nat.reduceLeDiff, Nat.reduceEqDiff, Nat.reduceAdd, Nat.reduceMul, Nat.reduceBEq, reduceCtorEq, ld24, ld29, fa29_2, ld3, fa29_3, fa29_4, h1] <;> rfl) rfl (by simp only [ev0, ev1, ev2, ev3, ev4, Nat.reduceLT, Nat.reduceLeDiff, Nat.reduceEqDiff, Nat.reduceAdd, Nat.reduceMul, Nat.reduceBEq, reduceCtorEq, ld24, ld29, fa29_2, ld3, fa29_3, fa29_4, h1] <;> rfl) ?_
    refine WL_go (by simp only [ev0, ev1, ev2, ev3, ev4, Nat.reduceLT, Nat.reduceLeDiff, Nat.reduceEqDiff, Nat.reduceAdd, Nat.reduceMul, Nat.reduceBEq, reduceCtorEq, ld24, ld29, fa29_2, ld3, fa29_3, fa29_4, h1, h2] <;> rfl) (Nat.le_of_ble_eq_true rfl) ?_
    refine WL_endk (ks := [4]) (by simp only [ev0, ev4, Nat.reduceEqDiff] <;> rfl) ?_
    with_reducible repeat (first | refine n1 ?_ | refine n2 ?_ | refine n3 ?_ | refine n4 ?_ | refine n5 ?_ | refine n6 ?_ | refine n7 rfl ?_ | refine W_seq ?_ | refine W_block ?_ | refine W_skip ?_ | refine W_exit ?_ | refine W_ret ?_)
    refine Fin_pure [.blk (schV s), .blk (cellV c)] _ (by first | exact .inl rfl | exact .inr rfl) rfl (by simp only [Tryd.results55, vres, vresL, vres1, one_, vload_eq, Option.map_some, ev0, ev3, ev4, Nat.reduceEqDiff, Nat.reduceAdd, Nat.reduceLeDiff] <;> rfl) rfl (by simp only [one_, rf_c, rf_any, rf_sl, rf_ptr, rf_fn, rf_agg, rf_tup, rf, List.map_cons, List.map_nil] <;> rfl) hk (by simp) ?_
    exact ⟨by simp only [formed, h1, h2, h3]; rfl, rfl⟩
  · refine W_go (by simp only [ev0, ev1, ev2, ev3, ev4, Nat.reduceLT, Nat.reduceLeDiff, Nat.reduceEqDiff, Nat.reduceAdd, Nat.reduceMul, Nat.reduceBEq, reduceCtorEq, ld24, ld29, fa29_2, ld3, fa29_3, fa29_4, schV, cellV] <;> rfl) (Nat.le_of_ble_eq_true rfl) ?_
    refine WL_end ?_
    with_reducible repeat (first | refine n1 ?_ | refine n2 ?_ | refine n3 ?_ | refine n4 ?_ | refine n5 ?_ | refine n6 ?_ | refine n7 rfl ?_ | refine W_seq ?_ | refine W_block ?_ | refine W_skip ?_ | refine W_exit ?_ | refine W_ret ?_)
    refine W_go (by simp only [ev0, ev1, ev2, ev3, ev4, Nat.reduceLT, Nat.reduceLeDiff, Nat.reduceEqDiff, Nat.reduceAdd, Nat.reduceMul, Nat.reduceBEq, reduceCtorEq, ld24, ld29, fa29_2, ld3, fa29_3, fa29_4] <;> rfl) (Nat.le_of_ble_eq_true rfl) ?_
    refine WL_pure (f59_ok s c _) rfl (.inl rfl) (by simp only [ev0, ev1, ev2, ev3, ev4, Nat.reduceLT, Nat.reduceLeDiff, Nat.reduceEqDiff, Nat.reduceAdd, Nat.reduceMul, Nat.reduceBEq, reduceCtorEq, ld24, ld29, fa29_2, ld3, fa29_3, fa29_4] <;> rfl) (by simp only [ev0, ev1, ev2, ev3, ev4, Nat.reduceLT, Nat.reduceLeDiff, Nat.reduceEqDiff, Nat.reduceAdd, Nat.reduceMul, Nat.reduceBEq, reduceCtorEq, ld24, ld29, fa29_2, ld3, fa29_3, fa29_4] <;> rfl) rfl (by simp only [ev0, ev1, ev2, ev3, ev4, Nat.reduceLT, Nat.reduceLeDiff, Nat.reduceEqDiff, Nat.reduceAdd, Nat.reduceMul, Nat.reduceBEq, reduceCtorEq, ld24, ld29, fa29_2, ld3, fa29_3, fa29_4] <;> rfl) ?_
    refine WL_go (by simp only [ev0, ev1, ev2, ev3, ev4, Nat.reduceLT, Nat.reduceLeDiff, Nat.reduceEqDiff, Nat.reduceAdd, Nat.reduceMul, Nat.reduceBEq, reduceCtorEq, ld24, ld29, fa29_2, ld3, fa29_3, fa29_4, h1] <;> rfl) (Nat.le_of_ble_eq_true rfl) ?_
    refine WL_pure (f60_ok c.src 32 _) rfl (Wants_at (j := 3) rfl rfl (by simp only [ev0, ev1, ev2, ev3, ev4, Nat.reduceLT, Nat.reduceLeDiff, Nat.reduceEqDiff, Nat.reduceAdd, Nat.reduceMul, Nat.reduceBEq, reduceCtorEq, ld24, ld29, fa29_2, ld3, fa29_3, fa29_4, h1] <;> rfl)) (by simp only [ev0, ev1, ev2, ev3, ev4, Nat.reduceLT, Nat.reduceLeDiff, Nat.reduceEqDiff, Nat.reduceAdd, Nat.reduceMul, Nat.reduceBEq, reduceCtorEq, ld24, ld29, fa29_2, ld3, fa29_3, fa29_4, h1] <;> rfl) (by simp only [ev0, ev1, ev2, ev3, ev4, Nat.reduceLT, Nat.reduceLeDiff, Nat.reduceEqDiff, Nat.reduceAdd, Nat.reduceMul, Nat.reduceBEq, reduceCtorEq, ld24, ld29, fa29_2, ld3, fa29_3, fa29_4, h1] <;> rfl) rfl (by simp only [ev0, ev1, ev2, ev3, ev4, Nat.reduceLT, Nat.reduceLeDiff, Nat.reduceEqDiff, Nat.reduceAdd, Nat.reduceMul, Nat.reduceBEq, reduceCtorEq, ld24, ld29, fa29_2, ld3, fa29_3, fa29_4, h1] <;> rfl) ?_
    refine WL_go (by simp only [ev0, ev1, ev2, ev3, ev4, Nat.reduceLT, Nat.reduceLeDiff, Nat.reduceEqDiff, Nat.reduceAdd, Nat.reduceMul, Nat.reduceBEq, reduceCtorEq, ld24, ld29, fa29_2, ld3, fa29_3, fa29_4, h1, h2] <;> rfl) (Nat.le_of_ble_eq_true rfl) ?_
    refine WL_pure (f60_ok c.to 32 _) rfl (Wants_at (j := 8) rfl rfl (by simp only [ev0, ev1, ev2, ev3, ev4, Nat.reduceLT, Nat.reduceLeDiff, Nat.reduceEqDiff, Nat.reduceAdd, Nat.reduceMul, Nat.reduceBEq, reduceCtorEq, ld24, ld29, fa29_2, ld3, fa29_3, fa29_4, h1, h2] <;> rfl)) (by simp only [ev0, ev1, ev2, ev3, ev4, Nat.reduceLT, Nat.reduceLeDiff, Nat.reduceEqDiff, Nat.reduceAdd, Nat.reduceMul, Nat.reduceBEq, reduceCtorEq, ld24, ld29, fa29_2, ld3, fa29_3, fa29_4, h1, h2] <;> rfl) (by simp only [ev0, ev1, ev2, ev3, ev4, Nat.reduceLT, Nat.reduceLeDiff, Nat.reduceEqDiff, Nat.reduceAdd, Nat.reduceMul, Nat.reduceBEq, reduceCtorEq, ld24, ld29, fa29_2, ld3, fa29_3, fa29_4, h1, h2] <;> rfl) rfl (by simp only [ev0, ev1, ev2, ev3, ev4, Nat.reduceLT, Nat.reduceLeDiff, Nat.reduceEqDiff, Nat.reduceAdd, Nat.reduceMul, Nat.reduceBEq, reduceCtorEq, ld24, ld29, fa29_2, ld3, fa29_3, fa29_4, h1, h2] <;> rfl) ?_
    refine WL_go (by simp only [ev0, ev1, ev2, ev3, ev4, Nat.reduceLT, Nat.reduceLeDiff, Nat.reduceEqDiff, Nat.reduceAdd, Nat.reduceMul, Nat.reduceBEq, reduceCtorEq, ld24, ld29, fa29_2, ld3, fa29_3, fa29_4, h1, h2, h3] <;> rfl) (Nat.le_of_ble_eq_true rfl) ?_
    refine WL_endk (ks := [4]) (by simp only [ev0, ev4, Nat.reduceEqDiff] <;> rfl) ?_
    with_reducible repeat (first | refine n1 ?_ | refine n2 ?_ | refine n3 ?_ | refine n4 ?_ | refine n5 ?_ | refine n6 ?_ | refine n7 rfl ?_ | refine W_seq ?_ | refine W_block ?_ | refine W_skip ?_ | refine W_exit ?_ | refine W_ret ?_)
    refine Fin_pure [.blk (schV s), .blk (cellV c)] _ (by first | exact .inl rfl | exact .inr rfl) rfl (by simp only [Tryd.results55, vres, vresL, vres1, one_, vload_eq, Option.map_some, ev0, ev3, ev4, Nat.reduceEqDiff, Nat.reduceAdd, Nat.reduceLeDiff] <;> rfl) rfl (by simp only [one_, rf_c, rf_any, rf_sl, rf_ptr, rf_fn, rf_agg, rf_tup, rf, List.map_cons, List.map_nil] <;> rfl) hk (by simp) ?_
    exact ⟨by simp only [formed, h1, h2, h3]; rfl, rfl⟩
  · refine W_go (by simp only [ev0, ev1, ev2, ev3, ev4, Nat.reduceLT, Nat.reduceLeDiff, Nat.reduceEqDiff, Nat.reduceAdd, Nat.reduceMul, Nat.reduceBEq, reduceCtorEq, ld24, ld29, fa29_2, ld3, fa29_3, fa29_4, schV, cellV] <;> rfl) (Nat.le_of_ble_eq_true rfl) ?_
    refine WL_end ?_
    with_reducible repeat (first | refine n1 ?_ | refine n2 ?_ | refine n3 ?_ | refine n4 ?_ | refine n5 ?_ | refine n6 ?_ | refine n7 rfl ?_ | refine W_seq ?_ | refine W_block ?_ | refine W_skip ?_ | refine W_exit ?_ | refine W_ret ?_)
    refine W_go (by simp only [ev0, ev1, ev2, ev3, ev4, Nat.reduceLT, Nat.reduceLeDiff, Nat.reduceEqDiff, Nat.reduceAdd, Nat.reduceMul, Nat.reduceBEq, reduceCtorEq, ld24, ld29, fa29_2, ld3, fa29_3, fa29_4] <;> rfl) (Nat.le_of_ble_eq_true rfl) ?_
    refine WL_pure (f59_ok s c _) rfl (.inl rfl) (by simp only [ev0, ev1, ev2, ev3, ev4, Nat.reduceLT, Nat.reduceLeDiff, Nat.reduceEqDiff, Nat.reduceAdd, Nat.reduceMul, Nat.reduceBEq, reduceCtorEq, ld24, ld29, fa29_2, ld3, fa29_3, fa29_4] <;> rfl) (by simp only [ev0, ev1, ev2, ev3, ev4, Nat.reduceLT, Nat.reduceLeDiff, Nat.reduceEqDiff, Nat.reduceAdd, Nat.reduceMul, Nat.reduceBEq, reduceCtorEq, ld24, ld29, fa29_2, ld3, fa29_3, fa29_4] <;> rfl) rfl (by simp only [ev0, ev1, ev2, ev3, ev4, Nat.reduceLT, Nat.reduceLeDiff, Nat.reduceEqDiff, Nat.reduceAdd, Nat.reduceMul, Nat.reduceBEq, reduceCtorEq, ld24, ld29, fa29_2, ld3, fa29_3, fa29_4] <;> rfl) ?_
    refine WL_go (by simp only [ev0, ev1, ev2, ev3, ev4, Nat.reduceLT, Nat.reduceLeDiff, Nat.reduceEqDiff, Nat.reduceAdd, Nat.reduceMul, Nat.reduceBEq, reduceCtorEq, ld24, ld29, fa29_2, ld3, fa29_3, fa29_4, h1] <;> rfl) (Nat.le_of_ble_eq_true rfl) ?_
    refine WL_pure (f60_ok c.src 32 _) rfl (Wants_at (j := 3) rfl rfl (by simp only [ev0, ev1, ev2, ev3, ev4, Nat.reduceLT, Nat.reduceLeDiff, Nat.reduceEqDiff, Nat.reduceAdd, Nat.reduceMul, Nat.reduceBEq, reduceCtorEq, ld24, ld29, fa29_2, ld3, fa29_3, fa29_4, h1] <;> rfl)) (by simp only [ev0, ev1, ev2, ev3, ev4, Nat.reduceLT, Nat.reduceLeDiff, Nat.reduceEqDiff, Nat.reduceAdd, Nat.reduceMul, Nat.reduceBEq, reduceCtorEq, ld24, ld29, fa29_2, ld3, fa29_3, fa29_4, h1] <;> rfl) (by simp only [ev0, ev1, ev2, ev3, ev4, Nat.reduceLT, Nat.reduceLeDiff, Nat.reduceEqDiff, Nat.reduceAdd, Nat.reduceMul, Nat.reduceBEq, reduceCtorEq, ld24, ld29, fa29_2, ld3, fa29_3, fa29_4, h1] <;> rfl) rfl (by simp only [ev0, ev1, ev2, ev3, ev4, Nat.reduceLT, Nat.reduceLeDiff, Nat.reduceEqDiff, Nat.reduceAdd, Nat.reduceMul, Nat.reduceBEq, reduceCtorEq, ld24, ld29, fa29_2, ld3, fa29_3, fa29_4, h1] <;> rfl) ?_
    refine WL_go (by simp only [ev0, ev1, ev2, ev3, ev4, Nat.reduceLT, Nat.reduceLeDiff, Nat.reduceEqDiff, Nat.reduceAdd, Nat.reduceMul, Nat.reduceBEq, reduceCtorEq, ld24, ld29, fa29_2, ld3, fa29_3, fa29_4, h1, h2] <;> rfl) (Nat.le_of_ble_eq_true rfl) ?_
    refine WL_pure (f60_ok c.to 32 _) rfl (Wants_at (j := 8) rfl rfl (by simp only [ev0, ev1, ev2, ev3, ev4, Nat.reduceLT, Nat.reduceLeDiff, Nat.reduceEqDiff, Nat.reduceAdd, Nat.reduceMul, Nat.reduceBEq, reduceCtorEq, ld24, ld29, fa29_2, ld3, fa29_3, fa29_4, h1, h2] <;> rfl)) (by simp only [ev0, ev1, ev2, ev3, ev4, Nat.reduceLT, Nat.reduceLeDiff, Nat.reduceEqDiff, Nat.reduceAdd, Nat.reduceMul, Nat.reduceBEq, reduceCtorEq, ld24, ld29, fa29_2, ld3, fa29_3, fa29_4, h1, h2] <;> rfl) (by simp only [ev0, ev1, ev2, ev3, ev4, Nat.reduceLT, Nat.reduceLeDiff, Nat.reduceEqDiff, Nat.reduceAdd, Nat.reduceMul, Nat.reduceBEq, reduceCtorEq, ld24, ld29, fa29_2, ld3, fa29_3, fa29_4, h1, h2] <;> rfl) rfl (by simp only [ev0, ev1, ev2, ev3, ev4, Nat.reduceLT, Nat.reduceLeDiff, Nat.reduceEqDiff, Nat.reduceAdd, Nat.reduceMul, Nat.reduceBEq, reduceCtorEq, ld24, ld29, fa29_2, ld3, fa29_3, fa29_4, h1, h2] <;> rfl) ?_
    refine WL_go (by simp only [ev0, ev1, ev2, ev3, ev4, Nat.reduceLT, Nat.reduceLeDiff, Nat.reduceEqDiff, Nat.reduceAdd, Nat.reduceMul, Nat.reduceBEq, reduceCtorEq, ld24, ld29, fa29_2, ld3, fa29_3, fa29_4, h1, h2, h3] <;> rfl) (Nat.le_of_ble_eq_true rfl) ?_
    refine WL_pure (f60_ok c.flow 256 _) rfl (Wants_at (j := 13) rfl rfl (by simp only [ev0, ev1, ev2, ev3, ev4, Nat.reduceLT, Nat.reduceLeDiff, Nat.reduceEqDiff, Nat.reduceAdd, Nat.reduceMul, Nat.reduceBEq, reduceCtorEq, ld24, ld29, fa29_2, ld3, fa29_3, fa29_4, h1, h2, h3] <;> rfl)) (by simp only [ev0, ev1, ev2, ev3, ev4, Nat.reduceLT, Nat.reduceLeDiff, Nat.reduceEqDiff, Nat.reduceAdd, Nat.reduceMul, Nat.reduceBEq, reduceCtorEq, ld24, ld29, fa29_2, ld3, fa29_3, fa29_4, h1, h2, h3] <;> rfl) (by simp only [ev0, ev1, ev2, ev3, ev4, Nat.reduceLT, Nat.reduceLeDiff, Nat.reduceEqDiff, Nat.reduceAdd, Nat.reduceMul, Nat.reduceBEq, reduceCtorEq, ld24, ld29, fa29_2, ld3, fa29_3, fa29_4, h1, h2, h3] <;> rfl) rfl (by simp only [ev0, ev1, ev2, ev3, ev4, Nat.reduceLT, Nat.reduceLeDiff, Nat.reduceEqDiff, Nat.reduceAdd, Nat.reduceMul, Nat.reduceBEq, reduceCtorEq, ld24, ld29, fa29_2, ld3, fa29_3, fa29_4, h1, h2, h3] <;> rfl) ?_
    refine WL_go (by simp only [ev0, ev1, ev2, ev3, ev4, Nat.reduceLT, Nat.reduceLeDiff, Nat.reduceEqDiff, Nat.reduceAdd, Nat.reduceMul, Nat.reduceBEq, reduceCtorEq, ld24, ld29, fa29_2, ld3, fa29_3, fa29_4, h1, h2, h3, h4] <;> rfl) (Nat.le_of_ble_eq_true rfl) ?_
    refine WL_endk (ks := [4]) (by simp only [ev0, ev4, Nat.reduceEqDiff] <;> rfl) ?_
    with_reducible repeat (first | refine n1 ?_ | refine n2 ?_ | refine n3 ?_ | refine n4 ?_ | refine n5 ?_ | refine n6 ?_ | refine n7 rfl ?_ | refine W_seq ?_ | refine W_block ?_ | refine W_skip ?_ | refine W_exit ?_ | refine W_ret ?_)
    refine Fin_pure [.blk (schV s), .blk (cellV c)] _ (by first | exact .inl rfl | exact .inr rfl) rfl (by simp only [Tryd.results55, vres, vresL, vres1, one_, vload_eq, Option.map_some, ev0, ev3, ev4, Nat.reduceEqDiff, Nat.reduceAdd, Nat.reduceLeDiff] <;> rfl) rfl (by simp only [one_, rf_c, rf_any, rf_sl, rf_ptr, rf_fn, rf_agg, rf_tup, rf, List.map_cons, List.map_nil] <;> rfl) hk (by simp) ?_
    exact ⟨by simp only [formed, h1, h2, h3, h4]; rfl, rfl⟩
  · refine W_go (by simp only [ev0, ev1, ev2, ev3, ev4, Nat.reduceLT, Nat.reduceLeDiff, Nat.reduceEqDiff, Nat.reduceAdd, Nat.reduceMul, Nat.reduceBEq, reduceCtorEq, ld24, ld29, fa29_2, ld3, fa29_3, fa29_4, schV, cellV] <;> rfl) (Nat.le_of_ble_eq_true rfl) ?_
    refine WL_end ?_
    with_reducible repeat (first | refine n1 ?_ | refine n2 ?_ | refine n3 ?_ | refine n4 ?_ | refine n5 ?_ | refine n6 ?_ | refine n7 rfl ?_ | refine W_seq ?_ | refine W_block ?_ | refine W_skip ?_ | refine W_exit ?_ | refine W_ret ?_)
    refine W_go (by simp only [ev0, ev1, ev2, ev3, ev4, Nat.reduceLT, Nat.reduceLeDiff, Nat.reduceEqDiff, Nat.reduceAdd, Nat.reduceMul, Nat.reduceBEq, reduceCtorEq, ld24, ld29, fa29_2, ld3, fa29_3, fa29_4] <;> rfl) (Nat.le_of_ble_eq_true rfl) ?_
    refine WL_pure (f59_ok s c _) rfl (.inl rfl) (by simp only [ev0, ev1, ev2, ev3, ev4, Nat.reduceLT, Nat.reduceLeDiff, Nat.reduceEqDiff, Nat.reduceAdd, Nat.reduceMul, Nat.reduceBEq, reduceCtorEq, ld24, ld29, fa29_2, ld3, fa29_3, fa29_4] <;> rfl) (by simp only [ev0, ev1, ev2, ev3, ev4, Nat.reduceLT, Nat.reduceLeDiff, Nat.reduceEqDiff, Nat.reduceAdd, Nat.reduceMul, Nat.reduceBEq, reduceCtorEq, ld24, ld29, fa29_2, ld3, fa29_3, fa29_4] <;> rfl) rfl (by simp only [ev0, ev1, ev2, ev3, ev4, Nat.reduceLT, Nat.reduceLeDiff, Nat.reduceEqDiff, Nat.reduceAdd, Nat.reduceMul, Nat.reduceBEq, reduceCtorEq, ld24, ld29, fa29_2, ld3, fa29_3, fa29_4] <;> rfl) ?_
    refine WL_go (by simp only [ev0, ev1, ev2, ev3, ev4, Nat.reduceLT, Nat.reduceLeDiff, Nat.reduceEqDiff, Nat.reduceAdd, Nat.reduceMul, Nat.reduceBEq, reduceCtorEq, ld24, ld29, fa29_2, ld3, fa29_3, fa29_4, h1] <;> rfl) (Nat.le_of_ble_eq_true rfl) ?_
    refine WL_pure (f60_ok c.src 32 _) rfl (Wants_at (j := 3) rfl rfl (by simp only [ev0, ev1, ev2, ev3, ev4, Nat.reduceLT, Nat.reduceLeDiff, Nat.reduceEqDiff, Nat.reduceAdd, Nat.reduceMul, Nat.reduceBEq, reduceCtorEq, ld24, ld29, fa29_2, ld3, fa29_3, fa29_4, h1] <;> rfl)) (by simp only [ev0, ev1, ev2, ev3, ev4, Nat.reduceLT, Nat.reduceLeDiff, Nat.reduceEqDiff, Nat.reduceAdd, Nat.reduceMul, Nat.reduceBEq, reduceCtorEq, ld24, ld29, fa29_2, ld3, fa29_3, fa29_4, h1] <;> rfl) (by simp only [ev0, ev1, ev2, ev3, ev4, Nat.reduceLT, Nat.reduceLeDiff, Nat.reduceEqDiff, Nat.reduceAdd, Nat.reduceMul, Nat.reduceBEq, reduceCtorEq, ld24, ld29, fa29_2, ld3, fa29_3, fa29_4, h1] <;> rfl) rfl (by simp only [ev0, ev1, ev2, ev3, ev4, Nat.reduceLT, Nat.reduceLeDiff, Nat.reduceEqDiff, Nat.reduceAdd, Nat.reduceMul, Nat.reduceBEq, reduceCtorEq, ld24, ld29, fa29_2, ld3, fa29_3, fa29_4, h1] <;> rfl) ?_
    refine WL_go (by simp only [ev0, ev1, ev2, ev3, ev4, Nat.reduceLT, Nat.reduceLeDiff, Nat.reduceEqDiff, Nat.reduceAdd, Nat.reduceMul, Nat.reduceBEq, reduceCtorEq, ld24, ld29, fa29_2, ld3, fa29_3, fa29_4, h1, h2] <;> rfl) (Nat.le_of_ble_eq_true rfl) ?_
    refine WL_pure (f60_ok c.to 32 _) rfl (Wants_at (j := 8) rfl rfl (by simp only [ev0, ev1, ev2, ev3, ev4, Nat.reduceLT, Nat.reduceLeDiff, Nat.reduceEqDiff, Nat.reduceAdd, Nat.reduceMul, Nat.reduceBEq, reduceCtorEq, ld24, ld29, fa29_2, ld3, fa29_3, fa29_4, h1, h2] <;> rfl)) (by simp only [ev0, ev1, ev2, ev3, ev4, Nat.reduceLT, Nat.reduceLeDiff, Nat.reduceEqDiff, Nat.reduceAdd, Nat.reduceMul, Nat.reduceBEq, reduceCtorEq, ld24, ld29, fa29_2, ld3, fa29_3, fa29_4, h1, h2] <;> rfl) (by simp only [ev0, ev1, ev2, ev3, ev4, Nat.reduceLT, Nat.reduceLeDiff, Nat.reduceEqDiff, Nat.reduceAdd, Nat.reduceMul, Nat.reduceBEq, reduceCtorEq, ld24, ld29, fa29_2, ld3, fa29_3, fa29_4, h1, h2] <;> rfl) rfl (by simp only [ev0, ev1, ev2, ev3, ev4, Nat.reduceLT, Nat.reduceLeDiff, Nat.reduceEqDiff, Nat.reduceAdd, Nat.reduceMul, Nat.reduceBEq, reduceCtorEq, ld24, ld29, fa29_2, ld3, fa29_3, fa29_4, h1, h2] <;> rfl) ?_
    refine WL_go (by simp only [ev0, ev1, ev2, ev3, ev4, Nat.reduceLT, Nat.reduceLeDiff, Nat.reduceEqDiff, Nat.reduceAdd, Nat.reduceMul, Nat.reduceBEq, reduceCtorEq, ld24, ld29, fa29_2, ld3, fa29_3, fa29_4, h1, h2, h3] <;> rfl) (Nat.le_of_ble_eq_true rfl) ?_
    refine WL_pure (f60_ok c.flow 256 _) rfl (Wants_at (j := 13) rfl rfl (by simp only [ev0, ev1, ev2, ev3, ev4, Nat.reduceLT, Nat.reduceLeDiff, Nat.reduceEqDiff, Nat.reduceAdd, Nat.reduceMul, Nat.reduceBEq, reduceCtorEq, ld24, ld29, fa29_2, ld3, fa29_3, fa29_4, h1, h2, h3] <;> rfl)) (by simp only [ev0, ev1, ev2, ev3, ev4, Nat.reduceLT, Nat.reduceLeDiff, Nat.reduceEqDiff, Nat.reduceAdd, Nat.reduceMul, Nat.reduceBEq, reduceCtorEq, ld24, ld29, fa29_2, ld3, fa29_3, fa29_4, h1, h2, h3] <;> rfl) (by simp only [ev0, ev1, ev2, ev3, ev4, Nat.reduceLT, Nat.reduceLeDiff, Nat.reduceEqDiff, Nat.reduceAdd, Nat.reduceMul, Nat.reduceBEq, reduceCtorEq, ld24, ld29, fa29_2, ld3, fa29_3, fa29_4, h1, h2, h3] <;> rfl) rfl (by simp only [ev0, ev1, ev2, ev3, ev4, Nat.reduceLT, Nat.reduceLeDiff, Nat.reduceEqDiff, Nat.reduceAdd, Nat.reduceMul, Nat.reduceBEq, reduceCtorEq, ld24, ld29, fa29_2, ld3, fa29_3, fa29_4, h1, h2, h3] <;> rfl) ?_
    refine WL_go (by simp only [ev0, ev1, ev2, ev3, ev4, Nat.reduceLT, Nat.reduceLeDiff, Nat.reduceEqDiff, Nat.reduceAdd, Nat.reduceMul, Nat.reduceBEq, reduceCtorEq, ld24, ld29, fa29_2, ld3, fa29_3, fa29_4, h1, h2, h3, h4] <;> rfl) (Nat.le_of_ble_eq_true rfl) ?_
    refine WL_endk (ks := [4]) (by simp only [ev0, ev4, Nat.reduceEqDiff] <;> rfl) ?_
    with_reducible repeat (first | refine n1 ?_ | refine n2 ?_ | refine n3 ?_ | refine n4 ?_ | refine n5 ?_ | refine n6 ?_ | refine n7 rfl ?_ | refine W_seq ?_ | refine W_block ?_ | refine W_skip ?_ | refine W_exit ?_ | refine W_ret ?_)
    refine Fin_pure [.blk (schV s), .blk (cellV c)] _ (by first | exact .inl rfl | exact .inr rfl) rfl (by simp only [Tryd.results55, vres, vresL, vres1, one_, vload_eq, Option.map_some, ev0, ev3, ev4, Nat.reduceEqDiff, Nat.reduceAdd, Nat.reduceLeDiff] <;> rfl) rfl (by simp only [one_, rf_c, rf_any, rf_sl, rf_ptr, rf_fn, rf_agg, rf_tup, rf, List.map_cons, List.map_nil] <;> rfl) hk (by simp) ?_
    exact ⟨by simp only [formed, h1, h2, h3, h4]; rfl, rfl⟩

theorem f71_ok {G} (x : Int) (h : Hp) : VPure Tryd.prog G (.fn 71 []) [.c (.int .i64 x)] h (.c (.bool false)) := by
  refine VCall_fn' (tdOf_ok _) Tryd.func71 rfl (by rfl) 6 rfl (by simp) (by simp only [ents, List.cons_append, List.nil_append, List.append_nil] <;> rfl) (fun hk ha hc => ?_)
  with_reducible repeat (first | refine n1 ?_ | refine n2 ?_ | refine n3 ?_ | refine n4 ?_ | refine n5 ?_ | refine n6 ?_ | refine n7 rfl ?_ | refine W_seq ?_ | refine W_block ?_ | refine W_skip ?_ | refine W_exit ?_ | refine W_ret ?_)
  have h1 : (x != x) = false := by simp
  refine W_go (by simp only [ev0, ev1, ev2, ev3, ev4, Nat.reduceLT, Nat.reduceLeDiff, Nat.reduceEqDiff, Nat.reduceAdd, Nat.reduceMul, Nat.reduceBEq, reduceCtorEq] <;> rfl) (Nat.le_of_ble_eq_true rfl) ?_
  refine WL_end ?_
  with_reducible repeat (first | refine n1 ?_ | refine n2 ?_ | refine n3 ?_ | refine n4 ?_ | refine n5 ?_ | refine n6 ?_ | refine n7 rfl ?_ | refine W_seq ?_ | refine W_block ?_ | refine W_skip ?_ | refine W_exit ?_ | refine W_ret ?_)
  refine W_go (by simp only [ev0, ev1, ev2, ev3, ev4, Nat.reduceLT, Nat.reduceLeDiff, Nat.reduceEqDiff, Nat.reduceAdd, Nat.reduceMul, Nat.reduceBEq, reduceCtorEq, h1] <;> rfl) (Nat.le_of_ble_eq_true rfl) ?_
  refine WL_endk (ks := [2]) (by simp only [ev0, ev4, Nat.reduceEqDiff] <;> rfl) ?_
  with_reducible repeat (first | refine n1 ?_ | refine n2 ?_ | refine n3 ?_ | refine n4 ?_ | refine n5 ?_ | refine n6 ?_ | refine n7 rfl ?_ | refine W_seq ?_ | refine W_block ?_ | refine W_skip ?_ | refine W_exit ?_ | refine W_ret ?_)
  refine Fin_pure [] _ (by first | exact .inl rfl | exact .inr rfl) rfl (by simp only [Tryd.results71, vres, vresL, vres1, one_, vload_eq, Option.map_some, ev0, ev3, ev4, Nat.reduceEqDiff, Nat.reduceAdd, Nat.reduceLeDiff] <;> rfl) rfl (by simp only [one_, rf_c, rf_any, rf_sl, rf_ptr, rf_fn, rf_agg, rf_tup, rf, List.map_cons, List.map_nil] <;> rfl) hk (by simp) ?_
  exact ⟨rfl, rfl⟩

theorem f66_ok {G} (x y : Int) (h : Hp) : VPure Tryd.prog G (.fn 66 []) [.c (.int .i64 x), .c (.int .i64 y)] h (.c (.int .i64 (cmp1 x y))) := by
  refine VCall_fn' (tdOf_ok _) Tryd.func66 rfl (by rfl) 20 rfl (by simp) (by simp only [ents, List.cons_append, List.nil_append, List.append_nil] <;> rfl) (fun hk ha hc => ?_)
  with_reducible repeat (first | refine n1 ?_ | refine n2 ?_ | refine n3 ?_ | refine n4 ?_ | refine n5 ?_ | refine n6 ?_ | refine n7 rfl ?_ | refine W_seq ?_ | refine W_block ?_ | refine W_skip ?_ | refine W_exit ?_ | refine W_ret ?_)
  refine W_go (by simp only [ev0, ev1, ev2, ev3, ev4, Nat.reduceLT, Nat.reduceLeDiff, Nat.reduceEqDiff, Nat.reduceAdd, Nat.reduceMul, Nat.reduceBEq, reduceCtorEq] <;> rfl) (Nat.le_of_ble_eq_true rfl) ?_
  refine WL_end ?_
  with_reducible repeat (first | refine n1 ?_ | refine n2 ?_ | refine n3 ?_ | refine n4 ?_ | refine n5 ?_ | refine n6 ?_ | refine n7 rfl ?_ | refine W_seq ?_ | refine W_block ?_ | refine W_skip ?_ | refine W_exit ?_ | refine W_ret ?_)
  refine W_go (by simp only [ev0, ev1, ev2, ev3, ev4, Nat.reduceLT, Nat.reduceLeDiff, Nat.reduceEqDiff, Nat.reduceAdd, Nat.reduceMul, Nat.reduceBEq, reduceCtorEq] <;> rfl) (Nat.le_of_ble_eq_true rfl) ?_
  refine WL_pure (f71_ok x _) rfl (.inl rfl) (by simp only [ev0, ev1, ev2, ev3, ev4, Nat.reduceLT, Nat.reduceLeDiff, Nat.reduceEqDiff, Nat.reduceAdd, Nat.reduceMul, Nat.reduceBEq, reduceCtorEq] <;> rfl) (by simp only [ev0, ev1, ev2, ev3, ev4, Nat.reduceLT, Nat.reduceLeDiff, Nat.reduceEqDiff, Nat.reduceAdd, Nat.reduceMul, Nat.reduceBEq, reduceCtorEq] <;> rfl) rfl (by simp only [ev0, ev1, ev2, ev3, ev4, Nat.reduceLT, Nat.reduceLeDiff, Nat.reduceEqDiff, Nat.reduceAdd, Nat.reduceMul, Nat.reduceBEq, reduceCtorEq] <;> rfl) ?_
  refine WL_go (by simp only [ev0, ev1, ev2, ev3, ev4, Nat.reduceLT, Nat.reduceLeDiff, Nat.reduceEqDiff, Nat.reduceAdd, Nat.reduceMul, Nat.reduceBEq, reduceCtorEq] <;> rfl) (Nat.le_of_ble_eq_true rfl) ?_
  refine WL_endk (ks := [0, 1, 5]) (by simp only [ev0, ev4, Nat.reduceEqDiff] <;> rfl) ?_
  with_reducible repeat (first | refine n1 ?_ | refine n2 ?_ | refine n3 ?_ | refine n4 ?_ | refine n5 ?_ | refine n6 ?_ | refine n7 rfl ?_ | refine W_seq ?_ | refine W_block ?_ | refine W_skip ?_ | refine W_exit ?_ | refine W_ret ?_)
  refine W_go (by simp only [ev0, ev1, ev2, ev3, ev4, Nat.reduceLT, Nat.reduceLeDiff, Nat.reduceEqDiff, Nat.reduceAdd, Nat.reduceMul, Nat.reduceBEq, reduceCtorEq] <;> rfl) (Nat.le_of_ble_eq_true rfl) ?_
  refine WL_pure (f71_ok y _) rfl (.inl rfl) (by simp only [ev0, ev1, ev2, ev3, ev4, Nat.reduceLT, Nat.reduceLeDiff, Nat.reduceEqDiff, Nat.reduceAdd, Nat.reduceMul, Nat.reduceBEq, reduceCtorEq] <;> rfl) (by simp only [ev0, ev1, ev2, ev3, ev4, Nat.reduceLT, Nat.reduceLeDiff, Nat.reduceEqDiff, Nat.reduceAdd, Nat.reduceMul, Nat.reduceBEq, reduceCtorEq] <;> rfl) rfl (by simp only [ev0, ev1, ev2, ev3, ev4, Nat.reduceLT, Nat.reduceLeDiff, Nat.reduceEqDiff, Nat.reduceAdd, Nat.reduceMul, Nat.reduceBEq, reduceCtorEq] <;> rfl) ?_
  refine WL_go (by simp only [ev0, ev1, ev2, ev3, ev4, Nat.reduceLT, Nat.reduceLeDiff, Nat.reduceEqDiff, Nat.reduceAdd, Nat.reduceMul, Nat.reduceBEq, reduceCtorEq] <;> rfl) (Nat.le_of_ble_eq_true rfl) ?_
  refine WL_endk (ks := [0, 1, 5, 6]) (by simp only [ev0, ev4, Nat.reduceEqDiff] <;> rfl) ?_
  with_reducible repeat (first | refine n1 ?_ | refine n2 ?_ | refine n3 ?_ | refine n4 ?_ | refine n5 ?_ | refine n6 ?_ | refine n7 rfl ?_ | refine W_seq ?_ | refine W_block ?_ | refine W_skip ?_ | refine W_exit ?_ | refine W_ret ?_)
  refine W_go (by simp only [ev0, ev1, ev2, ev3, ev4, Nat.reduceLT, Nat.reduceLeDiff, Nat.reduceEqDiff, Nat.reduceAdd, Nat.reduceMul, Nat.reduceBEq, reduceCtorEq] <;> rfl) (Nat.le_of_ble_eq_true rfl) ?_
  refine WL_endk (ks := [0, 1, 5, 6, 11]) (by simp only [ev0, ev4, Nat.reduceEqDiff] <;> rfl) ?_
  with_reducible repeat (first | refine n1 ?_ | refine n2 ?_ | refine n3 ?_ | refine n4 ?_ | refine n5 ?_ | refine n6 ?_ | refine n7 rfl ?_ | refine W_seq ?_ | refine W_block ?_ | refine W_skip ?_ | refine W_exit ?_ | refine W_ret ?_)
  refine W_false rfl ?_
  with_reducible repeat (first | refine n1 ?_ | refine n2 ?_ | refine n3 ?_ | refine n4 ?_ | refine n5 ?_ | refine n6 ?_ | refine n7 rfl ?_ | refine W_seq ?_ | refine W_block ?_ | refine W_skip ?_ | refine W_exit ?_ | refine W_ret ?_)
  refine W_go (by simp only [ev0, ev1, ev2, ev3, ev4, Nat.reduceLT, Nat.reduceLeDiff, Nat.reduceEqDiff, Nat.reduceAdd, Nat.reduceMul, Nat.reduceBEq, reduceCtorEq] <;> rfl) (Nat.le_of_ble_eq_true rfl) ?_
  refine WL_endk (ks := [0, 1, 13]) (by simp only [ev0, ev4, Nat.reduceEqDiff] <;> rfl) ?_
  with_reducible repeat (first | refine n1 ?_ | refine n2 ?_ | refine n3 ?_ | refine n4 ?_ | refine n5 ?_ | refine n6 ?_ | refine n7 rfl ?_ | refine W_seq ?_ | refine W_block ?_ | refine W_skip ?_ | refine W_exit ?_ | refine W_ret ?_)
  refine W_false rfl ?_
  with_reducible repeat (first | refine n1 ?_ | refine n2 ?_ | refine n3 ?_ | refine n4 ?_ | refine n5 ?_ | refine n6 ?_ | refine n7 rfl ?_ | refine W_seq ?_ | refine W_block ?_ | refine W_skip ?_ | refine W_exit ?_ | refine W_ret ?_)
  refine W_go (by simp only [ev0, ev1, ev2, ev3, ev4, Nat.reduceLT, Nat.reduceLeDiff, Nat.reduceEqDiff, Nat.reduceAdd, Nat.reduceMul, Nat.reduceBEq, reduceCtorEq] <;> rfl) (Nat.le_of_ble_eq_true rfl) ?_
  refine WL_endk (ks := [0, 1, 16]) (by simp only [ev0, ev4, Nat.reduceEqDiff] <;> rfl) ?_
  with_reducible repeat (first | refine n1 ?_ | refine n2 ?_ | refine n3 ?_ | refine n4 ?_ | refine n5 ?_ | refine n6 ?_ | refine n7 rfl ?_ | refine W_seq ?_ | refine W_block ?_ | refine W_skip ?_ | refine W_exit ?_ | refine W_ret ?_)
  refine W_cond rfl (fun hp => ?_) (fun hp => ?_)
  · with_reducible repeat (first | refine n1 ?_ | refine n2 ?_ | refine n3 ?_ | refine n4 ?_ | refine n5 ?_ | refine n6 ?_ | refine n7 rfl ?_ | refine W_seq ?_ | refine W_block ?_ | refine W_skip ?_ | refine W_exit ?_ | refine W_ret ?_)
    refine W_go (by simp only [ev0, ev1, ev2, ev3, ev4, Nat.reduceLT, Nat.reduceLeDiff, Nat.reduceEqDiff, Nat.reduceAdd, Nat.reduceMul, Nat.reduceBEq, reduceCtorEq] <;> rfl) (Nat.le_of_ble_eq_true rfl) ?_
    refine WL_endk (ks := [4]) (by simp only [ev0, ev4, Nat.reduceEqDiff] <;> rfl) ?_
    with_reducible repeat (first | refine n1 ?_ | refine n2 ?_ | refine n3 ?_ | refine n4 ?_ | refine n5 ?_ | refine n6 ?_ | refine n7 rfl ?_ | refine W_seq ?_ | refine W_block ?_ | refine W_skip ?_ | refine W_exit ?_ | refine W_ret ?_)
    refine Fin_pure [] _ (by first | exact .inl rfl | exact .inr rfl) rfl (by simp only [Tryd.results66, vres, vresL, vres1, one_, vload_eq, Option.map_some, ev0, ev3, ev4, Nat.reduceEqDiff, Nat.reduceAdd, Nat.reduceLeDiff] <;> rfl) rfl (by simp only [one_, rf_c, rf_any, rf_sl, rf_ptr, rf_fn, rf_agg, rf_tup, rf, List.map_cons, List.map_nil] <;> rfl) hk (by simp) ?_
    exact ⟨by simp at hp; simp [cmp1, hp], rfl⟩
  · with_reducible repeat (first | refine n1 ?_ | refine n2 ?_ | refine n3 ?_ | refine n4 ?_ | refine n5 ?_ | refine n6 ?_ | refine n7 rfl ?_ | refine W_seq ?_ | refine W_block ?_ | refine W_skip ?_ | refine W_exit ?_ | refine W_ret ?_)
    refine W_go (by simp only [ev0, ev1, ev2, ev3, ev4, Nat.reduceLT, Nat.reduceLeDiff, Nat.reduceEqDiff, Nat.reduceAdd, Nat.reduceMul, Nat.reduceBEq, reduceCtorEq] <;> rfl) (Nat.le_of_ble_eq_true rfl) ?_
    refine WL_endk (ks := [0, 1, 19]) (by simp only [ev0, ev4, Nat.reduceEqDiff] <;> rfl) ?_
    with_reducible repeat (first | refine n1 ?_ | refine n2 ?_ | refine n3 ?_ | refine n4 ?_ | refine n5 ?_ | refine n6 ?_ | refine n7 rfl ?_ | refine W_seq ?_ | refine W_block ?_ | refine W_skip ?_ | refine W_exit ?_ | refine W_ret ?_)
    refine W_cond rfl (fun hq => ?_) (fun hq => ?_)
    · with_reducible repeat (first | refine n1 ?_ | refine n2 ?_ | refine n3 ?_ | refine n4 ?_ | refine n5 ?_ | refine n6 ?_ | refine n7 rfl ?_ | refine W_seq ?_ | refine W_block ?_ | refine W_skip ?_ | refine W_exit ?_ | refine W_ret ?_)
      refine W_go (by simp only [ev0, ev1, ev2, ev3, ev4, Nat.reduceLT, Nat.reduceLeDiff, Nat.reduceEqDiff, Nat.reduceAdd, Nat.reduceMul, Nat.reduceBEq, reduceCtorEq] <;> rfl) (Nat.le_of_ble_eq_true rfl) ?_
      refine WL_endk (ks := [4]) (by simp only [ev0, ev4, Nat.reduceEqDiff] <;> rfl) ?_
      with_reducible repeat (first | refine n1 ?_ | refine n2 ?_ | refine n3 ?_ | refine n4 ?_ | refine n5 ?_ | refine n6 ?_ | refine n7 rfl ?_ | refine W_seq ?_ | refine W_block ?_ | refine W_skip ?_ | refine W_exit ?_ | refine W_ret ?_)
      refine Fin_pure [] _ (by first | exact .inl rfl | exact .inr rfl) rfl (by simp only [Tryd.results66, vres, vresL, vres1, one_, vload_eq, Option.map_some, ev0, ev3, ev4, Nat.reduceEqDiff, Nat.reduceAdd, Nat.reduceLeDiff] <;> rfl) rfl (by simp only [one_, rf_c, rf_any, rf_sl, rf_ptr, rf_fn, rf_agg, rf_tup, rf, List.map_cons, List.map_nil] <;> rfl) hk (by simp) ?_
      exact ⟨by simp at hp hq; simp [cmp1, hq]; omega, rfl⟩
    · with_reducible repeat (first | refine n1 ?_ | refine n2 ?_ | refine n3 ?_ | refine n4 ?_ | refine n5 ?_ | refine n6 ?_ | refine n7 rfl ?_ | refine W_seq ?_ | refine W_block ?_ | refine W_skip ?_ | refine W_exit ?_ | refine W_ret ?_)
      refine W_go (by simp only [ev0, ev1, ev2, ev3, ev4, Nat.reduceLT, Nat.reduceLeDiff, Nat.reduceEqDiff, Nat.reduceAdd, Nat.reduceMul, Nat.reduceBEq, reduceCtorEq] <;> rfl) (Nat.le_of_ble_eq_true rfl) ?_
      refine WL_endk (ks := [4]) (by simp only [ev0, ev4, Nat.reduceEqDiff] <;> rfl) ?_
      with_reducible repeat (first | refine n1 ?_ | refine n2 ?_ | refine n3 ?_ | refine n4 ?_ | refine n5 ?_ | refine n6 ?_ | refine n7 rfl ?_ | refine W_seq ?_ | refine W_block ?_ | refine W_skip ?_ | refine W_exit ?_ | refine W_ret ?_)
      refine Fin_pure [] _ (by first | exact .inl rfl | exact .inr rfl) rfl (by simp only [Tryd.results66, vres, vresL, vres1, one_, vload_eq, Option.map_some, ev0, ev3, ev4, Nat.reduceEqDiff, Nat.reduceAdd, Nat.reduceLeDiff] <;> rfl) rfl (by simp only [one_, rf_c, rf_any, rf_sl, rf_ptr, rf_fn, rf_agg, rf_tup, rf, List.map_cons, List.map_nil] <;> rfl) hk (by simp) ?_
      exact ⟨by simp at hp hq; simp [cmp1]; omega, rfl⟩

theorem bld80c (a b c d e : Value) (ha : oneC a = true) (hb : oneC b = true) (hc : oneC c = true) (hd : oneC d = true) (he : oneC e = true) :
    aBuild (tdOf Tryd.prog) (tdOf Tryd.prog 80) [(0, .c a), (1, .c b), (2, .c c), (3, .c d), (4, .c e)] = q_ (.agg [.c a, .c b, .c c, .c d, .c e]) := by
  rw [td80]
  simp [aBuild, TD.known, td3, TD.place, tsz, vfill, vcells, ha, hb, hc, hd, he, splice]

theorem f51_ok {G} (c : Cell) (h : Hp) : VPure Tryd.prog G (.fn 51 []) [.agg (cellV c)] h (.agg (cellV c)) := by
  refine VCall_fn' (tdOf_ok _) Tryd.func51 rfl (by rfl) 14 rfl (by simp) (by simp only [ents, List.cons_append, List.nil_append, List.append_nil] <;> rfl) (fun hk ha hc => ?_)
  with_reducible repeat (first | refine n1 ?_ | refine n2 ?_ | refine n3 ?_ | refine n4 ?_ | refine n5 ?_ | refine n6 ?_ | refine n7 rfl ?_ | refine W_seq ?_ | refine W_block ?_ | refine W_skip ?_ | refine W_exit ?_ | refine W_ret ?_)
  refine W_go (by simp only [ev0, ev1, ev2, ev3, ev4, Nat.reduceLT, Nat.reduceLeDiff, Nat.reduceEqDiff, Nat.reduceAdd, Nat.reduceMul, Nat.reduceBEq, reduceCtorEq, alc80, fa29_0, ld3, fa29_1, fa29_2, fa29_3, fa29_4, sto80, cellV] <;> rfl) (Nat.le_of_ble_eq_true rfl) ?_
  refine WL_end ?_
  with_reducible repeat (first | refine n1 ?_ | refine n2 ?_ | refine n3 ?_ | refine n4 ?_ | refine n5 ?_ | refine n6 ?_ | refine n7 rfl ?_ | refine W_seq ?_ | refine W_block ?_ | refine W_skip ?_ | refine W_exit ?_ | refine W_ret ?_)
  have hb := bld80c (.int .i64 c.slot) (.int .i64 c.offset) (.int .i64 c.src) (.int .i64 c.to) (.int .i64 c.flow) rfl rfl rfl rfl rfl
  refine W_go (by simp only [ev0, ev1, ev2, ev3, ev4, Nat.reduceLT, Nat.reduceLeDiff, Nat.reduceEqDiff, Nat.reduceAdd, Nat.reduceMul, Nat.reduceBEq, reduceCtorEq, alc80, fa29_0, ld3, fa29_1, fa29_2, fa29_3, fa29_4, sto80, hb] <;> rfl) (Nat.le_of_ble_eq_true rfl) ?_
  refine WL_endk (ks := [2]) (by simp only [ev0, ev4, Nat.reduceEqDiff] <;> rfl) ?_
  with_reducible repeat (first | refine n1 ?_ | refine n2 ?_ | refine n3 ?_ | refine n4 ?_ | refine n5 ?_ | refine n6 ?_ | refine n7 rfl ?_ | refine W_seq ?_ | refine W_block ?_ | refine W_skip ?_ | refine W_exit ?_ | refine W_ret ?_)
  refine Fin_pure [.blk (cellV c), .blk (cellV c)] _ (by first | exact .inl rfl | exact .inr rfl) rfl (by simp only [Tryd.results51, vres, vresL, vres1, one_, vload_eq, Option.map_some, ev0, ev3, ev4, Nat.reduceEqDiff, Nat.reduceAdd, Nat.reduceLeDiff, td80, cellV] <;> rfl) rfl (by simp only [one_, rf_c, rf_any, rf_sl, rf_ptr, rf_fn, rf_agg, rf_tup, rf, List.map_cons, List.map_nil, td80, cellV] <;> rfl) hk (by simp) ?_
  exact ⟨by simp [cellV], rfl⟩
end Go.Vm
