/- A part of the proof: a calculus over values without addresses, and what the functions of the program compute in it. -/
import Derived.Test.YtjgkfoeomlpdnaaDoorB2
import Derived.Test.YtjgkfoeomlpdnaaDoorA3
/- Contracts: the order of cells; the form of a schedule (the program's). -/
namespace Go.Vm
open Go Go.RowKit Go.Proofs
set_option linter.unusedSimpArgs false
set_option linter.unusedVariables false

theorem cmpL_cons (x y : Int) (xs ys : List Int) : cmpL (x :: xs) (y :: ys) = if cmp1 x y ≠ 0 then cmp1 x y else cmpL xs ys := by conv => lhs; unfold cmpL
theorem cmpL_drop {xs ys : List Int} {k : Nat} (h1 : k < xs.length) (h2 : k < ys.length) : cmpL (xs.drop k) (ys.drop k) = if cmp1 xs[k] ys[k] ≠ 0 then cmp1 xs[k] ys[k] else cmpL (xs.drop (k + 1)) (ys.drop (k + 1)) := by
  rw [List.drop_eq_getElem_cons h1, List.drop_eq_getElem_cons h2, cmpL_cons]

theorem f64_ok {G} (xs ys : List Int) (h : Hp) (hl : xs.length = ys.length) (hlen : xs.length < 100000) : VPure Tryd.prog G (.fn 64 []) [.sl 1 (xs.map iv), .sl 1 (ys.map iv)] h (.c (.int .i64 (cmpL xs ys))) := by
  refine VCall_fn' (tdOf_ok _) Tryd.func64 rfl (by rfl) 36 rfl (by simp) (by simp only [ents, List.cons_append, List.nil_append, List.append_nil] <;> rfl) (fun hk ha hc => ?_)
  with_reducible repeat (first | refine n1 ?_ | refine n2 ?_ | refine n3 ?_ | refine n4 ?_ | refine n5 ?_ | refine n6 ?_ | refine n7 rfl ?_ | refine W_seq ?_ | refine W_block ?_ | refine W_skip ?_ | refine W_exit ?_ | refine W_ret ?_)
  refine W_go (by simp only [ev0, ev1, ev2, ev3, ev4, Nat.reduceLT, Nat.reduceLeDiff, Nat.reduceEqDiff, Nat.reduceAdd, Nat.reduceMul, Nat.reduceBEq, reduceCtorEq, len25, ix25, ld3] <;> rfl) (Nat.le_of_ble_eq_true rfl) ?_
  refine WL_end ?_
  with_reducible repeat (first | refine n1 ?_ | refine n2 ?_ | refine n3 ?_ | refine n4 ?_ | refine n5 ?_ | refine n6 ?_ | refine n7 rfl ?_ | refine W_seq ?_ | refine W_block ?_ | refine W_skip ?_ | refine W_exit ?_ | refine W_ret ?_)
  refine W_go (by simp only [ev0, ev1, ev2, ev3, ev4, Nat.reduceLT, Nat.reduceLeDiff, Nat.reduceEqDiff, Nat.reduceAdd, Nat.reduceMul, Nat.reduceBEq, reduceCtorEq, len25, ix25, ld3] <;> rfl) (Nat.le_of_ble_eq_true rfl) ?_
  refine WL_endk (ks := [0, 1, 9, 10, 11]) (by simp only [ev0, ev4, Nat.reduceEqDiff] <;> rfl) ?_
  with_reducible repeat (first | refine n1 ?_ | refine n2 ?_ | refine n3 ?_ | refine n4 ?_ | refine n5 ?_ | refine n6 ?_ | refine n7 rfl ?_ | refine W_seq ?_ | refine W_block ?_ | refine W_skip ?_ | refine W_exit ?_ | refine W_ret ?_)
  refine W_loopS (fun k : Nat => ⟨36, [(0, .sl 1 (xs.map iv)), (1, .sl 1 (ys.map iv)), (9, .sl 1 (xs.map iv)), (10, .c (.int .i64 xs.length)), (11, .c (.int .i64 k))], h ++ [], []⟩) (fun k => k ≤ xs.length ∧ cmpL xs ys = cmpL (xs.drop k) (ys.drop k)) (fun k => xs.length - k) 0 (by simp) rfl (fun k hI => ?_)
  with_reducible repeat (first | refine n1 ?_ | refine n2 ?_ | refine n3 ?_ | refine n4 ?_ | refine n5 ?_ | refine n6 ?_ | refine n7 rfl ?_ | refine W_seq ?_ | refine W_block ?_ | refine W_skip ?_ | refine W_exit ?_ | refine W_ret ?_)
  refine W_go (by simp only [ev0, ev1, ev2, ev3, ev4, Nat.reduceLT, Nat.reduceLeDiff, Nat.reduceEqDiff, Nat.reduceAdd, Nat.reduceMul, Nat.reduceBEq, reduceCtorEq, len25, ix25, ld3] <;> rfl) (Nat.le_of_ble_eq_true rfl) ?_
  refine WL_end ?_
  with_reducible repeat (first | refine n1 ?_ | refine n2 ?_ | refine n3 ?_ | refine n4 ?_ | refine n5 ?_ | refine n6 ?_ | refine n7 rfl ?_ | refine W_seq ?_ | refine W_block ?_ | refine W_skip ?_ | refine W_exit ?_ | refine W_ret ?_)
  refine W_cond rfl (fun hb => ?_) (fun hb => ?_)
  · with_reducible repeat (first | refine n1 ?_ | refine n2 ?_ | refine n3 ?_ | refine n4 ?_ | refine n5 ?_ | refine n6 ?_ | refine n7 rfl ?_ | refine W_seq ?_ | refine W_block ?_ | refine W_skip ?_ | refine W_exit ?_ | refine W_ret ?_)
    have hlt : k < xs.length := by simpa using hb
    have hlt2 : k < ys.length := by omega
    have hx := map_get (f := iv) hlt
    have hy := map_get (f := iv) hlt2
    have hge : decide ((k : Int) ≥ (ys.length : Int)) = false := by simp; omega
    refine W_go (by simp only [ev0, ev1, ev2, ev3, ev4, Nat.reduceLT, Nat.reduceLeDiff, Nat.reduceEqDiff, Nat.reduceAdd, Nat.reduceMul, Nat.reduceBEq, reduceCtorEq, len25, ix25, ld3, hx, iv] <;> rfl) (Nat.le_of_ble_eq_true rfl) ?_
    refine WL_endk (ks := [0, 1, 5, 6, 9, 10, 11]) (by simp only [ev0, ev4, Nat.reduceEqDiff] <;> rfl) ?_
    with_reducible repeat (first | refine n1 ?_ | refine n2 ?_ | refine n3 ?_ | refine n4 ?_ | refine n5 ?_ | refine n6 ?_ | refine n7 rfl ?_ | refine W_seq ?_ | refine W_block ?_ | refine W_skip ?_ | refine W_exit ?_ | refine W_ret ?_)
    refine W_go (by simp only [ev0, ev1, ev2, ev3, ev4, Nat.reduceLT, Nat.reduceLeDiff, Nat.reduceEqDiff, Nat.reduceAdd, Nat.reduceMul, Nat.reduceBEq, reduceCtorEq, len25, ix25, ld3, hge] <;> rfl) (Nat.le_of_ble_eq_true rfl) ?_
    refine WL_endk (ks := [0, 1, 5, 6, 9, 10, 11, 19]) (by simp only [ev0, ev4, Nat.reduceEqDiff] <;> rfl) ?_
    with_reducible repeat (first | refine n1 ?_ | refine n2 ?_ | refine n3 ?_ | refine n4 ?_ | refine n5 ?_ | refine n6 ?_ | refine n7 rfl ?_ | refine W_seq ?_ | refine W_block ?_ | refine W_skip ?_ | refine W_exit ?_ | refine W_ret ?_)
    refine W_false rfl ?_
    with_reducible repeat (first | refine n1 ?_ | refine n2 ?_ | refine n3 ?_ | refine n4 ?_ | refine n5 ?_ | refine n6 ?_ | refine n7 rfl ?_ | refine W_seq ?_ | refine W_block ?_ | refine W_skip ?_ | refine W_exit ?_ | refine W_ret ?_)
    refine W_go (by simp only [ev0, ev1, ev2, ev3, ev4, Nat.reduceLT, Nat.reduceLeDiff, Nat.reduceEqDiff, Nat.reduceAdd, Nat.reduceMul, Nat.reduceBEq, reduceCtorEq, len25, ix25, ld3, hy, iv] <;> rfl) (Nat.le_of_ble_eq_true rfl) ?_
    refine WL_endk (ks := [0, 1, 6, 7, 9, 10, 11]) (by simp only [ev0, ev4, Nat.reduceEqDiff] <;> rfl) ?_
    with_reducible repeat (first | refine n1 ?_ | refine n2 ?_ | refine n3 ?_ | refine n4 ?_ | refine n5 ?_ | refine n6 ?_ | refine n7 rfl ?_ | refine W_seq ?_ | refine W_block ?_ | refine W_skip ?_ | refine W_exit ?_ | refine W_ret ?_)
    refine W_go (by simp only [ev0, ev1, ev2, ev3, ev4, Nat.reduceLT, Nat.reduceLeDiff, Nat.reduceEqDiff, Nat.reduceAdd, Nat.reduceMul, Nat.reduceBEq, reduceCtorEq, len25, ix25, ld3] <;> rfl) (Nat.le_of_ble_eq_true rfl) ?_
    refine WL_pure (f66_ok xs[k] ys[k] _) rfl (.inl rfl) (by simp only [ev0, ev1, ev2, ev3, ev4, Nat.reduceLT, Nat.reduceLeDiff, Nat.reduceEqDiff, Nat.reduceAdd, Nat.reduceMul, Nat.reduceBEq, reduceCtorEq, len25, ix25, ld3] <;> rfl) (by simp only [ev0, ev1, ev2, ev3, ev4, Nat.reduceLT, Nat.reduceLeDiff, Nat.reduceEqDiff, Nat.reduceAdd, Nat.reduceMul, Nat.reduceBEq, reduceCtorEq, len25, ix25, ld3] <;> rfl) rfl (by simp only [ev0, ev1, ev2, ev3, ev4, Nat.reduceLT, Nat.reduceLeDiff, Nat.reduceEqDiff, Nat.reduceAdd, Nat.reduceMul, Nat.reduceBEq, reduceCtorEq, len25, ix25, ld3] <;> rfl) ?_
    refine WL_go (by simp only [ev0, ev1, ev2, ev3, ev4, Nat.reduceLT, Nat.reduceLeDiff, Nat.reduceEqDiff, Nat.reduceAdd, Nat.reduceMul, Nat.reduceBEq, reduceCtorEq, len25, ix25, ld3] <;> rfl) (Nat.le_of_ble_eq_true rfl) ?_
    refine WL_endk (ks := [0, 1, 8, 9, 10, 11]) (by simp only [ev0, ev4, Nat.reduceEqDiff] <;> rfl) ?_
    with_reducible repeat (first | refine n1 ?_ | refine n2 ?_ | refine n3 ?_ | refine n4 ?_ | refine n5 ?_ | refine n6 ?_ | refine n7 rfl ?_ | refine W_seq ?_ | refine W_block ?_ | refine W_skip ?_ | refine W_exit ?_ | refine W_ret ?_)
    refine W_go (by simp only [ev0, ev1, ev2, ev3, ev4, Nat.reduceLT, Nat.reduceLeDiff, Nat.reduceEqDiff, Nat.reduceAdd, Nat.reduceMul, Nat.reduceBEq, reduceCtorEq, len25, ix25, ld3] <;> rfl) (Nat.le_of_ble_eq_true rfl) ?_
    refine WL_endk (ks := [0, 1, 8, 9, 10, 11, 28]) (by simp only [ev0, ev4, Nat.reduceEqDiff] <;> rfl) ?_
    with_reducible repeat (first | refine n1 ?_ | refine n2 ?_ | refine n3 ?_ | refine n4 ?_ | refine n5 ?_ | refine n6 ?_ | refine n7 rfl ?_ | refine W_seq ?_ | refine W_block ?_ | refine W_skip ?_ | refine W_exit ?_ | refine W_ret ?_)
    refine W_cond rfl (fun hp => ?_) (fun hp => ?_)
    · have hp' : cmp1 xs[k] ys[k] ≠ 0 := by simpa using hp
      with_reducible repeat (first | refine n1 ?_ | refine n2 ?_ | refine n3 ?_ | refine n4 ?_ | refine n5 ?_ | refine n6 ?_ | refine n7 rfl ?_ | refine W_seq ?_ | refine W_block ?_ | refine W_skip ?_ | refine W_exit ?_ | refine W_ret ?_)
      refine W_go (by simp only [ev0, ev1, ev2, ev3, ev4, Nat.reduceLT, Nat.reduceLeDiff, Nat.reduceEqDiff, Nat.reduceAdd, Nat.reduceMul, Nat.reduceBEq, reduceCtorEq, len25, ix25, ld3] <;> rfl) (Nat.le_of_ble_eq_true rfl) ?_
      refine WL_endk (ks := [4]) (by simp only [ev0, ev4, Nat.reduceEqDiff] <;> rfl) ?_
      with_reducible repeat (first | refine n1 ?_ | refine n2 ?_ | refine n3 ?_ | refine n4 ?_ | refine n5 ?_ | refine n6 ?_ | refine n7 rfl ?_ | refine W_seq ?_ | refine W_block ?_ | refine W_skip ?_ | refine W_exit ?_ | refine W_ret ?_)
      refine Fin_pure [] _ (by first | exact .inl rfl | exact .inr rfl) rfl (by simp only [Tryd.results64, vres, vresL, vres1, one_, vload_eq, Option.map_some, ev0, ev3, ev4, Nat.reduceEqDiff, Nat.reduceAdd, Nat.reduceLeDiff] <;> rfl) rfl (by simp only [one_, rf_c, rf_any, rf_sl, rf_ptr, rf_fn, rf_agg, rf_tup, rf, List.map_cons, List.map_nil] <;> rfl) hk (by simp) ?_
      exact ⟨by rw [hI.2, cmpL_drop hlt hlt2, if_pos hp'], rfl⟩
    · have hp' : cmp1 xs[k] ys[k] = 0 := by simpa using hp
      with_reducible repeat (first | refine n1 ?_ | refine n2 ?_ | refine n3 ?_ | refine n4 ?_ | refine n5 ?_ | refine n6 ?_ | refine n7 rfl ?_ | refine W_seq ?_ | refine W_block ?_ | refine W_skip ?_ | refine W_exit ?_ | refine W_ret ?_)
      refine W_go (by simp only [ev0, ev1, ev2, ev3, ev4, Nat.reduceLT, Nat.reduceLeDiff, Nat.reduceEqDiff, Nat.reduceAdd, Nat.reduceMul, Nat.reduceBEq, reduceCtorEq, len25, ix25, ld3] <;> rfl) (Nat.le_of_ble_eq_true rfl) ?_
      refine WL_endk (ks := [0, 1, 9, 10, 11]) (by simp only [ev0, ev4, Nat.reduceEqDiff] <;> rfl) ?_
      with_reducible repeat (first | refine n1 ?_ | refine n2 ?_ | refine n3 ?_ | refine n4 ?_ | refine n5 ?_ | refine n6 ?_ | refine n7 rfl ?_ | refine W_seq ?_ | refine W_block ?_ | refine W_skip ?_ | refine W_exit ?_ | refine W_ret ?_)
      exact ⟨k + 1, by rw [wrap64 (by omega) (by omega)]; rfl, ⟨by omega, by rw [hI.2, cmpL_drop hlt hlt2, if_neg (by simp [hp'])]⟩, by omega⟩
  · with_reducible repeat (first | refine n1 ?_ | refine n2 ?_ | refine n3 ?_ | refine n4 ?_ | refine n5 ?_ | refine n6 ?_ | refine n7 rfl ?_ | refine W_seq ?_ | refine W_block ?_ | refine W_skip ?_ | refine W_exit ?_ | refine W_ret ?_)
    have hge : xs.length ≤ k := by simpa using hb
    have hq : decide ((xs.length : Int) < (ys.length : Int)) = false := by simp; omega
    refine W_go (by simp only [ev0, ev1, ev2, ev3, ev4, Nat.reduceLT, Nat.reduceLeDiff, Nat.reduceEqDiff, Nat.reduceAdd, Nat.reduceMul, Nat.reduceBEq, reduceCtorEq, len25, ix25, ld3, hq] <;> rfl) (Nat.le_of_ble_eq_true rfl) ?_
    refine WL_endk (ks := [35]) (by simp only [ev0, ev4, Nat.reduceEqDiff] <;> rfl) ?_
    with_reducible repeat (first | refine n1 ?_ | refine n2 ?_ | refine n3 ?_ | refine n4 ?_ | refine n5 ?_ | refine n6 ?_ | refine n7 rfl ?_ | refine W_seq ?_ | refine W_block ?_ | refine W_skip ?_ | refine W_exit ?_ | refine W_ret ?_)
    refine W_false rfl ?_
    with_reducible repeat (first | refine n1 ?_ | refine n2 ?_ | refine n3 ?_ | refine n4 ?_ | refine n5 ?_ | refine n6 ?_ | refine n7 rfl ?_ | refine W_seq ?_ | refine W_block ?_ | refine W_skip ?_ | refine W_exit ?_ | refine W_ret ?_)
    refine W_go (by simp only [ev0, ev1, ev2, ev3, ev4, Nat.reduceLT, Nat.reduceLeDiff, Nat.reduceEqDiff, Nat.reduceAdd, Nat.reduceMul, Nat.reduceBEq, reduceCtorEq, len25, ix25, ld3] <;> rfl) (Nat.le_of_ble_eq_true rfl) ?_
    refine WL_endk (ks := [4]) (by simp only [ev0, ev4, Nat.reduceEqDiff] <;> rfl) ?_
    with_reducible repeat (first | refine n1 ?_ | refine n2 ?_ | refine n3 ?_ | refine n4 ?_ | refine n5 ?_ | refine n6 ?_ | refine n7 rfl ?_ | refine W_seq ?_ | refine W_block ?_ | refine W_skip ?_ | refine W_exit ?_ | refine W_ret ?_)
    refine Fin_pure [] _ (by first | exact .inl rfl | exact .inr rfl) rfl (by simp only [Tryd.results64, vres, vresL, vres1, one_, vload_eq, Option.map_some, ev0, ev3, ev4, Nat.reduceEqDiff, Nat.reduceAdd, Nat.reduceLeDiff] <;> rfl) rfl (by simp only [one_, rf_c, rf_any, rf_sl, rf_ptr, rf_fn, rf_agg, rf_tup, rf, List.map_cons, List.map_nil] <;> rfl) hk (by simp) ?_
    exact ⟨by rw [hI.2, List.drop_of_length_le hge]; rfl, rfl⟩

def sla (n : Nat) (id : Nat) : Ob → Act2
  | .blk cs => if cs.length = n then some (some id, ⟨.sl 1 (cs.map fun c => [c]), some .gone, none⟩) else none
  | _ => none
theorem sla_blk (n id : Nat) (cs : List Val) : sla n id (.blk cs) = if cs.length = n then some (some id, ⟨.sl 1 (cs.map fun c => [c]), some .gone, none⟩) else none := rfl
theorem slc80 (h : Hp) (ev : Operand → Val) (id : Nat) : aSlice (tdOf Tryd.prog 80) (tdOf Tryd.prog (elemT (tdOf Tryd.prog 80))) h ev none none (.ptr id 0) = sla 5 id (h.get id) := by
  have e : elemT (tdOf Tryd.prog 80) = 3 := by rw [td80]; rfl
  rw [e, td80, td3]
  generalize hq : h.get id = o
  cases o <;> simp [aSlice, hq, isArray, sla]
theorem nums_iv (c : Cell) : (cellV c).map (fun x => [x]) = (nums c).map iv := rfl
set_option maxRecDepth 8000 in
theorem f61_ok {G} (a b : Cell) (h : Hp) : VPure Tryd.prog G (.fn 61 []) [.agg (cellV a), .agg (cellV b), .fn 51 []] h (.c (.int .i64 (cmpC a b))) := by
  refine VCall_fn' (tdOf_ok _) Tryd.func61 rfl (by rfl) 18 rfl (by simp) (by simp only [ents, List.cons_append, List.nil_append, List.append_nil] <;> rfl) (fun hk ha hc => ?_)
  with_reducible repeat (first | refine n1 ?_ | refine n2 ?_ | refine n3 ?_ | refine n4 ?_ | refine n5 ?_ | refine n6 ?_ | refine n7 rfl ?_ | refine W_seq ?_ | refine W_block ?_ | refine W_skip ?_ | refine W_exit ?_ | refine W_ret ?_)
  refine W_go (by simp only [ev0, ev1, ev2, ev3, ev4, Nat.reduceLT, Nat.reduceLeDiff, Nat.reduceEqDiff, Nat.reduceAdd, Nat.reduceMul, Nat.reduceBEq, reduceCtorEq, ld29, alc80, sto80, cellV] <;> rfl) (Nat.le_of_ble_eq_true rfl) ?_
  refine WL_end ?_
  with_reducible repeat (first | refine n1 ?_ | refine n2 ?_ | refine n3 ?_ | refine n4 ?_ | refine n5 ?_ | refine n6 ?_ | refine n7 rfl ?_ | refine W_seq ?_ | refine W_block ?_ | refine W_skip ?_ | refine W_exit ?_ | refine W_ret ?_)
  refine Flt.W_drawL [.blk [.c (.int .i64 0), .c (.int .i64 0), .c (.int .i64 0), .c (.int .i64 0), .c (.int .i64 0)], .blk [.c (.int .i64 0), .c (.int .i64 0), .c (.int .i64 0), .c (.int .i64 0), .c (.int .i64 0)]] (by kernel_rfl) (Flt.DR_k 2 (by simp only [ev0, ev1, ev2, ev3, ev4, Nat.reduceLT, Nat.reduceLeDiff, Nat.reduceEqDiff, Nat.reduceAdd, Nat.reduceMul, Nat.reduceBEq, reduceCtorEq, ld29, alc80, sto80, cellV, List.cons_append, List.nil_append, List.take_succ_cons, List.take_zero, List.drop_succ_cons, List.drop_zero] <;> rfl) rfl (Flt.DR_pure (f51_ok a []) (by simp) (by simp [cellV]) rfl (.inl rfl) (by simp only [ev0, ev1, ev2, ev3, ev4, Nat.reduceLT, Nat.reduceLeDiff, Nat.reduceEqDiff, Nat.reduceAdd, Nat.reduceMul, Nat.reduceBEq, reduceCtorEq, ld29, alc80, sto80, cellV, List.cons_append, List.nil_append, List.take_succ_cons, List.take_zero, List.drop_succ_cons, List.drop_zero] <;> rfl) (by simp only [ev0, ev1, ev2, ev3, ev4, Nat.reduceLT, Nat.reduceLeDiff, Nat.reduceEqDiff, Nat.reduceAdd, Nat.reduceMul, Nat.reduceBEq, reduceCtorEq, ld29, alc80, sto80, cellV, List.cons_append, List.nil_append, List.take_succ_cons, List.take_zero, List.drop_succ_cons, List.drop_zero] <;> rfl) (by simp only [ev0, ev1, ev2, ev3, ev4, Nat.reduceLT, Nat.reduceLeDiff, Nat.reduceEqDiff, Nat.reduceAdd, Nat.reduceMul, Nat.reduceBEq, reduceCtorEq, ld29, alc80, sto80, cellV, List.cons_append, List.nil_append, List.take_succ_cons, List.take_zero, List.drop_succ_cons, List.drop_zero] <;> rfl) (Flt.DR_k 2 (by simp only [ev0, ev1, ev2, ev3, ev4, Nat.reduceLT, Nat.reduceLeDiff, Nat.reduceEqDiff, Nat.reduceAdd, Nat.reduceMul, Nat.reduceBEq, reduceCtorEq, ld29, alc80, sto80, cellV, List.cons_append, List.nil_append, List.take_succ_cons, List.take_zero, List.drop_succ_cons, List.drop_zero] <;> rfl) rfl (Flt.DR_pure (f51_ok b []) (by simp) (by simp [cellV]) rfl (.inl rfl) (by simp only [ev0, ev1, ev2, ev3, ev4, Nat.reduceLT, Nat.reduceLeDiff, Nat.reduceEqDiff, Nat.reduceAdd, Nat.reduceMul, Nat.reduceBEq, reduceCtorEq, ld29, alc80, sto80, cellV, List.cons_append, List.nil_append, List.take_succ_cons, List.take_zero, List.drop_succ_cons, List.drop_zero] <;> rfl) (by simp only [ev0, ev1, ev2, ev3, ev4, Nat.reduceLT, Nat.reduceLeDiff, Nat.reduceEqDiff, Nat.reduceAdd, Nat.reduceMul, Nat.reduceBEq, reduceCtorEq, ld29, alc80, sto80, cellV, List.cons_append, List.nil_append, List.take_succ_cons, List.take_zero, List.drop_succ_cons, List.drop_zero] <;> rfl) (by simp only [ev0, ev1, ev2, ev3, ev4, Nat.reduceLT, Nat.reduceLeDiff, Nat.reduceEqDiff, Nat.reduceAdd, Nat.reduceMul, Nat.reduceBEq, reduceCtorEq, ld29, alc80, sto80, cellV, List.cons_append, List.nil_append, List.take_succ_cons, List.take_zero, List.drop_succ_cons, List.drop_zero] <;> rfl) (Flt.DR_flt (List.length h + 2) rfl td80 rfl (.inl rfl) (by simp only [get_append_r, get_append_0]; rfl) (by simp only [ev0, ev1, ev2, ev3, ev4, Nat.reduceLT, Nat.reduceLeDiff, Nat.reduceEqDiff, Nat.reduceAdd, Nat.reduceMul, Nat.reduceBEq, reduceCtorEq, ld29, alc80, sto80, List.cons_append, List.nil_append, List.take_succ_cons, List.take_zero, List.drop_succ_cons, List.drop_zero] <;> rfl) (Flt.DR_flt (List.length h + 3) rfl td80 rfl (.inl rfl) (by simp only [get_append_r, get_append_0]; rfl) (by simp only [ev0, ev1, ev2, ev3, ev4, Nat.reduceLT, Nat.reduceLeDiff, Nat.reduceEqDiff, Nat.reduceAdd, Nat.reduceMul, Nat.reduceBEq, reduceCtorEq, ld29, alc80, sto80, List.cons_append, List.nil_append, List.take_succ_cons, List.take_zero, List.drop_succ_cons, List.drop_zero] <;> rfl) (Flt.DR_e (by simp only [ev0, ev1, ev2, ev3, ev4, Nat.reduceLT, Nat.reduceLeDiff, Nat.reduceEqDiff, Nat.reduceAdd, Nat.reduceMul, Nat.reduceBEq, reduceCtorEq, ld29, alc80, sto80, cellV, List.cons_append, List.nil_append, List.take_succ_cons, List.take_zero, List.drop_succ_cons, List.drop_zero] <;> rfl) rfl))))))) (by kernel_rfl) (by kernel_rfl) (by rw [show Flt.dps _ = [(1, 6), (1, 7), (4, 6), (4, 7)] from by kernel_rfl]; simp [Flt.idsApart, Flt.idApart, Flt.cv] <;> omega) (by simp [Flt.fids, Flt.cv, List.range']) ?_
  with_reducible repeat (first | refine n1 ?_ | refine n2 ?_ | refine n3 ?_ | refine n4 ?_ | refine n5 ?_ | refine n6 ?_ | refine n7 rfl ?_ | refine W_seq ?_ | refine W_block ?_ | refine W_skip ?_ | refine W_exit ?_ | refine W_ret ?_)
  refine W_keep' (ks := [8, 7]) (by simp only [ev0, ev4, Nat.reduceEqDiff] <;> rfl) ?_
  refine W_share (by rw [get_append_r]; rfl) (set_append_r _ _ _) ?_
  refine W_keep' (ks := [7, 8]) (by simp only [ev0, ev4, Nat.reduceEqDiff] <;> rfl) ?_
  refine W_share (by rw [get_append_r]; rfl) (set_append_r _ _ _) ?_
  refine Flt.W_drawL [] (by kernel_rfl) (Flt.DR_ext (fun _ => Does_slice_rp (tdOf_ok _) rfl td80 rfl td3 rfl (by simp only [ev0, ev1, ev2, ev3, ev4, Nat.reduceLT, Nat.reduceLeDiff, Nat.reduceEqDiff, Nat.reduceAdd, Nat.reduceMul, Nat.reduceBEq, reduceCtorEq, ld29, alc80, sto80, List.cons_append, List.nil_append, List.take_succ_cons, List.take_zero, List.drop_succ_cons, List.drop_zero] <;> rfl) rfl (by decide) (by simp [oneC])) rfl (by intro c hc; cases hc) (.inl rfl) (by simp only [ev0, ev1, ev2, ev3, ev4, Nat.reduceLT, Nat.reduceLeDiff, Nat.reduceEqDiff, Nat.reduceAdd, Nat.reduceMul, Nat.reduceBEq, reduceCtorEq, ld29, alc80, sto80, List.cons_append, List.nil_append, List.take_succ_cons, List.take_zero, List.drop_succ_cons, List.drop_zero] <;> rfl) (Flt.DR_ext (fun _ => Does_slice_rp (tdOf_ok _) rfl td80 rfl td3 rfl (by simp only [ev0, ev1, ev2, ev3, ev4, Nat.reduceLT, Nat.reduceLeDiff, Nat.reduceEqDiff, Nat.reduceAdd, Nat.reduceMul, Nat.reduceBEq, reduceCtorEq, ld29, alc80, sto80, List.cons_append, List.nil_append, List.take_succ_cons, List.take_zero, List.drop_succ_cons, List.drop_zero] <;> rfl) rfl (by decide) (by simp [oneC])) rfl (by intro c hc; cases hc) (.inl rfl) (by simp only [ev0, ev1, ev2, ev3, ev4, Nat.reduceLT, Nat.reduceLeDiff, Nat.reduceEqDiff, Nat.reduceAdd, Nat.reduceMul, Nat.reduceBEq, reduceCtorEq, ld29, alc80, sto80, List.cons_append, List.nil_append, List.take_succ_cons, List.take_zero, List.drop_succ_cons, List.drop_zero] <;> rfl) (Flt.DR_pure (f64_ok (nums a) (nums b) [] rfl (by simp [nums])) (by simp) (by simp [nums, iv]) rfl (.inl rfl) (by simp only [ev0, ev1, ev2, ev3, ev4, Nat.reduceLT, Nat.reduceLeDiff, Nat.reduceEqDiff, Nat.reduceAdd, Nat.reduceMul, Nat.reduceBEq, reduceCtorEq, ld29, alc80, sto80, nums, iv, List.cons_append, List.nil_append, List.take_succ_cons, List.take_zero, List.drop_succ_cons, List.drop_zero] <;> rfl) (by simp only [ev0, ev1, ev2, ev3, ev4, Nat.reduceLT, Nat.reduceLeDiff, Nat.reduceEqDiff, Nat.reduceAdd, Nat.reduceMul, Nat.reduceBEq, reduceCtorEq, ld29, alc80, sto80, nums, iv, List.cons_append, List.nil_append, List.take_succ_cons, List.take_zero, List.drop_succ_cons, List.drop_zero] <;> rfl) (by simp only [ev0, ev1, ev2, ev3, ev4, Nat.reduceLT, Nat.reduceLeDiff, Nat.reduceEqDiff, Nat.reduceAdd, Nat.reduceMul, Nat.reduceBEq, reduceCtorEq, ld29, alc80, sto80, nums, iv, List.cons_append, List.nil_append, List.take_succ_cons, List.take_zero, List.drop_succ_cons, List.drop_zero] <;> rfl) (Flt.DR_e (by simp only [ev0, ev1, ev2, ev3, ev4, Nat.reduceLT, Nat.reduceLeDiff, Nat.reduceEqDiff, Nat.reduceAdd, Nat.reduceMul, Nat.reduceBEq, reduceCtorEq, ld29, alc80, sto80, List.cons_append, List.nil_append, List.take_succ_cons, List.take_zero, List.drop_succ_cons, List.drop_zero] <;> rfl) rfl)))) (by kernel_rfl) (by kernel_rfl) (by rw [show Flt.dps _ = [] from by kernel_rfl]; simp [Flt.idsApart, Flt.idApart, Flt.cv] <;> omega) (by simp [Flt.fids, Flt.cv, List.range']) ?_
  with_reducible repeat (first | refine n1 ?_ | refine n2 ?_ | refine n3 ?_ | refine n4 ?_ | refine n5 ?_ | refine n6 ?_ | refine n7 rfl ?_ | refine W_seq ?_ | refine W_block ?_ | refine W_skip ?_ | refine W_exit ?_ | refine W_ret ?_)
  refine Fin_pure [.blk (cellV a), .blk (cellV b), .gone, .gone] _ (by first | exact .inl rfl | exact .inr rfl) rfl (by simp only [Tryd.results61, vres, vresL, vres1, one_, vload_eq, Option.map_some, ev0, ev3, ev4, Nat.reduceEqDiff, Nat.reduceAdd, Nat.reduceLeDiff] <;> rfl) rfl (by simp only [one_, rf_c, rf_any, rf_sl, rf_ptr, rf_fn, rf_agg, rf_tup, rf, List.map_cons, List.map_nil] <;> rfl) hk (by simp) ?_
  exact ⟨rfl, rfl⟩

theorem f56_ok {G} (a b : Cell) (h : Hp) : VPure Tryd.prog G (.fn 56 []) [.agg (cellV a), .agg (cellV b)] h (.c (.int .i64 (cmpC a b))) := by
  refine VCall_fn' (tdOf_ok _) Tryd.func56 rfl (by rfl) 8 rfl (by simp) (by simp only [ents, List.cons_append, List.nil_append, List.append_nil] <;> rfl) (fun hk ha hc => ?_)
  with_reducible repeat (first | refine n1 ?_ | refine n2 ?_ | refine n3 ?_ | refine n4 ?_ | refine n5 ?_ | refine n6 ?_ | refine n7 rfl ?_ | refine W_seq ?_ | refine W_block ?_ | refine W_skip ?_ | refine W_exit ?_ | refine W_ret ?_)
  refine W_go (by simp only [ev0, ev1, ev2, ev3, ev4, Nat.reduceLT, Nat.reduceLeDiff, Nat.reduceEqDiff, Nat.reduceAdd, Nat.reduceMul, Nat.reduceBEq, reduceCtorEq, ld29, cellV] <;> rfl) (Nat.le_of_ble_eq_true rfl) ?_
  refine WL_end ?_
  with_reducible repeat (first | refine n1 ?_ | refine n2 ?_ | refine n3 ?_ | refine n4 ?_ | refine n5 ?_ | refine n6 ?_ | refine n7 rfl ?_ | refine W_seq ?_ | refine W_block ?_ | refine W_skip ?_ | refine W_exit ?_ | refine W_ret ?_)
  refine W_go (by simp only [ev0, ev1, ev2, ev3, ev4, Nat.reduceLT, Nat.reduceLeDiff, Nat.reduceEqDiff, Nat.reduceAdd, Nat.reduceMul, Nat.reduceBEq, reduceCtorEq, ld29] <;> rfl) (Nat.le_of_ble_eq_true rfl) ?_
  refine WL_pure (f61_ok a b _) rfl (.inl rfl) (by simp only [ev0, ev1, ev2, ev3, ev4, Nat.reduceLT, Nat.reduceLeDiff, Nat.reduceEqDiff, Nat.reduceAdd, Nat.reduceMul, Nat.reduceBEq, reduceCtorEq, ld29, cellV] <;> rfl) (by simp only [ev0, ev1, ev2, ev3, ev4, Nat.reduceLT, Nat.reduceLeDiff, Nat.reduceEqDiff, Nat.reduceAdd, Nat.reduceMul, Nat.reduceBEq, reduceCtorEq, ld29, cellV] <;> rfl) rfl (by simp only [ev0, ev1, ev2, ev3, ev4, Nat.reduceLT, Nat.reduceLeDiff, Nat.reduceEqDiff, Nat.reduceAdd, Nat.reduceMul, Nat.reduceBEq, reduceCtorEq, ld29, cellV] <;> rfl) ?_
  refine WL_go (by simp only [ev0, ev1, ev2, ev3, ev4, Nat.reduceLT, Nat.reduceLeDiff, Nat.reduceEqDiff, Nat.reduceAdd, Nat.reduceMul, Nat.reduceBEq, reduceCtorEq, ld29] <;> rfl) (Nat.le_of_ble_eq_true rfl) ?_
  refine WL_endk (ks := [4]) (by simp only [ev0, ev4, Nat.reduceEqDiff] <;> rfl) ?_
  with_reducible repeat (first | refine n1 ?_ | refine n2 ?_ | refine n3 ?_ | refine n4 ?_ | refine n5 ?_ | refine n6 ?_ | refine n7 rfl ?_ | refine W_seq ?_ | refine W_block ?_ | refine W_skip ?_ | refine W_exit ?_ | refine W_ret ?_)
  refine Fin_pure [.blk (cellV a), .blk (cellV b)] _ (by first | exact .inl rfl | exact .inr rfl) rfl (by simp only [Tryd.results56, vres, vresL, vres1, one_, vload_eq, Option.map_some, ev0, ev3, ev4, Nat.reduceEqDiff, Nat.reduceAdd, Nat.reduceLeDiff] <;> rfl) rfl (by simp only [one_, rf_c, rf_any, rf_sl, rf_ptr, rf_fn, rf_agg, rf_tup, rf, List.map_cons, List.map_nil] <;> rfl) hk (by simp) ?_
  exact ⟨rfl, rfl⟩
/-- Is a cell, by what comes before it, out of its place? -/
def outOf (s : Sch) (k : Nat) (c p : Cell) : Bool := !formed s c || (decide (0 < k) && decide (cmpC p c ≥ 0))
/-- The cells from k on: are they formed and in order (p: the cell before)? -/
def okFrom (s : Sch) : Bool → Cell → List Cell → Bool
  | _, _, [] => true
  | fst, p, c :: cs => formed s c && (fst || decide (cmpC p c < 0)) && okFrom s false c cs
def zeroC : Cell := ⟨0, 0, 0, 0, 0⟩
def formB (s : Sch) : Bool := sized s && decide (s.cells.length ≤ 512) && okFrom s true zeroC s.cells
def prevC (xs : List Cell) : Nat → Cell
  | 0 => zeroC
  | k + 1 => xs.getD k zeroC
theorem okFrom_drop (s : Sch) {xs : List Cell} {k : Nat} (h : k < xs.length) : okFrom s (k == 0) (prevC xs k) (xs.drop k) = (formed s xs[k] && ((k == 0) || decide (cmpC (prevC xs k) xs[k] < 0)) && okFrom s (k + 1 == 0) (prevC xs (k + 1)) (xs.drop (k + 1))) := by
  rw [List.drop_eq_getElem_cons h]
  have e : prevC xs (k + 1) = xs[k] := by simp [prevC, h]
  rw [e]; rfl


theorem hz0 : decide (((0 : Nat) : Int) > 0) = false := by decide
set_option maxRecDepth 8000 in
theorem f48_ok {G} (s : Sch) (h : Hp) (hlen : s.cells.length < 4611686018427387904) : VPure Tryd.prog G (.fn 48 []) [.agg (schV s)] h (.c (.bool (formB s))) := by
  refine VCall_fn' (tdOf_ok _) Tryd.func48 rfl (by rfl) 42 rfl (by simp) (by simp only [ents, List.cons_append, List.nil_append, List.append_nil] <;> rfl) (fun hk ha hc => ?_)
  with_reducible repeat (first | refine n1 ?_ | refine n2 ?_ | refine n3 ?_ | refine n4 ?_ | refine n5 ?_ | refine n6 ?_ | refine n7 rfl ?_ | refine W_seq ?_ | refine W_block ?_ | refine W_skip ?_ | refine W_exit ?_ | refine W_ret ?_)
  cases h1 : sized s
  · refine W_go (by simp only [ev0, ev1, ev2, ev3, ev4, Nat.reduceLT, Nat.reduceLeDiff, Nat.reduceEqDiff, Nat.reduceAdd, Nat.reduceMul, Nat.reduceBEq, reduceCtorEq, ld24, fa24_2, ld22, len22, ix22, ld29, alc29, sto29, schV] <;> rfl) (Nat.le_of_ble_eq_true rfl) ?_
    refine WL_end ?_
    with_reducible repeat (first | refine n1 ?_ | refine n2 ?_ | refine n3 ?_ | refine n4 ?_ | refine n5 ?_ | refine n6 ?_ | refine n7 rfl ?_ | refine W_seq ?_ | refine W_block ?_ | refine W_skip ?_ | refine W_exit ?_ | refine W_ret ?_)
    refine W_go (by simp only [ev0, ev1, ev2, ev3, ev4, Nat.reduceLT, Nat.reduceLeDiff, Nat.reduceEqDiff, Nat.reduceAdd, Nat.reduceMul, Nat.reduceBEq, reduceCtorEq, ld24, fa24_2, ld22, len22, ix22, ld29, alc29, sto29] <;> rfl) (Nat.le_of_ble_eq_true rfl) ?_
    refine WL_pure (f54_ok s _) rfl (.inl rfl) (by simp only [ev0, ev1, ev2, ev3, ev4, Nat.reduceLT, Nat.reduceLeDiff, Nat.reduceEqDiff, Nat.reduceAdd, Nat.reduceMul, Nat.reduceBEq, reduceCtorEq, ld24, fa24_2, ld22, len22, ix22, ld29, alc29, sto29, schV] <;> rfl) (by simp only [ev0, ev1, ev2, ev3, ev4, Nat.reduceLT, Nat.reduceLeDiff, Nat.reduceEqDiff, Nat.reduceAdd, Nat.reduceMul, Nat.reduceBEq, reduceCtorEq, ld24, fa24_2, ld22, len22, ix22, ld29, alc29, sto29, schV] <;> rfl) rfl (by simp only [ev0, ev1, ev2, ev3, ev4, Nat.reduceLT, Nat.reduceLeDiff, Nat.reduceEqDiff, Nat.reduceAdd, Nat.reduceMul, Nat.reduceBEq, reduceCtorEq, ld24, fa24_2, ld22, len22, ix22, ld29, alc29, sto29, schV] <;> rfl) ?_
    refine WL_go (by simp only [ev0, ev1, ev2, ev3, ev4, Nat.reduceLT, Nat.reduceLeDiff, Nat.reduceEqDiff, Nat.reduceAdd, Nat.reduceMul, Nat.reduceBEq, reduceCtorEq, ld24, fa24_2, ld22, len22, ix22, ld29, alc29, sto29, h1, Bool.not_false] <;> rfl) (Nat.le_of_ble_eq_true rfl) ?_
    refine WL_endk (ks := [13]) (by simp only [ev0, ev4, Nat.reduceEqDiff] <;> rfl) ?_
    with_reducible repeat (first | refine n1 ?_ | refine n2 ?_ | refine n3 ?_ | refine n4 ?_ | refine n5 ?_ | refine n6 ?_ | refine n7 rfl ?_ | refine W_seq ?_ | refine W_block ?_ | refine W_skip ?_ | refine W_exit ?_ | refine W_ret ?_)
    refine W_true rfl ?_
    with_reducible repeat (first | refine n1 ?_ | refine n2 ?_ | refine n3 ?_ | refine n4 ?_ | refine n5 ?_ | refine n6 ?_ | refine n7 rfl ?_ | refine W_seq ?_ | refine W_block ?_ | refine W_skip ?_ | refine W_exit ?_ | refine W_ret ?_)
    refine W_go (by simp only [ev0, ev1, ev2, ev3, ev4, Nat.reduceLT, Nat.reduceLeDiff, Nat.reduceEqDiff, Nat.reduceAdd, Nat.reduceMul, Nat.reduceBEq, reduceCtorEq, ld24, fa24_2, ld22, len22, ix22, ld29, alc29, sto29] <;> rfl) (Nat.le_of_ble_eq_true rfl) ?_
    refine WL_endk (ks := [2]) (by simp only [ev0, ev4, Nat.reduceEqDiff] <;> rfl) ?_
    with_reducible repeat (first | refine n1 ?_ | refine n2 ?_ | refine n3 ?_ | refine n4 ?_ | refine n5 ?_ | refine n6 ?_ | refine n7 rfl ?_ | refine W_seq ?_ | refine W_block ?_ | refine W_skip ?_ | refine W_exit ?_ | refine W_ret ?_)
    refine Fin_pure [.blk (schV s)] _ (by first | exact .inl rfl | exact .inr rfl) rfl (by simp only [Tryd.results48, vres, vresL, vres1, one_, vload_eq, Option.map_some, ev0, ev3, ev4, Nat.reduceEqDiff, Nat.reduceAdd, Nat.reduceLeDiff] <;> rfl) rfl (by simp only [one_, rf_c, rf_any, rf_sl, rf_ptr, rf_fn, rf_agg, rf_tup, rf, List.map_cons, List.map_nil] <;> rfl) hk (by simp) ?_
    exact ⟨by simp [formB, h1], rfl⟩
  by_cases hl : 512 < s.cells.length
  · have hl' : decide ((s.cells.length : Int) > 512) = true := by simp; omega
    refine W_go (by simp only [ev0, ev1, ev2, ev3, ev4, Nat.reduceLT, Nat.reduceLeDiff, Nat.reduceEqDiff, Nat.reduceAdd, Nat.reduceMul, Nat.reduceBEq, reduceCtorEq, ld24, fa24_2, ld22, len22, ix22, ld29, alc29, sto29, schV] <;> rfl) (Nat.le_of_ble_eq_true rfl) ?_
    refine WL_end ?_
    with_reducible repeat (first | refine n1 ?_ | refine n2 ?_ | refine n3 ?_ | refine n4 ?_ | refine n5 ?_ | refine n6 ?_ | refine n7 rfl ?_ | refine W_seq ?_ | refine W_block ?_ | refine W_skip ?_ | refine W_exit ?_ | refine W_ret ?_)
    refine W_go (by simp only [ev0, ev1, ev2, ev3, ev4, Nat.reduceLT, Nat.reduceLeDiff, Nat.reduceEqDiff, Nat.reduceAdd, Nat.reduceMul, Nat.reduceBEq, reduceCtorEq, ld24, fa24_2, ld22, len22, ix22, ld29, alc29, sto29] <;> rfl) (Nat.le_of_ble_eq_true rfl) ?_
    refine WL_pure (f54_ok s _) rfl (.inl rfl) (by simp only [ev0, ev1, ev2, ev3, ev4, Nat.reduceLT, Nat.reduceLeDiff, Nat.reduceEqDiff, Nat.reduceAdd, Nat.reduceMul, Nat.reduceBEq, reduceCtorEq, ld24, fa24_2, ld22, len22, ix22, ld29, alc29, sto29, schV] <;> rfl) (by simp only [ev0, ev1, ev2, ev3, ev4, Nat.reduceLT, Nat.reduceLeDiff, Nat.reduceEqDiff, Nat.reduceAdd, Nat.reduceMul, Nat.reduceBEq, reduceCtorEq, ld24, fa24_2, ld22, len22, ix22, ld29, alc29, sto29, schV] <;> rfl) rfl (by simp only [ev0, ev1, ev2, ev3, ev4, Nat.reduceLT, Nat.reduceLeDiff, Nat.reduceEqDiff, Nat.reduceAdd, Nat.reduceMul, Nat.reduceBEq, reduceCtorEq, ld24, fa24_2, ld22, len22, ix22, ld29, alc29, sto29, schV] <;> rfl) ?_
    refine WL_go (by simp only [ev0, ev1, ev2, ev3, ev4, Nat.reduceLT, Nat.reduceLeDiff, Nat.reduceEqDiff, Nat.reduceAdd, Nat.reduceMul, Nat.reduceBEq, reduceCtorEq, ld24, fa24_2, ld22, len22, ix22, ld29, alc29, sto29, h1, hl', List.length_map, Bool.not_true] <;> rfl) (Nat.le_of_ble_eq_true rfl) ?_
    refine WL_endk (ks := [13]) (by simp only [ev0, ev4, Nat.reduceEqDiff] <;> rfl) ?_
    with_reducible repeat (first | refine n1 ?_ | refine n2 ?_ | refine n3 ?_ | refine n4 ?_ | refine n5 ?_ | refine n6 ?_ | refine n7 rfl ?_ | refine W_seq ?_ | refine W_block ?_ | refine W_skip ?_ | refine W_exit ?_ | refine W_ret ?_)
    refine W_true rfl ?_
    with_reducible repeat (first | refine n1 ?_ | refine n2 ?_ | refine n3 ?_ | refine n4 ?_ | refine n5 ?_ | refine n6 ?_ | refine n7 rfl ?_ | refine W_seq ?_ | refine W_block ?_ | refine W_skip ?_ | refine W_exit ?_ | refine W_ret ?_)
    refine W_go (by simp only [ev0, ev1, ev2, ev3, ev4, Nat.reduceLT, Nat.reduceLeDiff, Nat.reduceEqDiff, Nat.reduceAdd, Nat.reduceMul, Nat.reduceBEq, reduceCtorEq, ld24, fa24_2, ld22, len22, ix22, ld29, alc29, sto29] <;> rfl) (Nat.le_of_ble_eq_true rfl) ?_
    refine WL_endk (ks := [2]) (by simp only [ev0, ev4, Nat.reduceEqDiff] <;> rfl) ?_
    with_reducible repeat (first | refine n1 ?_ | refine n2 ?_ | refine n3 ?_ | refine n4 ?_ | refine n5 ?_ | refine n6 ?_ | refine n7 rfl ?_ | refine W_seq ?_ | refine W_block ?_ | refine W_skip ?_ | refine W_exit ?_ | refine W_ret ?_)
    refine Fin_pure [.blk (schV s)] _ (by first | exact .inl rfl | exact .inr rfl) rfl (by simp only [Tryd.results48, vres, vresL, vres1, one_, vload_eq, Option.map_some, ev0, ev3, ev4, Nat.reduceEqDiff, Nat.reduceAdd, Nat.reduceLeDiff] <;> rfl) rfl (by simp only [one_, rf_c, rf_any, rf_sl, rf_ptr, rf_fn, rf_agg, rf_tup, rf, List.map_cons, List.map_nil] <;> rfl) hk (by simp) ?_
    have hq : decide (s.cells.length ≤ 512) = false := by simp; omega
    exact ⟨by simp [formB, hq], rfl⟩
  have hl' : decide ((s.cells.length : Int) > 512) = false := by simp; omega
  have hl2 : decide (s.cells.length ≤ 512) = true := by simp; omega
  refine W_go (by simp only [ev0, ev1, ev2, ev3, ev4, Nat.reduceLT, Nat.reduceLeDiff, Nat.reduceEqDiff, Nat.reduceAdd, Nat.reduceMul, Nat.reduceBEq, reduceCtorEq, ld24, fa24_2, ld22, len22, ix22, ld29, alc29, sto29, schV] <;> rfl) (Nat.le_of_ble_eq_true rfl) ?_
  refine WL_end ?_
  with_reducible repeat (first | refine n1 ?_ | refine n2 ?_ | refine n3 ?_ | refine n4 ?_ | refine n5 ?_ | refine n6 ?_ | refine n7 rfl ?_ | refine W_seq ?_ | refine W_block ?_ | refine W_skip ?_ | refine W_exit ?_ | refine W_ret ?_)
  refine W_go (by simp only [ev0, ev1, ev2, ev3, ev4, Nat.reduceLT, Nat.reduceLeDiff, Nat.reduceEqDiff, Nat.reduceAdd, Nat.reduceMul, Nat.reduceBEq, reduceCtorEq, ld24, fa24_2, ld22, len22, ix22, ld29, alc29, sto29] <;> rfl) (Nat.le_of_ble_eq_true rfl) ?_
  refine WL_pure (f54_ok s _) rfl (.inl rfl) (by simp only [ev0, ev1, ev2, ev3, ev4, Nat.reduceLT, Nat.reduceLeDiff, Nat.reduceEqDiff, Nat.reduceAdd, Nat.reduceMul, Nat.reduceBEq, reduceCtorEq, ld24, fa24_2, ld22, len22, ix22, ld29, alc29, sto29, schV] <;> rfl) (by simp only [ev0, ev1, ev2, ev3, ev4, Nat.reduceLT, Nat.reduceLeDiff, Nat.reduceEqDiff, Nat.reduceAdd, Nat.reduceMul, Nat.reduceBEq, reduceCtorEq, ld24, fa24_2, ld22, len22, ix22, ld29, alc29, sto29, schV] <;> rfl) rfl (by simp only [ev0, ev1, ev2, ev3, ev4, Nat.reduceLT, Nat.reduceLeDiff, Nat.reduceEqDiff, Nat.reduceAdd, Nat.reduceMul, Nat.reduceBEq, reduceCtorEq, ld24, fa24_2, ld22, len22, ix22, ld29, alc29, sto29, schV] <;> rfl) ?_
  refine WL_go (by simp only [ev0, ev1, ev2, ev3, ev4, Nat.reduceLT, Nat.reduceLeDiff, Nat.reduceEqDiff, Nat.reduceAdd, Nat.reduceMul, Nat.reduceBEq, reduceCtorEq, ld24, fa24_2, ld22, len22, ix22, ld29, alc29, sto29, h1, hl', List.length_map, Bool.not_true] <;> rfl) (Nat.le_of_ble_eq_true rfl) ?_
  refine WL_endk (ks := [1, 13]) (by simp only [ev0, ev4, Nat.reduceEqDiff] <;> rfl) ?_
  with_reducible repeat (first | refine n1 ?_ | refine n2 ?_ | refine n3 ?_ | refine n4 ?_ | refine n5 ?_ | refine n6 ?_ | refine n7 rfl ?_ | refine W_seq ?_ | refine W_block ?_ | refine W_skip ?_ | refine W_exit ?_ | refine W_ret ?_)
  refine W_false rfl ?_
  with_reducible repeat (first | refine n1 ?_ | refine n2 ?_ | refine n3 ?_ | refine n4 ?_ | refine n5 ?_ | refine n6 ?_ | refine n7 rfl ?_ | refine W_seq ?_ | refine W_block ?_ | refine W_skip ?_ | refine W_exit ?_ | refine W_ret ?_)
  refine W_go (by simp only [ev0, ev1, ev2, ev3, ev4, Nat.reduceLT, Nat.reduceLeDiff, Nat.reduceEqDiff, Nat.reduceAdd, Nat.reduceMul, Nat.reduceBEq, reduceCtorEq, ld24, fa24_2, ld22, len22, ix22, ld29, alc29, sto29] <;> rfl) (Nat.le_of_ble_eq_true rfl) ?_
  refine WL_endk (ks := [1, 15, 16, 17]) (by simp only [ev0, ev4, Nat.reduceEqDiff] <;> rfl) ?_
  with_reducible repeat (first | refine n1 ?_ | refine n2 ?_ | refine n3 ?_ | refine n4 ?_ | refine n5 ?_ | refine n6 ?_ | refine n7 rfl ?_ | refine W_seq ?_ | refine W_block ?_ | refine W_skip ?_ | refine W_exit ?_ | refine W_ret ?_)
  obtain ⟨len, offs, xs⟩ := s
  simp only at hl hl2 hl' hlen
  refine W_loopS (fun (p : Nat × Hp) => ⟨42, [(1, .ptr (List.length h) 0), (15, .sl 5 (xs.map cellV)), (16, .c (.int .i64 xs.length)), (17, .c (.int .i64 p.1))], p.2 ++ [], []⟩) (fun p => p.1 ≤ xs.length ∧ okFrom ⟨len, offs, xs⟩ true zeroC xs = okFrom ⟨len, offs, xs⟩ (p.1 == 0) (prevC xs p.1) (xs.drop p.1) ∧ ∃ gs, p.2 = h ++ (.blk (schV ⟨len, offs, xs⟩) :: gs)) (fun p => xs.length - p.1) (0, h ++ [.blk (schV ⟨len, offs, xs⟩)]) ⟨by simp, rfl, [], rfl⟩ (by simp [schV]) (fun p hI => ?_)
  obtain ⟨k, H⟩ := p
  obtain ⟨hI, hI2, gs, hgs⟩ := hI
  simp only at hI hI2 hgs
  have hH : ∀ e, Hp.get (H ++ e) (List.length h) = .blk [.c (.int .i64 len), .c (.int .i64 offs), .sl 5 (xs.map cellV)] := by
    intro e
    rw [hgs, List.append_assoc, get_append_0]; rfl
  with_reducible repeat (first | refine n1 ?_ | refine n2 ?_ | refine n3 ?_ | refine n4 ?_ | refine n5 ?_ | refine n6 ?_ | refine n7 rfl ?_ | refine W_seq ?_ | refine W_block ?_ | refine W_skip ?_ | refine W_exit ?_ | refine W_ret ?_)
  refine W_go (by simp only [ev0, ev1, ev2, ev3, ev4, Nat.reduceLT, Nat.reduceLeDiff, Nat.reduceEqDiff, Nat.reduceAdd, Nat.reduceMul, Nat.reduceBEq, reduceCtorEq, ld24, fa24_2, ld22, len22, ix22, ld29, alc29, sto29] <;> rfl) (Nat.le_of_ble_eq_true rfl) ?_
  refine WL_end ?_
  with_reducible repeat (first | refine n1 ?_ | refine n2 ?_ | refine n3 ?_ | refine n4 ?_ | refine n5 ?_ | refine n6 ?_ | refine n7 rfl ?_ | refine W_seq ?_ | refine W_block ?_ | refine W_skip ?_ | refine W_exit ?_ | refine W_ret ?_)
  refine W_cond rfl (fun hb => ?_) (fun hb => ?_)
  · with_reducible repeat (first | refine n1 ?_ | refine n2 ?_ | refine n3 ?_ | refine n4 ?_ | refine n5 ?_ | refine n6 ?_ | refine n7 rfl ?_ | refine W_seq ?_ | refine W_block ?_ | refine W_skip ?_ | refine W_exit ?_ | refine W_ret ?_)
    have hlt : k < xs.length := by simpa using hb
    have hx := map_get (f := cellV) hlt
    refine W_go (by simp only [ev0, ev1, ev2, ev3, ev4, Nat.reduceLT, Nat.reduceLeDiff, Nat.reduceEqDiff, Nat.reduceAdd, Nat.reduceMul, Nat.reduceBEq, reduceCtorEq, ld24, fa24_2, ld22, len22, ix22, ld29, alc29, sto29, hx, cellV_len, cellV_take] <;> rfl) (Nat.le_of_ble_eq_true rfl) ?_
    refine WL_endk (ks := [1, 3, 4, 15, 16, 17]) (by simp only [ev0, ev4, Nat.reduceEqDiff] <;> rfl) ?_
    with_reducible repeat (first | refine n1 ?_ | refine n2 ?_ | refine n3 ?_ | refine n4 ?_ | refine n5 ?_ | refine n6 ?_ | refine n7 rfl ?_ | refine W_seq ?_ | refine W_block ?_ | refine W_skip ?_ | refine W_exit ?_ | refine W_ret ?_)
    cases h2 : formed ⟨len, offs, xs⟩ xs[k]
    · refine W_draw (by kernel_rfl) (DR_go (by simp only [ev0, ev1, ev2, ev3, ev4, Nat.reduceLT, Nat.reduceLeDiff, Nat.reduceEqDiff, Nat.reduceAdd, Nat.reduceMul, Nat.reduceBEq, reduceCtorEq, ld24, fa24_2, ld22, len22, ix22, ld29, alc29, sto29, hH, cellV_len, cellV_take, List.append_nil, Bool.not_true, Bool.not_false] <;> rfl) (DR_pure (f55_ok ⟨len, offs, xs⟩ xs[k] _) rfl (.inl rfl) (by simp only [ev0, ev1, ev2, ev3, ev4, Nat.reduceLT, Nat.reduceLeDiff, Nat.reduceEqDiff, Nat.reduceAdd, Nat.reduceMul, Nat.reduceBEq, reduceCtorEq, ld24, fa24_2, ld22, len22, ix22, ld29, alc29, sto29, hH, cellV_len, cellV_take, List.append_nil, Bool.not_true, Bool.not_false] <;> rfl) (by simp only [ev0, ev1, ev2, ev3, ev4, Nat.reduceLT, Nat.reduceLeDiff, Nat.reduceEqDiff, Nat.reduceAdd, Nat.reduceMul, Nat.reduceBEq, reduceCtorEq, ld24, fa24_2, ld22, len22, ix22, ld29, alc29, sto29, hH, cellV_len, cellV_take, List.append_nil, Bool.not_true, Bool.not_false] <;> rfl) (by simp only [ev0, ev1, ev2, ev3, ev4, Nat.reduceLT, Nat.reduceLeDiff, Nat.reduceEqDiff, Nat.reduceAdd, Nat.reduceMul, Nat.reduceBEq, reduceCtorEq, ld24, fa24_2, ld22, len22, ix22, ld29, alc29, sto29, hH, cellV_len, cellV_take, List.append_nil, Bool.not_true, Bool.not_false] <;> rfl) (DR_end (by simp only [ev0, ev1, ev2, ev3, ev4, Nat.reduceLT, Nat.reduceLeDiff, Nat.reduceEqDiff, Nat.reduceAdd, Nat.reduceMul, Nat.reduceBEq, reduceCtorEq, ld24, fa24_2, ld22, len22, ix22, ld29, alc29, sto29, h2, hH, cellV_len, cellV_take, List.append_nil, Bool.not_true, Bool.not_false] <;> rfl)))) (by kernel_rfl) (by first | exact trivial | kernel_rfl) ?_
      with_reducible repeat (first | refine n1 ?_ | refine n2 ?_ | refine n3 ?_ | refine n4 ?_ | refine n5 ?_ | refine n6 ?_ | refine n7 rfl ?_ | refine W_seq ?_ | refine W_block ?_ | refine W_skip ?_ | refine W_exit ?_ | refine W_ret ?_)
      refine W_keep' (ks := [40]) (by simp only [ev0, ev4, Nat.reduceEqDiff] <;> rfl) ?_
      refine W_true rfl ?_
      with_reducible repeat (first | refine n1 ?_ | refine n2 ?_ | refine n3 ?_ | refine n4 ?_ | refine n5 ?_ | refine n6 ?_ | refine n7 rfl ?_ | refine W_seq ?_ | refine W_block ?_ | refine W_skip ?_ | refine W_exit ?_ | refine W_ret ?_)
      refine W_go (by simp only [ev0, ev1, ev2, ev3, ev4, Nat.reduceLT, Nat.reduceLeDiff, Nat.reduceEqDiff, Nat.reduceAdd, Nat.reduceMul, Nat.reduceBEq, reduceCtorEq, ld24, fa24_2, ld22, len22, ix22, ld29, alc29, sto29] <;> rfl) (Nat.le_of_ble_eq_true rfl) ?_
      subst hgs
      rw [List.append_assoc]
      refine WL_endk (ks := [2]) (by simp only [ev0, ev4, Nat.reduceEqDiff] <;> rfl) ?_
      with_reducible repeat (first | refine n1 ?_ | refine n2 ?_ | refine n3 ?_ | refine n4 ?_ | refine n5 ?_ | refine n6 ?_ | refine n7 rfl ?_ | refine W_seq ?_ | refine W_block ?_ | refine W_skip ?_ | refine W_exit ?_ | refine W_ret ?_)
      refine Fin_pure (.blk (schV ⟨len, offs, xs⟩) :: (gs ++ [.blk (cellV xs[k])])) _ (by first | exact .inl rfl | exact .inr rfl) rfl (by simp only [Tryd.results48, vres, vresL, vres1, one_, vload_eq, Option.map_some, ev0, ev3, ev4, Nat.reduceEqDiff, Nat.reduceAdd, Nat.reduceLeDiff] <;> rfl) rfl (by simp only [rf_c] <;> rfl) hk (by simp) ?_
      exact ⟨by simp only [formB, h1, hl2]; rw [hI2, okFrom_drop _ hlt]; simp [h2, prevC, h2], rfl⟩
    · cases k with
      | zero =>
        refine W_draw (by kernel_rfl) (DR_go (by simp only [ev0, ev1, ev2, ev3, ev4, Nat.reduceLT, Nat.reduceLeDiff, Nat.reduceEqDiff, Nat.reduceAdd, Nat.reduceMul, Nat.reduceBEq, reduceCtorEq, ld24, fa24_2, ld22, len22, ix22, ld29, alc29, sto29, hH, cellV_len, cellV_take, List.append_nil, Bool.not_true, Bool.not_false] <;> rfl) (DR_pure (f55_ok ⟨len, offs, xs⟩ xs[0] _) rfl (.inl rfl) (by simp only [ev0, ev1, ev2, ev3, ev4, Nat.reduceLT, Nat.reduceLeDiff, Nat.reduceEqDiff, Nat.reduceAdd, Nat.reduceMul, Nat.reduceBEq, reduceCtorEq, ld24, fa24_2, ld22, len22, ix22, ld29, alc29, sto29, hH, cellV_len, cellV_take, List.append_nil, Bool.not_true, Bool.not_false] <;> rfl) (by simp only [ev0, ev1, ev2, ev3, ev4, Nat.reduceLT, Nat.reduceLeDiff, Nat.reduceEqDiff, Nat.reduceAdd, Nat.reduceMul, Nat.reduceBEq, reduceCtorEq, ld24, fa24_2, ld22, len22, ix22, ld29, alc29, sto29, hH, cellV_len, cellV_take, List.append_nil, Bool.not_true, Bool.not_false] <;> rfl) (by simp only [ev0, ev1, ev2, ev3, ev4, Nat.reduceLT, Nat.reduceLeDiff, Nat.reduceEqDiff, Nat.reduceAdd, Nat.reduceMul, Nat.reduceBEq, reduceCtorEq, ld24, fa24_2, ld22, len22, ix22, ld29, alc29, sto29, hH, cellV_len, cellV_take, List.append_nil, Bool.not_true, Bool.not_false] <;> rfl) (DR_end (by simp only [ev0, ev1, ev2, ev3, ev4, Nat.reduceLT, Nat.reduceLeDiff, Nat.reduceEqDiff, Nat.reduceAdd, Nat.reduceMul, Nat.reduceBEq, reduceCtorEq, ld24, fa24_2, ld22, len22, ix22, ld29, alc29, sto29, h2, hH, cellV_len, cellV_take, List.append_nil, Bool.not_true, Bool.not_false, hz0] <;> rfl)))) (by kernel_rfl) (by first | exact trivial | kernel_rfl) ?_
        with_reducible repeat (first | refine n1 ?_ | refine n2 ?_ | refine n3 ?_ | refine n4 ?_ | refine n5 ?_ | refine n6 ?_ | refine n7 rfl ?_ | refine W_seq ?_ | refine W_block ?_ | refine W_skip ?_ | refine W_exit ?_ | refine W_ret ?_)
        refine W_keep' (ks := [1, 15, 16, 17, 40]) (by simp only [ev0, ev4, Nat.reduceEqDiff] <;> rfl) ?_
        refine W_false rfl ?_
        with_reducible repeat (first | refine n1 ?_ | refine n2 ?_ | refine n3 ?_ | refine n4 ?_ | refine n5 ?_ | refine n6 ?_ | refine n7 rfl ?_ | refine W_seq ?_ | refine W_block ?_ | refine W_skip ?_ | refine W_exit ?_ | refine W_ret ?_)
        refine W_go (by simp only [ev0, ev1, ev2, ev3, ev4, Nat.reduceLT, Nat.reduceLeDiff, Nat.reduceEqDiff, Nat.reduceAdd, Nat.reduceMul, Nat.reduceBEq, reduceCtorEq, ld24, fa24_2, ld22, len22, ix22, ld29, alc29, sto29] <;> rfl) (Nat.le_of_ble_eq_true rfl) ?_
        refine WL_endk (ks := [1, 15, 16, 17]) (by simp only [ev0, ev4, Nat.reduceEqDiff] <;> rfl) ?_
        with_reducible repeat (first | refine n1 ?_ | refine n2 ?_ | refine n3 ?_ | refine n4 ?_ | refine n5 ?_ | refine n6 ?_ | refine n7 rfl ?_ | refine W_seq ?_ | refine W_block ?_ | refine W_skip ?_ | refine W_exit ?_ | refine W_ret ?_)
        exact ⟨(1, H ++ [.blk (cellV xs[0])]), by (rw [wrap64 (by omega) (by omega)]; simp) <;> omega, ⟨by simp only; omega, by simp only; rw [hI2, okFrom_drop _ hlt]; simp [h2, prevC, okFrom], gs ++ [.blk (cellV xs[0])], by simp [hgs]⟩, by simp only; omega⟩
      | succ j =>
        have hj : j < xs.length := by omega
        have hy := map_get (f := cellV) hj
        have hw : IntKind.i64.wrap (((j + 1 : Nat) : Int) - 1) = (j : Int) := by (rw [wrap64 (by omega) (by omega)]) <;> omega
        have hz1 : decide (((j + 1 : Nat) : Int) > 0) = true := by simp <;> omega
        have hpv : prevC xs (j + 1) = xs[j] := by simp [prevC, hj]
        cases h3 : decide (cmpC xs[j] xs[j + 1] ≥ 0)
        · refine W_draw (by kernel_rfl) (DR_go (by simp only [ev0, ev1, ev2, ev3, ev4, Nat.reduceLT, Nat.reduceLeDiff, Nat.reduceEqDiff, Nat.reduceAdd, Nat.reduceMul, Nat.reduceBEq, reduceCtorEq, ld24, fa24_2, ld22, len22, ix22, ld29, alc29, sto29, hH, cellV_len, cellV_take, List.append_nil, Bool.not_true, Bool.not_false] <;> rfl) (DR_pure (f55_ok ⟨len, offs, xs⟩ xs[j + 1] _) rfl (.inl rfl) (by simp only [ev0, ev1, ev2, ev3, ev4, Nat.reduceLT, Nat.reduceLeDiff, Nat.reduceEqDiff, Nat.reduceAdd, Nat.reduceMul, Nat.reduceBEq, reduceCtorEq, ld24, fa24_2, ld22, len22, ix22, ld29, alc29, sto29, hH, cellV_len, cellV_take, List.append_nil, Bool.not_true, Bool.not_false] <;> rfl) (by simp only [ev0, ev1, ev2, ev3, ev4, Nat.reduceLT, Nat.reduceLeDiff, Nat.reduceEqDiff, Nat.reduceAdd, Nat.reduceMul, Nat.reduceBEq, reduceCtorEq, ld24, fa24_2, ld22, len22, ix22, ld29, alc29, sto29, hH, cellV_len, cellV_take, List.append_nil, Bool.not_true, Bool.not_false] <;> rfl) (by simp only [ev0, ev1, ev2, ev3, ev4, Nat.reduceLT, Nat.reduceLeDiff, Nat.reduceEqDiff, Nat.reduceAdd, Nat.reduceMul, Nat.reduceBEq, reduceCtorEq, ld24, fa24_2, ld22, len22, ix22, ld29, alc29, sto29, hH, cellV_len, cellV_take, List.append_nil, Bool.not_true, Bool.not_false] <;> rfl) (DR_go (by simp only [ev0, ev1, ev2, ev3, ev4, Nat.reduceLT, Nat.reduceLeDiff, Nat.reduceEqDiff, Nat.reduceAdd, Nat.reduceMul, Nat.reduceBEq, reduceCtorEq, ld24, fa24_2, ld22, len22, ix22, ld29, alc29, sto29, h2, hH, cellV_len, cellV_take, List.append_nil, Bool.not_true, Bool.not_false, hz1, hw, hy] <;> rfl) (DR_pure (f56_ok xs[j] xs[j + 1] _) rfl (Wants_at (j := 7) rfl rfl (by simp only [ev0, ev1, ev2, ev3, ev4, Nat.reduceLT, Nat.reduceLeDiff, Nat.reduceEqDiff, Nat.reduceAdd, Nat.reduceMul, Nat.reduceBEq, reduceCtorEq, ld24, fa24_2, ld22, len22, ix22, ld29, alc29, sto29, h2, hH, cellV_len, cellV_take, List.append_nil, Bool.not_true, Bool.not_false, hz1, hw, hy] <;> rfl)) (by simp only [ev0, ev1, ev2, ev3, ev4, Nat.reduceLT, Nat.reduceLeDiff, Nat.reduceEqDiff, Nat.reduceAdd, Nat.reduceMul, Nat.reduceBEq, reduceCtorEq, ld24, fa24_2, ld22, len22, ix22, ld29, alc29, sto29, h2, hH, cellV_len, cellV_take, List.append_nil, Bool.not_true, Bool.not_false, hz1, hw, hy] <;> rfl) (by simp only [ev0, ev1, ev2, ev3, ev4, Nat.reduceLT, Nat.reduceLeDiff, Nat.reduceEqDiff, Nat.reduceAdd, Nat.reduceMul, Nat.reduceBEq, reduceCtorEq, ld24, fa24_2, ld22, len22, ix22, ld29, alc29, sto29, h2, hH, cellV_len, cellV_take, List.append_nil, Bool.not_true, Bool.not_false, hz1, hw, hy] <;> rfl) (by simp only [ev0, ev1, ev2, ev3, ev4, Nat.reduceLT, Nat.reduceLeDiff, Nat.reduceEqDiff, Nat.reduceAdd, Nat.reduceMul, Nat.reduceBEq, reduceCtorEq, ld24, fa24_2, ld22, len22, ix22, ld29, alc29, sto29, h2, hH, cellV_len, cellV_take, List.append_nil, Bool.not_true, Bool.not_false, hz1, hw, hy] <;> rfl) (DR_end (by simp only [ev0, ev1, ev2, ev3, ev4, Nat.reduceLT, Nat.reduceLeDiff, Nat.reduceEqDiff, Nat.reduceAdd, Nat.reduceMul, Nat.reduceBEq, reduceCtorEq, ld24, fa24_2, ld22, len22, ix22, ld29, alc29, sto29, h2, hH, cellV_len, cellV_take, List.append_nil, Bool.not_true, Bool.not_false, hz1, h3] <;> rfl)))))) (by kernel_rfl) (by first | exact trivial | kernel_rfl) ?_
          have h4 : cmpC xs[j] xs[j + 1] < 0 := by simpa using h3
          with_reducible repeat (first | refine n1 ?_ | refine n2 ?_ | refine n3 ?_ | refine n4 ?_ | refine n5 ?_ | refine n6 ?_ | refine n7 rfl ?_ | refine W_seq ?_ | refine W_block ?_ | refine W_skip ?_ | refine W_exit ?_ | refine W_ret ?_)
          refine W_keep' (ks := [1, 15, 16, 17, 40]) (by simp only [ev0, ev4, Nat.reduceEqDiff] <;> rfl) ?_
          refine W_false rfl ?_
          with_reducible repeat (first | refine n1 ?_ | refine n2 ?_ | refine n3 ?_ | refine n4 ?_ | refine n5 ?_ | refine n6 ?_ | refine n7 rfl ?_ | refine W_seq ?_ | refine W_block ?_ | refine W_skip ?_ | refine W_exit ?_ | refine W_ret ?_)
          refine W_go (by simp only [ev0, ev1, ev2, ev3, ev4, Nat.reduceLT, Nat.reduceLeDiff, Nat.reduceEqDiff, Nat.reduceAdd, Nat.reduceMul, Nat.reduceBEq, reduceCtorEq, ld24, fa24_2, ld22, len22, ix22, ld29, alc29, sto29] <;> rfl) (Nat.le_of_ble_eq_true rfl) ?_
          refine WL_endk (ks := [1, 15, 16, 17]) (by simp only [ev0, ev4, Nat.reduceEqDiff] <;> rfl) ?_
          with_reducible repeat (first | refine n1 ?_ | refine n2 ?_ | refine n3 ?_ | refine n4 ?_ | refine n5 ?_ | refine n6 ?_ | refine n7 rfl ?_ | refine W_seq ?_ | refine W_block ?_ | refine W_skip ?_ | refine W_exit ?_ | refine W_ret ?_)
          exact ⟨(j + 2, H ++ [.blk (cellV xs[j + 1])]), by (rw [wrap64 (by omega) (by omega)]; simp) <;> omega, ⟨by simp only; omega, by simp only; rw [hI2, okFrom_drop _ hlt]; simp [h2, prevC, hj, h4], gs ++ [.blk (cellV xs[j + 1])], by simp [hgs]⟩, by simp only; omega⟩
        · refine W_draw (by kernel_rfl) (DR_go (by simp only [ev0, ev1, ev2, ev3, ev4, Nat.reduceLT, Nat.reduceLeDiff, Nat.reduceEqDiff, Nat.reduceAdd, Nat.reduceMul, Nat.reduceBEq, reduceCtorEq, ld24, fa24_2, ld22, len22, ix22, ld29, alc29, sto29, hH, cellV_len, cellV_take, List.append_nil, Bool.not_true, Bool.not_false] <;> rfl) (DR_pure (f55_ok ⟨len, offs, xs⟩ xs[j + 1] _) rfl (.inl rfl) (by simp only [ev0, ev1, ev2, ev3, ev4, Nat.reduceLT, Nat.reduceLeDiff, Nat.reduceEqDiff, Nat.reduceAdd, Nat.reduceMul, Nat.reduceBEq, reduceCtorEq, ld24, fa24_2, ld22, len22, ix22, ld29, alc29, sto29, hH, cellV_len, cellV_take, List.append_nil, Bool.not_true, Bool.not_false] <;> rfl) (by simp only [ev0, ev1, ev2, ev3, ev4, Nat.reduceLT, Nat.reduceLeDiff, Nat.reduceEqDiff, Nat.reduceAdd, Nat.reduceMul, Nat.reduceBEq, reduceCtorEq, ld24, fa24_2, ld22, len22, ix22, ld29, alc29, sto29, hH, cellV_len, cellV_take, List.append_nil, Bool.not_true, Bool.not_false] <;> rfl) (by simp only [ev0, ev1, ev2, ev3, ev4, Nat.reduceLT, Nat.reduceLeDiff, Nat.reduceEqDiff, Nat.reduceAdd, Nat.reduceMul, Nat.reduceBEq, reduceCtorEq, ld24, fa24_2, ld22, len22, ix22, ld29, alc29, sto29, hH, cellV_len, cellV_take, List.append_nil, Bool.not_true, Bool.not_false] <;> rfl) (DR_go (by simp only [ev0, ev1, ev2, ev3, ev4, Nat.reduceLT, Nat.reduceLeDiff, Nat.reduceEqDiff, Nat.reduceAdd, Nat.reduceMul, Nat.reduceBEq, reduceCtorEq, ld24, fa24_2, ld22, len22, ix22, ld29, alc29, sto29, h2, hH, cellV_len, cellV_take, List.append_nil, Bool.not_true, Bool.not_false, hz1, hw, hy] <;> rfl) (DR_pure (f56_ok xs[j] xs[j + 1] _) rfl (Wants_at (j := 7) rfl rfl (by simp only [ev0, ev1, ev2, ev3, ev4, Nat.reduceLT, Nat.reduceLeDiff, Nat.reduceEqDiff, Nat.reduceAdd, Nat.reduceMul, Nat.reduceBEq, reduceCtorEq, ld24, fa24_2, ld22, len22, ix22, ld29, alc29, sto29, h2, hH, cellV_len, cellV_take, List.append_nil, Bool.not_true, Bool.not_false, hz1, hw, hy] <;> rfl)) (by simp only [ev0, ev1, ev2, ev3, ev4, Nat.reduceLT, Nat.reduceLeDiff, Nat.reduceEqDiff, Nat.reduceAdd, Nat.reduceMul, Nat.reduceBEq, reduceCtorEq, ld24, fa24_2, ld22, len22, ix22, ld29, alc29, sto29, h2, hH, cellV_len, cellV_take, List.append_nil, Bool.not_true, Bool.not_false, hz1, hw, hy] <;> rfl) (by simp only [ev0, ev1, ev2, ev3, ev4, Nat.reduceLT, Nat.reduceLeDiff, Nat.reduceEqDiff, Nat.reduceAdd, Nat.reduceMul, Nat.reduceBEq, reduceCtorEq, ld24, fa24_2, ld22, len22, ix22, ld29, alc29, sto29, h2, hH, cellV_len, cellV_take, List.append_nil, Bool.not_true, Bool.not_false, hz1, hw, hy] <;> rfl) (by simp only [ev0, ev1, ev2, ev3, ev4, Nat.reduceLT, Nat.reduceLeDiff, Nat.reduceEqDiff, Nat.reduceAdd, Nat.reduceMul, Nat.reduceBEq, reduceCtorEq, ld24, fa24_2, ld22, len22, ix22, ld29, alc29, sto29, h2, hH, cellV_len, cellV_take, List.append_nil, Bool.not_true, Bool.not_false, hz1, hw, hy] <;> rfl) (DR_end (by simp only [ev0, ev1, ev2, ev3, ev4, Nat.reduceLT, Nat.reduceLeDiff, Nat.reduceEqDiff, Nat.reduceAdd, Nat.reduceMul, Nat.reduceBEq, reduceCtorEq, ld24, fa24_2, ld22, len22, ix22, ld29, alc29, sto29, h2, hH, cellV_len, cellV_take, List.append_nil, Bool.not_true, Bool.not_false, hz1, h3] <;> rfl)))))) (by kernel_rfl) (by first | exact trivial | kernel_rfl) ?_
          have h4 : 0 ≤ cmpC xs[j] xs[j + 1] := by simpa using h3
          with_reducible repeat (first | refine n1 ?_ | refine n2 ?_ | refine n3 ?_ | refine n4 ?_ | refine n5 ?_ | refine n6 ?_ | refine n7 rfl ?_ | refine W_seq ?_ | refine W_block ?_ | refine W_skip ?_ | refine W_exit ?_ | refine W_ret ?_)
          refine W_keep' (ks := [40]) (by simp only [ev0, ev4, Nat.reduceEqDiff] <;> rfl) ?_
          refine W_true rfl ?_
          with_reducible repeat (first | refine n1 ?_ | refine n2 ?_ | refine n3 ?_ | refine n4 ?_ | refine n5 ?_ | refine n6 ?_ | refine n7 rfl ?_ | refine W_seq ?_ | refine W_block ?_ | refine W_skip ?_ | refine W_exit ?_ | refine W_ret ?_)
          refine W_go (by simp only [ev0, ev1, ev2, ev3, ev4, Nat.reduceLT, Nat.reduceLeDiff, Nat.reduceEqDiff, Nat.reduceAdd, Nat.reduceMul, Nat.reduceBEq, reduceCtorEq, ld24, fa24_2, ld22, len22, ix22, ld29, alc29, sto29] <;> rfl) (Nat.le_of_ble_eq_true rfl) ?_
          subst hgs
          rw [List.append_assoc]
          refine WL_endk (ks := [2]) (by simp only [ev0, ev4, Nat.reduceEqDiff] <;> rfl) ?_
          with_reducible repeat (first | refine n1 ?_ | refine n2 ?_ | refine n3 ?_ | refine n4 ?_ | refine n5 ?_ | refine n6 ?_ | refine n7 rfl ?_ | refine W_seq ?_ | refine W_block ?_ | refine W_skip ?_ | refine W_exit ?_ | refine W_ret ?_)
          refine Fin_pure (.blk (schV ⟨len, offs, xs⟩) :: (gs ++ [.blk (cellV xs[j + 1])])) _ (by first | exact .inl rfl | exact .inr rfl) rfl (by simp only [Tryd.results48, vres, vresL, vres1, one_, vload_eq, Option.map_some, ev0, ev3, ev4, Nat.reduceEqDiff, Nat.reduceAdd, Nat.reduceLeDiff] <;> rfl) rfl (by simp only [rf_c] <;> rfl) hk (by simp) ?_
          exact ⟨by simp only [formB, h1, hl2]; rw [hI2, okFrom_drop _ hlt]; simp [h2, prevC, hj, Int.not_lt.2 h4], rfl⟩
  · with_reducible repeat (first | refine n1 ?_ | refine n2 ?_ | refine n3 ?_ | refine n4 ?_ | refine n5 ?_ | refine n6 ?_ | refine n7 rfl ?_ | refine W_seq ?_ | refine W_block ?_ | refine W_skip ?_ | refine W_exit ?_ | refine W_ret ?_)
    have hge : xs.length ≤ k := by simpa using hb
    refine W_go (by simp only [ev0, ev1, ev2, ev3, ev4, Nat.reduceLT, Nat.reduceLeDiff, Nat.reduceEqDiff, Nat.reduceAdd, Nat.reduceMul, Nat.reduceBEq, reduceCtorEq, ld24, fa24_2, ld22, len22, ix22, ld29, alc29, sto29] <;> rfl) (Nat.le_of_ble_eq_true rfl) ?_
    subst hgs
    rw [List.append_nil]
    refine WL_endk (ks := [2]) (by simp only [ev0, ev4, Nat.reduceEqDiff] <;> rfl) ?_
    with_reducible repeat (first | refine n1 ?_ | refine n2 ?_ | refine n3 ?_ | refine n4 ?_ | refine n5 ?_ | refine n6 ?_ | refine n7 rfl ?_ | refine W_seq ?_ | refine W_block ?_ | refine W_skip ?_ | refine W_exit ?_ | refine W_ret ?_)
    refine Fin_pure (.blk (schV ⟨len, offs, xs⟩) :: gs) _ (by first | exact .inl rfl | exact .inr rfl) rfl (by simp only [Tryd.results48, vres, vresL, vres1, one_, vload_eq, Option.map_some, ev0, ev3, ev4, Nat.reduceEqDiff, Nat.reduceAdd, Nat.reduceLeDiff] <;> rfl) rfl (by simp only [rf_c] <;> rfl) hk (by simp) ?_
    exact ⟨by simp only [formB, h1, hl2]; rw [hI2, List.drop_of_length_le hge]; rfl, rfl⟩
end Go.Vm
/- Contracts: the masks of a schedule. -/
namespace Go.Vm
open Go Go.RowKit Go.Proofs
set_option linter.unusedSimpArgs false
set_option linter.unusedVariables false

def fullM (offs : Int) : Int := IntKind.i64.wrap (ishl .i64 1 offs - 1)
def clrM (f : List Int) (c : Cell) : List Int := f.set c.slot.toNat (iandNot .i64 (f.getD c.slot.toNat 0) (ishl .i64 1 c.offset))
def masksS (s : Sch) : List Int := s.cells.foldl clrM (List.replicate s.len.toNat (fullM s.offs))
theorem clrM_len (f : List Int) (c : Cell) : (clrM f c).length = f.length := by simp [clrM]
theorem foldl_clr_len : ∀ (cs : List Cell) (f : List Int), (cs.foldl clrM f).length = f.length
  | [], f => rfl
  | c :: cs, f => by rw [List.foldl_cons, foldl_clr_len cs, clrM_len]
def rowK (n k : Nat) (x : Int) : List Int := List.replicate k x ++ List.replicate (n - k) 0
theorem rowK_len {n k : Nat} {x : Int} (h : k ≤ n) : (rowK n k x).length = n := by simp [rowK]; omega
theorem rowK_set {n k : Nat} {x : Int} (h : k < n) : (rowK n k x).set k x = rowK n (k + 1) x := by
  unfold rowK
  rw [List.set_append_right _ _ (by simp), List.length_replicate, Nat.sub_self, show n - k = (n - (k + 1)) + 1 by omega, List.replicate_succ, List.set_cons_zero, List.replicate_succ', List.append_assoc]
  rfl
theorem rowK_get {n k : Nat} {x : Int} (h : k < n) : (rowK n k x)[k]? = some 0 := by
  unfold rowK
  rw [List.getElem?_append_right (by simp), List.length_replicate, Nat.sub_self, List.getElem?_replicate, if_pos (by omega)]

set_option maxRecDepth 8000 in
theorem f33_ok {G} (s : Sch) (h : Hp) (hlen : s.cells.length < 4611686018427387904) (h1 : 1 ≤ s.len) (h2 : s.len ≤ 512) (h3 : 1 ≤ s.offs) (h4 : s.offs ≤ 16) (hc : ∀ c, c ∈ s.cells → 0 ≤ c.slot ∧ c.slot < s.len ∧ 0 ≤ c.offset ∧ c.offset < s.offs) :
    VPure Tryd.prog G (.fn 33 []) [.agg (schV s)] h (.sl 1 ((masksS s).map iv)) := by
  obtain ⟨len, offs, xs⟩ := s
  simp only at hlen h1 h2 h3 h4 hc
  obtain ⟨n, rfl⟩ : ∃ n : Nat, len = n := ⟨len.toNat, by omega⟩
  refine VCall_fn' (tdOf_ok _) Tryd.func33 rfl (by rfl) 42 rfl (by simp) (by simp only [ents, List.cons_append, List.nil_append, List.append_nil] <;> rfl) (fun hk ha hc => ?_)
  with_reducible repeat (first | refine n1 ?_ | refine n2 ?_ | refine n3 ?_ | refine n4 ?_ | refine n5 ?_ | refine n6 ?_ | refine n7 rfl ?_ | refine W_seq ?_ | refine W_block ?_ | refine W_skip ?_ | refine W_exit ?_ | refine W_ret ?_)
  have q0 : (0 : Int) ≤ (n : Int) := by omega
  have q1 : n * 8 ≤ 140737488355328 := by omega
  have q2 : n ≤ 140737488355328 := by omega
  have o0 : (0 : Int) ≤ offs := by omega
  refine W_go (by simp only [ev0, ev1, ev2, ev3, ev4, Nat.reduceLT, Nat.reduceLeDiff, Nat.reduceEqDiff, Nat.reduceAdd, Nat.reduceMul, Nat.reduceBEq, reduceCtorEq, fa24_0, ld3, mks26, len26, fa24_1, ix26, sto3, fa24_2, ld22, len22, ix22, ld29, alc29, sto29, fa29_0, fa29_1, schV] <;> rfl) (Nat.le_of_ble_eq_true rfl) ?_
  refine WL_end ?_
  with_reducible repeat (first | refine n1 ?_ | refine n2 ?_ | refine n3 ?_ | refine n4 ?_ | refine n5 ?_ | refine n6 ?_ | refine n7 rfl ?_ | refine W_seq ?_ | refine W_block ?_ | refine W_skip ?_ | refine W_exit ?_ | refine W_ret ?_)
  refine W_go (by simp only [ev0, ev1, ev2, ev3, ev4, Nat.reduceLT, Nat.reduceLeDiff, Nat.reduceEqDiff, Nat.reduceAdd, Nat.reduceMul, Nat.reduceBEq, reduceCtorEq, fa24_0, ld3, mks26, len26, fa24_1, ix26, sto3, fa24_2, ld22, len22, ix22, ld29, alc29, sto29, fa29_0, fa29_1, q0, q1, q2, Int.toNat_natCast] <;> rfl) (Nat.le_of_ble_eq_true rfl) ?_
  refine WL_endk (ks := [1, 3]) (by simp only [ev0, ev4, Nat.reduceEqDiff] <;> rfl) ?_
  with_reducible repeat (first | refine n1 ?_ | refine n2 ?_ | refine n3 ?_ | refine n4 ?_ | refine n5 ?_ | refine n6 ?_ | refine n7 rfl ?_ | refine W_seq ?_ | refine W_block ?_ | refine W_skip ?_ | refine W_exit ?_ | refine W_ret ?_)
  refine W_go (by simp only [ev0, ev1, ev2, ev3, ev4, Nat.reduceLT, Nat.reduceLeDiff, Nat.reduceEqDiff, Nat.reduceAdd, Nat.reduceMul, Nat.reduceBEq, reduceCtorEq, fa24_0, ld3, mks26, len26, fa24_1, ix26, sto3, fa24_2, ld22, len22, ix22, ld29, alc29, sto29, fa29_0, fa29_1] <;> rfl) (Nat.le_of_ble_eq_true rfl) ?_
  refine WL_endk (ks := [1, 3, 11, 12]) (by simp only [ev0, ev4, Nat.reduceEqDiff] <;> rfl) ?_
  with_reducible repeat (first | refine n1 ?_ | refine n2 ?_ | refine n3 ?_ | refine n4 ?_ | refine n5 ?_ | refine n6 ?_ | refine n7 rfl ?_ | refine W_seq ?_ | refine W_block ?_ | refine W_skip ?_ | refine W_exit ?_ | refine W_ret ?_)
  refine W_loopS (fun k : Nat => ⟨42, [(1, .ptr (List.length h) 0), (3, .os (List.length h + 1) n), (11, .c (.int .i64 n)), (12, .c (.int .i64 k))], h ++ [.blk [.c (.int .i64 n), .c (.int .i64 offs), .sl 5 (xs.map cellV)], .arr 3 1 ((rowK n k (fullM offs)).map iv)], []⟩) (fun k => k ≤ n) (fun k => n - k) 0 (by simp) (by simp [rowK, iv]) (fun k hK => ?_)
  with_reducible repeat (first | refine n1 ?_ | refine n2 ?_ | refine n3 ?_ | refine n4 ?_ | refine n5 ?_ | refine n6 ?_ | refine n7 rfl ?_ | refine W_seq ?_ | refine W_block ?_ | refine W_skip ?_ | refine W_exit ?_ | refine W_ret ?_)
  refine W_go (by simp only [ev0, ev1, ev2, ev3, ev4, Nat.reduceLT, Nat.reduceLeDiff, Nat.reduceEqDiff, Nat.reduceAdd, Nat.reduceMul, Nat.reduceBEq, reduceCtorEq, fa24_0, ld3, mks26, len26, fa24_1, ix26, sto3, fa24_2, ld22, len22, ix22, ld29, alc29, sto29, fa29_0, fa29_1] <;> rfl) (Nat.le_of_ble_eq_true rfl) ?_
  refine WL_end ?_
  with_reducible repeat (first | refine n1 ?_ | refine n2 ?_ | refine n3 ?_ | refine n4 ?_ | refine n5 ?_ | refine n6 ?_ | refine n7 rfl ?_ | refine W_seq ?_ | refine W_block ?_ | refine W_skip ?_ | refine W_exit ?_ | refine W_ret ?_)
  refine W_cond rfl (fun hb => ?_) (fun hb => ?_)
  · have hlt : k < n := by simpa using hb
    have k0 : (0 : Int) ≤ (k : Int) := by omega
    have k1 : (k : Int) < (n : Int) := by omega
    have hg : ((rowK n k (fullM offs)).map iv)[k]? = some [.c (.int .i64 0)] := by rw [List.getElem?_map, rowK_get hlt]; rfl
    with_reducible repeat (first | refine n1 ?_ | refine n2 ?_ | refine n3 ?_ | refine n4 ?_ | refine n5 ?_ | refine n6 ?_ | refine n7 rfl ?_ | refine W_seq ?_ | refine W_block ?_ | refine W_skip ?_ | refine W_exit ?_ | refine W_ret ?_)
    refine W_go (by simp only [ev0, ev1, ev2, ev3, ev4, Nat.reduceLT, Nat.reduceLeDiff, Nat.reduceEqDiff, Nat.reduceAdd, Nat.reduceMul, Nat.reduceBEq, reduceCtorEq, fa24_0, ld3, mks26, len26, fa24_1, ix26, sto3, fa24_2, ld22, len22, ix22, ld29, alc29, sto29, fa29_0, fa29_1] <;> rfl) (Nat.le_of_ble_eq_true rfl) ?_
    refine WL_endk (ks := [1, 3, 4, 11, 12]) (by simp only [ev0, ev4, Nat.reduceEqDiff] <;> rfl) ?_
    with_reducible repeat (first | refine n1 ?_ | refine n2 ?_ | refine n3 ?_ | refine n4 ?_ | refine n5 ?_ | refine n6 ?_ | refine n7 rfl ?_ | refine W_seq ?_ | refine W_block ?_ | refine W_skip ?_ | refine W_exit ?_ | refine W_ret ?_)
    refine W_go (by simp only [ev0, ev1, ev2, ev3, ev4, Nat.reduceLT, Nat.reduceLeDiff, Nat.reduceEqDiff, Nat.reduceAdd, Nat.reduceMul, Nat.reduceBEq, reduceCtorEq, fa24_0, ld3, mks26, len26, fa24_1, ix26, sto3, fa24_2, ld22, len22, ix22, ld29, alc29, sto29, fa29_0, fa29_1, o0, k0, k1, hg, Int.toNat_natCast] <;> rfl) (Nat.le_of_ble_eq_true rfl) ?_
    refine WL_endk (ks := [1, 3, 11, 12]) (by simp only [ev0, ev4, Nat.reduceEqDiff] <;> rfl) ?_
    with_reducible repeat (first | refine n1 ?_ | refine n2 ?_ | refine n3 ?_ | refine n4 ?_ | refine n5 ?_ | refine n6 ?_ | refine n7 rfl ?_ | refine W_seq ?_ | refine W_block ?_ | refine W_skip ?_ | refine W_exit ?_ | refine W_ret ?_)
    refine W_go (by simp only [ev0, ev1, ev2, ev3, ev4, Nat.reduceLT, Nat.reduceLeDiff, Nat.reduceEqDiff, Nat.reduceAdd, Nat.reduceMul, Nat.reduceBEq, reduceCtorEq, fa24_0, ld3, mks26, len26, fa24_1, ix26, sto3, fa24_2, ld22, len22, ix22, ld29, alc29, sto29, fa29_0, fa29_1] <;> rfl) (Nat.le_of_ble_eq_true rfl) ?_
    refine WL_endk (ks := [1, 3, 11, 12]) (by simp only [ev0, ev4, Nat.reduceEqDiff] <;> rfl) ?_
    with_reducible repeat (first | refine n1 ?_ | refine n2 ?_ | refine n3 ?_ | refine n4 ?_ | refine n5 ?_ | refine n6 ?_ | refine n7 rfl ?_ | refine W_seq ?_ | refine W_block ?_ | refine W_skip ?_ | refine W_exit ?_ | refine W_ret ?_)
    have e : ((rowK n k (fullM offs)).map iv).set k [.c (.int .i64 (IntKind.i64.wrap (ishl .i64 1 offs - 1)))] = (rowK n (k + 1) (fullM offs)).map iv := by
      rw [← rowK_set hlt, List.map_set]; rfl
    exact ⟨k + 1, by rw [wrap64 (n := (k : Int) + 1) (by omega) (by omega), e]; rfl, by omega, by omega⟩
  have hk : k = n := by have : n ≤ k := by simpa using hb
                        omega
  subst hk
  with_reducible repeat (first | refine n1 ?_ | refine n2 ?_ | refine n3 ?_ | refine n4 ?_ | refine n5 ?_ | refine n6 ?_ | refine n7 rfl ?_ | refine W_seq ?_ | refine W_block ?_ | refine W_skip ?_ | refine W_exit ?_ | refine W_ret ?_)
  refine W_go (by simp only [ev0, ev1, ev2, ev3, ev4, Nat.reduceLT, Nat.reduceLeDiff, Nat.reduceEqDiff, Nat.reduceAdd, Nat.reduceMul, Nat.reduceBEq, reduceCtorEq, fa24_0, ld3, mks26, len26, fa24_1, ix26, sto3, fa24_2, ld22, len22, ix22, ld29, alc29, sto29, fa29_0, fa29_1] <;> rfl) (Nat.le_of_ble_eq_true rfl) ?_
  refine WL_endk (ks := [1, 3, 24, 25, 26]) (by simp only [ev0, ev4, Nat.reduceEqDiff] <;> rfl) ?_
  with_reducible repeat (first | refine n1 ?_ | refine n2 ?_ | refine n3 ?_ | refine n4 ?_ | refine n5 ?_ | refine n6 ?_ | refine n7 rfl ?_ | refine W_seq ?_ | refine W_block ?_ | refine W_skip ?_ | refine W_exit ?_ | refine W_ret ?_)
  refine W_loopS (fun (p : Nat × List Ob) => ⟨42, [(1, .ptr (List.length h) 0), (3, .os (List.length h + 1) k), (24, .sl 5 (xs.map cellV)), (25, .c (.int .i64 xs.length)), (26, .c (.int .i64 p.1))], h ++ (.blk [.c (.int .i64 k), .c (.int .i64 offs), .sl 5 (xs.map cellV)] :: .arr 3 1 (((xs.take p.1).foldl clrM (List.replicate k (fullM offs))).map iv) :: p.2), []⟩) (fun p => p.1 ≤ xs.length) (fun p => xs.length - p.1) (0, []) (by simp) (by simp [rowK]) (fun p hI => ?_)
  obtain ⟨j, gs⟩ := p
  simp only at hI
  with_reducible repeat (first | refine n1 ?_ | refine n2 ?_ | refine n3 ?_ | refine n4 ?_ | refine n5 ?_ | refine n6 ?_ | refine n7 rfl ?_ | refine W_seq ?_ | refine W_block ?_ | refine W_skip ?_ | refine W_exit ?_ | refine W_ret ?_)
  refine W_go (by simp only [ev0, ev1, ev2, ev3, ev4, Nat.reduceLT, Nat.reduceLeDiff, Nat.reduceEqDiff, Nat.reduceAdd, Nat.reduceMul, Nat.reduceBEq, reduceCtorEq, fa24_0, ld3, mks26, len26, fa24_1, ix26, sto3, fa24_2, ld22, len22, ix22, ld29, alc29, sto29, fa29_0, fa29_1] <;> rfl) (Nat.le_of_ble_eq_true rfl) ?_
  refine WL_end ?_
  with_reducible repeat (first | refine n1 ?_ | refine n2 ?_ | refine n3 ?_ | refine n4 ?_ | refine n5 ?_ | refine n6 ?_ | refine n7 rfl ?_ | refine W_seq ?_ | refine W_block ?_ | refine W_skip ?_ | refine W_exit ?_ | refine W_ret ?_)
  refine W_cond rfl (fun hb => ?_) (fun hb => ?_)
  · with_reducible repeat (first | refine n1 ?_ | refine n2 ?_ | refine n3 ?_ | refine n4 ?_ | refine n5 ?_ | refine n6 ?_ | refine n7 rfl ?_ | refine W_seq ?_ | refine W_block ?_ | refine W_skip ?_ | refine W_exit ?_ | refine W_ret ?_)
    have hlt : j < xs.length := by simpa using hb
    have hx := map_get (f := cellV) hlt
    refine W_go (by simp only [ev0, ev1, ev2, ev3, ev4, Nat.reduceLT, Nat.reduceLeDiff, Nat.reduceEqDiff, Nat.reduceAdd, Nat.reduceMul, Nat.reduceBEq, reduceCtorEq, fa24_0, ld3, mks26, len26, fa24_1, ix26, sto3, fa24_2, ld22, len22, ix22, ld29, alc29, sto29, fa29_0, fa29_1, hx, cellV_len, cellV_take] <;> rfl) (Nat.le_of_ble_eq_true rfl) ?_
    refine WL_endk (ks := [1, 3, 6, 24, 25, 26]) (by simp only [ev0, ev4, Nat.reduceEqDiff] <;> rfl) ?_
    with_reducible repeat (first | refine n1 ?_ | refine n2 ?_ | refine n3 ?_ | refine n4 ?_ | refine n5 ?_ | refine n6 ?_ | refine n7 rfl ?_ | refine W_seq ?_ | refine W_block ?_ | refine W_skip ?_ | refine W_exit ?_ | refine W_ret ?_)
    have hcj := hc xs[j] (List.getElem_mem hlt)
    obtain ⟨s0, s1, s2, s3⟩ := hcj
    obtain ⟨row, hrow⟩ : ∃ row, (xs.take j).foldl clrM (List.replicate k (fullM offs)) = row := ⟨_, rfl⟩
    have hrl : row.length = k := by rw [← hrow, foldl_clr_len]; simp
    rw [hrow]
    have hsl : xs[j].slot.toNat < row.length := by omega
    have hg : (row.map iv)[xs[j].slot.toNat]? = some [.c (.int .i64 (row.getD xs[j].slot.toNat 0))] := by rw [List.getElem?_map, List.getElem?_eq_getElem hsl]; simp [iv, hsl]
    have hgt : ∀ a b x, Hp.get (h ++ a :: b :: (gs ++ [x])) (List.length h + (gs.length + 1 + 1)) = x := by
      intro a b x; rw [get_append_r, get_cons_s, get_cons_s, get_append_0]; rfl
    refine W_draw (by kernel_rfl) (DR_end (by simp only [ev0, ev1, ev2, ev3, ev4, Nat.reduceLT, Nat.reduceLeDiff, Nat.reduceEqDiff, Nat.reduceAdd, Nat.reduceMul, Nat.reduceBEq, reduceCtorEq, fa24_0, ld3, mks26, len26, fa24_1, ix26, sto3, fa24_2, ld22, len22, ix22, ld29, alc29, sto29, fa29_0, fa29_1, hgt, cellV, List.append_nil, hg, s0, s1, s2, Int.toNat_natCast] <;> rfl)) (by kernel_rfl) (by first | exact trivial | kernel_rfl) ?_
    with_reducible repeat (first | refine n1 ?_ | refine n2 ?_ | refine n3 ?_ | refine n4 ?_ | refine n5 ?_ | refine n6 ?_ | refine n7 rfl ?_ | refine W_seq ?_ | refine W_block ?_ | refine W_skip ?_ | refine W_exit ?_ | refine W_ret ?_)
    refine W_keep' (ks := [1, 3, 24, 25, 26]) (by simp only [ev0, ev4, Nat.reduceEqDiff] <;> rfl) ?_
    refine W_go (by simp only [ev0, ev1, ev2, ev3, ev4, Nat.reduceLT, Nat.reduceLeDiff, Nat.reduceEqDiff, Nat.reduceAdd, Nat.reduceMul, Nat.reduceBEq, reduceCtorEq, fa24_0, ld3, mks26, len26, fa24_1, ix26, sto3, fa24_2, ld22, len22, ix22, ld29, alc29, sto29, fa29_0, fa29_1] <;> rfl) (Nat.le_of_ble_eq_true rfl) ?_
    refine WL_endk (ks := [1, 3, 24, 25, 26]) (by simp only [ev0, ev4, Nat.reduceEqDiff] <;> rfl) ?_
    with_reducible repeat (first | refine n1 ?_ | refine n2 ?_ | refine n3 ?_ | refine n4 ?_ | refine n5 ?_ | refine n6 ?_ | refine n7 rfl ?_ | refine W_seq ?_ | refine W_block ?_ | refine W_skip ?_ | refine W_exit ?_ | refine W_ret ?_)
    have e : (xs.take (j + 1)).foldl clrM (List.replicate k (fullM offs)) = clrM row xs[j] := by rw [take_get hlt, List.foldl_append, hrow]; rfl
    have e2 : (row.map iv).set xs[j].slot.toNat [.c (.int .i64 (iandNot .i64 (row.getD xs[j].slot.toNat 0) (ishl .i64 1 xs[j].offset)))] = (clrM row xs[j]).map iv := by
      rw [clrM, List.map_set]; rfl
    exact ⟨(j + 1, gs ++ [.blk (cellV xs[j])]), by rw [wrap64 (by omega) (by omega), e, e2]; rfl, by simp only; omega, by simp only; omega⟩
  · with_reducible repeat (first | refine n1 ?_ | refine n2 ?_ | refine n3 ?_ | refine n4 ?_ | refine n5 ?_ | refine n6 ?_ | refine n7 rfl ?_ | refine W_seq ?_ | refine W_block ?_ | refine W_skip ?_ | refine W_exit ?_ | refine W_ret ?_)
    have hge : xs.length ≤ j := by simpa using hb
    rw [List.take_of_length_le hge]
    refine W_go (by simp only [ev0, ev1, ev2, ev3, ev4, Nat.reduceLT, Nat.reduceLeDiff, Nat.reduceEqDiff, Nat.reduceAdd, Nat.reduceMul, Nat.reduceBEq, reduceCtorEq, fa24_0, ld3, mks26, len26, fa24_1, ix26, sto3, fa24_2, ld22, len22, ix22, ld29, alc29, sto29, fa29_0, fa29_1] <;> rfl) (Nat.le_of_ble_eq_true rfl) ?_
    refine WL_endk (ks := [2]) (by simp only [ev0, ev4, Nat.reduceEqDiff] <;> rfl) ?_
    with_reducible repeat (first | refine n1 ?_ | refine n2 ?_ | refine n3 ?_ | refine n4 ?_ | refine n5 ?_ | refine n6 ?_ | refine n7 rfl ?_ | refine W_seq ?_ | refine W_block ?_ | refine W_skip ?_ | refine W_exit ?_ | refine W_ret ?_)
    have hml : (masksS ⟨(k : Int), offs, xs⟩).length = k := by simp [masksS, foldl_clr_len]
    refine Fin_pure (.blk [.c (.int .i64 k), .c (.int .i64 offs), .sl 5 (xs.map cellV)] :: .arr 3 1 ((masksS ⟨(k : Int), offs, xs⟩).map iv) :: gs) (.sl 1 ((masksS ⟨(k : Int), offs, xs⟩).map iv)) (by first | exact .inl rfl | exact .inr rfl) rfl (by simp only [Tryd.results33, vres, vresL, vres1, one_, vload_eq, Option.map_some, ev0, ev3, ev4, Nat.reduceEqDiff, Nat.reduceAdd, Nat.reduceLeDiff] <;> rfl) rfl ?_ hk ?_ ⟨rfl, rfl⟩
    · rw [rf_os_ext (j := 1) rfl (by simp [hml]), List.take_of_length_le (by simp [hml])]
    · exact ok_iv _
end Go.Vm
/- Contracts: Free, and the places of a schedule. -/
namespace Go.Vm
open Go Go.RowKit Go.Proofs
set_option linter.unusedSimpArgs false
set_option linter.unusedVariables false

def PrintOK (G : List (Nat × Obj)) : Prop := ∀ (s : Sch) (h : Hp), s.cells.length ≤ 100000 →
  VCall Tryd.prog G (.fn 39 []) [.agg (schV s)] h (fun r h' => h' = h ∧ ∃ b, r = .tup [.c (.string b), .c (.int .i64 (if formB s then 0 else 1))])

theorem okFrom_all {s : Sch} : ∀ {b : Bool} {p : Cell} {cs : List Cell}, okFrom s b p cs = true → ∀ c, c ∈ cs → formed s c = true
  | _, _, [], _, c, h => by cases h
  | b, p, x :: cs, ho, c, h => by
    simp only [okFrom, Bool.and_eq_true] at ho
    rcases List.mem_cons.1 h with rfl | h
    · exact ho.1.1
    · exact okFrom_all ho.2 c h
theorem formB_spec {s : Sch} (h : formB s = true) : 1 ≤ s.len ∧ s.len ≤ 512 ∧ 1 ≤ s.offs ∧ s.offs ≤ 16 ∧ s.cells.length ≤ 512 ∧ ∀ c, c ∈ s.cells → 0 ≤ c.slot ∧ c.slot < s.len ∧ 0 ≤ c.offset ∧ c.offset < s.offs := by
  simp only [formB, sized, Bool.and_eq_true, decide_eq_true_eq] at h
  obtain ⟨⟨⟨⟨⟨h1, h2⟩, h3⟩, h4⟩, h5⟩, h6⟩ := h
  refine ⟨by omega, by omega, by omega, by omega, by omega, fun c hc => ?_⟩
  have := okFrom_all h6 c hc
  simp only [formed, placed, inside, Bool.and_eq_true, decide_eq_true_eq] at this
  omega

theorem f24_ok {G} (hP : PrintOK G) (s : Sch) (h : Hp) (hl : s.cells.length ≤ 100000) : VPure Tryd.prog G (.fn 24 []) [.agg (schV s)] h (.c (.bool (formB s))) := by
  refine VCall_fn' (tdOf_ok _) Tryd.func24 rfl (by rfl) 12 rfl (by simp) (by simp only [ents, List.cons_append, List.nil_append, List.append_nil] <;> rfl) (fun hk ha hc => ?_)
  with_reducible repeat (first | refine n1 ?_ | refine n2 ?_ | refine n3 ?_ | refine n4 ?_ | refine n5 ?_ | refine n6 ?_ | refine n7 rfl ?_ | refine W_seq ?_ | refine W_block ?_ | refine W_skip ?_ | refine W_exit ?_ | refine W_ret ?_)
  refine W_go (by simp only [ev0, ev1, ev2, ev3, ev4, Nat.reduceLT, Nat.reduceLeDiff, Nat.reduceEqDiff, Nat.reduceAdd, Nat.reduceMul, Nat.reduceBEq, reduceCtorEq, ld24, schV] <;> rfl) (Nat.le_of_ble_eq_true rfl) ?_
  refine WL_end ?_
  with_reducible repeat (first | refine n1 ?_ | refine n2 ?_ | refine n3 ?_ | refine n4 ?_ | refine n5 ?_ | refine n6 ?_ | refine n7 rfl ?_ | refine W_seq ?_ | refine W_block ?_ | refine W_skip ?_ | refine W_exit ?_ | refine W_ret ?_)
  refine W_go (by simp only [ev0, ev1, ev2, ev3, ev4, Nat.reduceLT, Nat.reduceLeDiff, Nat.reduceEqDiff, Nat.reduceAdd, Nat.reduceMul, Nat.reduceBEq, reduceCtorEq, ld24] <;> rfl) (Nat.le_of_ble_eq_true rfl) ?_
  refine WL_call' (hP s _ hl) rfl (.inl rfl) (by simp only [ev0, ev1, ev2, ev3, ev4, Nat.reduceLT, Nat.reduceLeDiff, Nat.reduceEqDiff, Nat.reduceAdd, Nat.reduceMul, Nat.reduceBEq, reduceCtorEq, ld24, schV] <;> rfl) (by simp only [ev0, ev1, ev2, ev3, ev4, Nat.reduceLT, Nat.reduceLeDiff, Nat.reduceEqDiff, Nat.reduceAdd, Nat.reduceMul, Nat.reduceBEq, reduceCtorEq, ld24, schV] <;> rfl) rfl ?_
  rintro _ _ ⟨rfl, b, rfl⟩
  cases hf : formB s
  all_goals
    refine WL_go (by simp only [ev0, ev1, ev2, ev3, ev4, Nat.reduceLT, Nat.reduceLeDiff, Nat.reduceEqDiff, Nat.reduceAdd, Nat.reduceMul, Nat.reduceBEq, reduceCtorEq, ld24, hf] <;> rfl) (Nat.le_of_ble_eq_true rfl) ?_
    refine WL_endk (ks := [4]) (by simp only [ev0, ev4, Nat.reduceEqDiff] <;> rfl) ?_
    with_reducible repeat (first | refine n1 ?_ | refine n2 ?_ | refine n3 ?_ | refine n4 ?_ | refine n5 ?_ | refine n6 ?_ | refine n7 rfl ?_ | refine W_seq ?_ | refine W_block ?_ | refine W_skip ?_ | refine W_exit ?_ | refine W_ret ?_)
    refine W_go (by simp only [ev0, ev1, ev2, ev3, ev4, Nat.reduceLT, Nat.reduceLeDiff, Nat.reduceEqDiff, Nat.reduceAdd, Nat.reduceMul, Nat.reduceBEq, reduceCtorEq, ld24] <;> rfl) (Nat.le_of_ble_eq_true rfl) ?_
    refine WL_endk (ks := [2]) (by simp only [ev0, ev4, Nat.reduceEqDiff] <;> rfl) ?_
    with_reducible repeat (first | refine n1 ?_ | refine n2 ?_ | refine n3 ?_ | refine n4 ?_ | refine n5 ?_ | refine n6 ?_ | refine n7 rfl ?_ | refine W_seq ?_ | refine W_block ?_ | refine W_skip ?_ | refine W_exit ?_ | refine W_ret ?_)
    refine Fin_pure [.blk (schV s)] _ (by first | exact .inl rfl | exact .inr rfl) rfl (by simp only [Tryd.results24, vres, vresL, vres1, one_, vload_eq, Option.map_some, ev0, ev3, ev4, Nat.reduceEqDiff, Nat.reduceAdd, Nat.reduceLeDiff] <;> rfl) rfl (by simp only [one_, rf_c, rf_any, rf_sl, rf_ptr, rf_fn, rf_agg, rf_tup, rf, List.map_cons, List.map_nil] <;> rfl) hk (by simp) ?_
    exact ⟨rfl, rfl⟩

def freeE (s : Sch) : Int := if formB s then 0 else 1
def freeV (s : Sch) : List Int := if formB s then masksS s else []
theorem ok_mask {D : Nat → Prop} (s : Sch) : Ok D (.tup [.sl 1 ((freeV s).map iv), .c (.int .i64 (freeE s))]) := by
  rw [Ok_tup]
  intro d hd
  simp only [List.mem_cons, List.not_mem_nil, or_false] at hd
  rcases hd with rfl | rfl
  · exact ok_iv _
  · exact Ok_c _

theorem f10_ok {G} (hP : PrintOK G) (s : Sch) (h : Hp) (hl : s.cells.length ≤ 100000) : VPure Tryd.prog G (.fn 10 []) [.agg (schV s)] h (.tup [.sl 1 ((freeV s).map iv), .c (.int .i64 (freeE s))]) := by
  refine VCall_fn' (tdOf_ok _) Tryd.func10 rfl (by rfl) 9 rfl (by simp) (by simp only [ents, List.cons_append, List.nil_append, List.append_nil] <;> rfl) (fun hk ha hc => ?_)
  with_reducible repeat (first | refine n1 ?_ | refine n2 ?_ | refine n3 ?_ | refine n4 ?_ | refine n5 ?_ | refine n6 ?_ | refine n7 rfl ?_ | refine W_seq ?_ | refine W_block ?_ | refine W_skip ?_ | refine W_exit ?_ | refine W_ret ?_)
  cases hf : formB s
  · refine W_go (by simp only [ev0, ev1, ev2, ev3, ev4, Nat.reduceLT, Nat.reduceLeDiff, Nat.reduceEqDiff, Nat.reduceAdd, Nat.reduceMul, Nat.reduceBEq, reduceCtorEq, ld24, schV] <;> rfl) (Nat.le_of_ble_eq_true rfl) ?_
    refine WL_end ?_
    with_reducible repeat (first | refine n1 ?_ | refine n2 ?_ | refine n3 ?_ | refine n4 ?_ | refine n5 ?_ | refine n6 ?_ | refine n7 rfl ?_ | refine W_seq ?_ | refine W_block ?_ | refine W_skip ?_ | refine W_exit ?_ | refine W_ret ?_)
    refine W_go (by simp only [ev0, ev1, ev2, ev3, ev4, Nat.reduceLT, Nat.reduceLeDiff, Nat.reduceEqDiff, Nat.reduceAdd, Nat.reduceMul, Nat.reduceBEq, reduceCtorEq, ld24] <;> rfl) (Nat.le_of_ble_eq_true rfl) ?_
    refine WL_pure (f24_ok hP s _ hl) rfl (.inl rfl) (by simp only [ev0, ev1, ev2, ev3, ev4, Nat.reduceLT, Nat.reduceLeDiff, Nat.reduceEqDiff, Nat.reduceAdd, Nat.reduceMul, Nat.reduceBEq, reduceCtorEq, ld24, schV] <;> rfl) (by simp only [ev0, ev1, ev2, ev3, ev4, Nat.reduceLT, Nat.reduceLeDiff, Nat.reduceEqDiff, Nat.reduceAdd, Nat.reduceMul, Nat.reduceBEq, reduceCtorEq, ld24, schV] <;> rfl) rfl (by simp only [ev0, ev1, ev2, ev3, ev4, Nat.reduceLT, Nat.reduceLeDiff, Nat.reduceEqDiff, Nat.reduceAdd, Nat.reduceMul, Nat.reduceBEq, reduceCtorEq, ld24, schV] <;> rfl) ?_
    refine WL_go (by simp only [ev0, ev1, ev2, ev3, ev4, Nat.reduceLT, Nat.reduceLeDiff, Nat.reduceEqDiff, Nat.reduceAdd, Nat.reduceMul, Nat.reduceBEq, reduceCtorEq, ld24, hf] <;> rfl) (Nat.le_of_ble_eq_true rfl) ?_
    refine WL_endk (ks := [6]) (by simp only [ev0, ev4, Nat.reduceEqDiff] <;> rfl) ?_
    with_reducible repeat (first | refine n1 ?_ | refine n2 ?_ | refine n3 ?_ | refine n4 ?_ | refine n5 ?_ | refine n6 ?_ | refine n7 rfl ?_ | refine W_seq ?_ | refine W_block ?_ | refine W_skip ?_ | refine W_exit ?_ | refine W_ret ?_)
    refine W_true rfl ?_
    with_reducible repeat (first | refine n1 ?_ | refine n2 ?_ | refine n3 ?_ | refine n4 ?_ | refine n5 ?_ | refine n6 ?_ | refine n7 rfl ?_ | refine W_seq ?_ | refine W_block ?_ | refine W_skip ?_ | refine W_exit ?_ | refine W_ret ?_)
    refine W_go (by simp only [ev0, ev1, ev2, ev3, ev4, Nat.reduceLT, Nat.reduceLeDiff, Nat.reduceEqDiff, Nat.reduceAdd, Nat.reduceMul, Nat.reduceBEq, reduceCtorEq, ld24] <;> rfl) (Nat.le_of_ble_eq_true rfl) ?_
    refine WL_endk (ks := [2, 3]) (by simp only [ev0, ev4, Nat.reduceEqDiff] <;> rfl) ?_
    with_reducible repeat (first | refine n1 ?_ | refine n4 ?_)
    refine W_nilsl 1 ?_
    with_reducible repeat (first | refine n1 ?_ | refine n2 ?_ | refine n3 ?_ | refine n4 ?_ | refine n5 ?_ | refine n6 ?_ | refine n7 rfl ?_ | refine W_seq ?_ | refine W_block ?_ | refine W_skip ?_ | refine W_exit ?_ | refine W_ret ?_)
    refine Fin_pure [.blk (schV s)] (.tup [.sl 1 ((freeV s).map iv), .c (.int .i64 (freeE s))]) (by first | exact .inl rfl | exact .inr rfl) rfl (by simp only [Tryd.results10, vres, vresL, vres1, one_, vload_eq, Option.map_some, ev0, ev3, ev4, Nat.reduceEqDiff, Nat.reduceAdd, Nat.reduceLeDiff] <;> rfl) rfl ?_ hk ?_ ⟨rfl, rfl⟩
    · simp [freeV, freeE, hf]
    · exact ok_mask s
  · obtain ⟨h1, h2, h3, h4, h5, h6⟩ := formB_spec hf
    refine W_go (by simp only [ev0, ev1, ev2, ev3, ev4, Nat.reduceLT, Nat.reduceLeDiff, Nat.reduceEqDiff, Nat.reduceAdd, Nat.reduceMul, Nat.reduceBEq, reduceCtorEq, ld24, schV] <;> rfl) (Nat.le_of_ble_eq_true rfl) ?_
    refine WL_end ?_
    with_reducible repeat (first | refine n1 ?_ | refine n2 ?_ | refine n3 ?_ | refine n4 ?_ | refine n5 ?_ | refine n6 ?_ | refine n7 rfl ?_ | refine W_seq ?_ | refine W_block ?_ | refine W_skip ?_ | refine W_exit ?_ | refine W_ret ?_)
    refine W_go (by simp only [ev0, ev1, ev2, ev3, ev4, Nat.reduceLT, Nat.reduceLeDiff, Nat.reduceEqDiff, Nat.reduceAdd, Nat.reduceMul, Nat.reduceBEq, reduceCtorEq, ld24] <;> rfl) (Nat.le_of_ble_eq_true rfl) ?_
    refine WL_pure (f24_ok hP s _ hl) rfl (.inl rfl) (by simp only [ev0, ev1, ev2, ev3, ev4, Nat.reduceLT, Nat.reduceLeDiff, Nat.reduceEqDiff, Nat.reduceAdd, Nat.reduceMul, Nat.reduceBEq, reduceCtorEq, ld24, schV] <;> rfl) (by simp only [ev0, ev1, ev2, ev3, ev4, Nat.reduceLT, Nat.reduceLeDiff, Nat.reduceEqDiff, Nat.reduceAdd, Nat.reduceMul, Nat.reduceBEq, reduceCtorEq, ld24, schV] <;> rfl) rfl (by simp only [ev0, ev1, ev2, ev3, ev4, Nat.reduceLT, Nat.reduceLeDiff, Nat.reduceEqDiff, Nat.reduceAdd, Nat.reduceMul, Nat.reduceBEq, reduceCtorEq, ld24, schV] <;> rfl) ?_
    refine WL_go (by simp only [ev0, ev1, ev2, ev3, ev4, Nat.reduceLT, Nat.reduceLeDiff, Nat.reduceEqDiff, Nat.reduceAdd, Nat.reduceMul, Nat.reduceBEq, reduceCtorEq, ld24, hf] <;> rfl) (Nat.le_of_ble_eq_true rfl) ?_
    refine WL_endk (ks := [1, 6]) (by simp only [ev0, ev4, Nat.reduceEqDiff] <;> rfl) ?_
    with_reducible repeat (first | refine n1 ?_ | refine n2 ?_ | refine n3 ?_ | refine n4 ?_ | refine n5 ?_ | refine n6 ?_ | refine n7 rfl ?_ | refine W_seq ?_ | refine W_block ?_ | refine W_skip ?_ | refine W_exit ?_ | refine W_ret ?_)
    refine W_false rfl ?_
    with_reducible repeat (first | refine n1 ?_ | refine n2 ?_ | refine n3 ?_ | refine n4 ?_ | refine n5 ?_ | refine n6 ?_ | refine n7 rfl ?_ | refine W_seq ?_ | refine W_block ?_ | refine W_skip ?_ | refine W_exit ?_ | refine W_ret ?_)
    refine W_go (by simp only [ev0, ev1, ev2, ev3, ev4, Nat.reduceLT, Nat.reduceLeDiff, Nat.reduceEqDiff, Nat.reduceAdd, Nat.reduceMul, Nat.reduceBEq, reduceCtorEq, ld24] <;> rfl) (Nat.le_of_ble_eq_true rfl) ?_
    refine WL_pure (f33_ok s _ (by omega) h1 h2 h3 h4 h6) rfl (.inl rfl) (by simp only [ev0, ev1, ev2, ev3, ev4, Nat.reduceLT, Nat.reduceLeDiff, Nat.reduceEqDiff, Nat.reduceAdd, Nat.reduceMul, Nat.reduceBEq, reduceCtorEq, ld24, schV] <;> rfl) (by simp only [ev0, ev1, ev2, ev3, ev4, Nat.reduceLT, Nat.reduceLeDiff, Nat.reduceEqDiff, Nat.reduceAdd, Nat.reduceMul, Nat.reduceBEq, reduceCtorEq, ld24, schV] <;> rfl) rfl (by simp only [ev0, ev1, ev2, ev3, ev4, Nat.reduceLT, Nat.reduceLeDiff, Nat.reduceEqDiff, Nat.reduceAdd, Nat.reduceMul, Nat.reduceBEq, reduceCtorEq, ld24, schV] <;> rfl) ?_
    refine WL_go (by simp only [ev0, ev1, ev2, ev3, ev4, Nat.reduceLT, Nat.reduceLeDiff, Nat.reduceEqDiff, Nat.reduceAdd, Nat.reduceMul, Nat.reduceBEq, reduceCtorEq, ld24] <;> rfl) (Nat.le_of_ble_eq_true rfl) ?_
    refine WL_endk (ks := [2, 3]) (by simp only [ev0, ev4, Nat.reduceEqDiff] <;> rfl) ?_
    with_reducible repeat (first | refine n1 ?_ | refine n2 ?_ | refine n3 ?_ | refine n4 ?_ | refine n5 ?_ | refine n6 ?_ | refine n7 rfl ?_ | refine W_seq ?_ | refine W_block ?_ | refine W_skip ?_ | refine W_exit ?_ | refine W_ret ?_)
    refine Fin_pure [.blk (schV s)] (.tup [.sl 1 ((freeV s).map iv), .c (.int .i64 (freeE s))]) (by first | exact .inl rfl | exact .inr rfl) rfl (by simp only [Tryd.results10, vres, vresL, vres1, one_, vload_eq, Option.map_some, ev0, ev3, ev4, Nat.reduceEqDiff, Nat.reduceAdd, Nat.reduceLeDiff] <;> rfl) rfl ?_ hk ?_ ⟨rfl, rfl⟩
    · simp [freeV, freeE, hf]
    · exact ok_mask s

theorem okO_sch {D : Nat → Prop} (s : Sch) : OkO D (.blk (schV s)) := by
  intro d hd
  simp only [schV, List.mem_cons, List.not_mem_nil, or_false] at hd
  rcases hd with rfl | rfl | rfl
  · exact Ok_c _
  · exact Ok_c _
  · exact ok_cellV _

theorem f26_ok {G} (s : Sch) (h : Hp) : VCall Tryd.prog G (.fn 26 []) [.agg (schV s)] h (fun r h' => r = .fn 41 [.ptr (List.length h) 0] ∧ h' = h ++ [.blk (schV s)]) := by
  refine VCall_fn' (tdOf_ok _) Tryd.func26 rfl (by rfl) 4 rfl (by simp) (by simp only [ents, List.cons_append, List.nil_append, List.append_nil] <;> rfl) (fun hk ha hc => ?_)
  with_reducible repeat (first | refine n1 ?_ | refine n2 ?_ | refine n3 ?_ | refine n4 ?_ | refine n5 ?_ | refine n6 ?_ | refine n7 rfl ?_ | refine W_seq ?_ | refine W_block ?_ | refine W_skip ?_ | refine W_exit ?_ | refine W_ret ?_)
  refine W_go (by simp only [ev0, ev1, ev2, ev3, ev4, Nat.reduceLT, Nat.reduceLeDiff, Nat.reduceEqDiff, Nat.reduceAdd, Nat.reduceMul, Nat.reduceBEq, reduceCtorEq, schV] <;> rfl) (Nat.le_of_ble_eq_true rfl) ?_
  refine WL_end ?_
  with_reducible repeat (first | refine n1 ?_ | refine n2 ?_ | refine n3 ?_ | refine n4 ?_ | refine n5 ?_ | refine n6 ?_ | refine n7 rfl ?_ | refine W_seq ?_ | refine W_block ?_ | refine W_skip ?_ | refine W_exit ?_ | refine W_ret ?_)
  refine W_go (by simp only [ev0, ev1, ev2, ev3, ev4, Nat.reduceLT, Nat.reduceLeDiff, Nat.reduceEqDiff, Nat.reduceAdd, Nat.reduceMul, Nat.reduceBEq, reduceCtorEq] <;> rfl) (Nat.le_of_ble_eq_true rfl) ?_
  refine WL_endk (ks := [2]) (by simp only [ev0, ev4, Nat.reduceEqDiff] <;> rfl) ?_
  with_reducible repeat (first | refine n1 ?_ | refine n2 ?_ | refine n3 ?_ | refine n4 ?_ | refine n5 ?_ | refine n6 ?_ | refine n7 rfl ?_ | refine W_seq ?_ | refine W_block ?_ | refine W_skip ?_ | refine W_exit ?_ | refine W_ret ?_)
  refine Fin_ext [.blk (schV s)] _ (by first | exact .inl rfl | exact .inr rfl) rfl (by simp only [Tryd.results26, vres, vresL, vres1, one_, vload_eq, Option.map_some, ev0, ev3, ev4, Nat.reduceEqDiff, Nat.reduceAdd, Nat.reduceLeDiff] <;> rfl) rfl (by simp only [one_, rf_c, rf_any, rf_sl, rf_ptr, rf_fn, rf_agg, rf_tup, rf, List.map_cons, List.map_nil] <;> rfl) hk ?_ ?_ ?_
  · intro o ho
    simp only [List.mem_singleton] at ho
    subst ho
    exact okO_sch s
  · simp
  · exact ⟨rfl, rfl⟩

/-- The places, one behind the other, as they are yielded. -/
theorem f41_ok {G} (I : Nat → Nat → Hp → Prop) (Qd : Hp → Prop) (s : Sch) (n m i L : Nat) (hn : s.len = n) (hm : s.offs = m) (hn5 : n ≤ 512) (hm5 : m ≤ 512)
    (hi : ∀ a b h, I a b h → h.get i = .blk (schV s))
    (hy : ∀ a b, a < n → b < m → ∀ h, I a b h → VCall Tryd.prog G (.yld L) [.agg (cellV ⟨a, b, 0, 0, 0⟩)] h (fun r h' => (r = .c (.bool true) ∧ I a (b + 1) h') ∨ (r = .c (.bool false) ∧ Qd h')))
    (hs : ∀ a h, I a m h → I (a + 1) 0 h) (he : ∀ h, I n 0 h → Qd h) (h : Hp) (h0 : I 0 0 h) :
    VCall Tryd.prog G (.fn 41 [.ptr i 0]) [.yld L] h (fun r h' => r = .tup [] ∧ Qd h') := by
  refine VCall_fn' (tdOf_ok _) Tryd.func41 rfl (by rfl) 23 rfl (by simp) (by simp only [ents, List.cons_append, List.nil_append, List.append_nil] <;> rfl) (fun hk ha hc => ?_)
  with_reducible repeat (first | refine n1 ?_ | refine n2 ?_ | refine n3 ?_ | refine n4 ?_ | refine n5 ?_ | refine n6 ?_ | refine n7 rfl ?_ | refine W_seq ?_ | refine W_block ?_ | refine W_skip ?_ | refine W_exit ?_ | refine W_ret ?_)
  rw [List.append_nil]
  have hi0 := hi _ _ _ h0
  refine W_go (by simp only [ev0, ev1, ev2, ev3, ev4, Nat.reduceLT, Nat.reduceLeDiff, Nat.reduceEqDiff, Nat.reduceAdd, Nat.reduceMul, Nat.reduceBEq, reduceCtorEq, fa24_0, ld3, fa24_1, bld29, hi0, schV, hn] <;> rfl) (Nat.le_of_ble_eq_true rfl) ?_
  refine WL_endk (ks := [0, 1, 6, 7]) (by simp only [ev0, ev4, Nat.reduceEqDiff] <;> rfl) ?_
  with_reducible repeat (first | refine n1 ?_ | refine n2 ?_ | refine n3 ?_ | refine n4 ?_ | refine n5 ?_ | refine n6 ?_ | refine n7 rfl ?_ | refine W_seq ?_ | refine W_block ?_ | refine W_skip ?_ | refine W_exit ?_ | refine W_ret ?_)
  refine W_loopS (fun (p : Nat × Hp) => ⟨23, [(0, .yld L), (1, .ptr i 0), (6, .c (.int .i64 n)), (7, .c (.int .i64 p.1))], p.2, []⟩) (fun p => p.1 ≤ n ∧ I p.1 0 p.2 ∧ HOk p.2 ∧ List.length h ≤ List.length p.2) (fun p => n - p.1) (0, h) ⟨by simp, h0, hk, Nat.le_refl _⟩ rfl (fun p hI => ?_)
  obtain ⟨a, H⟩ := p
  obtain ⟨ha1, ha2, ha3, ha4⟩ := hI
  simp only at ha1 ha2 ha3 ha4
  with_reducible repeat (first | refine n1 ?_ | refine n2 ?_ | refine n3 ?_ | refine n4 ?_ | refine n5 ?_ | refine n6 ?_ | refine n7 rfl ?_ | refine W_seq ?_ | refine W_block ?_ | refine W_skip ?_ | refine W_exit ?_ | refine W_ret ?_)
  refine W_go (by simp only [ev0, ev1, ev2, ev3, ev4, Nat.reduceLT, Nat.reduceLeDiff, Nat.reduceEqDiff, Nat.reduceAdd, Nat.reduceMul, Nat.reduceBEq, reduceCtorEq, fa24_0, ld3, fa24_1, bld29] <;> rfl) (Nat.le_of_ble_eq_true rfl) ?_
  refine WL_end ?_
  with_reducible repeat (first | refine n1 ?_ | refine n2 ?_ | refine n3 ?_ | refine n4 ?_ | refine n5 ?_ | refine n6 ?_ | refine n7 rfl ?_ | refine W_seq ?_ | refine W_block ?_ | refine W_skip ?_ | refine W_exit ?_ | refine W_ret ?_)
  refine W_cond rfl (fun hb => ?_) (fun hb => ?_)
  · have hlt : a < n := by simpa using hb
    have hi1 := hi _ _ _ ha2
    with_reducible repeat (first | refine n1 ?_ | refine n2 ?_ | refine n3 ?_ | refine n4 ?_ | refine n5 ?_ | refine n6 ?_ | refine n7 rfl ?_ | refine W_seq ?_ | refine W_block ?_ | refine W_skip ?_ | refine W_exit ?_ | refine W_ret ?_)
    refine W_go (by simp only [ev0, ev1, ev2, ev3, ev4, Nat.reduceLT, Nat.reduceLeDiff, Nat.reduceEqDiff, Nat.reduceAdd, Nat.reduceMul, Nat.reduceBEq, reduceCtorEq, fa24_0, ld3, fa24_1, bld29] <;> rfl) (Nat.le_of_ble_eq_true rfl) ?_
    refine WL_endk (ks := [0, 1, 3, 6, 7]) (by simp only [ev0, ev4, Nat.reduceEqDiff] <;> rfl) ?_
    with_reducible repeat (first | refine n1 ?_ | refine n2 ?_ | refine n3 ?_ | refine n4 ?_ | refine n5 ?_ | refine n6 ?_ | refine n7 rfl ?_ | refine W_seq ?_ | refine W_block ?_ | refine W_skip ?_ | refine W_exit ?_ | refine W_ret ?_)
    refine W_go (by simp only [ev0, ev1, ev2, ev3, ev4, Nat.reduceLT, Nat.reduceLeDiff, Nat.reduceEqDiff, Nat.reduceAdd, Nat.reduceMul, Nat.reduceBEq, reduceCtorEq, fa24_0, ld3, fa24_1, bld29, hi1, schV, hm] <;> rfl) (Nat.le_of_ble_eq_true rfl) ?_
    refine WL_endk (ks := [0, 1, 3, 6, 7, 11, 12]) (by simp only [ev0, ev4, Nat.reduceEqDiff] <;> rfl) ?_
    with_reducible repeat (first | refine n1 ?_ | refine n2 ?_ | refine n3 ?_ | refine n4 ?_ | refine n5 ?_ | refine n6 ?_ | refine n7 rfl ?_ | refine W_seq ?_ | refine W_block ?_ | refine W_skip ?_ | refine W_exit ?_ | refine W_ret ?_)
    refine W_loopS (fun (p : Nat × Hp) => ⟨23, [(0, .yld L), (1, .ptr i 0), (3, .c (.int .i64 a)), (6, .c (.int .i64 n)), (7, .c (.int .i64 a)), (11, .c (.int .i64 m)), (12, .c (.int .i64 p.1))], p.2, []⟩) (fun p => p.1 ≤ m ∧ I a p.1 p.2 ∧ HOk p.2 ∧ List.length h ≤ List.length p.2) (fun p => m - p.1) (0, H) ⟨by simp, ha2, ha3, ha4⟩ rfl (fun p hJ => ?_)
    obtain ⟨b, H2⟩ := p
    obtain ⟨hb1, hb2, hb3, hb4⟩ := hJ
    simp only at hb1 hb2 hb3 hb4
    with_reducible repeat (first | refine n1 ?_ | refine n2 ?_ | refine n3 ?_ | refine n4 ?_ | refine n5 ?_ | refine n6 ?_ | refine n7 rfl ?_ | refine W_seq ?_ | refine W_block ?_ | refine W_skip ?_ | refine W_exit ?_ | refine W_ret ?_)
    refine W_go (by simp only [ev0, ev1, ev2, ev3, ev4, Nat.reduceLT, Nat.reduceLeDiff, Nat.reduceEqDiff, Nat.reduceAdd, Nat.reduceMul, Nat.reduceBEq, reduceCtorEq, fa24_0, ld3, fa24_1, bld29] <;> rfl) (Nat.le_of_ble_eq_true rfl) ?_
    refine WL_end ?_
    with_reducible repeat (first | refine n1 ?_ | refine n2 ?_ | refine n3 ?_ | refine n4 ?_ | refine n5 ?_ | refine n6 ?_ | refine n7 rfl ?_ | refine W_seq ?_ | refine W_block ?_ | refine W_skip ?_ | refine W_exit ?_ | refine W_ret ?_)
    refine W_cond rfl (fun hb => ?_) (fun hb => ?_)
    · have hltb : b < m := by simpa using hb
      with_reducible repeat (first | refine n1 ?_ | refine n2 ?_ | refine n3 ?_ | refine n4 ?_ | refine n5 ?_ | refine n6 ?_ | refine n7 rfl ?_ | refine W_seq ?_ | refine W_block ?_ | refine W_skip ?_ | refine W_exit ?_ | refine W_ret ?_)
      refine W_go (by simp only [ev0, ev1, ev2, ev3, ev4, Nat.reduceLT, Nat.reduceLeDiff, Nat.reduceEqDiff, Nat.reduceAdd, Nat.reduceMul, Nat.reduceBEq, reduceCtorEq, fa24_0, ld3, fa24_1, bld29] <;> rfl) (Nat.le_of_ble_eq_true rfl) ?_
      refine WL_endk (ks := [0, 1, 3, 4, 6, 7, 11, 12]) (by simp only [ev0, ev4, Nat.reduceEqDiff] <;> rfl) ?_
      with_reducible repeat (first | refine n1 ?_ | refine n2 ?_ | refine n3 ?_ | refine n4 ?_ | refine n5 ?_ | refine n6 ?_ | refine n7 rfl ?_ | refine W_seq ?_ | refine W_block ?_ | refine W_skip ?_ | refine W_exit ?_ | refine W_ret ?_)
      refine W_go (by simp only [ev0, ev1, ev2, ev3, ev4, Nat.reduceLT, Nat.reduceLeDiff, Nat.reduceEqDiff, Nat.reduceAdd, Nat.reduceMul, Nat.reduceBEq, reduceCtorEq, fa24_0, ld3, fa24_1, bld29] <;> rfl) (Nat.le_of_ble_eq_true rfl) ?_
      refine WL_call' ((hy a b hlt hltb H2 hb2).hok) rfl (.inl rfl) (by simp only [ev0, ev1, ev2, ev3, ev4, Nat.reduceLT, Nat.reduceLeDiff, Nat.reduceEqDiff, Nat.reduceAdd, Nat.reduceMul, Nat.reduceBEq, reduceCtorEq, fa24_0, ld3, fa24_1, bld29, cellV] <;> rfl) (by simp only [ev0, ev1, ev2, ev3, ev4, Nat.reduceLT, Nat.reduceLeDiff, Nat.reduceEqDiff, Nat.reduceAdd, Nat.reduceMul, Nat.reduceBEq, reduceCtorEq, fa24_0, ld3, fa24_1, bld29, cellV] <;> rfl) rfl ?_
      rintro _ _ ⟨⟨rfl, hq⟩ | ⟨rfl, hq⟩, hko, hle⟩
      · refine WL_go (by simp only [ev0, ev1, ev2, ev3, ev4, Nat.reduceLT, Nat.reduceLeDiff, Nat.reduceEqDiff, Nat.reduceAdd, Nat.reduceMul, Nat.reduceBEq, reduceCtorEq, fa24_0, ld3, fa24_1, bld29] <;> rfl) (Nat.le_of_ble_eq_true rfl) ?_
        refine WL_endk (ks := [0, 1, 3, 6, 7, 11, 12, 20]) (by simp only [ev0, ev4, Nat.reduceEqDiff] <;> rfl) ?_
        with_reducible repeat (first | refine n1 ?_ | refine n2 ?_ | refine n3 ?_ | refine n4 ?_ | refine n5 ?_ | refine n6 ?_ | refine n7 rfl ?_ | refine W_seq ?_ | refine W_block ?_ | refine W_skip ?_ | refine W_exit ?_ | refine W_ret ?_)
        refine W_false rfl ?_
        with_reducible repeat (first | refine n1 ?_ | refine n2 ?_ | refine n3 ?_ | refine n4 ?_ | refine n5 ?_ | refine n6 ?_ | refine n7 rfl ?_ | refine W_seq ?_ | refine W_block ?_ | refine W_skip ?_ | refine W_exit ?_ | refine W_ret ?_)
        refine W_go (by simp only [ev0, ev1, ev2, ev3, ev4, Nat.reduceLT, Nat.reduceLeDiff, Nat.reduceEqDiff, Nat.reduceAdd, Nat.reduceMul, Nat.reduceBEq, reduceCtorEq, fa24_0, ld3, fa24_1, bld29] <;> rfl) (Nat.le_of_ble_eq_true rfl) ?_
        refine WL_endk (ks := [0, 1, 3, 6, 7, 11, 12]) (by simp only [ev0, ev4, Nat.reduceEqDiff] <;> rfl) ?_
        with_reducible repeat (first | refine n1 ?_ | refine n2 ?_ | refine n3 ?_ | refine n4 ?_ | refine n5 ?_ | refine n6 ?_ | refine n7 rfl ?_ | refine W_seq ?_ | refine W_block ?_ | refine W_skip ?_ | refine W_exit ?_ | refine W_ret ?_)
        exact ⟨(b + 1, _), by rw [wrap64 (by omega) (by omega)]; rfl, ⟨by simp only; omega, hq, hko, by simp only; omega⟩, by simp only; omega⟩
      · refine WL_go (by simp only [ev0, ev1, ev2, ev3, ev4, Nat.reduceLT, Nat.reduceLeDiff, Nat.reduceEqDiff, Nat.reduceAdd, Nat.reduceMul, Nat.reduceBEq, reduceCtorEq, fa24_0, ld3, fa24_1, bld29] <;> rfl) (Nat.le_of_ble_eq_true rfl) ?_
        refine WL_endk (ks := [20]) (by simp only [ev0, ev4, Nat.reduceEqDiff] <;> rfl) ?_
        with_reducible repeat (first | refine n1 ?_ | refine n2 ?_ | refine n3 ?_ | refine n4 ?_ | refine n5 ?_ | refine n6 ?_ | refine n7 rfl ?_ | refine W_seq ?_ | refine W_block ?_ | refine W_skip ?_ | refine W_exit ?_ | refine W_ret ?_)
        refine W_true rfl ?_
        with_reducible repeat (first | refine n1 ?_ | refine n2 ?_ | refine n3 ?_ | refine n4 ?_ | refine n5 ?_ | refine n6 ?_ | refine n7 rfl ?_ | refine W_seq ?_ | refine W_block ?_ | refine W_skip ?_ | refine W_exit ?_ | refine W_ret ?_)
        exact Fin_all (.tup []) (.inr rfl) rfl rfl (by simp only; omega) hko (by simp [one_]) (by simp) ⟨rfl, hq⟩
    · have hbm : b = m := by
        have : m ≤ b := by simpa using hb
        omega
      subst hbm
      with_reducible repeat (first | refine n1 ?_ | refine n2 ?_ | refine n3 ?_ | refine n4 ?_ | refine n5 ?_ | refine n6 ?_ | refine n7 rfl ?_ | refine W_seq ?_ | refine W_block ?_ | refine W_skip ?_ | refine W_exit ?_ | refine W_ret ?_)
      refine W_go (by simp only [ev0, ev1, ev2, ev3, ev4, Nat.reduceLT, Nat.reduceLeDiff, Nat.reduceEqDiff, Nat.reduceAdd, Nat.reduceMul, Nat.reduceBEq, reduceCtorEq, fa24_0, ld3, fa24_1, bld29] <;> rfl) (Nat.le_of_ble_eq_true rfl) ?_
      refine WL_endk (ks := [0, 1, 6, 7]) (by simp only [ev0, ev4, Nat.reduceEqDiff] <;> rfl) ?_
      with_reducible repeat (first | refine n1 ?_ | refine n2 ?_ | refine n3 ?_ | refine n4 ?_ | refine n5 ?_ | refine n6 ?_ | refine n7 rfl ?_ | refine W_seq ?_ | refine W_block ?_ | refine W_skip ?_ | refine W_exit ?_ | refine W_ret ?_)
      exact ⟨(a + 1, H2), by rw [wrap64 (by omega) (by omega)]; rfl, ⟨by simp only; omega, hs a H2 hb2, hb3, hb4⟩, by simp only; omega⟩
  · have han : a = n := by
      have : n ≤ a := by simpa using hb
      omega
    subst han
    with_reducible repeat (first | refine n1 ?_ | refine n2 ?_ | refine n3 ?_ | refine n4 ?_ | refine n5 ?_ | refine n6 ?_ | refine n7 rfl ?_ | refine W_seq ?_ | refine W_block ?_ | refine W_skip ?_ | refine W_exit ?_ | refine W_ret ?_)
    exact Fin_all (.tup []) (.inl rfl) rfl rfl ha4 ha3 (by simp [one_]) (by simp) ⟨rfl, he H ha2⟩
end Go.Vm
/- Contracts: taking the first place. -/
namespace Go.Vm
open Go Go.RowKit Go.Proofs
set_option linter.unusedSimpArgs false
set_option linter.unusedVariables false

/-- Can a place be taken? -/
def canT (s : Sch) (f : List Int) (used : List Cell) (src to : Int) (a b : Nat) : Bool :=
  (bitS (f.getD a 0) b == 1) && !(s.cells ++ used).any (busyAt a src to) && !used.any (isAt a b)
/-- No earlier place can. -/
def noneB (P : Nat → Nat → Bool) (m a b : Nat) : Prop := ∀ x y, y < m → (x < a ∨ x = a ∧ y < b) → P x y = false
def nodeB (a : Int) : Bool := decide (0 ≤ a) && decide (a < 32)
/-- What Take gives. -/
inductive TakeR (s : Sch) (f : List Int) (used : List Cell) (src to : Int) : Cell → Int → Prop
  | arg : (formB s = false ∨ chkS f s.len s.offs ≠ 0) → TakeR s f used src to zeroC 1
  | range : formB s = true → chkS f s.len s.offs = 0 → (nodeB src && nodeB to && (src != to)) = false → TakeR s f used src to zeroC 2
  | large : formB s = true → chkS f s.len s.offs = 0 → (nodeB src && nodeB to && (src != to)) = true → 1024 < used.length → TakeR s f used src to zeroC 8
  | full : formB s = true → chkS f s.len s.offs = 0 → (nodeB src && nodeB to && (src != to)) = true → used.length ≤ 1024 → noneB (canT s f used src to) s.offs.toNat s.len.toNat 0 → TakeR s f used src to zeroC 13
  | at_ (a b : Nat) : formB s = true → chkS f s.len s.offs = 0 → (nodeB src && nodeB to && (src != to)) = true → used.length ≤ 1024 → (a : Int) < s.len → (b : Int) < s.offs → noneB (canT s f used src to) s.offs.toNat a b → canT s f used src to a b = true → TakeR s f used src to ⟨a, b, src, to, 0⟩ 0

theorem chkS_len {f : List Int} {len off : Int} (h : chkS f len off = 0) : (f.length : Int) = len := by
  unfold chkS at h
  split at h
  · cases h
  · split at h
    · cases h
    · rename_i h'; simpa using h'

theorem vresL_d {T : Nat → Option TD} {m : Nat} {t : List (Nat × Val)} {h : Hp} {d d' : List Nat} : ∀ rs, vresL T ⟨m, t, h, d⟩ rs = vresL T ⟨m, t, h, d'⟩ rs
  | [] => rfl
  | r :: rs => by
    have e : vres1 T ⟨m, t, h, d⟩ r = vres1 T ⟨m, t, h, d'⟩ r := by cases r <;> rfl
    simp only [vresL]; rw [e, vresL_d (d' := d') rs]
theorem Fin_d {T : Nat → Option TD} {fn : Func} {h : Hp} {Q : Val → Hp → Prop} {e : Exit} {m : Nat} {t : List (Nat × Val)} {hh : Hp} {d : List Nat} {h2 : Hp} (hd : d.Nodup) (hg : hh.gones d = h2) (hw : Fin T fn h Q e ⟨m, t, h2, []⟩) (hl : List.length h2 ≤ List.length hh := by simp) : Fin T fn h Q e ⟨m, t, hh, d⟩ := by
  subst hg
  obtain ⟨h1, _, r, h', h3, h4, h5, h6, h7, h8⟩ := hw
  have h3' : vres T ⟨m, t, hh.gones d, d⟩ fn.results = some r := by
    rw [← h3]; unfold vres; rw [vresL_d (d' := [])]; rfl
  refine ⟨h1, hd, r, h', h3', h4, ?_, h6, h7, h8⟩
  rw [show List.length hh = List.length (hh.gones d) from (length_gones d hh).symm]; exact h5

theorem f26_at {G} (s : Sch) (h e : Hp) (k : Nat) (hk : List.length e = k) : VCall Tryd.prog G (.fn 26 []) [.agg (schV s)] (h ++ e) (fun r h' => r = .fn 41 [.ptr (List.length h + k) 0] ∧ h' = h ++ (e ++ [.blk (schV s)])) := by
  subst hk
  simpa [List.append_assoc] using f26_ok s (h ++ e)

set_option maxRecDepth 8000 in
theorem f8_ok {G} (hP : PrintOK G) (s : Sch) (f : List Int) (used : List Cell) (src to : Int) (h : Hp) (hl : s.cells.length ≤ 100000) (hf : f.length ≤ 100000) (hu : used.length ≤ 100000) :
    VCall Tryd.prog G (.fn 8 []) [.agg (schV s), .sl 1 (f.map iv), .sl 5 (used.map cellV), .c (.int .i64 src), .c (.int .i64 to)] h (fun r h' => (∃ c e, r = .tup [.agg (cellV c), .c (.int .i64 e)] ∧ TakeR s f used src to c e) ∧ h' = h) := by
  obtain ⟨len, offs, xs⟩ := s
  simp only at hl
  refine VCall_fn' (tdOf_ok _) Tryd.func8 rfl (by rfl) 91 rfl (by simp) (by simp only [ents, List.cons_append, List.nil_append, List.append_nil] <;> rfl) (fun hk ha hc => ?_)
  with_reducible repeat (first | refine n1 ?_ | refine n2 ?_ | refine n3 ?_ | refine n4 ?_ | refine n5 ?_ | refine n6 ?_ | refine n7 rfl ?_ | refine W_seq ?_ | refine W_block ?_ | refine W_skip ?_ | refine W_exit ?_ | refine W_ret ?_)
  refine W_go (by simp only [ev0, ev1, ev2, ev3, ev4, Nat.reduceLT, Nat.reduceLeDiff, Nat.reduceEqDiff, Nat.reduceAdd, Nat.reduceMul, Nat.reduceBEq, reduceCtorEq, alc29, alc30, ld24, ld26, fa24_0, ld3, fa24_1, bld29, sto29, sto30, ld22, len22, fa24_2, bsl64, alc22, sto22, fa29_2, sto3, fa29_3, fa29_0, ix26, fa29_1, ld29, schV] <;> rfl) (Nat.le_of_ble_eq_true rfl) ?_
  refine WL_end ?_
  with_reducible repeat (first | refine n1 ?_ | refine n2 ?_ | refine n3 ?_ | refine n4 ?_ | refine n5 ?_ | refine n6 ?_ | refine n7 rfl ?_ | refine W_seq ?_ | refine W_block ?_ | refine W_skip ?_ | refine W_exit ?_ | refine W_ret ?_)
  refine W_go (by simp only [ev0, ev1, ev2, ev3, ev4, Nat.reduceLT, Nat.reduceLeDiff, Nat.reduceEqDiff, Nat.reduceAdd, Nat.reduceMul, Nat.reduceBEq, reduceCtorEq, alc29, alc30, ld24, ld26, fa24_0, ld3, fa24_1, bld29, sto29, sto30, ld22, len22, fa24_2, bsl64, alc22, sto22, fa29_2, sto3, fa29_3, fa29_0, ix26, fa29_1, ld29] <;> rfl) (Nat.le_of_ble_eq_true rfl) ?_
  refine WL_endk (ks := [5, 6, 7, 8, 9, 10, 11, 12]) (by simp only [ev0, ev4, Nat.reduceEqDiff] <;> rfl) ?_
  with_reducible repeat (first | refine n1 ?_ | refine n2 ?_ | refine n3 ?_ | refine n4 ?_ | refine n5 ?_ | refine n6 ?_ | refine n7 rfl ?_ | refine W_seq ?_ | refine W_block ?_ | refine W_skip ?_ | refine W_exit ?_ | refine W_ret ?_)
  cases h1 : formB ⟨len, offs, xs⟩
  · refine W_go (by simp only [ev0, ev1, ev2, ev3, ev4, Nat.reduceLT, Nat.reduceLeDiff, Nat.reduceEqDiff, Nat.reduceAdd, Nat.reduceMul, Nat.reduceBEq, reduceCtorEq, alc29, alc30, ld24, ld26, fa24_0, ld3, fa24_1, bld29, sto29, sto30, ld22, len22, fa24_2, bsl64, alc22, sto22, fa29_2, sto3, fa29_3, fa29_0, ix26, fa29_1, ld29] <;> rfl) (Nat.le_of_ble_eq_true rfl) ?_
    refine WL_pure (f24_ok hP ⟨len, offs, xs⟩ _ hl) rfl (.inl rfl) (by simp only [ev0, ev1, ev2, ev3, ev4, Nat.reduceLT, Nat.reduceLeDiff, Nat.reduceEqDiff, Nat.reduceAdd, Nat.reduceMul, Nat.reduceBEq, reduceCtorEq, alc29, alc30, ld24, ld26, fa24_0, ld3, fa24_1, bld29, sto29, sto30, ld22, len22, fa24_2, bsl64, alc22, sto22, fa29_2, sto3, fa29_3, fa29_0, ix26, fa29_1, ld29, schV] <;> rfl) (by simp only [ev0, ev1, ev2, ev3, ev4, Nat.reduceLT, Nat.reduceLeDiff, Nat.reduceEqDiff, Nat.reduceAdd, Nat.reduceMul, Nat.reduceBEq, reduceCtorEq, alc29, alc30, ld24, ld26, fa24_0, ld3, fa24_1, bld29, sto29, sto30, ld22, len22, fa24_2, bsl64, alc22, sto22, fa29_2, sto3, fa29_3, fa29_0, ix26, fa29_1, ld29, schV] <;> rfl) rfl (by simp only [ev0, ev1, ev2, ev3, ev4, Nat.reduceLT, Nat.reduceLeDiff, Nat.reduceEqDiff, Nat.reduceAdd, Nat.reduceMul, Nat.reduceBEq, reduceCtorEq, alc29, alc30, ld24, ld26, fa24_0, ld3, fa24_1, bld29, sto29, sto30, ld22, len22, fa24_2, bsl64, alc22, sto22, fa29_2, sto3, fa29_3, fa29_0, ix26, fa29_1, ld29, schV] <;> rfl) ?_
    refine WL_go (by simp only [ev0, ev1, ev2, ev3, ev4, Nat.reduceLT, Nat.reduceLeDiff, Nat.reduceEqDiff, Nat.reduceAdd, Nat.reduceMul, Nat.reduceBEq, reduceCtorEq, alc29, alc30, ld24, ld26, fa24_0, ld3, fa24_1, bld29, sto29, sto30, ld22, len22, fa24_2, bsl64, alc22, sto22, fa29_2, sto3, fa29_3, fa29_0, ix26, fa29_1, ld29, h1, Bool.not_false, Bool.not_true] <;> rfl) (Nat.le_of_ble_eq_true rfl) ?_
    refine WL_endk (ks := [10, 11, 17]) (by simp only [ev0, ev4, Nat.reduceEqDiff] <;> rfl) ?_
    with_reducible repeat (first | refine n1 ?_ | refine n2 ?_ | refine n3 ?_ | refine n4 ?_ | refine n5 ?_ | refine n6 ?_ | refine n7 rfl ?_ | refine W_seq ?_ | refine W_block ?_ | refine W_skip ?_ | refine W_exit ?_ | refine W_ret ?_)
    refine W_true rfl ?_
    with_reducible repeat (first | refine n1 ?_ | refine n2 ?_ | refine n3 ?_ | refine n4 ?_ | refine n5 ?_ | refine n6 ?_ | refine n7 rfl ?_ | refine W_seq ?_ | refine W_block ?_ | refine W_skip ?_ | refine W_exit ?_ | refine W_ret ?_)
    refine W_go (by simp only [ev0, ev1, ev2, ev3, ev4, Nat.reduceLT, Nat.reduceLeDiff, Nat.reduceEqDiff, Nat.reduceAdd, Nat.reduceMul, Nat.reduceBEq, reduceCtorEq, alc29, alc30, ld24, ld26, fa24_0, ld3, fa24_1, bld29, sto29, sto30, ld22, len22, fa24_2, bsl64, alc22, sto22, fa29_2, sto3, fa29_3, fa29_0, ix26, fa29_1, ld29] <;> rfl) (Nat.le_of_ble_eq_true rfl) ?_
    refine WL_endk (ks := [10, 11]) (by simp only [ev0, ev4, Nat.reduceEqDiff] <;> rfl) ?_
    with_reducible repeat (first | refine n1 ?_ | refine n2 ?_ | refine n3 ?_ | refine n4 ?_ | refine n5 ?_ | refine n6 ?_ | refine n7 rfl ?_ | refine W_seq ?_ | refine W_block ?_ | refine W_skip ?_ | refine W_exit ?_ | refine W_ret ?_)
    refine Fin_pure [.blk [.c (.int .i64 len), .c (.int .i64 offs), .sl 5 (xs.map cellV)], .blk [.sl 1 (f.map iv)], .blk [.sl 5 (used.map cellV)], .blk (iv src), .blk (iv to), .blk [.c (.int .i64 0), .c (.int .i64 0), .c (.int .i64 0), .c (.int .i64 0), .c (.int .i64 0)], .blk (iv 1)] _ (by first | exact .inl rfl | exact .inr rfl) rfl (by simp only [Tryd.results8, vres, vresL, vres1, one_, vload_eq, Option.map_some, ev0, ev3, ev4, Nat.reduceEqDiff, Nat.reduceAdd, Nat.reduceLeDiff, td29, td30, iv] <;> rfl) rfl (by simp only [one_, rf_c, rf_any, rf_sl, rf_ptr, rf_fn, rf_agg, rf_tup, rf, List.map_cons, List.map_nil, td29, td30, iv] <;> rfl) hk (by simp) ?_
    exact ⟨⟨zeroC, 1, by simp [zeroC, cellV], .arg (.inl h1)⟩, rfl⟩
  cases h2 : chkS f len offs == 0
  · have h2' : (chkS f len offs != 0) = true := by simpa using h2
    have h2n : chkS f len offs ≠ 0 := by simpa using h2
    refine W_go (by simp only [ev0, ev1, ev2, ev3, ev4, Nat.reduceLT, Nat.reduceLeDiff, Nat.reduceEqDiff, Nat.reduceAdd, Nat.reduceMul, Nat.reduceBEq, reduceCtorEq, alc29, alc30, ld24, ld26, fa24_0, ld3, fa24_1, bld29, sto29, sto30, ld22, len22, fa24_2, bsl64, alc22, sto22, fa29_2, sto3, fa29_3, fa29_0, ix26, fa29_1, ld29] <;> rfl) (Nat.le_of_ble_eq_true rfl) ?_
    refine WL_pure (f24_ok hP ⟨len, offs, xs⟩ _ hl) rfl (.inl rfl) (by simp only [ev0, ev1, ev2, ev3, ev4, Nat.reduceLT, Nat.reduceLeDiff, Nat.reduceEqDiff, Nat.reduceAdd, Nat.reduceMul, Nat.reduceBEq, reduceCtorEq, alc29, alc30, ld24, ld26, fa24_0, ld3, fa24_1, bld29, sto29, sto30, ld22, len22, fa24_2, bsl64, alc22, sto22, fa29_2, sto3, fa29_3, fa29_0, ix26, fa29_1, ld29, schV] <;> rfl) (by simp only [ev0, ev1, ev2, ev3, ev4, Nat.reduceLT, Nat.reduceLeDiff, Nat.reduceEqDiff, Nat.reduceAdd, Nat.reduceMul, Nat.reduceBEq, reduceCtorEq, alc29, alc30, ld24, ld26, fa24_0, ld3, fa24_1, bld29, sto29, sto30, ld22, len22, fa24_2, bsl64, alc22, sto22, fa29_2, sto3, fa29_3, fa29_0, ix26, fa29_1, ld29, schV] <;> rfl) rfl (by simp only [ev0, ev1, ev2, ev3, ev4, Nat.reduceLT, Nat.reduceLeDiff, Nat.reduceEqDiff, Nat.reduceAdd, Nat.reduceMul, Nat.reduceBEq, reduceCtorEq, alc29, alc30, ld24, ld26, fa24_0, ld3, fa24_1, bld29, sto29, sto30, ld22, len22, fa24_2, bsl64, alc22, sto22, fa29_2, sto3, fa29_3, fa29_0, ix26, fa29_1, ld29, schV] <;> rfl) ?_
    refine WL_go (by simp only [ev0, ev1, ev2, ev3, ev4, Nat.reduceLT, Nat.reduceLeDiff, Nat.reduceEqDiff, Nat.reduceAdd, Nat.reduceMul, Nat.reduceBEq, reduceCtorEq, alc29, alc30, ld24, ld26, fa24_0, ld3, fa24_1, bld29, sto29, sto30, ld22, len22, fa24_2, bsl64, alc22, sto22, fa29_2, sto3, fa29_3, fa29_0, ix26, fa29_1, ld29, h1, Bool.not_false, Bool.not_true] <;> rfl) (Nat.le_of_ble_eq_true rfl) ?_
    refine WL_pure (f11_ok f len offs _ (by omega)) rfl (Wants_at (j := 3) rfl rfl (by simp only [ev0, ev1, ev2, ev3, ev4, Nat.reduceLT, Nat.reduceLeDiff, Nat.reduceEqDiff, Nat.reduceAdd, Nat.reduceMul, Nat.reduceBEq, reduceCtorEq, alc29, alc30, ld24, ld26, fa24_0, ld3, fa24_1, bld29, sto29, sto30, ld22, len22, fa24_2, bsl64, alc22, sto22, fa29_2, sto3, fa29_3, fa29_0, ix26, fa29_1, ld29, h1, Bool.not_false, Bool.not_true] <;> rfl)) (by simp only [ev0, ev1, ev2, ev3, ev4, Nat.reduceLT, Nat.reduceLeDiff, Nat.reduceEqDiff, Nat.reduceAdd, Nat.reduceMul, Nat.reduceBEq, reduceCtorEq, alc29, alc30, ld24, ld26, fa24_0, ld3, fa24_1, bld29, sto29, sto30, ld22, len22, fa24_2, bsl64, alc22, sto22, fa29_2, sto3, fa29_3, fa29_0, ix26, fa29_1, ld29, h1, Bool.not_false, Bool.not_true] <;> rfl) (by simp only [ev0, ev1, ev2, ev3, ev4, Nat.reduceLT, Nat.reduceLeDiff, Nat.reduceEqDiff, Nat.reduceAdd, Nat.reduceMul, Nat.reduceBEq, reduceCtorEq, alc29, alc30, ld24, ld26, fa24_0, ld3, fa24_1, bld29, sto29, sto30, ld22, len22, fa24_2, bsl64, alc22, sto22, fa29_2, sto3, fa29_3, fa29_0, ix26, fa29_1, ld29, h1, Bool.not_false, Bool.not_true] <;> rfl) rfl (by simp only [ev0, ev1, ev2, ev3, ev4, Nat.reduceLT, Nat.reduceLeDiff, Nat.reduceEqDiff, Nat.reduceAdd, Nat.reduceMul, Nat.reduceBEq, reduceCtorEq, alc29, alc30, ld24, ld26, fa24_0, ld3, fa24_1, bld29, sto29, sto30, ld22, len22, fa24_2, bsl64, alc22, sto22, fa29_2, sto3, fa29_3, fa29_0, ix26, fa29_1, ld29, h1, Bool.not_false, Bool.not_true] <;> rfl) ?_
    refine WL_go (by simp only [ev0, ev1, ev2, ev3, ev4, Nat.reduceLT, Nat.reduceLeDiff, Nat.reduceEqDiff, Nat.reduceAdd, Nat.reduceMul, Nat.reduceBEq, reduceCtorEq, alc29, alc30, ld24, ld26, fa24_0, ld3, fa24_1, bld29, sto29, sto30, ld22, len22, fa24_2, bsl64, alc22, sto22, fa29_2, sto3, fa29_3, fa29_0, ix26, fa29_1, ld29, h1, h2', Bool.not_false, Bool.not_true] <;> rfl) (Nat.le_of_ble_eq_true rfl) ?_
    refine WL_endk (ks := [10, 11, 17]) (by simp only [ev0, ev4, Nat.reduceEqDiff] <;> rfl) ?_
    with_reducible repeat (first | refine n1 ?_ | refine n2 ?_ | refine n3 ?_ | refine n4 ?_ | refine n5 ?_ | refine n6 ?_ | refine n7 rfl ?_ | refine W_seq ?_ | refine W_block ?_ | refine W_skip ?_ | refine W_exit ?_ | refine W_ret ?_)
    refine W_true rfl ?_
    with_reducible repeat (first | refine n1 ?_ | refine n2 ?_ | refine n3 ?_ | refine n4 ?_ | refine n5 ?_ | refine n6 ?_ | refine n7 rfl ?_ | refine W_seq ?_ | refine W_block ?_ | refine W_skip ?_ | refine W_exit ?_ | refine W_ret ?_)
    refine W_go (by simp only [ev0, ev1, ev2, ev3, ev4, Nat.reduceLT, Nat.reduceLeDiff, Nat.reduceEqDiff, Nat.reduceAdd, Nat.reduceMul, Nat.reduceBEq, reduceCtorEq, alc29, alc30, ld24, ld26, fa24_0, ld3, fa24_1, bld29, sto29, sto30, ld22, len22, fa24_2, bsl64, alc22, sto22, fa29_2, sto3, fa29_3, fa29_0, ix26, fa29_1, ld29] <;> rfl) (Nat.le_of_ble_eq_true rfl) ?_
    refine WL_endk (ks := [10, 11]) (by simp only [ev0, ev4, Nat.reduceEqDiff] <;> rfl) ?_
    with_reducible repeat (first | refine n1 ?_ | refine n2 ?_ | refine n3 ?_ | refine n4 ?_ | refine n5 ?_ | refine n6 ?_ | refine n7 rfl ?_ | refine W_seq ?_ | refine W_block ?_ | refine W_skip ?_ | refine W_exit ?_ | refine W_ret ?_)
    refine Fin_pure [.blk [.c (.int .i64 len), .c (.int .i64 offs), .sl 5 (xs.map cellV)], .blk [.sl 1 (f.map iv)], .blk [.sl 5 (used.map cellV)], .blk (iv src), .blk (iv to), .blk [.c (.int .i64 0), .c (.int .i64 0), .c (.int .i64 0), .c (.int .i64 0), .c (.int .i64 0)], .blk (iv 1)] _ (by first | exact .inl rfl | exact .inr rfl) rfl (by simp only [Tryd.results8, vres, vresL, vres1, one_, vload_eq, Option.map_some, ev0, ev3, ev4, Nat.reduceEqDiff, Nat.reduceAdd, Nat.reduceLeDiff, td29, td30, iv] <;> rfl) rfl (by simp only [one_, rf_c, rf_any, rf_sl, rf_ptr, rf_fn, rf_agg, rf_tup, rf, List.map_cons, List.map_nil, td29, td30, iv] <;> rfl) hk (by simp) ?_
    exact ⟨⟨zeroC, 1, by simp [zeroC, cellV], .arg (.inr h2n)⟩, rfl⟩
  have h2' : (chkS f len offs != 0) = false := by simpa using h2
  have h2n : chkS f len offs = 0 := by simpa using h2
  refine W_go (by simp only [ev0, ev1, ev2, ev3, ev4, Nat.reduceLT, Nat.reduceLeDiff, Nat.reduceEqDiff, Nat.reduceAdd, Nat.reduceMul, Nat.reduceBEq, reduceCtorEq, alc29, alc30, ld24, ld26, fa24_0, ld3, fa24_1, bld29, sto29, sto30, ld22, len22, fa24_2, bsl64, alc22, sto22, fa29_2, sto3, fa29_3, fa29_0, ix26, fa29_1, ld29] <;> rfl) (Nat.le_of_ble_eq_true rfl) ?_
  refine WL_pure (f24_ok hP ⟨len, offs, xs⟩ _ hl) rfl (.inl rfl) (by simp only [ev0, ev1, ev2, ev3, ev4, Nat.reduceLT, Nat.reduceLeDiff, Nat.reduceEqDiff, Nat.reduceAdd, Nat.reduceMul, Nat.reduceBEq, reduceCtorEq, alc29, alc30, ld24, ld26, fa24_0, ld3, fa24_1, bld29, sto29, sto30, ld22, len22, fa24_2, bsl64, alc22, sto22, fa29_2, sto3, fa29_3, fa29_0, ix26, fa29_1, ld29, schV] <;> rfl) (by simp only [ev0, ev1, ev2, ev3, ev4, Nat.reduceLT, Nat.reduceLeDiff, Nat.reduceEqDiff, Nat.reduceAdd, Nat.reduceMul, Nat.reduceBEq, reduceCtorEq, alc29, alc30, ld24, ld26, fa24_0, ld3, fa24_1, bld29, sto29, sto30, ld22, len22, fa24_2, bsl64, alc22, sto22, fa29_2, sto3, fa29_3, fa29_0, ix26, fa29_1, ld29, schV] <;> rfl) rfl (by simp only [ev0, ev1, ev2, ev3, ev4, Nat.reduceLT, Nat.reduceLeDiff, Nat.reduceEqDiff, Nat.reduceAdd, Nat.reduceMul, Nat.reduceBEq, reduceCtorEq, alc29, alc30, ld24, ld26, fa24_0, ld3, fa24_1, bld29, sto29, sto30, ld22, len22, fa24_2, bsl64, alc22, sto22, fa29_2, sto3, fa29_3, fa29_0, ix26, fa29_1, ld29, schV] <;> rfl) ?_
  refine WL_go (by simp only [ev0, ev1, ev2, ev3, ev4, Nat.reduceLT, Nat.reduceLeDiff, Nat.reduceEqDiff, Nat.reduceAdd, Nat.reduceMul, Nat.reduceBEq, reduceCtorEq, alc29, alc30, ld24, ld26, fa24_0, ld3, fa24_1, bld29, sto29, sto30, ld22, len22, fa24_2, bsl64, alc22, sto22, fa29_2, sto3, fa29_3, fa29_0, ix26, fa29_1, ld29, h1, Bool.not_false, Bool.not_true] <;> rfl) (Nat.le_of_ble_eq_true rfl) ?_
  refine WL_pure (f11_ok f len offs _ (by omega)) rfl (Wants_at (j := 3) rfl rfl (by simp only [ev0, ev1, ev2, ev3, ev4, Nat.reduceLT, Nat.reduceLeDiff, Nat.reduceEqDiff, Nat.reduceAdd, Nat.reduceMul, Nat.reduceBEq, reduceCtorEq, alc29, alc30, ld24, ld26, fa24_0, ld3, fa24_1, bld29, sto29, sto30, ld22, len22, fa24_2, bsl64, alc22, sto22, fa29_2, sto3, fa29_3, fa29_0, ix26, fa29_1, ld29, h1, Bool.not_false, Bool.not_true] <;> rfl)) (by simp only [ev0, ev1, ev2, ev3, ev4, Nat.reduceLT, Nat.reduceLeDiff, Nat.reduceEqDiff, Nat.reduceAdd, Nat.reduceMul, Nat.reduceBEq, reduceCtorEq, alc29, alc30, ld24, ld26, fa24_0, ld3, fa24_1, bld29, sto29, sto30, ld22, len22, fa24_2, bsl64, alc22, sto22, fa29_2, sto3, fa29_3, fa29_0, ix26, fa29_1, ld29, h1, Bool.not_false, Bool.not_true] <;> rfl) (by simp only [ev0, ev1, ev2, ev3, ev4, Nat.reduceLT, Nat.reduceLeDiff, Nat.reduceEqDiff, Nat.reduceAdd, Nat.reduceMul, Nat.reduceBEq, reduceCtorEq, alc29, alc30, ld24, ld26, fa24_0, ld3, fa24_1, bld29, sto29, sto30, ld22, len22, fa24_2, bsl64, alc22, sto22, fa29_2, sto3, fa29_3, fa29_0, ix26, fa29_1, ld29, h1, Bool.not_false, Bool.not_true] <;> rfl) rfl (by simp only [ev0, ev1, ev2, ev3, ev4, Nat.reduceLT, Nat.reduceLeDiff, Nat.reduceEqDiff, Nat.reduceAdd, Nat.reduceMul, Nat.reduceBEq, reduceCtorEq, alc29, alc30, ld24, ld26, fa24_0, ld3, fa24_1, bld29, sto29, sto30, ld22, len22, fa24_2, bsl64, alc22, sto22, fa29_2, sto3, fa29_3, fa29_0, ix26, fa29_1, ld29, h1, Bool.not_false, Bool.not_true] <;> rfl) ?_
  refine WL_go (by simp only [ev0, ev1, ev2, ev3, ev4, Nat.reduceLT, Nat.reduceLeDiff, Nat.reduceEqDiff, Nat.reduceAdd, Nat.reduceMul, Nat.reduceBEq, reduceCtorEq, alc29, alc30, ld24, ld26, fa24_0, ld3, fa24_1, bld29, sto29, sto30, ld22, len22, fa24_2, bsl64, alc22, sto22, fa29_2, sto3, fa29_3, fa29_0, ix26, fa29_1, ld29, h1, h2', Bool.not_false, Bool.not_true] <;> rfl) (Nat.le_of_ble_eq_true rfl) ?_
  refine WL_endk (ks := [5, 6, 7, 8, 9, 10, 11, 12, 17]) (by simp only [ev0, ev4, Nat.reduceEqDiff] <;> rfl) ?_
  with_reducible repeat (first | refine n1 ?_ | refine n2 ?_ | refine n3 ?_ | refine n4 ?_ | refine n5 ?_ | refine n6 ?_ | refine n7 rfl ?_ | refine W_seq ?_ | refine W_block ?_ | refine W_skip ?_ | refine W_exit ?_ | refine W_ret ?_)
  refine W_false rfl ?_
  with_reducible repeat (first | refine n1 ?_ | refine n2 ?_ | refine n3 ?_ | refine n4 ?_ | refine n5 ?_ | refine n6 ?_ | refine n7 rfl ?_ | refine W_seq ?_ | refine W_block ?_ | refine W_skip ?_ | refine W_exit ?_ | refine W_ret ?_)
  have h3 : (nodeB src = false ∧ True ∧ True) ∨ (nodeB src = true ∧ nodeB to = false ∧ True) ∨ (nodeB src = true ∧ nodeB to = true ∧ (src == to) = true) ∨ (nodeB src = true ∧ nodeB to = true ∧ (src == to) = false) := by
    generalize nodeB src = a; generalize nodeB to = b; generalize (src == to) = c
    cases a <;> cases b <;> cases c <;> simp
  obtain ⟨h3, h4, h5⟩ | ⟨h3, h4, h5⟩ | ⟨h3, h4, h5⟩ | ⟨h3, h4, h5⟩ := h3
  · have h3' := h3
    have h4' := h4
    simp only [nodeB] at h3' h4'
    refine W_go (by simp only [ev0, ev1, ev2, ev3, ev4, Nat.reduceLT, Nat.reduceLeDiff, Nat.reduceEqDiff, Nat.reduceAdd, Nat.reduceMul, Nat.reduceBEq, reduceCtorEq, alc29, alc30, ld24, ld26, fa24_0, ld3, fa24_1, bld29, sto29, sto30, ld22, len22, fa24_2, bsl64, alc22, sto22, fa29_2, sto3, fa29_3, fa29_0, ix26, fa29_1, ld29, iv] <;> rfl) (Nat.le_of_ble_eq_true rfl) ?_
    refine WL_pure (f23_ok src _) rfl (.inl rfl) (by simp only [ev0, ev1, ev2, ev3, ev4, Nat.reduceLT, Nat.reduceLeDiff, Nat.reduceEqDiff, Nat.reduceAdd, Nat.reduceMul, Nat.reduceBEq, reduceCtorEq, alc29, alc30, ld24, ld26, fa24_0, ld3, fa24_1, bld29, sto29, sto30, ld22, len22, fa24_2, bsl64, alc22, sto22, fa29_2, sto3, fa29_3, fa29_0, ix26, fa29_1, ld29] <;> rfl) (by simp only [ev0, ev1, ev2, ev3, ev4, Nat.reduceLT, Nat.reduceLeDiff, Nat.reduceEqDiff, Nat.reduceAdd, Nat.reduceMul, Nat.reduceBEq, reduceCtorEq, alc29, alc30, ld24, ld26, fa24_0, ld3, fa24_1, bld29, sto29, sto30, ld22, len22, fa24_2, bsl64, alc22, sto22, fa29_2, sto3, fa29_3, fa29_0, ix26, fa29_1, ld29] <;> rfl) rfl (by simp only [ev0, ev1, ev2, ev3, ev4, Nat.reduceLT, Nat.reduceLeDiff, Nat.reduceEqDiff, Nat.reduceAdd, Nat.reduceMul, Nat.reduceBEq, reduceCtorEq, alc29, alc30, ld24, ld26, fa24_0, ld3, fa24_1, bld29, sto29, sto30, ld22, len22, fa24_2, bsl64, alc22, sto22, fa29_2, sto3, fa29_3, fa29_0, ix26, fa29_1, ld29] <;> rfl) ?_
    refine WL_go (by simp only [ev0, ev1, ev2, ev3, ev4, Nat.reduceLT, Nat.reduceLeDiff, Nat.reduceEqDiff, Nat.reduceAdd, Nat.reduceMul, Nat.reduceBEq, reduceCtorEq, alc29, alc30, ld24, ld26, fa24_0, ld3, fa24_1, bld29, sto29, sto30, ld22, len22, fa24_2, bsl64, alc22, sto22, fa29_2, sto3, fa29_3, fa29_0, ix26, fa29_1, ld29, h3', Bool.not_false, Bool.not_true] <;> rfl) (Nat.le_of_ble_eq_true rfl) ?_
    refine WL_endk (ks := [10, 11, 31]) (by simp only [ev0, ev4, Nat.reduceEqDiff] <;> rfl) ?_
    with_reducible repeat (first | refine n1 ?_ | refine n2 ?_ | refine n3 ?_ | refine n4 ?_ | refine n5 ?_ | refine n6 ?_ | refine n7 rfl ?_ | refine W_seq ?_ | refine W_block ?_ | refine W_skip ?_ | refine W_exit ?_ | refine W_ret ?_)
    refine W_true rfl ?_
    with_reducible repeat (first | refine n1 ?_ | refine n2 ?_ | refine n3 ?_ | refine n4 ?_ | refine n5 ?_ | refine n6 ?_ | refine n7 rfl ?_ | refine W_seq ?_ | refine W_block ?_ | refine W_skip ?_ | refine W_exit ?_ | refine W_ret ?_)
    refine W_go (by simp only [ev0, ev1, ev2, ev3, ev4, Nat.reduceLT, Nat.reduceLeDiff, Nat.reduceEqDiff, Nat.reduceAdd, Nat.reduceMul, Nat.reduceBEq, reduceCtorEq, alc29, alc30, ld24, ld26, fa24_0, ld3, fa24_1, bld29, sto29, sto30, ld22, len22, fa24_2, bsl64, alc22, sto22, fa29_2, sto3, fa29_3, fa29_0, ix26, fa29_1, ld29] <;> rfl) (Nat.le_of_ble_eq_true rfl) ?_
    refine WL_endk (ks := [10, 11]) (by simp only [ev0, ev4, Nat.reduceEqDiff] <;> rfl) ?_
    with_reducible repeat (first | refine n1 ?_ | refine n2 ?_ | refine n3 ?_ | refine n4 ?_ | refine n5 ?_ | refine n6 ?_ | refine n7 rfl ?_ | refine W_seq ?_ | refine W_block ?_ | refine W_skip ?_ | refine W_exit ?_ | refine W_ret ?_)
    refine Fin_pure [.blk [.c (.int .i64 len), .c (.int .i64 offs), .sl 5 (xs.map cellV)], .blk [.sl 1 (f.map iv)], .blk [.sl 5 (used.map cellV)], .blk (iv src), .blk (iv to), .blk [.c (.int .i64 0), .c (.int .i64 0), .c (.int .i64 0), .c (.int .i64 0), .c (.int .i64 0)], .blk (iv 2)] _ (by first | exact .inl rfl | exact .inr rfl) rfl (by simp only [Tryd.results8, vres, vresL, vres1, one_, vload_eq, Option.map_some, ev0, ev3, ev4, Nat.reduceEqDiff, Nat.reduceAdd, Nat.reduceLeDiff, td29, td30, iv] <;> rfl) rfl (by simp only [one_, rf_c, rf_any, rf_sl, rf_ptr, rf_fn, rf_agg, rf_tup, rf, List.map_cons, List.map_nil, td29, td30, iv] <;> rfl) hk (by simp) ?_
    exact ⟨⟨zeroC, 2, by simp [zeroC, cellV], .range h1 h2n (by simp [h3])⟩, rfl⟩
  · have h3' := h3
    have h4' := h4
    simp only [nodeB] at h3' h4'
    refine W_go (by simp only [ev0, ev1, ev2, ev3, ev4, Nat.reduceLT, Nat.reduceLeDiff, Nat.reduceEqDiff, Nat.reduceAdd, Nat.reduceMul, Nat.reduceBEq, reduceCtorEq, alc29, alc30, ld24, ld26, fa24_0, ld3, fa24_1, bld29, sto29, sto30, ld22, len22, fa24_2, bsl64, alc22, sto22, fa29_2, sto3, fa29_3, fa29_0, ix26, fa29_1, ld29, iv] <;> rfl) (Nat.le_of_ble_eq_true rfl) ?_
    refine WL_pure (f23_ok src _) rfl (.inl rfl) (by simp only [ev0, ev1, ev2, ev3, ev4, Nat.reduceLT, Nat.reduceLeDiff, Nat.reduceEqDiff, Nat.reduceAdd, Nat.reduceMul, Nat.reduceBEq, reduceCtorEq, alc29, alc30, ld24, ld26, fa24_0, ld3, fa24_1, bld29, sto29, sto30, ld22, len22, fa24_2, bsl64, alc22, sto22, fa29_2, sto3, fa29_3, fa29_0, ix26, fa29_1, ld29] <;> rfl) (by simp only [ev0, ev1, ev2, ev3, ev4, Nat.reduceLT, Nat.reduceLeDiff, Nat.reduceEqDiff, Nat.reduceAdd, Nat.reduceMul, Nat.reduceBEq, reduceCtorEq, alc29, alc30, ld24, ld26, fa24_0, ld3, fa24_1, bld29, sto29, sto30, ld22, len22, fa24_2, bsl64, alc22, sto22, fa29_2, sto3, fa29_3, fa29_0, ix26, fa29_1, ld29] <;> rfl) rfl (by simp only [ev0, ev1, ev2, ev3, ev4, Nat.reduceLT, Nat.reduceLeDiff, Nat.reduceEqDiff, Nat.reduceAdd, Nat.reduceMul, Nat.reduceBEq, reduceCtorEq, alc29, alc30, ld24, ld26, fa24_0, ld3, fa24_1, bld29, sto29, sto30, ld22, len22, fa24_2, bsl64, alc22, sto22, fa29_2, sto3, fa29_3, fa29_0, ix26, fa29_1, ld29] <;> rfl) ?_
    refine WL_go (by simp only [ev0, ev1, ev2, ev3, ev4, Nat.reduceLT, Nat.reduceLeDiff, Nat.reduceEqDiff, Nat.reduceAdd, Nat.reduceMul, Nat.reduceBEq, reduceCtorEq, alc29, alc30, ld24, ld26, fa24_0, ld3, fa24_1, bld29, sto29, sto30, ld22, len22, fa24_2, bsl64, alc22, sto22, fa29_2, sto3, fa29_3, fa29_0, ix26, fa29_1, ld29, h3', Bool.not_false, Bool.not_true] <;> rfl) (Nat.le_of_ble_eq_true rfl) ?_
    refine WL_pure (f23_ok to _) rfl (Wants_at (j := 4) rfl rfl (by simp only [ev0, ev1, ev2, ev3, ev4, Nat.reduceLT, Nat.reduceLeDiff, Nat.reduceEqDiff, Nat.reduceAdd, Nat.reduceMul, Nat.reduceBEq, reduceCtorEq, alc29, alc30, ld24, ld26, fa24_0, ld3, fa24_1, bld29, sto29, sto30, ld22, len22, fa24_2, bsl64, alc22, sto22, fa29_2, sto3, fa29_3, fa29_0, ix26, fa29_1, ld29, h3', Bool.not_false, Bool.not_true] <;> rfl)) (by simp only [ev0, ev1, ev2, ev3, ev4, Nat.reduceLT, Nat.reduceLeDiff, Nat.reduceEqDiff, Nat.reduceAdd, Nat.reduceMul, Nat.reduceBEq, reduceCtorEq, alc29, alc30, ld24, ld26, fa24_0, ld3, fa24_1, bld29, sto29, sto30, ld22, len22, fa24_2, bsl64, alc22, sto22, fa29_2, sto3, fa29_3, fa29_0, ix26, fa29_1, ld29, h3', Bool.not_false, Bool.not_true] <;> rfl) (by simp only [ev0, ev1, ev2, ev3, ev4, Nat.reduceLT, Nat.reduceLeDiff, Nat.reduceEqDiff, Nat.reduceAdd, Nat.reduceMul, Nat.reduceBEq, reduceCtorEq, alc29, alc30, ld24, ld26, fa24_0, ld3, fa24_1, bld29, sto29, sto30, ld22, len22, fa24_2, bsl64, alc22, sto22, fa29_2, sto3, fa29_3, fa29_0, ix26, fa29_1, ld29, h3', Bool.not_false, Bool.not_true] <;> rfl) rfl (by simp only [ev0, ev1, ev2, ev3, ev4, Nat.reduceLT, Nat.reduceLeDiff, Nat.reduceEqDiff, Nat.reduceAdd, Nat.reduceMul, Nat.reduceBEq, reduceCtorEq, alc29, alc30, ld24, ld26, fa24_0, ld3, fa24_1, bld29, sto29, sto30, ld22, len22, fa24_2, bsl64, alc22, sto22, fa29_2, sto3, fa29_3, fa29_0, ix26, fa29_1, ld29, h3', Bool.not_false, Bool.not_true] <;> rfl) ?_
    refine WL_go (by simp only [ev0, ev1, ev2, ev3, ev4, Nat.reduceLT, Nat.reduceLeDiff, Nat.reduceEqDiff, Nat.reduceAdd, Nat.reduceMul, Nat.reduceBEq, reduceCtorEq, alc29, alc30, ld24, ld26, fa24_0, ld3, fa24_1, bld29, sto29, sto30, ld22, len22, fa24_2, bsl64, alc22, sto22, fa29_2, sto3, fa29_3, fa29_0, ix26, fa29_1, ld29, h3', Bool.not_false, Bool.not_true, h4'] <;> rfl) (Nat.le_of_ble_eq_true rfl) ?_
    refine WL_endk (ks := [10, 11, 31]) (by simp only [ev0, ev4, Nat.reduceEqDiff] <;> rfl) ?_
    with_reducible repeat (first | refine n1 ?_ | refine n2 ?_ | refine n3 ?_ | refine n4 ?_ | refine n5 ?_ | refine n6 ?_ | refine n7 rfl ?_ | refine W_seq ?_ | refine W_block ?_ | refine W_skip ?_ | refine W_exit ?_ | refine W_ret ?_)
    refine W_true rfl ?_
    with_reducible repeat (first | refine n1 ?_ | refine n2 ?_ | refine n3 ?_ | refine n4 ?_ | refine n5 ?_ | refine n6 ?_ | refine n7 rfl ?_ | refine W_seq ?_ | refine W_block ?_ | refine W_skip ?_ | refine W_exit ?_ | refine W_ret ?_)
    refine W_go (by simp only [ev0, ev1, ev2, ev3, ev4, Nat.reduceLT, Nat.reduceLeDiff, Nat.reduceEqDiff, Nat.reduceAdd, Nat.reduceMul, Nat.reduceBEq, reduceCtorEq, alc29, alc30, ld24, ld26, fa24_0, ld3, fa24_1, bld29, sto29, sto30, ld22, len22, fa24_2, bsl64, alc22, sto22, fa29_2, sto3, fa29_3, fa29_0, ix26, fa29_1, ld29] <;> rfl) (Nat.le_of_ble_eq_true rfl) ?_
    refine WL_endk (ks := [10, 11]) (by simp only [ev0, ev4, Nat.reduceEqDiff] <;> rfl) ?_
    with_reducible repeat (first | refine n1 ?_ | refine n2 ?_ | refine n3 ?_ | refine n4 ?_ | refine n5 ?_ | refine n6 ?_ | refine n7 rfl ?_ | refine W_seq ?_ | refine W_block ?_ | refine W_skip ?_ | refine W_exit ?_ | refine W_ret ?_)
    refine Fin_pure [.blk [.c (.int .i64 len), .c (.int .i64 offs), .sl 5 (xs.map cellV)], .blk [.sl 1 (f.map iv)], .blk [.sl 5 (used.map cellV)], .blk (iv src), .blk (iv to), .blk [.c (.int .i64 0), .c (.int .i64 0), .c (.int .i64 0), .c (.int .i64 0), .c (.int .i64 0)], .blk (iv 2)] _ (by first | exact .inl rfl | exact .inr rfl) rfl (by simp only [Tryd.results8, vres, vresL, vres1, one_, vload_eq, Option.map_some, ev0, ev3, ev4, Nat.reduceEqDiff, Nat.reduceAdd, Nat.reduceLeDiff, td29, td30, iv] <;> rfl) rfl (by simp only [one_, rf_c, rf_any, rf_sl, rf_ptr, rf_fn, rf_agg, rf_tup, rf, List.map_cons, List.map_nil, td29, td30, iv] <;> rfl) hk (by simp) ?_
    exact ⟨⟨zeroC, 2, by simp [zeroC, cellV], .range h1 h2n (by simp [h3, h4])⟩, rfl⟩
  · have h3' := h3
    have h4' := h4
    simp only [nodeB] at h3' h4'
    refine W_go (by simp only [ev0, ev1, ev2, ev3, ev4, Nat.reduceLT, Nat.reduceLeDiff, Nat.reduceEqDiff, Nat.reduceAdd, Nat.reduceMul, Nat.reduceBEq, reduceCtorEq, alc29, alc30, ld24, ld26, fa24_0, ld3, fa24_1, bld29, sto29, sto30, ld22, len22, fa24_2, bsl64, alc22, sto22, fa29_2, sto3, fa29_3, fa29_0, ix26, fa29_1, ld29, iv] <;> rfl) (Nat.le_of_ble_eq_true rfl) ?_
    refine WL_pure (f23_ok src _) rfl (.inl rfl) (by simp only [ev0, ev1, ev2, ev3, ev4, Nat.reduceLT, Nat.reduceLeDiff, Nat.reduceEqDiff, Nat.reduceAdd, Nat.reduceMul, Nat.reduceBEq, reduceCtorEq, alc29, alc30, ld24, ld26, fa24_0, ld3, fa24_1, bld29, sto29, sto30, ld22, len22, fa24_2, bsl64, alc22, sto22, fa29_2, sto3, fa29_3, fa29_0, ix26, fa29_1, ld29] <;> rfl) (by simp only [ev0, ev1, ev2, ev3, ev4, Nat.reduceLT, Nat.reduceLeDiff, Nat.reduceEqDiff, Nat.reduceAdd, Nat.reduceMul, Nat.reduceBEq, reduceCtorEq, alc29, alc30, ld24, ld26, fa24_0, ld3, fa24_1, bld29, sto29, sto30, ld22, len22, fa24_2, bsl64, alc22, sto22, fa29_2, sto3, fa29_3, fa29_0, ix26, fa29_1, ld29] <;> rfl) rfl (by simp only [ev0, ev1, ev2, ev3, ev4, Nat.reduceLT, Nat.reduceLeDiff, Nat.reduceEqDiff, Nat.reduceAdd, Nat.reduceMul, Nat.reduceBEq, reduceCtorEq, alc29, alc30, ld24, ld26, fa24_0, ld3, fa24_1, bld29, sto29, sto30, ld22, len22, fa24_2, bsl64, alc22, sto22, fa29_2, sto3, fa29_3, fa29_0, ix26, fa29_1, ld29] <;> rfl) ?_
    refine WL_go (by simp only [ev0, ev1, ev2, ev3, ev4, Nat.reduceLT, Nat.reduceLeDiff, Nat.reduceEqDiff, Nat.reduceAdd, Nat.reduceMul, Nat.reduceBEq, reduceCtorEq, alc29, alc30, ld24, ld26, fa24_0, ld3, fa24_1, bld29, sto29, sto30, ld22, len22, fa24_2, bsl64, alc22, sto22, fa29_2, sto3, fa29_3, fa29_0, ix26, fa29_1, ld29, h3', Bool.not_false, Bool.not_true] <;> rfl) (Nat.le_of_ble_eq_true rfl) ?_
    refine WL_pure (f23_ok to _) rfl (Wants_at (j := 4) rfl rfl (by simp only [ev0, ev1, ev2, ev3, ev4, Nat.reduceLT, Nat.reduceLeDiff, Nat.reduceEqDiff, Nat.reduceAdd, Nat.reduceMul, Nat.reduceBEq, reduceCtorEq, alc29, alc30, ld24, ld26, fa24_0, ld3, fa24_1, bld29, sto29, sto30, ld22, len22, fa24_2, bsl64, alc22, sto22, fa29_2, sto3, fa29_3, fa29_0, ix26, fa29_1, ld29, h3', Bool.not_false, Bool.not_true] <;> rfl)) (by simp only [ev0, ev1, ev2, ev3, ev4, Nat.reduceLT, Nat.reduceLeDiff, Nat.reduceEqDiff, Nat.reduceAdd, Nat.reduceMul, Nat.reduceBEq, reduceCtorEq, alc29, alc30, ld24, ld26, fa24_0, ld3, fa24_1, bld29, sto29, sto30, ld22, len22, fa24_2, bsl64, alc22, sto22, fa29_2, sto3, fa29_3, fa29_0, ix26, fa29_1, ld29, h3', Bool.not_false, Bool.not_true] <;> rfl) (by simp only [ev0, ev1, ev2, ev3, ev4, Nat.reduceLT, Nat.reduceLeDiff, Nat.reduceEqDiff, Nat.reduceAdd, Nat.reduceMul, Nat.reduceBEq, reduceCtorEq, alc29, alc30, ld24, ld26, fa24_0, ld3, fa24_1, bld29, sto29, sto30, ld22, len22, fa24_2, bsl64, alc22, sto22, fa29_2, sto3, fa29_3, fa29_0, ix26, fa29_1, ld29, h3', Bool.not_false, Bool.not_true] <;> rfl) rfl (by simp only [ev0, ev1, ev2, ev3, ev4, Nat.reduceLT, Nat.reduceLeDiff, Nat.reduceEqDiff, Nat.reduceAdd, Nat.reduceMul, Nat.reduceBEq, reduceCtorEq, alc29, alc30, ld24, ld26, fa24_0, ld3, fa24_1, bld29, sto29, sto30, ld22, len22, fa24_2, bsl64, alc22, sto22, fa29_2, sto3, fa29_3, fa29_0, ix26, fa29_1, ld29, h3', Bool.not_false, Bool.not_true] <;> rfl) ?_
    refine WL_go (by simp only [ev0, ev1, ev2, ev3, ev4, Nat.reduceLT, Nat.reduceLeDiff, Nat.reduceEqDiff, Nat.reduceAdd, Nat.reduceMul, Nat.reduceBEq, reduceCtorEq, alc29, alc30, ld24, ld26, fa24_0, ld3, fa24_1, bld29, sto29, sto30, ld22, len22, fa24_2, bsl64, alc22, sto22, fa29_2, sto3, fa29_3, fa29_0, ix26, fa29_1, ld29, h3', Bool.not_false, Bool.not_true, h4', h5] <;> rfl) (Nat.le_of_ble_eq_true rfl) ?_
    refine WL_endk (ks := [10, 11, 31]) (by simp only [ev0, ev4, Nat.reduceEqDiff] <;> rfl) ?_
    with_reducible repeat (first | refine n1 ?_ | refine n2 ?_ | refine n3 ?_ | refine n4 ?_ | refine n5 ?_ | refine n6 ?_ | refine n7 rfl ?_ | refine W_seq ?_ | refine W_block ?_ | refine W_skip ?_ | refine W_exit ?_ | refine W_ret ?_)
    refine W_true rfl ?_
    with_reducible repeat (first | refine n1 ?_ | refine n2 ?_ | refine n3 ?_ | refine n4 ?_ | refine n5 ?_ | refine n6 ?_ | refine n7 rfl ?_ | refine W_seq ?_ | refine W_block ?_ | refine W_skip ?_ | refine W_exit ?_ | refine W_ret ?_)
    refine W_go (by simp only [ev0, ev1, ev2, ev3, ev4, Nat.reduceLT, Nat.reduceLeDiff, Nat.reduceEqDiff, Nat.reduceAdd, Nat.reduceMul, Nat.reduceBEq, reduceCtorEq, alc29, alc30, ld24, ld26, fa24_0, ld3, fa24_1, bld29, sto29, sto30, ld22, len22, fa24_2, bsl64, alc22, sto22, fa29_2, sto3, fa29_3, fa29_0, ix26, fa29_1, ld29] <;> rfl) (Nat.le_of_ble_eq_true rfl) ?_
    refine WL_endk (ks := [10, 11]) (by simp only [ev0, ev4, Nat.reduceEqDiff] <;> rfl) ?_
    with_reducible repeat (first | refine n1 ?_ | refine n2 ?_ | refine n3 ?_ | refine n4 ?_ | refine n5 ?_ | refine n6 ?_ | refine n7 rfl ?_ | refine W_seq ?_ | refine W_block ?_ | refine W_skip ?_ | refine W_exit ?_ | refine W_ret ?_)
    refine Fin_pure [.blk [.c (.int .i64 len), .c (.int .i64 offs), .sl 5 (xs.map cellV)], .blk [.sl 1 (f.map iv)], .blk [.sl 5 (used.map cellV)], .blk (iv src), .blk (iv to), .blk [.c (.int .i64 0), .c (.int .i64 0), .c (.int .i64 0), .c (.int .i64 0), .c (.int .i64 0)], .blk (iv 2)] _ (by first | exact .inl rfl | exact .inr rfl) rfl (by simp only [Tryd.results8, vres, vresL, vres1, one_, vload_eq, Option.map_some, ev0, ev3, ev4, Nat.reduceEqDiff, Nat.reduceAdd, Nat.reduceLeDiff, td29, td30, iv] <;> rfl) rfl (by simp only [one_, rf_c, rf_any, rf_sl, rf_ptr, rf_fn, rf_agg, rf_tup, rf, List.map_cons, List.map_nil, td29, td30, iv] <;> rfl) hk (by simp) ?_
    exact ⟨⟨zeroC, 2, by simp [zeroC, cellV], .range h1 h2n (by simp at h5; simp [h3, h4, h5])⟩, rfl⟩
  have h6 : (nodeB src && nodeB to && (src != to)) = true := by simp at h5; simp [h3, h4, h5]
  have h3' := h3
  have h4' := h4
  simp only [nodeB] at h3' h4'
  refine W_go (by simp only [ev0, ev1, ev2, ev3, ev4, Nat.reduceLT, Nat.reduceLeDiff, Nat.reduceEqDiff, Nat.reduceAdd, Nat.reduceMul, Nat.reduceBEq, reduceCtorEq, alc29, alc30, ld24, ld26, fa24_0, ld3, fa24_1, bld29, sto29, sto30, ld22, len22, fa24_2, bsl64, alc22, sto22, fa29_2, sto3, fa29_3, fa29_0, ix26, fa29_1, ld29, iv] <;> rfl) (Nat.le_of_ble_eq_true rfl) ?_
  refine WL_pure (f23_ok src _) rfl (.inl rfl) (by simp only [ev0, ev1, ev2, ev3, ev4, Nat.reduceLT, Nat.reduceLeDiff, Nat.reduceEqDiff, Nat.reduceAdd, Nat.reduceMul, Nat.reduceBEq, reduceCtorEq, alc29, alc30, ld24, ld26, fa24_0, ld3, fa24_1, bld29, sto29, sto30, ld22, len22, fa24_2, bsl64, alc22, sto22, fa29_2, sto3, fa29_3, fa29_0, ix26, fa29_1, ld29] <;> rfl) (by simp only [ev0, ev1, ev2, ev3, ev4, Nat.reduceLT, Nat.reduceLeDiff, Nat.reduceEqDiff, Nat.reduceAdd, Nat.reduceMul, Nat.reduceBEq, reduceCtorEq, alc29, alc30, ld24, ld26, fa24_0, ld3, fa24_1, bld29, sto29, sto30, ld22, len22, fa24_2, bsl64, alc22, sto22, fa29_2, sto3, fa29_3, fa29_0, ix26, fa29_1, ld29] <;> rfl) rfl (by simp only [ev0, ev1, ev2, ev3, ev4, Nat.reduceLT, Nat.reduceLeDiff, Nat.reduceEqDiff, Nat.reduceAdd, Nat.reduceMul, Nat.reduceBEq, reduceCtorEq, alc29, alc30, ld24, ld26, fa24_0, ld3, fa24_1, bld29, sto29, sto30, ld22, len22, fa24_2, bsl64, alc22, sto22, fa29_2, sto3, fa29_3, fa29_0, ix26, fa29_1, ld29] <;> rfl) ?_
  refine WL_go (by simp only [ev0, ev1, ev2, ev3, ev4, Nat.reduceLT, Nat.reduceLeDiff, Nat.reduceEqDiff, Nat.reduceAdd, Nat.reduceMul, Nat.reduceBEq, reduceCtorEq, alc29, alc30, ld24, ld26, fa24_0, ld3, fa24_1, bld29, sto29, sto30, ld22, len22, fa24_2, bsl64, alc22, sto22, fa29_2, sto3, fa29_3, fa29_0, ix26, fa29_1, ld29, h3', Bool.not_false, Bool.not_true] <;> rfl) (Nat.le_of_ble_eq_true rfl) ?_
  refine WL_pure (f23_ok to _) rfl (Wants_at (j := 4) rfl rfl (by simp only [ev0, ev1, ev2, ev3, ev4, Nat.reduceLT, Nat.reduceLeDiff, Nat.reduceEqDiff, Nat.reduceAdd, Nat.reduceMul, Nat.reduceBEq, reduceCtorEq, alc29, alc30, ld24, ld26, fa24_0, ld3, fa24_1, bld29, sto29, sto30, ld22, len22, fa24_2, bsl64, alc22, sto22, fa29_2, sto3, fa29_3, fa29_0, ix26, fa29_1, ld29, h3', Bool.not_false, Bool.not_true] <;> rfl)) (by simp only [ev0, ev1, ev2, ev3, ev4, Nat.reduceLT, Nat.reduceLeDiff, Nat.reduceEqDiff, Nat.reduceAdd, Nat.reduceMul, Nat.reduceBEq, reduceCtorEq, alc29, alc30, ld24, ld26, fa24_0, ld3, fa24_1, bld29, sto29, sto30, ld22, len22, fa24_2, bsl64, alc22, sto22, fa29_2, sto3, fa29_3, fa29_0, ix26, fa29_1, ld29, h3', Bool.not_false, Bool.not_true] <;> rfl) (by simp only [ev0, ev1, ev2, ev3, ev4, Nat.reduceLT, Nat.reduceLeDiff, Nat.reduceEqDiff, Nat.reduceAdd, Nat.reduceMul, Nat.reduceBEq, reduceCtorEq, alc29, alc30, ld24, ld26, fa24_0, ld3, fa24_1, bld29, sto29, sto30, ld22, len22, fa24_2, bsl64, alc22, sto22, fa29_2, sto3, fa29_3, fa29_0, ix26, fa29_1, ld29, h3', Bool.not_false, Bool.not_true] <;> rfl) rfl (by simp only [ev0, ev1, ev2, ev3, ev4, Nat.reduceLT, Nat.reduceLeDiff, Nat.reduceEqDiff, Nat.reduceAdd, Nat.reduceMul, Nat.reduceBEq, reduceCtorEq, alc29, alc30, ld24, ld26, fa24_0, ld3, fa24_1, bld29, sto29, sto30, ld22, len22, fa24_2, bsl64, alc22, sto22, fa29_2, sto3, fa29_3, fa29_0, ix26, fa29_1, ld29, h3', Bool.not_false, Bool.not_true] <;> rfl) ?_
  refine WL_go (by simp only [ev0, ev1, ev2, ev3, ev4, Nat.reduceLT, Nat.reduceLeDiff, Nat.reduceEqDiff, Nat.reduceAdd, Nat.reduceMul, Nat.reduceBEq, reduceCtorEq, alc29, alc30, ld24, ld26, fa24_0, ld3, fa24_1, bld29, sto29, sto30, ld22, len22, fa24_2, bsl64, alc22, sto22, fa29_2, sto3, fa29_3, fa29_0, ix26, fa29_1, ld29, h3', Bool.not_false, Bool.not_true, h4', h5] <;> rfl) (Nat.le_of_ble_eq_true rfl) ?_
  refine WL_endk (ks := [5, 6, 7, 8, 9, 10, 11, 31]) (by simp only [ev0, ev4, Nat.reduceEqDiff] <;> rfl) ?_
  with_reducible repeat (first | refine n1 ?_ | refine n2 ?_ | refine n3 ?_ | refine n4 ?_ | refine n5 ?_ | refine n6 ?_ | refine n7 rfl ?_ | refine W_seq ?_ | refine W_block ?_ | refine W_skip ?_ | refine W_exit ?_ | refine W_ret ?_)
  refine W_false rfl ?_
  with_reducible repeat (first | refine n1 ?_ | refine n2 ?_ | refine n3 ?_ | refine n4 ?_ | refine n5 ?_ | refine n6 ?_ | refine n7 rfl ?_ | refine W_seq ?_ | refine W_block ?_ | refine W_skip ?_ | refine W_exit ?_ | refine W_ret ?_)
  by_cases h7 : 1024 < used.length
  · have h7' : decide ((used.length : Int) > 1024) = true := by simp; omega
    refine W_go (by simp only [ev0, ev1, ev2, ev3, ev4, Nat.reduceLT, Nat.reduceLeDiff, Nat.reduceEqDiff, Nat.reduceAdd, Nat.reduceMul, Nat.reduceBEq, reduceCtorEq, alc29, alc30, ld24, ld26, fa24_0, ld3, fa24_1, bld29, sto29, sto30, ld22, len22, fa24_2, bsl64, alc22, sto22, fa29_2, sto3, fa29_3, fa29_0, ix26, fa29_1, ld29, h7', List.length_map] <;> rfl) (Nat.le_of_ble_eq_true rfl) ?_
    refine WL_endk (ks := [10, 11, 48]) (by simp only [ev0, ev4, Nat.reduceEqDiff] <;> rfl) ?_
    with_reducible repeat (first | refine n1 ?_ | refine n2 ?_ | refine n3 ?_ | refine n4 ?_ | refine n5 ?_ | refine n6 ?_ | refine n7 rfl ?_ | refine W_seq ?_ | refine W_block ?_ | refine W_skip ?_ | refine W_exit ?_ | refine W_ret ?_)
    refine W_true rfl ?_
    with_reducible repeat (first | refine n1 ?_ | refine n2 ?_ | refine n3 ?_ | refine n4 ?_ | refine n5 ?_ | refine n6 ?_ | refine n7 rfl ?_ | refine W_seq ?_ | refine W_block ?_ | refine W_skip ?_ | refine W_exit ?_ | refine W_ret ?_)
    refine W_go (by simp only [ev0, ev1, ev2, ev3, ev4, Nat.reduceLT, Nat.reduceLeDiff, Nat.reduceEqDiff, Nat.reduceAdd, Nat.reduceMul, Nat.reduceBEq, reduceCtorEq, alc29, alc30, ld24, ld26, fa24_0, ld3, fa24_1, bld29, sto29, sto30, ld22, len22, fa24_2, bsl64, alc22, sto22, fa29_2, sto3, fa29_3, fa29_0, ix26, fa29_1, ld29] <;> rfl) (Nat.le_of_ble_eq_true rfl) ?_
    refine WL_endk (ks := [10, 11]) (by simp only [ev0, ev4, Nat.reduceEqDiff] <;> rfl) ?_
    with_reducible repeat (first | refine n1 ?_ | refine n2 ?_ | refine n3 ?_ | refine n4 ?_ | refine n5 ?_ | refine n6 ?_ | refine n7 rfl ?_ | refine W_seq ?_ | refine W_block ?_ | refine W_skip ?_ | refine W_exit ?_ | refine W_ret ?_)
    refine Fin_pure [.blk [.c (.int .i64 len), .c (.int .i64 offs), .sl 5 (xs.map cellV)], .blk [.sl 1 (f.map iv)], .blk [.sl 5 (used.map cellV)], .blk (iv src), .blk (iv to), .blk [.c (.int .i64 0), .c (.int .i64 0), .c (.int .i64 0), .c (.int .i64 0), .c (.int .i64 0)], .blk (iv 8)] _ (by first | exact .inl rfl | exact .inr rfl) rfl (by simp only [Tryd.results8, vres, vresL, vres1, one_, vload_eq, Option.map_some, ev0, ev3, ev4, Nat.reduceEqDiff, Nat.reduceAdd, Nat.reduceLeDiff, td29, td30, iv] <;> rfl) rfl (by simp only [one_, rf_c, rf_any, rf_sl, rf_ptr, rf_fn, rf_agg, rf_tup, rf, List.map_cons, List.map_nil, td29, td30, iv] <;> rfl) hk (by simp) ?_
    exact ⟨⟨zeroC, 8, by simp [zeroC, cellV], .large h1 h2n h6 h7⟩, rfl⟩
  have h7' : decide ((used.length : Int) > 1024) = false := by simp; omega
  refine W_go (by simp only [ev0, ev1, ev2, ev3, ev4, Nat.reduceLT, Nat.reduceLeDiff, Nat.reduceEqDiff, Nat.reduceAdd, Nat.reduceMul, Nat.reduceBEq, reduceCtorEq, alc29, alc30, ld24, ld26, fa24_0, ld3, fa24_1, bld29, sto29, sto30, ld22, len22, fa24_2, bsl64, alc22, sto22, fa29_2, sto3, fa29_3, fa29_0, ix26, fa29_1, ld29, h7', List.length_map] <;> rfl) (Nat.le_of_ble_eq_true rfl) ?_
  refine WL_endk (ks := [5, 6, 7, 8, 9, 10, 11, 48]) (by simp only [ev0, ev4, Nat.reduceEqDiff] <;> rfl) ?_
  with_reducible repeat (first | refine n1 ?_ | refine n2 ?_ | refine n3 ?_ | refine n4 ?_ | refine n5 ?_ | refine n6 ?_ | refine n7 rfl ?_ | refine W_seq ?_ | refine W_block ?_ | refine W_skip ?_ | refine W_exit ?_ | refine W_ret ?_)
  refine W_false rfl ?_
  with_reducible repeat (first | refine n1 ?_ | refine n2 ?_ | refine n3 ?_ | refine n4 ?_ | refine n5 ?_ | refine n6 ?_ | refine n7 rfl ?_ | refine W_seq ?_ | refine W_block ?_ | refine W_skip ?_ | refine W_exit ?_ | refine W_ret ?_)
  refine W_go (by simp only [ev0, ev1, ev2, ev3, ev4, Nat.reduceLT, Nat.reduceLeDiff, Nat.reduceEqDiff, Nat.reduceAdd, Nat.reduceMul, Nat.reduceBEq, reduceCtorEq, alc29, alc30, ld24, ld26, fa24_0, ld3, fa24_1, bld29, sto29, sto30, ld22, len22, fa24_2, bsl64, alc22, sto22, fa29_2, sto3, fa29_3, fa29_0, ix26, fa29_1, ld29] <;> rfl) (Nat.le_of_ble_eq_true rfl) ?_
  refine WL_pure ((f25_ok xs used _ hl hu)) rfl (.inl rfl) (by simp only [ev0, ev1, ev2, ev3, ev4, Nat.reduceLT, Nat.reduceLeDiff, Nat.reduceEqDiff, Nat.reduceAdd, Nat.reduceMul, Nat.reduceBEq, reduceCtorEq, alc29, alc30, ld24, ld26, fa24_0, ld3, fa24_1, bld29, sto29, sto30, ld22, len22, fa24_2, bsl64, alc22, sto22, fa29_2, sto3, fa29_3, fa29_0, ix26, fa29_1, ld29] <;> rfl) (by simp only [ev0, ev1, ev2, ev3, ev4, Nat.reduceLT, Nat.reduceLeDiff, Nat.reduceEqDiff, Nat.reduceAdd, Nat.reduceMul, Nat.reduceBEq, reduceCtorEq, alc29, alc30, ld24, ld26, fa24_0, ld3, fa24_1, bld29, sto29, sto30, ld22, len22, fa24_2, bsl64, alc22, sto22, fa29_2, sto3, fa29_3, fa29_0, ix26, fa29_1, ld29] <;> rfl) rfl (by simp only [ev0, ev1, ev2, ev3, ev4, Nat.reduceLT, Nat.reduceLeDiff, Nat.reduceEqDiff, Nat.reduceAdd, Nat.reduceMul, Nat.reduceBEq, reduceCtorEq, alc29, alc30, ld24, ld26, fa24_0, ld3, fa24_1, bld29, sto29, sto30, ld22, len22, fa24_2, bsl64, alc22, sto22, fa29_2, sto3, fa29_3, fa29_0, ix26, fa29_1, ld29] <;> rfl) ?_
  refine WL_go (by simp only [ev0, ev1, ev2, ev3, ev4, Nat.reduceLT, Nat.reduceLeDiff, Nat.reduceEqDiff, Nat.reduceAdd, Nat.reduceMul, Nat.reduceBEq, reduceCtorEq, alc29, alc30, ld24, ld26, fa24_0, ld3, fa24_1, bld29, sto29, sto30, ld22, len22, fa24_2, bsl64, alc22, sto22, fa29_2, sto3, fa29_3, fa29_0, ix26, fa29_1, ld29] <;> rfl) (Nat.le_of_ble_eq_true rfl) ?_
  refine WL_endk (ks := [5, 6, 7, 8, 9, 10, 11, 13]) (by simp only [ev0, ev4, Nat.reduceEqDiff] <;> rfl) ?_
  with_reducible repeat (first | refine n1 ?_ | refine n2 ?_ | refine n3 ?_ | refine n4 ?_ | refine n5 ?_ | refine n6 ?_ | refine n7 rfl ?_ | refine W_seq ?_ | refine W_block ?_ | refine W_skip ?_ | refine W_exit ?_ | refine W_ret ?_)
  refine W_go (by simp only [ev0, ev1, ev2, ev3, ev4, Nat.reduceLT, Nat.reduceLeDiff, Nat.reduceEqDiff, Nat.reduceAdd, Nat.reduceMul, Nat.reduceBEq, reduceCtorEq, alc29, alc30, ld24, ld26, fa24_0, ld3, fa24_1, bld29, sto29, sto30, ld22, len22, fa24_2, bsl64, alc22, sto22, fa29_2, sto3, fa29_3, fa29_0, ix26, fa29_1, ld29] <;> rfl) (Nat.le_of_ble_eq_true rfl) ?_
  refine WL_call' (f26_at ⟨len, offs, xs⟩ h _ 8 rfl) rfl (.inl rfl) (by simp only [ev0, ev1, ev2, ev3, ev4, Nat.reduceLT, Nat.reduceLeDiff, Nat.reduceEqDiff, Nat.reduceAdd, Nat.reduceMul, Nat.reduceBEq, reduceCtorEq, alc29, alc30, ld24, ld26, fa24_0, ld3, fa24_1, bld29, sto29, sto30, ld22, len22, fa24_2, bsl64, alc22, sto22, fa29_2, sto3, fa29_3, fa29_0, ix26, fa29_1, ld29, schV] <;> rfl) (by simp only [ev0, ev1, ev2, ev3, ev4, Nat.reduceLT, Nat.reduceLeDiff, Nat.reduceEqDiff, Nat.reduceAdd, Nat.reduceMul, Nat.reduceBEq, reduceCtorEq, alc29, alc30, ld24, ld26, fa24_0, ld3, fa24_1, bld29, sto29, sto30, ld22, len22, fa24_2, bsl64, alc22, sto22, fa29_2, sto3, fa29_3, fa29_0, ix26, fa29_1, ld29, schV] <;> rfl) rfl ?_
  rintro _ _ ⟨rfl, rfl⟩
  refine WL_go (by simp only [ev0, ev1, ev2, ev3, ev4, Nat.reduceLT, Nat.reduceLeDiff, Nat.reduceEqDiff, Nat.reduceAdd, Nat.reduceMul, Nat.reduceBEq, reduceCtorEq, alc29, alc30, ld24, ld26, fa24_0, ld3, fa24_1, bld29, sto29, sto30, ld22, len22, fa24_2, bsl64, alc22, sto22, fa29_2, sto3, fa29_3, fa29_0, ix26, fa29_1, ld29] <;> rfl) (Nat.le_of_ble_eq_true rfl) ?_
  refine WL_endk (ks := [6, 7, 8, 9, 10, 11, 13, 59]) (s' := ⟨91, [(6, .ptr (List.length h + 1) 0), (7, .ptr (List.length h + 2) 0), (8, .ptr (List.length h + 3) 0), (9, .ptr (List.length h + 4) 0), (10, .ptr (List.length h + 5) 0), (11, .ptr (List.length h + 6) 0), (13, .ptr (List.length h + 7) 0), (59, .fn 41 [.ptr (List.length h + 8) 0])], h ++ [.blk [.c (.int .i64 len), .c (.int .i64 offs), .sl 5 (xs.map cellV)], .blk [.sl 1 (f.map iv)], .blk [.sl 5 (used.map cellV)], .blk [.c (.int .i64 src)], .blk [.c (.int .i64 to)], .blk [.c (.int .i64 0), .c (.int .i64 0), .c (.int .i64 0), .c (.int .i64 0), .c (.int .i64 0)], .blk [.c (.int .i64 0)], .blk [.sl 5 ((xs ++ used).map cellV)], .blk [.c (.int .i64 len), .c (.int .i64 offs), .sl 5 (xs.map cellV)]], []⟩) rfl ?_
  with_reducible repeat (first | refine n1 ?_ | refine n2 ?_ | refine n3 ?_ | refine n4 ?_ | refine n5 ?_ | refine n6 ?_ | refine n7 rfl ?_ | refine W_seq ?_ | refine W_block ?_ | refine W_skip ?_ | refine W_exit ?_ | refine W_ret ?_)
  refine W_rangeL 9 rfl rfl (fun fn o ho => ?_)
  obtain ⟨g1, g2, g3, g4, g5, g6⟩ := formB_spec h1
  simp only at g1 g2 g3 g4
  obtain ⟨n, rfl⟩ : ∃ n : Nat, len = n := ⟨len.toNat, by omega⟩
  obtain ⟨m, rfl⟩ : ∃ m : Nat, offs = m := ⟨offs.toNat, by omega⟩
  have hfl : (f.length : Int) = n := chkS_len h2n
  refine VCall_hk (fun hk0 => ?_)
  have hlp : ∀ st pe D, OkO D (o st pe) ↔ OkO D (o .ready none) := by intro st pe D; subst ho; rfl
  have key : ∀ (cell : List Val) (err : Int) st pe, (∀ d, d ∈ cell → ∃ v, d = Val.c v) → HOk (h ++ ([.blk [.c (.int .i64 n), .c (.int .i64 m), .sl 5 (xs.map cellV)], .blk [.sl 1 (f.map iv)], .blk [.sl 5 (used.map cellV)], .blk [.c (.int .i64 src)], .blk [.c (.int .i64 to)], .blk cell, .blk [.c (.int .i64 err)], .blk [.sl 5 ((xs ++ used).map cellV)], .blk [.c (.int .i64 n), .c (.int .i64 m), .sl 5 (xs.map cellV)]] ++ [.dfr, o st pe])) := by
    intro cell err st pe hcell
    refine HOk_append hk ?_
    have h10 := hk0 (List.length h + 10) (by simp)
    rw [get_append_r] at h10
    have h10' : OkO (fun i => i < List.length (h ++ ([.blk [.c (.int .i64 n), .c (.int .i64 m), .sl 5 (xs.map cellV)], .blk [.sl 1 (f.map iv)], .blk [.sl 5 (used.map cellV)], .blk [.c (.int .i64 src)], .blk [.c (.int .i64 to)], .blk cell, .blk [.c (.int .i64 err)], .blk [.sl 5 ((xs ++ used).map cellV)], .blk [.c (.int .i64 n), .c (.int .i64 m), .sl 5 (xs.map cellV)]] ++ [.dfr, o st pe]))) (o st pe) := by
      rw [hlp]
      have e : List.length (h ++ ([.blk [.c (.int .i64 n), .c (.int .i64 m), .sl 5 (xs.map cellV)], .blk [.sl 1 (f.map iv)], .blk [.sl 5 (used.map cellV)], .blk [.c (.int .i64 src)], .blk [.c (.int .i64 to)], .blk cell, .blk [.c (.int .i64 err)], .blk [.sl 5 ((xs ++ used).map cellV)], .blk [.c (.int .i64 n), .c (.int .i64 m), .sl 5 (xs.map cellV)]] ++ [.dfr, o st pe])) = List.length (h ++ ([.blk [.c (.int .i64 n), .c (.int .i64 m), .sl 5 (xs.map cellV)], .blk [.sl 1 (f.map iv)], .blk [.sl 5 (used.map cellV)], .blk [.c (.int .i64 src)], .blk [.c (.int .i64 to)], .blk [.c (.int .i64 0), .c (.int .i64 0), .c (.int .i64 0), .c (.int .i64 0), .c (.int .i64 0)], .blk [.c (.int .i64 0)], .blk [.sl 5 ((xs ++ used).map cellV)], .blk [.c (.int .i64 n), .c (.int .i64 m), .sl 5 (xs.map cellV)]] ++ [.dfr, o .ready none])) := by simp
      rw [e]; exact h10
    intro ob hob
    simp only [List.mem_append, List.mem_cons, List.not_mem_nil, or_false] at hob
    rcases hob with (rfl | rfl | rfl | rfl | rfl | rfl | rfl | rfl | rfl) | rfl | rfl
    · exact okO_sch ⟨n, m, xs⟩
    · intro d hd; simp only [List.mem_singleton] at hd; subst hd; exact ok_iv _
    · intro d hd; simp only [List.mem_singleton] at hd; subst hd; exact ok_cellV _
    · intro d hd; simp only [List.mem_singleton] at hd; subst hd; exact Ok_c _
    · intro d hd; simp only [List.mem_singleton] at hd; subst hd; exact Ok_c _
    · intro d hd; obtain ⟨v, rfl⟩ := hcell d hd; exact Ok_c _
    · intro d hd; simp only [List.mem_singleton] at hd; subst hd; exact Ok_c _
    · intro d hd; simp only [List.mem_singleton] at hd; subst hd; exact ok_cellV _
    · exact okO_sch ⟨n, m, xs⟩
    · trivial
    · exact h10'
  refine (f41_ok (fun a b hh => hh = h ++ ([.blk [.c (.int .i64 n), .c (.int .i64 m), .sl 5 (xs.map cellV)], .blk [.sl 1 (f.map iv)], .blk [.sl 5 (used.map cellV)], .blk [.c (.int .i64 src)], .blk [.c (.int .i64 to)], .blk [.c (.int .i64 0), .c (.int .i64 0), .c (.int .i64 0), .c (.int .i64 0), .c (.int .i64 0)], .blk [.c (.int .i64 0)], .blk [.sl 5 ((xs ++ used).map cellV)], .blk [.c (.int .i64 n), .c (.int .i64 m), .sl 5 (xs.map cellV)]] ++ [.dfr, o .ready none]) ∧ noneB (canT ⟨n, m, xs⟩ f used src to) m a b)
    (fun hh => (hh = h ++ ([.blk [.c (.int .i64 n), .c (.int .i64 m), .sl 5 (xs.map cellV)], .blk [.sl 1 (f.map iv)], .blk [.sl 5 (used.map cellV)], .blk [.c (.int .i64 src)], .blk [.c (.int .i64 to)], .blk [.c (.int .i64 0), .c (.int .i64 0), .c (.int .i64 0), .c (.int .i64 0), .c (.int .i64 0)], .blk [.c (.int .i64 0)], .blk [.sl 5 ((xs ++ used).map cellV)], .blk [.c (.int .i64 n), .c (.int .i64 m), .sl 5 (xs.map cellV)]] ++ [.dfr, o .ready none]) ∧ noneB (canT ⟨n, m, xs⟩ f used src to) m n 0) ∨
      ∃ a b : Nat, a < n ∧ b < m ∧ hh = h ++ ([.blk [.c (.int .i64 n), .c (.int .i64 m), .sl 5 (xs.map cellV)], .blk [.sl 1 (f.map iv)], .blk [.sl 5 (used.map cellV)], .blk [.c (.int .i64 src)], .blk [.c (.int .i64 to)], .blk [.c (.int .i64 a), .c (.int .i64 b), .c (.int .i64 src), .c (.int .i64 to), .c (.int .i64 0)], .blk [.c (.int .i64 0)], .blk [.sl 5 ((xs ++ used).map cellV)], .blk [.c (.int .i64 n), .c (.int .i64 m), .sl 5 (xs.map cellV)]] ++ [.dfr, o .done (some .ret)]) ∧ noneB (canT ⟨n, m, xs⟩ f used src to) m a b ∧ canT ⟨n, m, xs⟩ f used src to a b = true)
    ⟨n, m, xs⟩ n m (List.length h + 8) (List.length h + 10) rfl rfl (by omega) (by omega) ?_ ?_ ?_ ?_ _ ⟨rfl, ?_⟩).mono ?_
  · rintro a b hh ⟨rfl, _⟩
    rw [get_append_r]; rfl
  · rintro a b ha1 hbm hh ⟨rfl, hno⟩
    refine VCall_yldO (t' := (60, .agg (cellV ⟨a, b, 0, 0, 0⟩)) :: [(6, .ptr (List.length h + 1) 0), (7, .ptr (List.length h + 2) 0), (8, .ptr (List.length h + 3) 0), (9, .ptr (List.length h + 4) 0), (10, .ptr (List.length h + 5) 0), (11, .ptr (List.length h + 6) 0), (13, .ptr (List.length h + 7) 0), (59, .fn 41 [.ptr (List.length h + 8) 0])]) ho (get_append_r _ 10) rfl rfl (fun ro => ?_)
    refine W_go (by simp only [ev0, ev1, ev2, ev3, ev4, Nat.reduceLT, Nat.reduceLeDiff, Nat.reduceEqDiff, Nat.reduceAdd, Nat.reduceMul, Nat.reduceBEq, reduceCtorEq, alc29, alc30, ld24, ld26, fa24_0, ld3, fa24_1, bld29, sto29, sto30, ld22, len22, fa24_2, bsl64, alc22, sto22, fa29_2, sto3, fa29_3, fa29_0, ix26, fa29_1, ld29, cellV] <;> rfl) (Nat.le_of_ble_eq_true rfl) ?_
    refine WL_endk (ks := [6, 7, 8, 9, 10, 11, 13, 14]) (by simp only [ev0, ev4, Nat.reduceEqDiff] <;> rfl) ?_
    with_reducible repeat (first | refine n1 ?_ | refine n2 ?_ | refine n3 ?_ | refine n4 ?_ | refine n5 ?_ | refine n6 ?_ | refine n7 rfl ?_ | refine W_seq ?_ | refine W_block ?_ | refine W_skip ?_ | refine W_exit ?_ | refine W_ret ?_)
    refine ⟨rfl, get_append_r _ 10, ?_⟩
    show W _ _ ro _ _ ⟨91, _, List.set (h ++ _) (List.length h + 10) (o .busy none), []⟩
    rw [set_append_r]
    with_reducible repeat (first | refine n1 ?_ | refine n2 ?_ | refine n3 ?_ | refine n4 ?_ | refine n5 ?_ | refine n6 ?_ | refine n7 rfl ?_ | refine W_seq ?_ | refine W_block ?_ | refine W_skip ?_ | refine W_exit ?_ | refine W_ret ?_)
    refine W_draw (by kernel_rfl) (DR_end (by simp only [ev0, ev1, ev2, ev3, ev4, Nat.reduceLT, Nat.reduceLeDiff, Nat.reduceEqDiff, Nat.reduceAdd, Nat.reduceMul, Nat.reduceBEq, reduceCtorEq, alc29, alc30, ld24, ld26, fa24_0, ld3, fa24_1, bld29, sto29, sto30, ld22, len22, fa24_2, bsl64, alc22, sto22, fa29_2, sto3, fa29_3, fa29_0, ix26, fa29_1, ld29] <;> rfl)) (by kernel_rfl) (by rw [show dps _ = [(1, 3)] from by kernel_rfl]; simp [idsApart, idApart]) ?_
    with_reducible repeat (first | refine n1 ?_ | refine n2 ?_ | refine n3 ?_ | refine n4 ?_ | refine n5 ?_ | refine n6 ?_ | refine n7 rfl ?_ | refine W_seq ?_ | refine W_block ?_ | refine W_skip ?_ | refine W_exit ?_ | refine W_ret ?_)
    refine W_keep' (ks := [6, 7, 8, 9, 10, 11, 13, 14]) (by simp only [ev0, ev4, Nat.reduceEqDiff] <;> rfl) ?_
    refine W_go (by simp only [ev0, ev1, ev2, ev3, ev4, Nat.reduceLT, Nat.reduceLeDiff, Nat.reduceEqDiff, Nat.reduceAdd, Nat.reduceMul, Nat.reduceBEq, reduceCtorEq, alc29, alc30, ld24, ld26, fa24_0, ld3, fa24_1, bld29, sto29, sto30, ld22, len22, fa24_2, bsl64, alc22, sto22, fa29_2, sto3, fa29_3, fa29_0, ix26, fa29_1, ld29] <;> rfl) (Nat.le_of_ble_eq_true rfl) ?_
    refine WL_endk (ks := [6, 7, 8, 9, 10, 11, 13, 14, 15]) (by simp only [ev0, ev4, Nat.reduceEqDiff] <;> rfl) ?_
    with_reducible repeat (first | refine n1 ?_ | refine n2 ?_ | refine n3 ?_ | refine n4 ?_ | refine n5 ?_ | refine n6 ?_ | refine n7 rfl ?_ | refine W_seq ?_ | refine W_block ?_ | refine W_skip ?_ | refine W_exit ?_ | refine W_ret ?_)
    refine W_go (by simp only [ev0, ev1, ev2, ev3, ev4, Nat.reduceLT, Nat.reduceLeDiff, Nat.reduceEqDiff, Nat.reduceAdd, Nat.reduceMul, Nat.reduceBEq, reduceCtorEq, alc29, alc30, ld24, ld26, fa24_0, ld3, fa24_1, bld29, sto29, sto30, ld22, len22, fa24_2, bsl64, alc22, sto22, fa29_2, sto3, fa29_3, fa29_0, ix26, fa29_1, ld29] <;> rfl) (Nat.le_of_ble_eq_true rfl) ?_
    refine WL_endk (ks := [6, 7, 8, 9, 10, 11, 13, 14, 15, 16]) (by simp only [ev0, ev4, Nat.reduceEqDiff] <;> rfl) ?_
    with_reducible repeat (first | refine n1 ?_ | refine n2 ?_ | refine n3 ?_ | refine n4 ?_ | refine n5 ?_ | refine n6 ?_ | refine n7 rfl ?_ | refine W_seq ?_ | refine W_block ?_ | refine W_skip ?_ | refine W_exit ?_ | refine W_ret ?_)
    have a0 : (0 : Int) ≤ (a : Int) := by omega
    have b0 : (0 : Int) ≤ (b : Int) := by omega
    have haf : a < f.length := by omega
    have hga : (f.map iv)[a]? = some [.c (.int .i64 (f.getD a 0))] := by rw [List.getElem?_map, List.getElem?_eq_getElem haf]; simp [iv, haf]
    have stepN : canT ⟨n, m, xs⟩ f used src to a b = false → noneB (canT ⟨n, m, xs⟩ f used src to) m a (b + 1) := by
      intro hc x y hy hxy
      by_cases e : x = a ∧ y = b
      · rw [e.1, e.2]; exact hc
      · exact hno x y hy (by omega)
    cases hc1 : (iand .i64 (ishr .i64 (f.getD a 0) (b : Int)) 1 == 1)
    · refine W_draw (by kernel_rfl) (DR_end (by simp only [ev0, ev1, ev2, ev3, ev4, Nat.reduceLT, Nat.reduceLeDiff, Nat.reduceEqDiff, Nat.reduceAdd, Nat.reduceMul, Nat.reduceBEq, reduceCtorEq, alc29, alc30, ld24, ld26, fa24_0, ld3, fa24_1, bld29, sto29, sto30, ld22, len22, fa24_2, bsl64, alc22, sto22, fa29_2, sto3, fa29_3, fa29_0, ix26, fa29_1, ld29, a0, b0, hga, Int.toNat_natCast, hc1, Bool.not_true, Bool.not_false] <;> rfl)) (by kernel_rfl) (by first | exact trivial | kernel_rfl) ?_
      with_reducible repeat (first | refine n1 ?_ | refine n2 ?_ | refine n3 ?_ | refine n4 ?_ | refine n5 ?_ | refine n6 ?_ | refine n7 rfl ?_ | refine W_seq ?_ | refine W_block ?_ | refine W_skip ?_ | refine W_exit ?_ | refine W_ret ?_)
      refine W_keep' (ks := [88]) (by simp only [ev0, ev4, Nat.reduceEqDiff] <;> rfl) ?_
      refine W_false rfl ?_
      with_reducible repeat (first | refine n1 ?_ | refine n2 ?_ | refine n3 ?_ | refine n4 ?_ | refine n5 ?_ | refine n6 ?_ | refine n7 rfl ?_ | refine W_seq ?_ | refine W_block ?_ | refine W_skip ?_ | refine W_exit ?_ | refine W_ret ?_)
      refine REnd_ext (b := true) (st := .ready) (pe := none) (h' := h ++ ([.blk [.c (.int .i64 n), .c (.int .i64 m), .sl 5 (xs.map cellV)], .blk [.sl 1 (f.map iv)], .blk [.sl 5 (used.map cellV)], .blk [.c (.int .i64 src)], .blk [.c (.int .i64 to)], .blk [.c (.int .i64 0), .c (.int .i64 0), .c (.int .i64 0), .c (.int .i64 0), .c (.int .i64 0)], .blk [.c (.int .i64 0)], .blk [.sl 5 ((xs ++ used).map cellV)], .blk [.c (.int .i64 n), .c (.int .i64 m), .sl 5 (xs.map cellV)]] ++ [.dfr, o .ready none])) (ext := [.blk [.c (.int .i64 a), .c (.int .i64 b), .c (.int .i64 src), .c (.int .i64 to), .c (.int .i64 0)]]) rfl (get_append_r _ 10) (by rw [set_append_r]; simp) (Nat.le_refl _) hk0 (.inl ⟨rfl, rfl, stepN ?_⟩)
      have hb1 : (bitS (f.getD a 0) b == 1) = false := hc1
      simp only [canT, hb1, Bool.false_and]
    have hb1 : (bitS (f.getD a 0) b == 1) = true := hc1
    cases hc2 : (xs ++ used).any (busyAt a src to)
    · cases hc3 : used.any (isAt a b)
      · refine W_draw (by kernel_rfl) (DR_go (by simp only [ev0, ev1, ev2, ev3, ev4, Nat.reduceLT, Nat.reduceLeDiff, Nat.reduceEqDiff, Nat.reduceAdd, Nat.reduceMul, Nat.reduceBEq, reduceCtorEq, alc29, alc30, ld24, ld26, fa24_0, ld3, fa24_1, bld29, sto29, sto30, ld22, len22, fa24_2, bsl64, alc22, sto22, fa29_2, sto3, fa29_3, fa29_0, ix26, fa29_1, ld29, a0, b0, hga, Int.toNat_natCast, hc1] <;> rfl) (DR_pure (f16_ok (busyAt a src to) _ (xs ++ used) _ (by simp; omega) (fun x _ => f27_ok x a b src to 0 src to _ _ _ _ (get_append_r _ 11) (get_append_r _ 3) (get_append_r _ 4))) rfl (Wants_at (j := 10) rfl rfl (by simp only [ev0, ev1, ev2, ev3, ev4, Nat.reduceLT, Nat.reduceLeDiff, Nat.reduceEqDiff, Nat.reduceAdd, Nat.reduceMul, Nat.reduceBEq, reduceCtorEq, alc29, alc30, ld24, ld26, fa24_0, ld3, fa24_1, bld29, sto29, sto30, ld22, len22, fa24_2, bsl64, alc22, sto22, fa29_2, sto3, fa29_3, fa29_0, ix26, fa29_1, ld29, a0, b0, hga, Int.toNat_natCast, hc1] <;> rfl)) (by simp only [ev0, ev1, ev2, ev3, ev4, Nat.reduceLT, Nat.reduceLeDiff, Nat.reduceEqDiff, Nat.reduceAdd, Nat.reduceMul, Nat.reduceBEq, reduceCtorEq, alc29, alc30, ld24, ld26, fa24_0, ld3, fa24_1, bld29, sto29, sto30, ld22, len22, fa24_2, bsl64, alc22, sto22, fa29_2, sto3, fa29_3, fa29_0, ix26, fa29_1, ld29, a0, b0, hga, Int.toNat_natCast, hc1] <;> rfl) (by simp only [ev0, ev1, ev2, ev3, ev4, Nat.reduceLT, Nat.reduceLeDiff, Nat.reduceEqDiff, Nat.reduceAdd, Nat.reduceMul, Nat.reduceBEq, reduceCtorEq, alc29, alc30, ld24, ld26, fa24_0, ld3, fa24_1, bld29, sto29, sto30, ld22, len22, fa24_2, bsl64, alc22, sto22, fa29_2, sto3, fa29_3, fa29_0, ix26, fa29_1, ld29, a0, b0, hga, Int.toNat_natCast, hc1] <;> rfl) (by simp only [ev0, ev1, ev2, ev3, ev4, Nat.reduceLT, Nat.reduceLeDiff, Nat.reduceEqDiff, Nat.reduceAdd, Nat.reduceMul, Nat.reduceBEq, reduceCtorEq, alc29, alc30, ld24, ld26, fa24_0, ld3, fa24_1, bld29, sto29, sto30, ld22, len22, fa24_2, bsl64, alc22, sto22, fa29_2, sto3, fa29_3, fa29_0, ix26, fa29_1, ld29, a0, b0, hga, Int.toNat_natCast, hc1] <;> rfl) (DR_go (by simp only [ev0, ev1, ev2, ev3, ev4, Nat.reduceLT, Nat.reduceLeDiff, Nat.reduceEqDiff, Nat.reduceAdd, Nat.reduceMul, Nat.reduceBEq, reduceCtorEq, alc29, alc30, ld24, ld26, fa24_0, ld3, fa24_1, bld29, sto29, sto30, ld22, len22, fa24_2, bsl64, alc22, sto22, fa29_2, sto3, fa29_3, fa29_0, ix26, fa29_1, ld29, a0, b0, hga, Int.toNat_natCast, hc1, hc2, Bool.not_true, Bool.not_false] <;> rfl) (DR_pure (f16_ok (isAt a b) _ used _ (by omega) (fun x _ => f28_ok x a b src to 0 _ _ (get_append_r _ 11))) rfl (Wants_at (j := 16) rfl rfl (by simp only [ev0, ev1, ev2, ev3, ev4, Nat.reduceLT, Nat.reduceLeDiff, Nat.reduceEqDiff, Nat.reduceAdd, Nat.reduceMul, Nat.reduceBEq, reduceCtorEq, alc29, alc30, ld24, ld26, fa24_0, ld3, fa24_1, bld29, sto29, sto30, ld22, len22, fa24_2, bsl64, alc22, sto22, fa29_2, sto3, fa29_3, fa29_0, ix26, fa29_1, ld29, a0, b0, hga, Int.toNat_natCast, hc1, hc2, Bool.not_true, Bool.not_false] <;> rfl)) (by simp only [ev0, ev1, ev2, ev3, ev4, Nat.reduceLT, Nat.reduceLeDiff, Nat.reduceEqDiff, Nat.reduceAdd, Nat.reduceMul, Nat.reduceBEq, reduceCtorEq, alc29, alc30, ld24, ld26, fa24_0, ld3, fa24_1, bld29, sto29, sto30, ld22, len22, fa24_2, bsl64, alc22, sto22, fa29_2, sto3, fa29_3, fa29_0, ix26, fa29_1, ld29, a0, b0, hga, Int.toNat_natCast, hc1, hc2, Bool.not_true, Bool.not_false] <;> rfl) (by simp only [ev0, ev1, ev2, ev3, ev4, Nat.reduceLT, Nat.reduceLeDiff, Nat.reduceEqDiff, Nat.reduceAdd, Nat.reduceMul, Nat.reduceBEq, reduceCtorEq, alc29, alc30, ld24, ld26, fa24_0, ld3, fa24_1, bld29, sto29, sto30, ld22, len22, fa24_2, bsl64, alc22, sto22, fa29_2, sto3, fa29_3, fa29_0, ix26, fa29_1, ld29, a0, b0, hga, Int.toNat_natCast, hc1, hc2, Bool.not_true, Bool.not_false] <;> rfl) (by simp only [ev0, ev1, ev2, ev3, ev4, Nat.reduceLT, Nat.reduceLeDiff, Nat.reduceEqDiff, Nat.reduceAdd, Nat.reduceMul, Nat.reduceBEq, reduceCtorEq, alc29, alc30, ld24, ld26, fa24_0, ld3, fa24_1, bld29, sto29, sto30, ld22, len22, fa24_2, bsl64, alc22, sto22, fa29_2, sto3, fa29_3, fa29_0, ix26, fa29_1, ld29, a0, b0, hga, Int.toNat_natCast, hc1, hc2, Bool.not_true, Bool.not_false] <;> rfl) (DR_end (by simp only [ev0, ev1, ev2, ev3, ev4, Nat.reduceLT, Nat.reduceLeDiff, Nat.reduceEqDiff, Nat.reduceAdd, Nat.reduceMul, Nat.reduceBEq, reduceCtorEq, alc29, alc30, ld24, ld26, fa24_0, ld3, fa24_1, bld29, sto29, sto30, ld22, len22, fa24_2, bsl64, alc22, sto22, fa29_2, sto3, fa29_3, fa29_0, ix26, fa29_1, ld29, a0, b0, hga, Int.toNat_natCast, hc1, hc2, hc3, Bool.not_true, Bool.not_false] <;> rfl)))))) (by kernel_rfl) (by first | exact trivial | kernel_rfl) ?_
        with_reducible repeat (first | refine n1 ?_ | refine n2 ?_ | refine n3 ?_ | refine n4 ?_ | refine n5 ?_ | refine n6 ?_ | refine n7 rfl ?_ | refine W_seq ?_ | refine W_block ?_ | refine W_skip ?_ | refine W_exit ?_ | refine W_ret ?_)
        refine W_keep' (ks := [10, 11, 14, 88]) (by simp only [ev0, ev4, Nat.reduceEqDiff] <;> rfl) ?_
        refine W_true rfl ?_
        with_reducible repeat (first | refine n1 ?_ | refine n2 ?_ | refine n3 ?_ | refine n4 ?_ | refine n5 ?_ | refine n6 ?_ | refine n7 rfl ?_ | refine W_seq ?_ | refine W_block ?_ | refine W_skip ?_ | refine W_exit ?_ | refine W_ret ?_)
        refine W_go (by simp only [ev0, ev1, ev2, ev3, ev4, Nat.reduceLT, Nat.reduceLeDiff, Nat.reduceEqDiff, Nat.reduceAdd, Nat.reduceMul, Nat.reduceBEq, reduceCtorEq, alc29, alc30, ld24, ld26, fa24_0, ld3, fa24_1, bld29, sto29, sto30, ld22, len22, fa24_2, bsl64, alc22, sto22, fa29_2, sto3, fa29_3, fa29_0, ix26, fa29_1, ld29] <;> rfl) (Nat.le_of_ble_eq_true rfl) ?_
        refine WL_endk (ks := [10]) (by simp only [ev0, ev4, Nat.reduceEqDiff] <;> rfl) ?_
        with_reducible repeat (first | refine n1 ?_ | refine n2 ?_ | refine n3 ?_ | refine n4 ?_ | refine n5 ?_ | refine n6 ?_ | refine n7 rfl ?_ | refine W_seq ?_ | refine W_block ?_ | refine W_skip ?_ | refine W_exit ?_ | refine W_ret ?_)
        refine REnd_ext (b := false) (st := .done) (pe := some .ret) (h' := h ++ ([.blk [.c (.int .i64 n), .c (.int .i64 m), .sl 5 (xs.map cellV)], .blk [.sl 1 (f.map iv)], .blk [.sl 5 (used.map cellV)], .blk [.c (.int .i64 src)], .blk [.c (.int .i64 to)], .blk [.c (.int .i64 a), .c (.int .i64 b), .c (.int .i64 src), .c (.int .i64 to), .c (.int .i64 0)], .blk [.c (.int .i64 0)], .blk [.sl 5 ((xs ++ used).map cellV)], .blk [.c (.int .i64 n), .c (.int .i64 m), .sl 5 (xs.map cellV)]] ++ [.dfr, o .done (some .ret)])) (ext := [.blk [.c (.int .i64 a), .c (.int .i64 b), .c (.int .i64 src), .c (.int .i64 to), .c (.int .i64 0)]]) rfl (get_append_r _ 10) (by rw [set_append_r]; simp) (by simp) (key [.c (.int .i64 a), .c (.int .i64 b), .c (.int .i64 src), .c (.int .i64 to), .c (.int .i64 0)] 0 .done (some .ret) (by simp)) (.inr ⟨rfl, .inr ⟨a, b, ha1, hbm, rfl, hno, ?_⟩⟩)
        simp only [canT, hb1, hc2, hc3]
        rfl
      · refine W_draw (by kernel_rfl) (DR_go (by simp only [ev0, ev1, ev2, ev3, ev4, Nat.reduceLT, Nat.reduceLeDiff, Nat.reduceEqDiff, Nat.reduceAdd, Nat.reduceMul, Nat.reduceBEq, reduceCtorEq, alc29, alc30, ld24, ld26, fa24_0, ld3, fa24_1, bld29, sto29, sto30, ld22, len22, fa24_2, bsl64, alc22, sto22, fa29_2, sto3, fa29_3, fa29_0, ix26, fa29_1, ld29, a0, b0, hga, Int.toNat_natCast, hc1] <;> rfl) (DR_pure (f16_ok (busyAt a src to) _ (xs ++ used) _ (by simp; omega) (fun x _ => f27_ok x a b src to 0 src to _ _ _ _ (get_append_r _ 11) (get_append_r _ 3) (get_append_r _ 4))) rfl (Wants_at (j := 10) rfl rfl (by simp only [ev0, ev1, ev2, ev3, ev4, Nat.reduceLT, Nat.reduceLeDiff, Nat.reduceEqDiff, Nat.reduceAdd, Nat.reduceMul, Nat.reduceBEq, reduceCtorEq, alc29, alc30, ld24, ld26, fa24_0, ld3, fa24_1, bld29, sto29, sto30, ld22, len22, fa24_2, bsl64, alc22, sto22, fa29_2, sto3, fa29_3, fa29_0, ix26, fa29_1, ld29, a0, b0, hga, Int.toNat_natCast, hc1] <;> rfl)) (by simp only [ev0, ev1, ev2, ev3, ev4, Nat.reduceLT, Nat.reduceLeDiff, Nat.reduceEqDiff, Nat.reduceAdd, Nat.reduceMul, Nat.reduceBEq, reduceCtorEq, alc29, alc30, ld24, ld26, fa24_0, ld3, fa24_1, bld29, sto29, sto30, ld22, len22, fa24_2, bsl64, alc22, sto22, fa29_2, sto3, fa29_3, fa29_0, ix26, fa29_1, ld29, a0, b0, hga, Int.toNat_natCast, hc1] <;> rfl) (by simp only [ev0, ev1, ev2, ev3, ev4, Nat.reduceLT, Nat.reduceLeDiff, Nat.reduceEqDiff, Nat.reduceAdd, Nat.reduceMul, Nat.reduceBEq, reduceCtorEq, alc29, alc30, ld24, ld26, fa24_0, ld3, fa24_1, bld29, sto29, sto30, ld22, len22, fa24_2, bsl64, alc22, sto22, fa29_2, sto3, fa29_3, fa29_0, ix26, fa29_1, ld29, a0, b0, hga, Int.toNat_natCast, hc1] <;> rfl) (by simp only [ev0, ev1, ev2, ev3, ev4, Nat.reduceLT, Nat.reduceLeDiff, Nat.reduceEqDiff, Nat.reduceAdd, Nat.reduceMul, Nat.reduceBEq, reduceCtorEq, alc29, alc30, ld24, ld26, fa24_0, ld3, fa24_1, bld29, sto29, sto30, ld22, len22, fa24_2, bsl64, alc22, sto22, fa29_2, sto3, fa29_3, fa29_0, ix26, fa29_1, ld29, a0, b0, hga, Int.toNat_natCast, hc1] <;> rfl) (DR_go (by simp only [ev0, ev1, ev2, ev3, ev4, Nat.reduceLT, Nat.reduceLeDiff, Nat.reduceEqDiff, Nat.reduceAdd, Nat.reduceMul, Nat.reduceBEq, reduceCtorEq, alc29, alc30, ld24, ld26, fa24_0, ld3, fa24_1, bld29, sto29, sto30, ld22, len22, fa24_2, bsl64, alc22, sto22, fa29_2, sto3, fa29_3, fa29_0, ix26, fa29_1, ld29, a0, b0, hga, Int.toNat_natCast, hc1, hc2, Bool.not_true, Bool.not_false] <;> rfl) (DR_pure (f16_ok (isAt a b) _ used _ (by omega) (fun x _ => f28_ok x a b src to 0 _ _ (get_append_r _ 11))) rfl (Wants_at (j := 16) rfl rfl (by simp only [ev0, ev1, ev2, ev3, ev4, Nat.reduceLT, Nat.reduceLeDiff, Nat.reduceEqDiff, Nat.reduceAdd, Nat.reduceMul, Nat.reduceBEq, reduceCtorEq, alc29, alc30, ld24, ld26, fa24_0, ld3, fa24_1, bld29, sto29, sto30, ld22, len22, fa24_2, bsl64, alc22, sto22, fa29_2, sto3, fa29_3, fa29_0, ix26, fa29_1, ld29, a0, b0, hga, Int.toNat_natCast, hc1, hc2, Bool.not_true, Bool.not_false] <;> rfl)) (by simp only [ev0, ev1, ev2, ev3, ev4, Nat.reduceLT, Nat.reduceLeDiff, Nat.reduceEqDiff, Nat.reduceAdd, Nat.reduceMul, Nat.reduceBEq, reduceCtorEq, alc29, alc30, ld24, ld26, fa24_0, ld3, fa24_1, bld29, sto29, sto30, ld22, len22, fa24_2, bsl64, alc22, sto22, fa29_2, sto3, fa29_3, fa29_0, ix26, fa29_1, ld29, a0, b0, hga, Int.toNat_natCast, hc1, hc2, Bool.not_true, Bool.not_false] <;> rfl) (by simp only [ev0, ev1, ev2, ev3, ev4, Nat.reduceLT, Nat.reduceLeDiff, Nat.reduceEqDiff, Nat.reduceAdd, Nat.reduceMul, Nat.reduceBEq, reduceCtorEq, alc29, alc30, ld24, ld26, fa24_0, ld3, fa24_1, bld29, sto29, sto30, ld22, len22, fa24_2, bsl64, alc22, sto22, fa29_2, sto3, fa29_3, fa29_0, ix26, fa29_1, ld29, a0, b0, hga, Int.toNat_natCast, hc1, hc2, Bool.not_true, Bool.not_false] <;> rfl) (by simp only [ev0, ev1, ev2, ev3, ev4, Nat.reduceLT, Nat.reduceLeDiff, Nat.reduceEqDiff, Nat.reduceAdd, Nat.reduceMul, Nat.reduceBEq, reduceCtorEq, alc29, alc30, ld24, ld26, fa24_0, ld3, fa24_1, bld29, sto29, sto30, ld22, len22, fa24_2, bsl64, alc22, sto22, fa29_2, sto3, fa29_3, fa29_0, ix26, fa29_1, ld29, a0, b0, hga, Int.toNat_natCast, hc1, hc2, Bool.not_true, Bool.not_false] <;> rfl) (DR_end (by simp only [ev0, ev1, ev2, ev3, ev4, Nat.reduceLT, Nat.reduceLeDiff, Nat.reduceEqDiff, Nat.reduceAdd, Nat.reduceMul, Nat.reduceBEq, reduceCtorEq, alc29, alc30, ld24, ld26, fa24_0, ld3, fa24_1, bld29, sto29, sto30, ld22, len22, fa24_2, bsl64, alc22, sto22, fa29_2, sto3, fa29_3, fa29_0, ix26, fa29_1, ld29, a0, b0, hga, Int.toNat_natCast, hc1, hc2, hc3, Bool.not_true, Bool.not_false] <;> rfl)))))) (by kernel_rfl) (by first | exact trivial | kernel_rfl) ?_
        with_reducible repeat (first | refine n1 ?_ | refine n2 ?_ | refine n3 ?_ | refine n4 ?_ | refine n5 ?_ | refine n6 ?_ | refine n7 rfl ?_ | refine W_seq ?_ | refine W_block ?_ | refine W_skip ?_ | refine W_exit ?_ | refine W_ret ?_)
        refine W_keep' (ks := [88]) (by simp only [ev0, ev4, Nat.reduceEqDiff] <;> rfl) ?_
        refine W_false rfl ?_
        with_reducible repeat (first | refine n1 ?_ | refine n2 ?_ | refine n3 ?_ | refine n4 ?_ | refine n5 ?_ | refine n6 ?_ | refine n7 rfl ?_ | refine W_seq ?_ | refine W_block ?_ | refine W_skip ?_ | refine W_exit ?_ | refine W_ret ?_)
        refine REnd_ext (b := true) (st := .ready) (pe := none) (h' := h ++ ([.blk [.c (.int .i64 n), .c (.int .i64 m), .sl 5 (xs.map cellV)], .blk [.sl 1 (f.map iv)], .blk [.sl 5 (used.map cellV)], .blk [.c (.int .i64 src)], .blk [.c (.int .i64 to)], .blk [.c (.int .i64 0), .c (.int .i64 0), .c (.int .i64 0), .c (.int .i64 0), .c (.int .i64 0)], .blk [.c (.int .i64 0)], .blk [.sl 5 ((xs ++ used).map cellV)], .blk [.c (.int .i64 n), .c (.int .i64 m), .sl 5 (xs.map cellV)]] ++ [.dfr, o .ready none])) (ext := [.blk [.c (.int .i64 a), .c (.int .i64 b), .c (.int .i64 src), .c (.int .i64 to), .c (.int .i64 0)]]) rfl (get_append_r _ 10) (by rw [set_append_r]; simp) (Nat.le_refl _) hk0 (.inl ⟨rfl, rfl, stepN ?_⟩)
        simp only [canT, hb1, hc3, Bool.not_true, Bool.and_false]
    · refine W_draw (by kernel_rfl) (DR_go (by simp only [ev0, ev1, ev2, ev3, ev4, Nat.reduceLT, Nat.reduceLeDiff, Nat.reduceEqDiff, Nat.reduceAdd, Nat.reduceMul, Nat.reduceBEq, reduceCtorEq, alc29, alc30, ld24, ld26, fa24_0, ld3, fa24_1, bld29, sto29, sto30, ld22, len22, fa24_2, bsl64, alc22, sto22, fa29_2, sto3, fa29_3, fa29_0, ix26, fa29_1, ld29, a0, b0, hga, Int.toNat_natCast, hc1] <;> rfl) (DR_pure (f16_ok (busyAt a src to) _ (xs ++ used) _ (by simp; omega) (fun x _ => f27_ok x a b src to 0 src to _ _ _ _ (get_append_r _ 11) (get_append_r _ 3) (get_append_r _ 4))) rfl (Wants_at (j := 10) rfl rfl (by simp only [ev0, ev1, ev2, ev3, ev4, Nat.reduceLT, Nat.reduceLeDiff, Nat.reduceEqDiff, Nat.reduceAdd, Nat.reduceMul, Nat.reduceBEq, reduceCtorEq, alc29, alc30, ld24, ld26, fa24_0, ld3, fa24_1, bld29, sto29, sto30, ld22, len22, fa24_2, bsl64, alc22, sto22, fa29_2, sto3, fa29_3, fa29_0, ix26, fa29_1, ld29, a0, b0, hga, Int.toNat_natCast, hc1] <;> rfl)) (by simp only [ev0, ev1, ev2, ev3, ev4, Nat.reduceLT, Nat.reduceLeDiff, Nat.reduceEqDiff, Nat.reduceAdd, Nat.reduceMul, Nat.reduceBEq, reduceCtorEq, alc29, alc30, ld24, ld26, fa24_0, ld3, fa24_1, bld29, sto29, sto30, ld22, len22, fa24_2, bsl64, alc22, sto22, fa29_2, sto3, fa29_3, fa29_0, ix26, fa29_1, ld29, a0, b0, hga, Int.toNat_natCast, hc1] <;> rfl) (by simp only [ev0, ev1, ev2, ev3, ev4, Nat.reduceLT, Nat.reduceLeDiff, Nat.reduceEqDiff, Nat.reduceAdd, Nat.reduceMul, Nat.reduceBEq, reduceCtorEq, alc29, alc30, ld24, ld26, fa24_0, ld3, fa24_1, bld29, sto29, sto30, ld22, len22, fa24_2, bsl64, alc22, sto22, fa29_2, sto3, fa29_3, fa29_0, ix26, fa29_1, ld29, a0, b0, hga, Int.toNat_natCast, hc1] <;> rfl) (by simp only [ev0, ev1, ev2, ev3, ev4, Nat.reduceLT, Nat.reduceLeDiff, Nat.reduceEqDiff, Nat.reduceAdd, Nat.reduceMul, Nat.reduceBEq, reduceCtorEq, alc29, alc30, ld24, ld26, fa24_0, ld3, fa24_1, bld29, sto29, sto30, ld22, len22, fa24_2, bsl64, alc22, sto22, fa29_2, sto3, fa29_3, fa29_0, ix26, fa29_1, ld29, a0, b0, hga, Int.toNat_natCast, hc1] <;> rfl) (DR_end (by simp only [ev0, ev1, ev2, ev3, ev4, Nat.reduceLT, Nat.reduceLeDiff, Nat.reduceEqDiff, Nat.reduceAdd, Nat.reduceMul, Nat.reduceBEq, reduceCtorEq, alc29, alc30, ld24, ld26, fa24_0, ld3, fa24_1, bld29, sto29, sto30, ld22, len22, fa24_2, bsl64, alc22, sto22, fa29_2, sto3, fa29_3, fa29_0, ix26, fa29_1, ld29, a0, b0, hga, Int.toNat_natCast, hc1, hc2, Bool.not_true, Bool.not_false] <;> rfl)))) (by kernel_rfl) (by first | exact trivial | kernel_rfl) ?_
      with_reducible repeat (first | refine n1 ?_ | refine n2 ?_ | refine n3 ?_ | refine n4 ?_ | refine n5 ?_ | refine n6 ?_ | refine n7 rfl ?_ | refine W_seq ?_ | refine W_block ?_ | refine W_skip ?_ | refine W_exit ?_ | refine W_ret ?_)
      refine W_keep' (ks := [88]) (by simp only [ev0, ev4, Nat.reduceEqDiff] <;> rfl) ?_
      refine W_false rfl ?_
      with_reducible repeat (first | refine n1 ?_ | refine n2 ?_ | refine n3 ?_ | refine n4 ?_ | refine n5 ?_ | refine n6 ?_ | refine n7 rfl ?_ | refine W_seq ?_ | refine W_block ?_ | refine W_skip ?_ | refine W_exit ?_ | refine W_ret ?_)
      refine REnd_ext (b := true) (st := .ready) (pe := none) (h' := h ++ ([.blk [.c (.int .i64 n), .c (.int .i64 m), .sl 5 (xs.map cellV)], .blk [.sl 1 (f.map iv)], .blk [.sl 5 (used.map cellV)], .blk [.c (.int .i64 src)], .blk [.c (.int .i64 to)], .blk [.c (.int .i64 0), .c (.int .i64 0), .c (.int .i64 0), .c (.int .i64 0), .c (.int .i64 0)], .blk [.c (.int .i64 0)], .blk [.sl 5 ((xs ++ used).map cellV)], .blk [.c (.int .i64 n), .c (.int .i64 m), .sl 5 (xs.map cellV)]] ++ [.dfr, o .ready none])) (ext := [.blk [.c (.int .i64 a), .c (.int .i64 b), .c (.int .i64 src), .c (.int .i64 to), .c (.int .i64 0)]]) rfl (get_append_r _ 10) (by rw [set_append_r]; simp) (Nat.le_refl _) hk0 (.inl ⟨rfl, rfl, stepN ?_⟩)
      have : (xs.any (busyAt a src to) || used.any (busyAt a src to)) = true := by rw [← List.any_append]; exact hc2
      simp only [canT, List.any_append, this]
      simp
  · rintro a hh ⟨rfl, hno⟩
    refine ⟨rfl, fun x y hy hxy => hno x y hy ?_⟩
    omega
  · rintro hh ⟨rfl, hno⟩
    exact .inl ⟨rfl, hno⟩
  · intro x y hy hxy
    omega
  · rintro r hh ⟨rfl, ⟨rfl, hno⟩ | ⟨a, b, ha1, hb1, rfl, hno, hyes⟩⟩
    · refine ⟨get_append_r _ 9, .ready, none, get_append_r _ 10, by simp, by simp, fun _ => ?_⟩
      rw [set_append_r]
      with_reducible repeat (first | refine n1 ?_ | refine n2 ?_ | refine n3 ?_ | refine n4 ?_ | refine n5 ?_ | refine n6 ?_ | refine n7 rfl ?_ | refine W_seq ?_ | refine W_block ?_ | refine W_skip ?_ | refine W_exit ?_ | refine W_ret ?_)
      refine W_go (by simp only [ev0, ev1, ev2, ev3, ev4, Nat.reduceLT, Nat.reduceLeDiff, Nat.reduceEqDiff, Nat.reduceAdd, Nat.reduceMul, Nat.reduceBEq, reduceCtorEq, alc29, alc30, ld24, ld26, fa24_0, ld3, fa24_1, bld29, sto29, sto30, ld22, len22, fa24_2, bsl64, alc22, sto22, fa29_2, sto3, fa29_3, fa29_0, ix26, fa29_1, ld29] <;> rfl) (Nat.le_of_ble_eq_true rfl) ?_
      refine WL_endk (ks := [10, 11]) (by simp only [ev0, ev4, Nat.reduceEqDiff] <;> rfl) ?_
      with_reducible repeat (first | refine n1 ?_ | refine n2 ?_ | refine n3 ?_ | refine n4 ?_ | refine n5 ?_ | refine n6 ?_ | refine n7 rfl ?_ | refine W_seq ?_ | refine W_block ?_ | refine W_skip ?_ | refine W_exit ?_ | refine W_ret ?_)
      refine Fin_d (by simp) (h2 := h ++ [.blk [.c (.int .i64 n), .c (.int .i64 m), .sl 5 (xs.map cellV)], .blk [.sl 1 (f.map iv)], .blk [.sl 5 (used.map cellV)], .blk [.c (.int .i64 src)], .blk [.c (.int .i64 to)], .blk [.c (.int .i64 0), .c (.int .i64 0), .c (.int .i64 0), .c (.int .i64 0), .c (.int .i64 0)], .blk [.c (.int .i64 13)], .blk [.sl 5 ((xs ++ used).map cellV)], .blk [.c (.int .i64 n), .c (.int .i64 m), .sl 5 (xs.map cellV)], .gone, .gone]) (by simp only [Hp.gones]; rw [set_append_r]; rfl) ?_
      refine Fin_pure [.blk [.c (.int .i64 n), .c (.int .i64 m), .sl 5 (xs.map cellV)], .blk [.sl 1 (f.map iv)], .blk [.sl 5 (used.map cellV)], .blk [.c (.int .i64 src)], .blk [.c (.int .i64 to)], .blk [.c (.int .i64 0), .c (.int .i64 0), .c (.int .i64 0), .c (.int .i64 0), .c (.int .i64 0)], .blk [.c (.int .i64 13)], .blk [.sl 5 ((xs ++ used).map cellV)], .blk [.c (.int .i64 n), .c (.int .i64 m), .sl 5 (xs.map cellV)], .gone, .gone] _ (by first | exact .inl rfl | exact .inr rfl) rfl (by simp only [Tryd.results8, vres, vresL, vres1, one_, vload_eq, Option.map_some, ev0, ev3, ev4, Nat.reduceEqDiff, Nat.reduceAdd, Nat.reduceLeDiff, td29, td30] <;> rfl) rfl (by simp only [one_, rf_c, rf_any, rf_sl, rf_ptr, rf_fn, rf_agg, rf_tup, rf, List.map_cons, List.map_nil, td29, td30] <;> rfl) hk (by simp) ?_
      exact ⟨⟨zeroC, 13, by simp [zeroC, cellV], .full h1 h2n h6 (by omega) (by simpa using hno)⟩, rfl⟩
    · refine ⟨get_append_r _ 9, .done, some .ret, get_append_r _ 10, by simp, ?_, by simp⟩
      rintro c hc
      cases hc
      rw [set_append_r]
      with_reducible repeat (first | refine n1 ?_ | refine n2 ?_ | refine n3 ?_ | refine n4 ?_ | refine n5 ?_ | refine n6 ?_ | refine n7 rfl ?_ | refine W_seq ?_ | refine W_block ?_ | refine W_skip ?_ | refine W_exit ?_ | refine W_ret ?_)
      refine Fin_d (by simp) (h2 := h ++ [.blk [.c (.int .i64 n), .c (.int .i64 m), .sl 5 (xs.map cellV)], .blk [.sl 1 (f.map iv)], .blk [.sl 5 (used.map cellV)], .blk [.c (.int .i64 src)], .blk [.c (.int .i64 to)], .blk [.c (.int .i64 a), .c (.int .i64 b), .c (.int .i64 src), .c (.int .i64 to), .c (.int .i64 0)], .blk [.c (.int .i64 0)], .blk [.sl 5 ((xs ++ used).map cellV)], .blk [.c (.int .i64 n), .c (.int .i64 m), .sl 5 (xs.map cellV)], .gone, .gone]) (by simp only [Hp.gones]; rw [set_append_r]; rfl) ?_
      refine Fin_pure [.blk [.c (.int .i64 n), .c (.int .i64 m), .sl 5 (xs.map cellV)], .blk [.sl 1 (f.map iv)], .blk [.sl 5 (used.map cellV)], .blk [.c (.int .i64 src)], .blk [.c (.int .i64 to)], .blk [.c (.int .i64 a), .c (.int .i64 b), .c (.int .i64 src), .c (.int .i64 to), .c (.int .i64 0)], .blk [.c (.int .i64 0)], .blk [.sl 5 ((xs ++ used).map cellV)], .blk [.c (.int .i64 n), .c (.int .i64 m), .sl 5 (xs.map cellV)], .gone, .gone] _ (by first | exact .inl rfl | exact .inr rfl) rfl (by simp only [Tryd.results8, vres, vresL, vres1, one_, vload_eq, Option.map_some, ev0, ev3, ev4, Nat.reduceEqDiff, Nat.reduceAdd, Nat.reduceLeDiff, td29, td30] <;> rfl) rfl (by simp only [one_, rf_c, rf_any, rf_sl, rf_ptr, rf_fn, rf_agg, rf_tup, rf, List.map_cons, List.map_nil, td29, td30] <;> rfl) hk (by simp) ?_
      exact ⟨⟨⟨a, b, src, to, 0⟩, 0, by simp [cellV], .at_ a b h1 h2n h6 (by omega) (by simp; omega) (by simp; omega) (by simpa using hno) hyes⟩, rfl⟩
end Go.Vm
