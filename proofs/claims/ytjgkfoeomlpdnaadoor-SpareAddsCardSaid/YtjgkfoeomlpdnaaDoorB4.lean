/- A part of the proof: a calculus over values without addresses, and what the functions of the program compute in it. -/
import Derived.Test.YtjgkfoeomlpdnaaDoorB3
import Derived.Laws.StructEq
import Derived.Test.YtjgkfoeomlpdnaaDoorA3
import Derived.Lib.LaidTab
import Derived.Lib.ItoaLen
import Derived.Test.YtjgkfoeomlpdnaaDoorB0
/- The laws' example; the law of the masks' definitions. -/
namespace Go.Vm
open Go Go.RowKit Go.Proofs
set_option linter.unusedSimpArgs false
set_option linter.unusedVariables false

theorem eq29 (a0 a1 a2 a3 a4 b0 b1 b2 b3 b4 : Int) (w : World) : (Op.equalIn 10000 29 (.agg #[.int .i64 a0, .int .i64 a1, .int .i64 a2, .int .i64 a3, .int .i64 a4]) (.agg #[.int .i64 b0, .int .i64 b1, .int .i64 b2, .int .i64 b3, .int .i64 b4])).run Tryd.prog w =
    .ok (a0 == b0 && (a1 == b1 && (a2 == b2 && (a3 == b3 && a4 == b4)))) w := by
  have hS : Tryd.prog.underlying 29 = some (.struct (Tryd.prog.fieldsOf 29)) := by kernel_rfl
  rw [show (10000 : Nat) = 9998 + 1 + 1 from rfl, run_equalIn_agg w (9998 + 1) 29 _ _ hS (by kernel_rfl)]
  have u3 : Tryd.prog.underlying 3 = some (.int .i64) := by kernel_rfl
  have s3 : ∀ w, (sizeOf 3).run Tryd.prog w = .ok 1 w := (tdOf_ok Tryd.prog).size td3
  have z3 := (tdOf_ok Tryd.prog).agg td3
  have hf : (Tryd.prog.fieldsOf 29).toList = [⟨ "Slot", 3, 0, false, "", "", 0⟩, ⟨ "Offset", 3, 1, false, "", "", 8⟩, ⟨ "From", 3, 2, false, "", "", 16⟩, ⟨ "To", 3, 3, false, "", "", 24⟩, ⟨ "Flow", 3, 4, false, "", "", 32⟩] := by kernel_rfl
  rw [hf]
  have e : ∀ (x y : Int) (w : World), (Op.equalIn (9998 + 1) 3 (.int .i64 x) (.int .i64 y)).run Tryd.prog w = .ok (x == y) w := fun x y w => run_equalIn_int w 9998 3 .i64 .i64 x y u3
  simp [Op.eqFields, part, s3, e, z3, TD.row]
  by_cases h0 : a0 = b0 <;> by_cases h1 : a1 = b1 <;> by_cases h2 : a2 = b2 <;> by_cases h3 : a3 = b3 <;> by_cases h4 : a4 = b4 <;> simp [h0, h1, h2, h3, h4]

theorem agg5 {V : View} {D : Nat → Prop} {w : World} {c : Cell} {v : Value} (h : RV V D w (.agg (cellV c)) v) : v = .agg #[.int .i64 c.slot, .int .i64 c.offset, .int .i64 c.src, .int .i64 c.to, .int .i64 c.flow] := by
  cases h
  rename_i vs hl hp
  have hs : vs.size = 5 := hl.symm
  have g : ∀ i (x : Int) (hi : i < 5), (cellV c)[i]? = some (.c (.int .i64 x)) → vs[i]? = some (.int .i64 x) := by
    intro i x hi hx
    have h1 := hp i _ vs[i] hx (Array.getElem?_eq_getElem (by omega))
    rw [Array.getElem?_eq_getElem (by omega), h1.c_inv]
  congr 1
  apply Array.ext_getElem?
  intro i
  match i with
  | 0 => exact g 0 _ (by decide) rfl
  | 1 => exact g 1 _ (by decide) rfl
  | 2 => exact g 2 _ (by decide) rfl
  | 3 => exact g 3 _ (by decide) rfl
  | 4 => exact g 4 _ (by decide) rfl
  | i + 5 => rw [Array.getElem?_eq_none (by omega)]; simp

theorem Does_eq29 {G : List (Nat × Obj)} {o : Oper} {yt : TypeId} {x y : Operand} (ho : o.op = .binOp .eql 29 x y yt) {ev : Operand → Val} (a b : Cell) (hx : ev x = .agg (cellV a)) (hy : ev y = .agg (cellV b)) {fid : Option Nat} {ob : Ob} {nid : Nat} :
    Does Tryd.prog G o ev fid ob nid ⟨.c (.bool (a.slot == b.slot && (a.offset == b.offset && (a.src == b.src && (a.to == b.to && a.flow == b.flow))))), none, none⟩ :=
  Does.quiet fun V D w H ρ _ hv _ => ⟨_, by
    have h1 := hv x (by simp [ho, Op.operands]); rw [hx] at h1
    have h2 := hv y (by simp [ho, Op.operands]); rw [hy] at h2
    simp only [execOp, ho, agg5 h1, agg5 h2]
    rw [Sem.run_bind, Sem.run_bind, run_eqGuard_agg w .eql 29 x y _ _ (by kernel_rfl)]
    simp only [Result.andThen_ok]
    rw [run_eql_struct, eq29]
    simp, .c _⟩
theorem VCall.args {P : Program} {G : List (Nat × Obj)} {fv : Val} {as_ bs : List Val} {h : Hp} {Q : Val → Hp → Prop} (hl : as_.length = bs.length) (hw : ∀ (V : View) (D : Nat → Prop) (w : World) (i : Nat) (a b : Val) (v : Value), as_[i]? = some a → bs[i]? = some b → RV V D w a v → RV V D w b v)
    (hc : VCall P G fv bs h Q) : VCall P G fv as_ h Q := by
  intro V w fx ax h1 h2 h3
  refine hc V w fx ax h1 h2 ⟨by rw [← hl]; exact h3.1, fun i d v e1 e2 => ?_⟩
  have hi : i < as_.length := by rw [hl]; exact (List.getElem?_eq_some_iff.1 e1).1
  exact hw V h.D w i as_[i] d v (List.getElem?_eq_getElem hi) e1 (h3.2 i as_[i] v (List.getElem?_eq_getElem hi) e2)

def s0 : Sch := ⟨2, 3, [⟨0, 1, 0, 1, 5⟩, ⟨1, 0, 2, 3, 6⟩]⟩
theorem s0_form : formB s0 = true := by decide
theorem s0_free : freeV s0 = [5, 6] := by decide
theorem s0_err : freeE s0 = 0 := by decide
theorem s0_chk : chkS [5, 6] 2 3 = 0 := by decide
theorem s0_cnt : cnt [5, 6] = 4 := by decide
theorem s0_take {c : Cell} {e : Int} (h : TakeR s0 [5, 6] [] 1 4 c e) : c = ⟨1, 1, 1, 4, 0⟩ ∧ e = 0 := by
  have k1 : noneB (canT s0 [5, 6] [] 1 4) 3 2 0 → False := fun h => by
    exact absurd (h 1 1 (by decide) (by decide)) (by decide)
  cases h with
  | arg h => rcases h with h | h
             · rw [s0_form] at h; cases h
             · exact absurd s0_chk h
  | range _ _ h => exact absurd h (by decide)
  | large _ _ _ h => exact absurd h (by decide)
  | full _ _ _ _ h => exact (k1 h).elim
  | at_ a b _ _ _ _ ha hb hn hy =>
    have ha' : a < 2 := by simp [s0] at ha; omega
    have hb' : b < 3 := by simp [s0] at hb; omega
    have key : ∀ a, a < 2 → ∀ b, b < 3 → canT s0 [5, 6] [] 1 4 a b = true → (a = 1 ∧ (b = 1 ∨ b = 2)) := by decide
    obtain ⟨rfl, rfl | rfl⟩ := key a ha' b hb' hy
    · exact ⟨rfl, rfl⟩
    · exact absurd (hn 1 1 (by decide) (by decide)) (by decide)

set_option maxRecDepth 8000 in
theorem f7_ok {G} (hP : PrintOK G) (h : Hp) : VPure Tryd.prog G (.fn 7 []) [] h (.c (.bool true)) := by
  refine VCall_fn' (tdOf_ok _) Tryd.func7 rfl (by rfl) 47 rfl (by simp) (by simp only [ents, List.cons_append, List.nil_append, List.append_nil] <;> rfl) (fun hk ha hc => ?_)
  with_reducible repeat (first | refine n1 ?_ | refine n2 ?_ | refine n3 ?_ | refine n4 ?_ | refine n5 ?_ | refine n6 ?_ | refine n7 rfl ?_ | refine W_seq ?_ | refine W_block ?_ | refine W_skip ?_ | refine W_exit ?_ | refine W_ret ?_)
  refine W_go (by simp only [ev0, ev1, ev2, ev3, ev4, Nat.reduceLT, Nat.reduceLeDiff, Nat.reduceEqDiff, Nat.reduceAdd, Nat.reduceMul, Nat.reduceBEq, reduceCtorEq, bld29, bsl22, bld24, alc24, sto24, ld24, alc29, sto29, bsl26, ld29] <;> rfl) (Nat.le_of_ble_eq_true rfl) ?_
  refine WL_end ?_
  with_reducible repeat (first | refine n1 ?_ | refine n2 ?_ | refine n3 ?_ | refine n4 ?_ | refine n5 ?_ | refine n6 ?_ | refine n7 rfl ?_ | refine W_seq ?_ | refine W_block ?_ | refine W_skip ?_ | refine W_exit ?_ | refine W_ret ?_)
  refine W_go (by simp only [ev0, ev1, ev2, ev3, ev4, Nat.reduceLT, Nat.reduceLeDiff, Nat.reduceEqDiff, Nat.reduceAdd, Nat.reduceMul, Nat.reduceBEq, reduceCtorEq, bld29, bsl22, bld24, alc24, sto24, ld24, alc29, sto29, bsl26, ld29] <;> rfl) (Nat.le_of_ble_eq_true rfl) ?_
  refine WL_endk (ks := [1]) (by simp only [ev0, ev4, Nat.reduceEqDiff] <;> rfl) ?_
  with_reducible repeat (first | refine n1 ?_ | refine n2 ?_ | refine n3 ?_ | refine n4 ?_ | refine n5 ?_ | refine n6 ?_ | refine n7 rfl ?_ | refine W_seq ?_ | refine W_block ?_ | refine W_skip ?_ | refine W_exit ?_ | refine W_ret ?_)
  have hF : ∀ H, VPure Tryd.prog G (.fn 10 []) [.agg (schV s0)] H (.tup [.sl 1 ([5, 6].map iv), .c (.int .i64 0)]) := by
    intro H
    have := f10_ok hP s0 H (by decide)
    rw [s0_free, s0_err] at this; exact this
  have hT : ∀ H, VPure Tryd.prog G (.fn 8 []) [.agg (schV s0), .sl 1 ([5, 6].map iv), .c (.slice none 0 0), .c (.int .i64 1), .c (.int .i64 4)] H (.tup [.agg (cellV ⟨1, 1, 1, 4, 0⟩), .c (.int .i64 0)]) := by
    intro H
    refine VCall.args (bs := [.agg (schV s0), .sl 1 ([5, 6].map iv), .sl 5 ([].map cellV), .c (.int .i64 1), .c (.int .i64 4)]) rfl ?_ ((f8_ok hP s0 [5, 6] [] 1 4 H (by decide) (by decide) (by decide)).mono ?_)
    · intro V D w i a b v e1 e2 hr
      match i with
      | 0 => simp at e1 e2; subst e1; subst e2; exact hr
      | 1 => simp at e1 e2; subst e1; subst e2; exact hr
      | 2 => simp at e1 e2; subst e1; subst e2; rw [hr.c_inv]; exact .slNil
      | 3 => simp at e1 e2; subst e1; subst e2; exact hr
      | 4 => simp at e1 e2; subst e1; subst e2; exact hr
      | i + 5 => simp at e1
    · rintro r h' ⟨⟨c, e, rfl, ht⟩, rfl⟩
      obtain ⟨rfl, rfl⟩ := s0_take ht
      exact ⟨rfl, rfl⟩
  refine W_go (by simp only [ev0, ev1, ev2, ev3, ev4, Nat.reduceLT, Nat.reduceLeDiff, Nat.reduceEqDiff, Nat.reduceAdd, Nat.reduceMul, Nat.reduceBEq, reduceCtorEq, bld29, bsl22, bld24, alc24, sto24, ld24, alc29, sto29, bsl26, ld29] <;> rfl) (Nat.le_of_ble_eq_true rfl) ?_
  refine WL_pure (hF _) rfl (.inl rfl) (by simp only [ev0, ev1, ev2, ev3, ev4, Nat.reduceLT, Nat.reduceLeDiff, Nat.reduceEqDiff, Nat.reduceAdd, Nat.reduceMul, Nat.reduceBEq, reduceCtorEq, bld29, bsl22, bld24, alc24, sto24, ld24, alc29, sto29, bsl26, ld29] <;> rfl) (by simp only [ev0, ev1, ev2, ev3, ev4, Nat.reduceLT, Nat.reduceLeDiff, Nat.reduceEqDiff, Nat.reduceAdd, Nat.reduceMul, Nat.reduceBEq, reduceCtorEq, bld29, bsl22, bld24, alc24, sto24, ld24, alc29, sto29, bsl26, ld29] <;> rfl) rfl (by simp only [ev0, ev1, ev2, ev3, ev4, Nat.reduceLT, Nat.reduceLeDiff, Nat.reduceEqDiff, Nat.reduceAdd, Nat.reduceMul, Nat.reduceBEq, reduceCtorEq, bld29, bsl22, bld24, alc24, sto24, ld24, alc29, sto29, bsl26, ld29] <;> rfl) ?_
  refine WL_go (by simp only [ev0, ev1, ev2, ev3, ev4, Nat.reduceLT, Nat.reduceLeDiff, Nat.reduceEqDiff, Nat.reduceAdd, Nat.reduceMul, Nat.reduceBEq, reduceCtorEq, bld29, bsl22, bld24, alc24, sto24, ld24, alc29, sto29, bsl26, ld29] <;> rfl) (Nat.le_of_ble_eq_true rfl) ?_
  refine WL_endk (ks := [1, 2, 3]) (by simp only [ev0, ev4, Nat.reduceEqDiff] <;> rfl) ?_
  with_reducible repeat (first | refine n1 ?_ | refine n2 ?_ | refine n3 ?_ | refine n4 ?_ | refine n5 ?_ | refine n6 ?_ | refine n7 rfl ?_ | refine W_seq ?_ | refine W_block ?_ | refine W_skip ?_ | refine W_exit ?_ | refine W_ret ?_)
  refine W_go (by simp only [ev0, ev1, ev2, ev3, ev4, Nat.reduceLT, Nat.reduceLeDiff, Nat.reduceEqDiff, Nat.reduceAdd, Nat.reduceMul, Nat.reduceBEq, reduceCtorEq, bld29, bsl22, bld24, alc24, sto24, ld24, alc29, sto29, bsl26, ld29] <;> rfl) (Nat.le_of_ble_eq_true rfl) ?_
  refine WL_pure (hT _) rfl (.inl rfl) (by simp only [ev0, ev1, ev2, ev3, ev4, Nat.reduceLT, Nat.reduceLeDiff, Nat.reduceEqDiff, Nat.reduceAdd, Nat.reduceMul, Nat.reduceBEq, reduceCtorEq, bld29, bsl22, bld24, alc24, sto24, ld24, alc29, sto29, bsl26, ld29] <;> rfl) (by simp only [ev0, ev1, ev2, ev3, ev4, Nat.reduceLT, Nat.reduceLeDiff, Nat.reduceEqDiff, Nat.reduceAdd, Nat.reduceMul, Nat.reduceBEq, reduceCtorEq, bld29, bsl22, bld24, alc24, sto24, ld24, alc29, sto29, bsl26, ld29] <;> rfl) rfl (by simp only [ev0, ev1, ev2, ev3, ev4, Nat.reduceLT, Nat.reduceLeDiff, Nat.reduceEqDiff, Nat.reduceAdd, Nat.reduceMul, Nat.reduceBEq, reduceCtorEq, bld29, bsl22, bld24, alc24, sto24, ld24, alc29, sto29, bsl26, ld29] <;> rfl) ?_
  refine WL_go (by simp only [ev0, ev1, ev2, ev3, ev4, Nat.reduceLT, Nat.reduceLeDiff, Nat.reduceEqDiff, Nat.reduceAdd, Nat.reduceMul, Nat.reduceBEq, reduceCtorEq, bld29, bsl22, bld24, alc24, sto24, ld24, alc29, sto29, bsl26, ld29, cellV] <;> rfl) (Nat.le_of_ble_eq_true rfl) ?_
  refine WL_endk (ks := [2, 3, 4, 5]) (by simp only [ev0, ev4, Nat.reduceEqDiff] <;> rfl) ?_
  with_reducible repeat (first | refine n1 ?_ | refine n2 ?_ | refine n3 ?_ | refine n4 ?_ | refine n5 ?_ | refine n6 ?_ | refine n7 rfl ?_ | refine W_seq ?_ | refine W_block ?_ | refine W_skip ?_ | refine W_exit ?_ | refine W_ret ?_)
  have e0 : ((0 : Int) == 0) = true := rfl
  have e4 : ((4 : Int) == 4) = true := rfl
  have hE : ∀ H, VPure Tryd.prog G (.fn 22 []) [.sl 1 ([5, 6].map iv), .sl 1 [[.c (.int .i64 5)], [.c (.int .i64 6)]]] H (.c (.bool true)) := by
    intro H
    have := f22_ok (G := G) [5, 6] [5, 6] H (by decide) (by decide)
    exact this
  have hC : ∀ H, VPure Tryd.prog G (.fn 12 []) [.sl 1 ([5, 6].map iv)] H (.c (.int .i64 4)) := by
    intro H
    have := f12_ok (G := G) [5, 6] H (by decide)
    rw [s0_cnt] at this; exact this
  have hK : ∀ H, VPure Tryd.prog G (.fn 11 []) [.sl 1 ([5, 6].map iv), .c (.int .i64 2), .c (.int .i64 3)] H (.c (.int .i64 0)) := by
    intro H
    have := f11_ok (G := G) [5, 6] 2 3 H (by decide)
    rw [s0_chk] at this; exact this
  refine W_go (by simp only [ev0, ev1, ev2, ev3, ev4, Nat.reduceLT, Nat.reduceLeDiff, Nat.reduceEqDiff, Nat.reduceAdd, Nat.reduceMul, Nat.reduceBEq, reduceCtorEq, bld29, bsl22, bld24, alc24, sto24, ld24, alc29, sto29, bsl26, ld29, e0] <;> rfl) (Nat.le_of_ble_eq_true rfl) ?_
  refine WL_pure (hE _) rfl (Wants_at (j := 2) rfl rfl (by simp only [ev0, ev1, ev2, ev3, ev4, Nat.reduceLT, Nat.reduceLeDiff, Nat.reduceEqDiff, Nat.reduceAdd, Nat.reduceMul, Nat.reduceBEq, reduceCtorEq, bld29, bsl22, bld24, alc24, sto24, ld24, alc29, sto29, bsl26, ld29, e0] <;> rfl)) (by simp only [ev0, ev1, ev2, ev3, ev4, Nat.reduceLT, Nat.reduceLeDiff, Nat.reduceEqDiff, Nat.reduceAdd, Nat.reduceMul, Nat.reduceBEq, reduceCtorEq, bld29, bsl22, bld24, alc24, sto24, ld24, alc29, sto29, bsl26, ld29, e0] <;> rfl) (by simp only [ev0, ev1, ev2, ev3, ev4, Nat.reduceLT, Nat.reduceLeDiff, Nat.reduceEqDiff, Nat.reduceAdd, Nat.reduceMul, Nat.reduceBEq, reduceCtorEq, bld29, bsl22, bld24, alc24, sto24, ld24, alc29, sto29, bsl26, ld29, e0] <;> rfl) rfl (by simp only [ev0, ev1, ev2, ev3, ev4, Nat.reduceLT, Nat.reduceLeDiff, Nat.reduceEqDiff, Nat.reduceAdd, Nat.reduceMul, Nat.reduceBEq, reduceCtorEq, bld29, bsl22, bld24, alc24, sto24, ld24, alc29, sto29, bsl26, ld29, e0] <;> rfl) ?_
  refine WL_go (by simp only [ev0, ev1, ev2, ev3, ev4, Nat.reduceLT, Nat.reduceLeDiff, Nat.reduceEqDiff, Nat.reduceAdd, Nat.reduceMul, Nat.reduceBEq, reduceCtorEq, bld29, bsl22, bld24, alc24, sto24, ld24, alc29, sto29, bsl26, ld29, e0] <;> rfl) (Nat.le_of_ble_eq_true rfl) ?_
  refine WL_pure (hC _) rfl (Wants_at (j := 7) rfl rfl (by simp only [ev0, ev1, ev2, ev3, ev4, Nat.reduceLT, Nat.reduceLeDiff, Nat.reduceEqDiff, Nat.reduceAdd, Nat.reduceMul, Nat.reduceBEq, reduceCtorEq, bld29, bsl22, bld24, alc24, sto24, ld24, alc29, sto29, bsl26, ld29, e0] <;> rfl)) (by simp only [ev0, ev1, ev2, ev3, ev4, Nat.reduceLT, Nat.reduceLeDiff, Nat.reduceEqDiff, Nat.reduceAdd, Nat.reduceMul, Nat.reduceBEq, reduceCtorEq, bld29, bsl22, bld24, alc24, sto24, ld24, alc29, sto29, bsl26, ld29, e0] <;> rfl) (by simp only [ev0, ev1, ev2, ev3, ev4, Nat.reduceLT, Nat.reduceLeDiff, Nat.reduceEqDiff, Nat.reduceAdd, Nat.reduceMul, Nat.reduceBEq, reduceCtorEq, bld29, bsl22, bld24, alc24, sto24, ld24, alc29, sto29, bsl26, ld29, e0] <;> rfl) rfl (by simp only [ev0, ev1, ev2, ev3, ev4, Nat.reduceLT, Nat.reduceLeDiff, Nat.reduceEqDiff, Nat.reduceAdd, Nat.reduceMul, Nat.reduceBEq, reduceCtorEq, bld29, bsl22, bld24, alc24, sto24, ld24, alc29, sto29, bsl26, ld29, e0] <;> rfl) ?_
  refine WL_go (by simp only [ev0, ev1, ev2, ev3, ev4, Nat.reduceLT, Nat.reduceLeDiff, Nat.reduceEqDiff, Nat.reduceAdd, Nat.reduceMul, Nat.reduceBEq, reduceCtorEq, bld29, bsl22, bld24, alc24, sto24, ld24, alc29, sto29, bsl26, ld29, e0, e4] <;> rfl) (Nat.le_of_ble_eq_true rfl) ?_
  refine WL_ex (fid := none) (ob := .gone) (Does_eq29 rfl ⟨1, 1, 1, 4, 0⟩ ⟨1, 1, 1, 4, 0⟩ (by simp only [ev0, ev1, ev2, ev3, ev4, Nat.reduceLT, Nat.reduceLeDiff, Nat.reduceEqDiff, Nat.reduceAdd, Nat.reduceMul, Nat.reduceBEq, reduceCtorEq, bld29, bsl22, bld24, alc24, sto24, ld24, alc29, sto29, bsl26, ld29, e0, e4] <;> rfl) (by simp only [ev0, ev1, ev2, ev3, ev4, Nat.reduceLT, Nat.reduceLeDiff, Nat.reduceEqDiff, Nat.reduceAdd, Nat.reduceMul, Nat.reduceBEq, reduceCtorEq, bld29, bsl22, bld24, alc24, sto24, ld24, alc29, sto29, bsl26, ld29, e0, e4] <;> rfl)) (by intro c hc; cases hc) (Wants_at (j := 16) rfl rfl (by simp only [ev0, ev1, ev2, ev3, ev4, Nat.reduceLT, Nat.reduceLeDiff, Nat.reduceEqDiff, Nat.reduceAdd, Nat.reduceMul, Nat.reduceBEq, reduceCtorEq, bld29, bsl22, bld24, alc24, sto24, ld24, alc29, sto29, bsl26, ld29, e0, e4] <;> rfl)) (by intro id hid; cases hid) (by simp only [ev0, ev1, ev2, ev3, ev4, Nat.reduceLT, Nat.reduceLeDiff, Nat.reduceEqDiff, Nat.reduceAdd, Nat.reduceMul, Nat.reduceBEq, reduceCtorEq, bld29, bsl22, bld24, alc24, sto24, ld24, alc29, sto29, bsl26, ld29, e0, e4] <;> rfl) ?_
  have e1 : ((1 : Int) == 1) = true := rfl
  refine WL_go (by simp only [ev0, ev1, ev2, ev3, ev4, Nat.reduceLT, Nat.reduceLeDiff, Nat.reduceEqDiff, Nat.reduceAdd, Nat.reduceMul, Nat.reduceBEq, reduceCtorEq, bld29, bsl22, bld24, alc24, sto24, ld24, alc29, sto29, bsl26, ld29, e0, e1, e4, Bool.and_self] <;> rfl) (Nat.le_of_ble_eq_true rfl) ?_
  refine WL_pure (hK _) rfl (Wants_at (j := 21) rfl rfl (by simp only [ev0, ev1, ev2, ev3, ev4, Nat.reduceLT, Nat.reduceLeDiff, Nat.reduceEqDiff, Nat.reduceAdd, Nat.reduceMul, Nat.reduceBEq, reduceCtorEq, bld29, bsl22, bld24, alc24, sto24, ld24, alc29, sto29, bsl26, ld29, e0, e1, e4, Bool.and_self] <;> rfl)) (by simp only [ev0, ev1, ev2, ev3, ev4, Nat.reduceLT, Nat.reduceLeDiff, Nat.reduceEqDiff, Nat.reduceAdd, Nat.reduceMul, Nat.reduceBEq, reduceCtorEq, bld29, bsl22, bld24, alc24, sto24, ld24, alc29, sto29, bsl26, ld29, e0, e1, e4, Bool.and_self] <;> rfl) (by simp only [ev0, ev1, ev2, ev3, ev4, Nat.reduceLT, Nat.reduceLeDiff, Nat.reduceEqDiff, Nat.reduceAdd, Nat.reduceMul, Nat.reduceBEq, reduceCtorEq, bld29, bsl22, bld24, alc24, sto24, ld24, alc29, sto29, bsl26, ld29, e0, e1, e4, Bool.and_self] <;> rfl) rfl (by simp only [ev0, ev1, ev2, ev3, ev4, Nat.reduceLT, Nat.reduceLeDiff, Nat.reduceEqDiff, Nat.reduceAdd, Nat.reduceMul, Nat.reduceBEq, reduceCtorEq, bld29, bsl22, bld24, alc24, sto24, ld24, alc29, sto29, bsl26, ld29, e0, e1, e4, Bool.and_self] <;> rfl) ?_
  refine WL_go (by simp only [ev0, ev1, ev2, ev3, ev4, Nat.reduceLT, Nat.reduceLeDiff, Nat.reduceEqDiff, Nat.reduceAdd, Nat.reduceMul, Nat.reduceBEq, reduceCtorEq, bld29, bsl22, bld24, alc24, sto24, ld24, alc29, sto29, bsl26, ld29, e0, e1, e4, Bool.and_self] <;> rfl) (Nat.le_of_ble_eq_true rfl) ?_
  refine WL_endk (ks := [0]) (by simp only [ev0, ev4, Nat.reduceEqDiff] <;> rfl) ?_
  with_reducible repeat (first | refine n1 ?_ | refine n2 ?_ | refine n3 ?_ | refine n4 ?_ | refine n5 ?_ | refine n6 ?_ | refine n7 rfl ?_ | refine W_seq ?_ | refine W_block ?_ | refine W_skip ?_ | refine W_exit ?_ | refine W_ret ?_)
  refine Fin_pure [.blk (schV s0), .blk (cellV ⟨1, 1, 1, 4, 0⟩)] _ (by first | exact .inl rfl | exact .inr rfl) rfl (by simp only [Tryd.results7, vres, vresL, vres1, one_, vload_eq, Option.map_some, ev0, ev3, ev4, Nat.reduceEqDiff, Nat.reduceAdd, Nat.reduceLeDiff] <;> rfl) rfl (by simp only [one_, rf_c, rf_any, rf_sl, rf_ptr, rf_fn, rf_agg, rf_tup, rf, List.map_cons, List.map_nil] <;> rfl) hk (by simp) ?_
  exact ⟨rfl, rfl⟩
end Go.Vm
/- The law SpareChecks. -/
namespace Go.Vm
open Go Go.RowKit Go.Proofs
set_option linter.unusedSimpArgs false
set_option linter.unusedVariables false

theorem meet_len (xs ys : List Int) : (meetV xs ys).length ≤ xs.length := by
  unfold meetV
  split
  · simp; omega
  · simp
set_option maxRecDepth 8000 in
theorem f6_ok {G} (hP : PrintOK G) (xs ys : List Int) (len off : Int) (h : Hp) (h1 : xs.length < 4611686018427387904) (h2 : ys.length < 4611686018427387904) :
    VPure Tryd.prog G (.fn 6 []) [.sl 1 (xs.map iv), .sl 1 (ys.map iv), .c (.int .i64 len), .c (.int .i64 off)] h (.c (.bool true)) := by
  refine VCall_fn' (tdOf_ok _) Tryd.func6 rfl (by rfl) 61 rfl (by simp) (by simp only [ents, List.cons_append, List.nil_append, List.append_nil] <;> rfl) (fun hk ha hc => ?_)
  with_reducible repeat (first | refine n1 ?_ | refine n2 ?_ | refine n3 ?_ | refine n4 ?_ | refine n5 ?_ | refine n6 ?_ | refine n7 rfl ?_ | refine W_seq ?_ | refine W_block ?_ | refine W_skip ?_ | refine W_exit ?_ | refine W_ret ?_)
  refine W_go (by simp only [ev0, ev1, ev2, ev3, ev4, Nat.reduceLT, Nat.reduceLeDiff, Nat.reduceEqDiff, Nat.reduceAdd, Nat.reduceMul, Nat.reduceBEq, reduceCtorEq, len26] <;> rfl) (Nat.le_of_ble_eq_true rfl) ?_
  refine WL_end ?_
  with_reducible repeat (first | refine n1 ?_ | refine n2 ?_ | refine n3 ?_ | refine n4 ?_ | refine n5 ?_ | refine n6 ?_ | refine n7 rfl ?_ | refine W_seq ?_ | refine W_block ?_ | refine W_skip ?_ | refine W_exit ?_ | refine W_ret ?_)
  refine W_go (by simp only [ev0, ev1, ev2, ev3, ev4, Nat.reduceLT, Nat.reduceLeDiff, Nat.reduceEqDiff, Nat.reduceAdd, Nat.reduceMul, Nat.reduceBEq, reduceCtorEq, len26] <;> rfl) (Nat.le_of_ble_eq_true rfl) ?_
  refine WL_pure (f7_ok hP _) rfl (.inl rfl) (by simp only [ev0, ev1, ev2, ev3, ev4, Nat.reduceLT, Nat.reduceLeDiff, Nat.reduceEqDiff, Nat.reduceAdd, Nat.reduceMul, Nat.reduceBEq, reduceCtorEq, len26] <;> rfl) (by simp only [ev0, ev1, ev2, ev3, ev4, Nat.reduceLT, Nat.reduceLeDiff, Nat.reduceEqDiff, Nat.reduceAdd, Nat.reduceMul, Nat.reduceBEq, reduceCtorEq, len26] <;> rfl) rfl (by simp only [ev0, ev1, ev2, ev3, ev4, Nat.reduceLT, Nat.reduceLeDiff, Nat.reduceEqDiff, Nat.reduceAdd, Nat.reduceMul, Nat.reduceBEq, reduceCtorEq, len26] <;> rfl) ?_
  refine WL_go (by simp only [ev0, ev1, ev2, ev3, ev4, Nat.reduceLT, Nat.reduceLeDiff, Nat.reduceEqDiff, Nat.reduceAdd, Nat.reduceMul, Nat.reduceBEq, reduceCtorEq, len26, Bool.not_true] <;> rfl) (Nat.le_of_ble_eq_true rfl) ?_
  refine WL_endk (ks := [0, 1, 2, 3, 14]) (by simp only [ev0, ev4, Nat.reduceEqDiff] <;> rfl) ?_
  with_reducible repeat (first | refine n1 ?_ | refine n2 ?_ | refine n3 ?_ | refine n4 ?_ | refine n5 ?_ | refine n6 ?_ | refine n7 rfl ?_ | refine W_seq ?_ | refine W_block ?_ | refine W_skip ?_ | refine W_exit ?_ | refine W_ret ?_)
  refine W_false rfl ?_
  with_reducible repeat (first | refine n1 ?_ | refine n2 ?_ | refine n3 ?_ | refine n4 ?_ | refine n5 ?_ | refine n6 ?_ | refine n7 rfl ?_ | refine W_seq ?_ | refine W_block ?_ | refine W_skip ?_ | refine W_exit ?_ | refine W_ret ?_)
  by_cases ha1 : 600 < xs.length
  · have q1 : decide ((xs.length : Int) > 600) = true := by simp; omega
    refine W_go (by simp only [ev0, ev1, ev2, ev3, ev4, Nat.reduceLT, Nat.reduceLeDiff, Nat.reduceEqDiff, Nat.reduceAdd, Nat.reduceMul, Nat.reduceBEq, reduceCtorEq, len26, q1] <;> rfl) (Nat.le_of_ble_eq_true rfl) ?_
    refine WL_endk (ks := [22]) (by simp only [ev0, ev4, Nat.reduceEqDiff] <;> rfl) ?_
    with_reducible repeat (first | refine n1 ?_ | refine n2 ?_ | refine n3 ?_ | refine n4 ?_ | refine n5 ?_ | refine n6 ?_ | refine n7 rfl ?_ | refine W_seq ?_ | refine W_block ?_ | refine W_skip ?_ | refine W_exit ?_ | refine W_ret ?_)
    refine W_true rfl ?_
    with_reducible repeat (first | refine n1 ?_ | refine n2 ?_ | refine n3 ?_ | refine n4 ?_ | refine n5 ?_ | refine n6 ?_ | refine n7 rfl ?_ | refine W_seq ?_ | refine W_block ?_ | refine W_skip ?_ | refine W_exit ?_ | refine W_ret ?_)
    refine W_go (by simp only [ev0, ev1, ev2, ev3, ev4, Nat.reduceLT, Nat.reduceLeDiff, Nat.reduceEqDiff, Nat.reduceAdd, Nat.reduceMul, Nat.reduceBEq, reduceCtorEq, len26] <;> rfl) (Nat.le_of_ble_eq_true rfl) ?_
    refine WL_endk (ks := [8]) (by simp only [ev0, ev4, Nat.reduceEqDiff] <;> rfl) ?_
    with_reducible repeat (first | refine n1 ?_ | refine n2 ?_ | refine n3 ?_ | refine n4 ?_ | refine n5 ?_ | refine n6 ?_ | refine n7 rfl ?_ | refine W_seq ?_ | refine W_block ?_ | refine W_skip ?_ | refine W_exit ?_ | refine W_ret ?_)
    refine Fin_pure [] _ (by first | exact .inl rfl | exact .inr rfl) rfl (by simp only [Tryd.results6, vres, vresL, vres1, one_, vload_eq, Option.map_some, ev0, ev3, ev4, Nat.reduceEqDiff, Nat.reduceAdd, Nat.reduceLeDiff] <;> rfl) rfl (by simp only [one_, rf_c, rf_any, rf_sl, rf_ptr, rf_fn, rf_agg, rf_tup, rf, List.map_cons, List.map_nil] <;> rfl) hk (by simp) ?_
    exact ⟨rfl, rfl⟩
  have q1 : decide ((xs.length : Int) > 600) = false := by simp; omega
  by_cases ha2 : 600 < ys.length
  · have q2 : decide ((ys.length : Int) > 600) = true := by simp; omega
    refine W_go (by simp only [ev0, ev1, ev2, ev3, ev4, Nat.reduceLT, Nat.reduceLeDiff, Nat.reduceEqDiff, Nat.reduceAdd, Nat.reduceMul, Nat.reduceBEq, reduceCtorEq, len26, q1, q2] <;> rfl) (Nat.le_of_ble_eq_true rfl) ?_
    refine WL_endk (ks := [22]) (by simp only [ev0, ev4, Nat.reduceEqDiff] <;> rfl) ?_
    with_reducible repeat (first | refine n1 ?_ | refine n2 ?_ | refine n3 ?_ | refine n4 ?_ | refine n5 ?_ | refine n6 ?_ | refine n7 rfl ?_ | refine W_seq ?_ | refine W_block ?_ | refine W_skip ?_ | refine W_exit ?_ | refine W_ret ?_)
    refine W_true rfl ?_
    with_reducible repeat (first | refine n1 ?_ | refine n2 ?_ | refine n3 ?_ | refine n4 ?_ | refine n5 ?_ | refine n6 ?_ | refine n7 rfl ?_ | refine W_seq ?_ | refine W_block ?_ | refine W_skip ?_ | refine W_exit ?_ | refine W_ret ?_)
    refine W_go (by simp only [ev0, ev1, ev2, ev3, ev4, Nat.reduceLT, Nat.reduceLeDiff, Nat.reduceEqDiff, Nat.reduceAdd, Nat.reduceMul, Nat.reduceBEq, reduceCtorEq, len26] <;> rfl) (Nat.le_of_ble_eq_true rfl) ?_
    refine WL_endk (ks := [8]) (by simp only [ev0, ev4, Nat.reduceEqDiff] <;> rfl) ?_
    with_reducible repeat (first | refine n1 ?_ | refine n2 ?_ | refine n3 ?_ | refine n4 ?_ | refine n5 ?_ | refine n6 ?_ | refine n7 rfl ?_ | refine W_seq ?_ | refine W_block ?_ | refine W_skip ?_ | refine W_exit ?_ | refine W_ret ?_)
    refine Fin_pure [] _ (by first | exact .inl rfl | exact .inr rfl) rfl (by simp only [Tryd.results6, vres, vresL, vres1, one_, vload_eq, Option.map_some, ev0, ev3, ev4, Nat.reduceEqDiff, Nat.reduceAdd, Nat.reduceLeDiff] <;> rfl) rfl (by simp only [one_, rf_c, rf_any, rf_sl, rf_ptr, rf_fn, rf_agg, rf_tup, rf, List.map_cons, List.map_nil] <;> rfl) hk (by simp) ?_
    exact ⟨rfl, rfl⟩
  have q2 : decide ((ys.length : Int) > 600) = false := by simp; omega
  refine W_go (by simp only [ev0, ev1, ev2, ev3, ev4, Nat.reduceLT, Nat.reduceLeDiff, Nat.reduceEqDiff, Nat.reduceAdd, Nat.reduceMul, Nat.reduceBEq, reduceCtorEq, len26, q1, q2] <;> rfl) (Nat.le_of_ble_eq_true rfl) ?_
  refine WL_endk (ks := [0, 1, 2, 3, 22]) (by simp only [ev0, ev4, Nat.reduceEqDiff] <;> rfl) ?_
  with_reducible repeat (first | refine n1 ?_ | refine n2 ?_ | refine n3 ?_ | refine n4 ?_ | refine n5 ?_ | refine n6 ?_ | refine n7 rfl ?_ | refine W_seq ?_ | refine W_block ?_ | refine W_skip ?_ | refine W_exit ?_ | refine W_ret ?_)
  refine W_false rfl ?_
  with_reducible repeat (first | refine n1 ?_ | refine n2 ?_ | refine n3 ?_ | refine n4 ?_ | refine n5 ?_ | refine n6 ?_ | refine n7 rfl ?_ | refine W_seq ?_ | refine W_block ?_ | refine W_skip ?_ | refine W_exit ?_ | refine W_ret ?_)
  refine W_go (by simp only [ev0, ev1, ev2, ev3, ev4, Nat.reduceLT, Nat.reduceLeDiff, Nat.reduceEqDiff, Nat.reduceAdd, Nat.reduceMul, Nat.reduceBEq, reduceCtorEq, len26] <;> rfl) (Nat.le_of_ble_eq_true rfl) ?_
  refine WL_pure (f17_ok xs ys _ (by omega) (by omega)) rfl (.inl rfl) (by simp only [ev0, ev1, ev2, ev3, ev4, Nat.reduceLT, Nat.reduceLeDiff, Nat.reduceEqDiff, Nat.reduceAdd, Nat.reduceMul, Nat.reduceBEq, reduceCtorEq, len26] <;> rfl) (by simp only [ev0, ev1, ev2, ev3, ev4, Nat.reduceLT, Nat.reduceLeDiff, Nat.reduceEqDiff, Nat.reduceAdd, Nat.reduceMul, Nat.reduceBEq, reduceCtorEq, len26] <;> rfl) rfl (by simp only [ev0, ev1, ev2, ev3, ev4, Nat.reduceLT, Nat.reduceLeDiff, Nat.reduceEqDiff, Nat.reduceAdd, Nat.reduceMul, Nat.reduceBEq, reduceCtorEq, len26] <;> rfl) ?_
  refine WL_go (by simp only [ev0, ev1, ev2, ev3, ev4, Nat.reduceLT, Nat.reduceLeDiff, Nat.reduceEqDiff, Nat.reduceAdd, Nat.reduceMul, Nat.reduceBEq, reduceCtorEq, len26] <;> rfl) (Nat.le_of_ble_eq_true rfl) ?_
  refine WL_endk (ks := [0, 1, 2, 3, 9, 10]) (by simp only [ev0, ev4, Nat.reduceEqDiff] <;> rfl) ?_
  with_reducible repeat (first | refine n1 ?_ | refine n2 ?_ | refine n3 ?_ | refine n4 ?_ | refine n5 ?_ | refine n6 ?_ | refine n7 rfl ?_ | refine W_seq ?_ | refine W_block ?_ | refine W_skip ?_ | refine W_exit ?_ | refine W_ret ?_)
  refine W_go (by simp only [ev0, ev1, ev2, ev3, ev4, Nat.reduceLT, Nat.reduceLeDiff, Nat.reduceEqDiff, Nat.reduceAdd, Nat.reduceMul, Nat.reduceBEq, reduceCtorEq, len26] <;> rfl) (Nat.le_of_ble_eq_true rfl) ?_
  refine WL_pure (f18_ok xs ys _ (by omega) (by omega)) rfl (.inl rfl) (by simp only [ev0, ev1, ev2, ev3, ev4, Nat.reduceLT, Nat.reduceLeDiff, Nat.reduceEqDiff, Nat.reduceAdd, Nat.reduceMul, Nat.reduceBEq, reduceCtorEq, len26] <;> rfl) (by simp only [ev0, ev1, ev2, ev3, ev4, Nat.reduceLT, Nat.reduceLeDiff, Nat.reduceEqDiff, Nat.reduceAdd, Nat.reduceMul, Nat.reduceBEq, reduceCtorEq, len26] <;> rfl) rfl (by simp only [ev0, ev1, ev2, ev3, ev4, Nat.reduceLT, Nat.reduceLeDiff, Nat.reduceEqDiff, Nat.reduceAdd, Nat.reduceMul, Nat.reduceBEq, reduceCtorEq, len26] <;> rfl) ?_
  refine WL_go (by simp only [ev0, ev1, ev2, ev3, ev4, Nat.reduceLT, Nat.reduceLeDiff, Nat.reduceEqDiff, Nat.reduceAdd, Nat.reduceMul, Nat.reduceBEq, reduceCtorEq, len26] <;> rfl) (Nat.le_of_ble_eq_true rfl) ?_
  refine WL_endk (ks := [0, 1, 2, 3, 9, 10, 11, 12]) (by simp only [ev0, ev4, Nat.reduceEqDiff] <;> rfl) ?_
  with_reducible repeat (first | refine n1 ?_ | refine n2 ?_ | refine n3 ?_ | refine n4 ?_ | refine n5 ?_ | refine n6 ?_ | refine n7 rfl ?_ | refine W_seq ?_ | refine W_block ?_ | refine W_skip ?_ | refine W_exit ?_ | refine W_ret ?_)
  have ml := meet_len xs ys
  have hS : ∀ H, VPure Tryd.prog G (.fn 20 []) [.sl 1 ((meetV xs ys).map iv), .sl 1 ((meetV xs ys).map iv)] H (.c (.bool true)) := by
    intro H
    have := f20_ok (G := G) (meetV xs ys) (meetV xs ys) H (by omega) (by omega)
    rw [decide_eq_true rfl] at this; exact this
  have r1 : (chkS xs len off == chkS xs len off) = true := by simp
  have r2 : (meetE xs ys == meetE xs ys) = true := by simp
  have r3 : (cnt xs == cnt xs) = true := by simp
  refine W_go (by simp only [ev0, ev1, ev2, ev3, ev4, Nat.reduceLT, Nat.reduceLeDiff, Nat.reduceEqDiff, Nat.reduceAdd, Nat.reduceMul, Nat.reduceBEq, reduceCtorEq, len26] <;> rfl) (Nat.le_of_ble_eq_true rfl) ?_
  refine WL_pure (f11_ok xs len off _ h1) rfl (.inl rfl) (by simp only [ev0, ev1, ev2, ev3, ev4, Nat.reduceLT, Nat.reduceLeDiff, Nat.reduceEqDiff, Nat.reduceAdd, Nat.reduceMul, Nat.reduceBEq, reduceCtorEq, len26] <;> rfl) (by simp only [ev0, ev1, ev2, ev3, ev4, Nat.reduceLT, Nat.reduceLeDiff, Nat.reduceEqDiff, Nat.reduceAdd, Nat.reduceMul, Nat.reduceBEq, reduceCtorEq, len26] <;> rfl) rfl (by simp only [ev0, ev1, ev2, ev3, ev4, Nat.reduceLT, Nat.reduceLeDiff, Nat.reduceEqDiff, Nat.reduceAdd, Nat.reduceMul, Nat.reduceBEq, reduceCtorEq, len26] <;> rfl) ?_
  refine WL_go (by simp only [ev0, ev1, ev2, ev3, ev4, Nat.reduceLT, Nat.reduceLeDiff, Nat.reduceEqDiff, Nat.reduceAdd, Nat.reduceMul, Nat.reduceBEq, reduceCtorEq, len26] <;> rfl) (Nat.le_of_ble_eq_true rfl) ?_
  refine WL_pure (f19_ok xs len off _ h1) rfl (.inl rfl) (by simp only [ev0, ev1, ev2, ev3, ev4, Nat.reduceLT, Nat.reduceLeDiff, Nat.reduceEqDiff, Nat.reduceAdd, Nat.reduceMul, Nat.reduceBEq, reduceCtorEq, len26] <;> rfl) (by simp only [ev0, ev1, ev2, ev3, ev4, Nat.reduceLT, Nat.reduceLeDiff, Nat.reduceEqDiff, Nat.reduceAdd, Nat.reduceMul, Nat.reduceBEq, reduceCtorEq, len26] <;> rfl) rfl (by simp only [ev0, ev1, ev2, ev3, ev4, Nat.reduceLT, Nat.reduceLeDiff, Nat.reduceEqDiff, Nat.reduceAdd, Nat.reduceMul, Nat.reduceBEq, reduceCtorEq, len26] <;> rfl) ?_
  refine WL_go (by simp only [ev0, ev1, ev2, ev3, ev4, Nat.reduceLT, Nat.reduceLeDiff, Nat.reduceEqDiff, Nat.reduceAdd, Nat.reduceMul, Nat.reduceBEq, reduceCtorEq, len26, r1] <;> rfl) (Nat.le_of_ble_eq_true rfl) ?_
  refine WL_pure (hS _) rfl (Wants_at (j := 9) rfl rfl (by simp only [ev0, ev1, ev2, ev3, ev4, Nat.reduceLT, Nat.reduceLeDiff, Nat.reduceEqDiff, Nat.reduceAdd, Nat.reduceMul, Nat.reduceBEq, reduceCtorEq, len26, r1] <;> rfl)) (by simp only [ev0, ev1, ev2, ev3, ev4, Nat.reduceLT, Nat.reduceLeDiff, Nat.reduceEqDiff, Nat.reduceAdd, Nat.reduceMul, Nat.reduceBEq, reduceCtorEq, len26, r1] <;> rfl) (by simp only [ev0, ev1, ev2, ev3, ev4, Nat.reduceLT, Nat.reduceLeDiff, Nat.reduceEqDiff, Nat.reduceAdd, Nat.reduceMul, Nat.reduceBEq, reduceCtorEq, len26, r1] <;> rfl) rfl (by simp only [ev0, ev1, ev2, ev3, ev4, Nat.reduceLT, Nat.reduceLeDiff, Nat.reduceEqDiff, Nat.reduceAdd, Nat.reduceMul, Nat.reduceBEq, reduceCtorEq, len26, r1] <;> rfl) ?_
  refine WL_go (by simp only [ev0, ev1, ev2, ev3, ev4, Nat.reduceLT, Nat.reduceLeDiff, Nat.reduceEqDiff, Nat.reduceAdd, Nat.reduceMul, Nat.reduceBEq, reduceCtorEq, len26, r1, r2] <;> rfl) (Nat.le_of_ble_eq_true rfl) ?_
  refine WL_pure (f12_ok xs _ h1) rfl (Wants_at (j := 19) rfl rfl (by simp only [ev0, ev1, ev2, ev3, ev4, Nat.reduceLT, Nat.reduceLeDiff, Nat.reduceEqDiff, Nat.reduceAdd, Nat.reduceMul, Nat.reduceBEq, reduceCtorEq, len26, r1, r2] <;> rfl)) (by simp only [ev0, ev1, ev2, ev3, ev4, Nat.reduceLT, Nat.reduceLeDiff, Nat.reduceEqDiff, Nat.reduceAdd, Nat.reduceMul, Nat.reduceBEq, reduceCtorEq, len26, r1, r2] <;> rfl) (by simp only [ev0, ev1, ev2, ev3, ev4, Nat.reduceLT, Nat.reduceLeDiff, Nat.reduceEqDiff, Nat.reduceAdd, Nat.reduceMul, Nat.reduceBEq, reduceCtorEq, len26, r1, r2] <;> rfl) rfl (by simp only [ev0, ev1, ev2, ev3, ev4, Nat.reduceLT, Nat.reduceLeDiff, Nat.reduceEqDiff, Nat.reduceAdd, Nat.reduceMul, Nat.reduceBEq, reduceCtorEq, len26, r1, r2] <;> rfl) ?_
  refine WL_go (by simp only [ev0, ev1, ev2, ev3, ev4, Nat.reduceLT, Nat.reduceLeDiff, Nat.reduceEqDiff, Nat.reduceAdd, Nat.reduceMul, Nat.reduceBEq, reduceCtorEq, len26, r1, r2] <;> rfl) (Nat.le_of_ble_eq_true rfl) ?_
  refine WL_pure (f21_ok xs _ h1) rfl (Wants_at (j := 19) rfl rfl (by simp only [ev0, ev1, ev2, ev3, ev4, Nat.reduceLT, Nat.reduceLeDiff, Nat.reduceEqDiff, Nat.reduceAdd, Nat.reduceMul, Nat.reduceBEq, reduceCtorEq, len26, r1, r2] <;> rfl)) (by simp only [ev0, ev1, ev2, ev3, ev4, Nat.reduceLT, Nat.reduceLeDiff, Nat.reduceEqDiff, Nat.reduceAdd, Nat.reduceMul, Nat.reduceBEq, reduceCtorEq, len26, r1, r2] <;> rfl) (by simp only [ev0, ev1, ev2, ev3, ev4, Nat.reduceLT, Nat.reduceLeDiff, Nat.reduceEqDiff, Nat.reduceAdd, Nat.reduceMul, Nat.reduceBEq, reduceCtorEq, len26, r1, r2] <;> rfl) rfl (by simp only [ev0, ev1, ev2, ev3, ev4, Nat.reduceLT, Nat.reduceLeDiff, Nat.reduceEqDiff, Nat.reduceAdd, Nat.reduceMul, Nat.reduceBEq, reduceCtorEq, len26, r1, r2] <;> rfl) ?_
  refine WL_go (by simp only [ev0, ev1, ev2, ev3, ev4, Nat.reduceLT, Nat.reduceLeDiff, Nat.reduceEqDiff, Nat.reduceAdd, Nat.reduceMul, Nat.reduceBEq, reduceCtorEq, len26, r1, r2, r3] <;> rfl) (Nat.le_of_ble_eq_true rfl) ?_
  refine WL_endk (ks := [8]) (by simp only [ev0, ev4, Nat.reduceEqDiff] <;> rfl) ?_
  with_reducible repeat (first | refine n1 ?_ | refine n2 ?_ | refine n3 ?_ | refine n4 ?_ | refine n5 ?_ | refine n6 ?_ | refine n7 rfl ?_ | refine W_seq ?_ | refine W_block ?_ | refine W_skip ?_ | refine W_exit ?_ | refine W_ret ?_)
  refine Fin_pure [] _ (by first | exact .inl rfl | exact .inr rfl) rfl (by simp only [Tryd.results6, vres, vresL, vres1, one_, vload_eq, Option.map_some, ev0, ev3, ev4, Nat.reduceEqDiff, Nat.reduceAdd, Nat.reduceLeDiff] <;> rfl) rfl (by simp only [one_, rf_c, rf_any, rf_sl, rf_ptr, rf_fn, rf_agg, rf_tup, rf, List.map_cons, List.map_nil] <;> rfl) hk (by simp) ?_
  exact ⟨rfl, rfl⟩
end Go.Vm
/- Contracts: strings.Builder, Itoa, a line, and schedule.Print. -/
namespace Go.Vm
open Go Go.RowKit Go.Proofs
set_option linter.unusedSimpArgs false
set_option linter.unusedVariables false

theorem td88 : tdOf Tryd.prog 88 = some ⟨.unsafePointer, 1, 8, [.pointer none]⟩ := by kernel_rfl
theorem td86 : tdOf Tryd.prog 86 = some ⟨.pointer 5, 1, 8, [.pointer none]⟩ := by kernel_rfl

/-- The powers of ten lie where they lie. -/
def TabG (G : List (Nat × Obj)) : Prop := ∀ w : World, (∀ g o, (g, o) ∈ G → w.heap[g]? = some o) → Lib.TabIs Tryd.prog w "internal/strconv.uint64pow10" .u64 Lib.pow10Tab

def itoaB (n : Int) : ByteArray := ⟨(Lib.itoa n).toArray⟩
theorem f58_ok {G} (hG : TabG G) (n : Int) (h : Hp) (h0 : -9223372036854775808 ≤ n) (h1 : n ≤ 9223372036854775807) : VPure Tryd.prog G (.fn 58 []) [.c (.int .i64 n)] h (.c (.string (itoaB n))) := by
  refine (@VCall_lib Tryd.prog G 58 [.int .i64 n] h (fun v => v = .string (itoaB n)) (enters_of Tryd.func58 (by kernel_rfl) rfl) (fun w hw => ?_)).mono ?_
  · refine (Tryd.strconv_Itoa n h0 h1 w (hG w hw)).mono ?_
    rintro e w' ⟨rfl, k, os, rfl⟩
    exact ⟨_, rfl, rfl, k, os, rfl⟩
  · rintro r h' ⟨⟨v, rfl, rfl⟩, rfl⟩
    exact ⟨rfl, rfl⟩
theorem itoaB_len (n : Int) (h0 : -9223372036854775808 ≤ n) (h1 : n ≤ 9223372036854775807) : (itoaB n).size ≤ 21 := by
  have := Lib.itoa_length_le n h0 h1
  show (Lib.itoa n).toArray.size ≤ 21
  simpa using this
theorem cat_size (a b : ByteArray) : (a ++ b).size = a.size + b.size := ByteArray.size_append

theorem f50_ok {G} (hG : TabG G) (b : ByteArray) (xs : List Int) (h : Hp) (hb : b.size ≤ 100) (hx : ∀ x, x ∈ xs → 0 ≤ x ∧ x ≤ 512) (hl : xs.length ≤ 10) :
    VCall Tryd.prog G (.fn 50 []) [.c (.string b), .sl 1 (xs.map iv)] h (fun r h' => h' = h ∧ ∃ s : ByteArray, r = .c (.string s) ∧ 0 < s.size ∧ s.size ≤ 1000) := by
  refine VCall_fn' (tdOf_ok _) Tryd.func50 rfl (by rfl) 21 rfl (by simp) (by simp only [ents, List.cons_append, List.nil_append, List.append_nil] <;> rfl) (fun hk ha hc => ?_)
  with_reducible repeat (first | refine n1 ?_ | refine n2 ?_ | refine n3 ?_ | refine n4 ?_ | refine n5 ?_ | refine n6 ?_ | refine n7 rfl ?_ | refine W_seq ?_ | refine W_block ?_ | refine W_skip ?_ | refine W_exit ?_ | refine W_ret ?_)
  rw [List.append_nil]
  refine W_go (by simp only [ev0, ev1, ev2, ev3, ev4, Nat.reduceLT, Nat.reduceLeDiff, Nat.reduceEqDiff, Nat.reduceAdd, Nat.reduceMul, Nat.reduceBEq, reduceCtorEq, len25, ix25, ld3] <;> rfl) (Nat.le_of_ble_eq_true rfl) ?_
  refine WL_end ?_
  with_reducible repeat (first | refine n1 ?_ | refine n2 ?_ | refine n3 ?_ | refine n4 ?_ | refine n5 ?_ | refine n6 ?_ | refine n7 rfl ?_ | refine W_seq ?_ | refine W_block ?_ | refine W_skip ?_ | refine W_exit ?_ | refine W_ret ?_)
  refine W_go (by simp only [ev0, ev1, ev2, ev3, ev4, Nat.reduceLT, Nat.reduceLeDiff, Nat.reduceEqDiff, Nat.reduceAdd, Nat.reduceMul, Nat.reduceBEq, reduceCtorEq, len25, ix25, ld3, List.length_map] <;> rfl) (Nat.le_of_ble_eq_true rfl) ?_
  refine WL_endk (ks := [0, 4, 7, 8, 9]) (by simp only [ev0, ev4, Nat.reduceEqDiff] <;> rfl) ?_
  with_reducible repeat (first | refine n1 ?_ | refine n2 ?_ | refine n3 ?_ | refine n4 ?_ | refine n5 ?_ | refine n6 ?_ | refine n7 rfl ?_ | refine W_seq ?_ | refine W_block ?_ | refine W_skip ?_ | refine W_exit ?_ | refine W_ret ?_)
  refine W_loopS (fun (p : Nat × ByteArray) => ⟨21, [(0, .c (.string p.2)), (4, .c (.string ⟨#[]⟩)), (7, .sl 1 (xs.map iv)), (8, .c (.int .i64 xs.length)), (9, .c (.int .i64 p.1))], h, []⟩) (fun p => p.1 ≤ xs.length ∧ p.2.size ≤ 100 + 30 * p.1) (fun p => xs.length - p.1) (0, b) ⟨by simp, by simpa using hb⟩ rfl (fun p hI => ?_)
  obtain ⟨i, s⟩ := p
  obtain ⟨hi1, hi2⟩ := hI
  simp only at hi1 hi2
  with_reducible repeat (first | refine n1 ?_ | refine n2 ?_ | refine n3 ?_ | refine n4 ?_ | refine n5 ?_ | refine n6 ?_ | refine n7 rfl ?_ | refine W_seq ?_ | refine W_block ?_ | refine W_skip ?_ | refine W_exit ?_ | refine W_ret ?_)
  refine W_go (by simp only [ev0, ev1, ev2, ev3, ev4, Nat.reduceLT, Nat.reduceLeDiff, Nat.reduceEqDiff, Nat.reduceAdd, Nat.reduceMul, Nat.reduceBEq, reduceCtorEq, len25, ix25, ld3] <;> rfl) (Nat.le_of_ble_eq_true rfl) ?_
  refine WL_end ?_
  with_reducible repeat (first | refine n1 ?_ | refine n2 ?_ | refine n3 ?_ | refine n4 ?_ | refine n5 ?_ | refine n6 ?_ | refine n7 rfl ?_ | refine W_seq ?_ | refine W_block ?_ | refine W_skip ?_ | refine W_exit ?_ | refine W_ret ?_)
  refine W_cond rfl (fun hc => ?_) (fun hc => ?_)
  · have hlt : i < xs.length := by simpa using hc
    have hxi := hx xs[i] (List.getElem_mem hlt)
    have hn : ((xs.map iv)[i]?) = some [.c (.int .i64 xs[i])] := by simp [hlt, iv]
    have hsz := itoaB_len xs[i] (by omega) (by omega)
    with_reducible repeat (first | refine n1 ?_ | refine n2 ?_ | refine n3 ?_ | refine n4 ?_ | refine n5 ?_ | refine n6 ?_ | refine n7 rfl ?_ | refine W_seq ?_ | refine W_block ?_ | refine W_skip ?_ | refine W_exit ?_ | refine W_ret ?_)
    refine W_go (by simp only [ev0, ev1, ev2, ev3, ev4, Nat.reduceLT, Nat.reduceLeDiff, Nat.reduceEqDiff, Nat.reduceAdd, Nat.reduceMul, Nat.reduceBEq, reduceCtorEq, len25, ix25, ld3, hn] <;> rfl) (Nat.le_of_ble_eq_true rfl) ?_
    refine WL_endk (ks := [0, 4, 6, 7, 8, 9]) (by simp only [ev0, ev4, Nat.reduceEqDiff] <;> rfl) ?_
    with_reducible repeat (first | refine n1 ?_ | refine n2 ?_ | refine n3 ?_ | refine n4 ?_ | refine n5 ?_ | refine n6 ?_ | refine n7 rfl ?_ | refine W_seq ?_ | refine W_block ?_ | refine W_skip ?_ | refine W_exit ?_ | refine W_ret ?_)
    refine W_go (by simp only [ev0, ev1, ev2, ev3, ev4, Nat.reduceLT, Nat.reduceLeDiff, Nat.reduceEqDiff, Nat.reduceAdd, Nat.reduceMul, Nat.reduceBEq, reduceCtorEq, len25, ix25, ld3] <;> rfl) (Nat.le_of_ble_eq_true rfl) ?_
    refine WL_pure (f58_ok hG xs[i] _ (by omega) (by omega)) rfl (.inl rfl) (by simp only [ev0, ev1, ev2, ev3, ev4, Nat.reduceLT, Nat.reduceLeDiff, Nat.reduceEqDiff, Nat.reduceAdd, Nat.reduceMul, Nat.reduceBEq, reduceCtorEq, len25, ix25, ld3] <;> rfl) (by simp only [ev0, ev1, ev2, ev3, ev4, Nat.reduceLT, Nat.reduceLeDiff, Nat.reduceEqDiff, Nat.reduceAdd, Nat.reduceMul, Nat.reduceBEq, reduceCtorEq, len25, ix25, ld3] <;> rfl) rfl (by simp only [ev0, ev1, ev2, ev3, ev4, Nat.reduceLT, Nat.reduceLeDiff, Nat.reduceEqDiff, Nat.reduceAdd, Nat.reduceMul, Nat.reduceBEq, reduceCtorEq, len25, ix25, ld3] <;> rfl) ?_
    have e1 : (ByteArray.mk #[32]).size = 1 := rfl
    refine WL_ex (fid := none) (ob := .gone) (Does_cat rfl (by simp only [ev0, ev1, ev2, ev3, ev4, Nat.reduceLT, Nat.reduceLeDiff, Nat.reduceEqDiff, Nat.reduceAdd, Nat.reduceMul, Nat.reduceBEq, reduceCtorEq, len25, ix25, ld3] <;> rfl) (by simp only [ev0, ev1, ev2, ev3, ev4, Nat.reduceLT, Nat.reduceLeDiff, Nat.reduceEqDiff, Nat.reduceAdd, Nat.reduceMul, Nat.reduceBEq, reduceCtorEq, len25, ix25, ld3] <;> rfl) (by rw [e1]; omega)) (by intro c hc; cases hc) (.inl rfl) (by intro id hid; cases hid) (by simp only [ev0, ev1, ev2, ev3, ev4, Nat.reduceLT, Nat.reduceLeDiff, Nat.reduceEqDiff, Nat.reduceAdd, Nat.reduceMul, Nat.reduceBEq, reduceCtorEq, len25, ix25, ld3] <;> rfl) ?_
    refine WL_ex (fid := none) (ob := .gone) (Does_cat rfl (by simp only [ev0, ev1, ev2, ev3, ev4, Nat.reduceLT, Nat.reduceLeDiff, Nat.reduceEqDiff, Nat.reduceAdd, Nat.reduceMul, Nat.reduceBEq, reduceCtorEq, len25, ix25, ld3] <;> rfl) (by simp only [ev0, ev1, ev2, ev3, ev4, Nat.reduceLT, Nat.reduceLeDiff, Nat.reduceEqDiff, Nat.reduceAdd, Nat.reduceMul, Nat.reduceBEq, reduceCtorEq, len25, ix25, ld3] <;> rfl) (by rw [cat_size, e1]; omega)) (by intro c hc; cases hc) (.inl rfl) (by intro id hid; cases hid) (by simp only [ev0, ev1, ev2, ev3, ev4, Nat.reduceLT, Nat.reduceLeDiff, Nat.reduceEqDiff, Nat.reduceAdd, Nat.reduceMul, Nat.reduceBEq, reduceCtorEq, len25, ix25, ld3] <;> rfl) ?_
    refine WL_go (by simp only [ev0, ev1, ev2, ev3, ev4, Nat.reduceLT, Nat.reduceLeDiff, Nat.reduceEqDiff, Nat.reduceAdd, Nat.reduceMul, Nat.reduceBEq, reduceCtorEq, len25, ix25, ld3] <;> rfl) (Nat.le_of_ble_eq_true rfl) ?_
    refine WL_endk (ks := [0, 4, 7, 8, 9]) (by simp only [ev0, ev4, Nat.reduceEqDiff] <;> rfl) ?_
    with_reducible repeat (first | refine n1 ?_ | refine n2 ?_ | refine n3 ?_ | refine n4 ?_ | refine n5 ?_ | refine n6 ?_ | refine n7 rfl ?_ | refine W_seq ?_ | refine W_block ?_ | refine W_skip ?_ | refine W_exit ?_ | refine W_ret ?_)
    refine W_go (by simp only [ev0, ev1, ev2, ev3, ev4, Nat.reduceLT, Nat.reduceLeDiff, Nat.reduceEqDiff, Nat.reduceAdd, Nat.reduceMul, Nat.reduceBEq, reduceCtorEq, len25, ix25, ld3] <;> rfl) (Nat.le_of_ble_eq_true rfl) ?_
    refine WL_endk (ks := [0, 4, 7, 8, 9]) (by simp only [ev0, ev4, Nat.reduceEqDiff] <;> rfl) ?_
    with_reducible repeat (first | refine n1 ?_ | refine n2 ?_ | refine n3 ?_ | refine n4 ?_ | refine n5 ?_ | refine n6 ?_ | refine n7 rfl ?_ | refine W_seq ?_ | refine W_block ?_ | refine W_skip ?_ | refine W_exit ?_ | refine W_ret ?_)
    exact ⟨(i + 1, _), by rw [wrap64 (by omega) (by omega)]; rfl, ⟨by simp only; omega, by simp only [cat_size, e1]; omega⟩, by simp only; omega⟩
  · have hin : i = xs.length := by
      have : xs.length ≤ i := by simpa using hc
      omega
    subst hin
    have e1 : (ByteArray.mk #[10]).size = 1 := rfl
    with_reducible repeat (first | refine n1 ?_ | refine n2 ?_ | refine n3 ?_ | refine n4 ?_ | refine n5 ?_ | refine n6 ?_ | refine n7 rfl ?_ | refine W_seq ?_ | refine W_block ?_ | refine W_skip ?_ | refine W_exit ?_ | refine W_ret ?_)
    refine W_go (by simp only [ev0, ev1, ev2, ev3, ev4, Nat.reduceLT, Nat.reduceLeDiff, Nat.reduceEqDiff, Nat.reduceAdd, Nat.reduceMul, Nat.reduceBEq, reduceCtorEq, len25, ix25, ld3] <;> rfl) (Nat.le_of_ble_eq_true rfl) ?_
    refine WL_ex (fid := none) (ob := .gone) (Does_cat rfl (by simp only [ev0, ev1, ev2, ev3, ev4, Nat.reduceLT, Nat.reduceLeDiff, Nat.reduceEqDiff, Nat.reduceAdd, Nat.reduceMul, Nat.reduceBEq, reduceCtorEq, len25, ix25, ld3] <;> rfl) (by simp only [ev0, ev1, ev2, ev3, ev4, Nat.reduceLT, Nat.reduceLeDiff, Nat.reduceEqDiff, Nat.reduceAdd, Nat.reduceMul, Nat.reduceBEq, reduceCtorEq, len25, ix25, ld3] <;> rfl) (by rw [e1]; omega)) (by intro c hc; cases hc) (.inl rfl) (by intro id hid; cases hid) (by simp only [ev0, ev1, ev2, ev3, ev4, Nat.reduceLT, Nat.reduceLeDiff, Nat.reduceEqDiff, Nat.reduceAdd, Nat.reduceMul, Nat.reduceBEq, reduceCtorEq, len25, ix25, ld3] <;> rfl) ?_
    refine WL_go (by simp only [ev0, ev1, ev2, ev3, ev4, Nat.reduceLT, Nat.reduceLeDiff, Nat.reduceEqDiff, Nat.reduceAdd, Nat.reduceMul, Nat.reduceBEq, reduceCtorEq, len25, ix25, ld3] <;> rfl) (Nat.le_of_ble_eq_true rfl) ?_
    refine WL_endk (ks := [4]) (by simp only [ev0, ev4, Nat.reduceEqDiff] <;> rfl) ?_
    with_reducible repeat (first | refine n1 ?_ | refine n2 ?_ | refine n3 ?_ | refine n4 ?_ | refine n5 ?_ | refine n6 ?_ | refine n7 rfl ?_ | refine W_seq ?_ | refine W_block ?_ | refine W_skip ?_ | refine W_exit ?_ | refine W_ret ?_)
    refine Fin_ext [] _ (by first | exact .inl rfl | exact .inr rfl) rfl (by simp only [Tryd.results50, vres, vresL, vres1, one_, vload_eq, Option.map_some, ev0, ev3, ev4, Nat.reduceEqDiff, Nat.reduceAdd, Nat.reduceLeDiff] <;> rfl) (List.append_nil h).symm (by simp only [one_, rf_c, rf_any, rf_sl, rf_ptr, rf_fn, rf_agg, rf_tup, rf, List.map_cons, List.map_nil] <;> rfl) hk ?_ ?_ ?_
    · intro o ho; cases ho
    · simp
    · exact ⟨by simp, _, rfl, by rw [cat_size, e1]; omega, by rw [cat_size, e1]; omega⟩
end Go.Vm
/- Contracts: strings.Builder. -/
namespace Go.Vm
open Go Go.RowKit Go.Proofs
set_option linter.unusedSimpArgs false
set_option linter.unusedVariables false

theorem HOk_set {h : Hp} (hk : HOk h) (i : Nat) {o : Ob} (ho : OkO (fun j => j < List.length h) o) : HOk (List.set h i o) := by
  intro j hj
  rw [List.length_set] at hj
  rw [List.length_set]
  by_cases e : i = j
  · subst e
    have : Hp.get (List.set h i o) i = o := by unfold Hp.get; simp [hj]
    rw [this]; exact ho
  · have : Hp.get (List.set h i o) j = Hp.get h j := by unfold Hp.get; rw [List.getElem?_set_ne e]
    rw [this]; exact hk j hj
theorem get_set_self {h : Hp} {i : Nat} (hi : i < List.length h) (o : Ob) : Hp.get (List.set h i o) i = o := by unfold Hp.get; simp [hi]
theorem get_set_other {h : Hp} {i j : Nat} (hi : i ≠ j) (o : Ob) : Hp.get (List.set h i o) j = Hp.get h j := by unfold Hp.get; rw [List.getElem?_set_ne hi]
theorem Hp.lt_of {h : Hp} {i : Nat} {o : Ob} (e : h.get i = o) (hl : o.live = true) : i < List.length h := Hp.get_lt (by rw [e]; exact hl)

theorem one1_ep (a b c d : Nat) : one1 (.ep a b c d) = true := rfl
theorem one1_os (a b : Nat) : one1 (.os a b) = true := rfl
theorem vcells_ep (a b c d : Nat) : vcells (.ep a b c d) = some [.ep a b c d] := rfl
theorem vcells_os (a b : Nat) : vcells (.os a b) = some [.os a b] := rfl
def bld0 : Ob := .arr 74 2 [[.c (.pointer none), .c (.slice none 0 0)]]
def bld1 (i : Nat) (v : Val) : Ob := .arr 74 2 [[.ep i 2 0 0, v]]

theorem ok_bld1 {D : Nat → Prop} {i : Nat} {v : Val} (hi : D i) (hv : Ok D v) : OkO D (bld1 i v) := by
  intro x hx d hd
  simp only [List.mem_singleton] at hx; subst hx
  rcases List.mem_cons.1 hd with rfl | hd
  · exact .ep hi
  · simp only [List.mem_singleton] at hd; subst hd; exact hv

theorem f57_new {G} (i : Nat) (h : Hp) (hi : h.get i = bld0) : VCall Tryd.prog G (.fn 57 []) [.ep i 2 0 0] h (fun r h' => r = .tup [] ∧ h' = List.set h i (bld1 i (.c (.slice none 0 0)))) := by
  have hT := tdOf_ok Tryd.prog
  refine VCall_fn' (tdOf_ok _) Tryd.func57 rfl (by rfl) 20 rfl (by simp) (by simp only [ents, List.cons_append, List.nil_append, List.append_nil] <;> rfl) (fun hk ha hc => ?_)
  with_reducible repeat (first | refine n1 ?_ | refine n2 ?_ | refine n3 ?_ | refine n4 ?_ | refine n5 ?_ | refine n6 ?_ | refine n7 rfl ?_ | refine W_seq ?_ | refine W_block ?_ | refine W_skip ?_ | refine W_exit ?_ | refine W_ret ?_)
  rw [List.append_nil]
  have hlt : i < List.length h := Hp.lt_of hi rfl
  unfold bld0 at hi
  refine W_go (by simp only [ev0, ev1, ev2, ev3, ev4, Nat.reduceLT, Nat.reduceLeDiff, Nat.reduceEqDiff, Nat.reduceAdd, Nat.reduceMul, Nat.reduceBEq, reduceCtorEq, fa74_0, ld71, sto71, hi] <;> rfl) (Nat.le_of_ble_eq_true rfl) ?_
  refine WL_ex (fid := none) (ob := .gone) (Does_eql_nil hT rfl td71 rfl (by simp only [ev0, ev1, ev2, ev3, ev4, Nat.reduceLT, Nat.reduceLeDiff, Nat.reduceEqDiff, Nat.reduceAdd, Nat.reduceMul, Nat.reduceBEq, reduceCtorEq, fa74_0, ld71, sto71, hi] <;> rfl) (by simp only [ev0, ev1, ev2, ev3, ev4, Nat.reduceLT, Nat.reduceLeDiff, Nat.reduceEqDiff, Nat.reduceAdd, Nat.reduceMul, Nat.reduceBEq, reduceCtorEq, fa74_0, ld71, sto71, hi] <;> rfl)) (by intro c hc; cases hc) (.inl rfl) (by intro id hid; cases hid) (by simp only [ev0, ev1, ev2, ev3, ev4, Nat.reduceLT, Nat.reduceLeDiff, Nat.reduceEqDiff, Nat.reduceAdd, Nat.reduceMul, Nat.reduceBEq, reduceCtorEq, fa74_0, ld71, sto71, hi] <;> rfl) ?_
  refine WL_go (by simp only [ev0, ev1, ev2, ev3, ev4, Nat.reduceLT, Nat.reduceLeDiff, Nat.reduceEqDiff, Nat.reduceAdd, Nat.reduceMul, Nat.reduceBEq, reduceCtorEq, fa74_0, ld71, sto71, hi] <;> rfl) (Nat.le_of_ble_eq_true rfl) ?_
  refine WL_endk (ks := [0, 6]) (by simp only [ev0, ev4, Nat.reduceEqDiff] <;> rfl) ?_
  with_reducible repeat (first | refine n1 ?_ | refine n2 ?_ | refine n3 ?_ | refine n4 ?_ | refine n5 ?_ | refine n6 ?_ | refine n7 rfl ?_ | refine W_seq ?_ | refine W_block ?_ | refine W_skip ?_ | refine W_exit ?_ | refine W_ret ?_)
  refine W_true rfl ?_
  with_reducible repeat (first | refine n1 ?_ | refine n2 ?_ | refine n3 ?_ | refine n4 ?_ | refine n5 ?_ | refine n6 ?_ | refine n7 rfl ?_ | refine W_seq ?_ | refine W_block ?_ | refine W_skip ?_ | refine W_exit ?_ | refine W_ret ?_)
  refine W_go (by simp only [ev0, ev1, ev2, ev3, ev4, Nat.reduceLT, Nat.reduceLeDiff, Nat.reduceEqDiff, Nat.reduceAdd, Nat.reduceMul, Nat.reduceBEq, reduceCtorEq, fa74_0, ld71, sto71, hi] <;> rfl) (Nat.le_of_ble_eq_true rfl) ?_
  refine WL_ex (fid := some (i)) (ob := .arr 74 2 [[.c (.pointer none), .c (.slice none 0 0)]]) (Does_to_unsafe hT rfl td71 rfl td88 rfl td74 (by decide) (by simp only [ev0, ev1, ev2, ev3, ev4, Nat.reduceLT, Nat.reduceLeDiff, Nat.reduceEqDiff, Nat.reduceAdd, Nat.reduceMul, Nat.reduceBEq, reduceCtorEq, fa74_0, ld71, sto71, hi] <;> rfl) (by decide)) (by intro c hc; cases hc) (.inl rfl) (by rintro _ ⟨⟩; exact ⟨hi, rfl, by simp⟩) (by simp only [ev0, ev1, ev2, ev3, ev4, Nat.reduceLT, Nat.reduceLeDiff, Nat.reduceEqDiff, Nat.reduceAdd, Nat.reduceMul, Nat.reduceBEq, reduceCtorEq, fa74_0, ld71, sto71, hi] <;> rfl) ?_
  refine WL_ex (fid := none) (ob := .gone) (Does_extern rfl Tryd.func62 (by kernel_rfl) (by kernel_rfl) rfl rfl (fun v w => Lib.run_noEscape w v) rfl) (by intro c hc; cases hc) (.inl rfl) (by intro id hid; cases hid) (by simp only [ev0, ev1, ev2, ev3, ev4, Nat.reduceLT, Nat.reduceLeDiff, Nat.reduceEqDiff, Nat.reduceAdd, Nat.reduceMul, Nat.reduceBEq, reduceCtorEq, fa74_0, ld71, sto71, hi] <;> rfl) ?_
  refine WL_ex (fid := some (i)) (ob := .arr 74 2 [[.c (.pointer none), .c (.slice none 0 0)]]) (Does_from_unsafe hT rfl td88 rfl td71 rfl td74 (by kernel_rfl) (by decide) (by simp only [ev0, ev1, ev2, ev3, ev4, Nat.reduceLT, Nat.reduceLeDiff, Nat.reduceEqDiff, Nat.reduceAdd, Nat.reduceMul, Nat.reduceBEq, reduceCtorEq, fa74_0, ld71, sto71, hi] <;> rfl) (by decide)) (by intro c hc; cases hc) (.inl rfl) (by rintro _ ⟨⟩; exact ⟨hi, rfl, by simp⟩) (by simp only [ev0, ev1, ev2, ev3, ev4, Nat.reduceLT, Nat.reduceLeDiff, Nat.reduceEqDiff, Nat.reduceAdd, Nat.reduceMul, Nat.reduceBEq, reduceCtorEq, fa74_0, ld71, sto71, hi] <;> rfl) ?_
  refine WL_go (by simp only [ev0, ev1, ev2, ev3, ev4, Nat.reduceLT, Nat.reduceLeDiff, Nat.reduceEqDiff, Nat.reduceAdd, Nat.reduceMul, Nat.reduceBEq, reduceCtorEq, fa74_0, ld71, sto71, hi, one1_ep, one1_os, vcells_ep, vcells_os] <;> rfl) (Nat.le_of_ble_eq_true rfl) ?_
  refine WL_end ?_
  with_reducible repeat (first | refine n1 ?_ | refine n2 ?_ | refine n3 ?_ | refine n4 ?_ | refine n5 ?_ | refine n6 ?_ | refine n7 rfl ?_ | refine W_seq ?_ | refine W_block ?_ | refine W_skip ?_ | refine W_exit ?_ | refine W_ret ?_)
  refine Fin_all (.tup []) (by first | exact .inl rfl | exact .inr rfl) rfl rfl (by simp) ?_ (by simp [one_]) (by simp) ⟨rfl, rfl⟩
  exact HOk_set hk i (ok_bld1 hlt (.c _))

theorem f57_old {G} (i : Nat) (v : Val) (h : Hp) (hi : h.get i = bld1 i v) : VPure Tryd.prog G (.fn 57 []) [.ep i 2 0 0] h (.tup []) := by
  have hT := tdOf_ok Tryd.prog
  refine VCall_fn' (tdOf_ok _) Tryd.func57 rfl (by rfl) 20 rfl (by simp) (by simp only [ents, List.cons_append, List.nil_append, List.append_nil] <;> rfl) (fun hk ha hc => ?_)
  with_reducible repeat (first | refine n1 ?_ | refine n2 ?_ | refine n3 ?_ | refine n4 ?_ | refine n5 ?_ | refine n6 ?_ | refine n7 rfl ?_ | refine W_seq ?_ | refine W_block ?_ | refine W_skip ?_ | refine W_exit ?_ | refine W_ret ?_)
  rw [List.append_nil]
  unfold bld1 at hi
  refine W_go (by simp only [ev0, ev1, ev2, ev3, ev4, Nat.reduceLT, Nat.reduceLeDiff, Nat.reduceEqDiff, Nat.reduceAdd, Nat.reduceMul, Nat.reduceBEq, reduceCtorEq, fa74_0, ld71, sto71, hi] <;> rfl) (Nat.le_of_ble_eq_true rfl) ?_
  refine WL_ex (fid := none) (ob := .gone) (Does_eql_ep hT rfl td71 rfl (by simp only [ev0, ev1, ev2, ev3, ev4, Nat.reduceLT, Nat.reduceLeDiff, Nat.reduceEqDiff, Nat.reduceAdd, Nat.reduceMul, Nat.reduceBEq, reduceCtorEq, fa74_0, ld71, sto71, hi] <;> rfl) (by simp only [ev0, ev1, ev2, ev3, ev4, Nat.reduceLT, Nat.reduceLeDiff, Nat.reduceEqDiff, Nat.reduceAdd, Nat.reduceMul, Nat.reduceBEq, reduceCtorEq, fa74_0, ld71, sto71, hi] <;> rfl)) (by intro c hc; cases hc) (.inl rfl) (by intro id hid; cases hid) (by simp only [ev0, ev1, ev2, ev3, ev4, Nat.reduceLT, Nat.reduceLeDiff, Nat.reduceEqDiff, Nat.reduceAdd, Nat.reduceMul, Nat.reduceBEq, reduceCtorEq, fa74_0, ld71, sto71, hi] <;> rfl) ?_
  refine WL_go (by simp only [ev0, ev1, ev2, ev3, ev4, Nat.reduceLT, Nat.reduceLeDiff, Nat.reduceEqDiff, Nat.reduceAdd, Nat.reduceMul, Nat.reduceBEq, reduceCtorEq, fa74_0, ld71, sto71, hi] <;> rfl) (Nat.le_of_ble_eq_true rfl) ?_
  refine WL_endk (ks := [0, 6]) (by simp only [ev0, ev4, Nat.reduceEqDiff] <;> rfl) ?_
  with_reducible repeat (first | refine n1 ?_ | refine n2 ?_ | refine n3 ?_ | refine n4 ?_ | refine n5 ?_ | refine n6 ?_ | refine n7 rfl ?_ | refine W_seq ?_ | refine W_block ?_ | refine W_skip ?_ | refine W_exit ?_ | refine W_ret ?_)
  refine W_false rfl ?_
  with_reducible repeat (first | refine n1 ?_ | refine n2 ?_ | refine n3 ?_ | refine n4 ?_ | refine n5 ?_ | refine n6 ?_ | refine n7 rfl ?_ | refine W_seq ?_ | refine W_block ?_ | refine W_skip ?_ | refine W_exit ?_ | refine W_ret ?_)
  refine W_go (by simp only [ev0, ev1, ev2, ev3, ev4, Nat.reduceLT, Nat.reduceLeDiff, Nat.reduceEqDiff, Nat.reduceAdd, Nat.reduceMul, Nat.reduceBEq, reduceCtorEq, fa74_0, ld71, sto71, hi] <;> rfl) (Nat.le_of_ble_eq_true rfl) ?_
  refine WL_ex (fid := none) (ob := .gone) (Does_neq_self hT rfl td71 rfl td74 (by simp only [ev0, ev1, ev2, ev3, ev4, Nat.reduceLT, Nat.reduceLeDiff, Nat.reduceEqDiff, Nat.reduceAdd, Nat.reduceMul, Nat.reduceBEq, reduceCtorEq, fa74_0, ld71, sto71, hi] <;> rfl) (by simp only [ev0, ev1, ev2, ev3, ev4, Nat.reduceLT, Nat.reduceLeDiff, Nat.reduceEqDiff, Nat.reduceAdd, Nat.reduceMul, Nat.reduceBEq, reduceCtorEq, fa74_0, ld71, sto71, hi] <;> rfl)) (by intro c hc; cases hc) (.inl rfl) (by intro id hid; cases hid) (by simp only [ev0, ev1, ev2, ev3, ev4, Nat.reduceLT, Nat.reduceLeDiff, Nat.reduceEqDiff, Nat.reduceAdd, Nat.reduceMul, Nat.reduceBEq, reduceCtorEq, fa74_0, ld71, sto71, hi] <;> rfl) ?_
  refine WL_go (by simp only [ev0, ev1, ev2, ev3, ev4, Nat.reduceLT, Nat.reduceLeDiff, Nat.reduceEqDiff, Nat.reduceAdd, Nat.reduceMul, Nat.reduceBEq, reduceCtorEq, fa74_0, ld71, sto71, hi] <;> rfl) (Nat.le_of_ble_eq_true rfl) ?_
  refine WL_endk (ks := [0, 19]) (by simp only [ev0, ev4, Nat.reduceEqDiff] <;> rfl) ?_
  with_reducible repeat (first | refine n1 ?_ | refine n2 ?_ | refine n3 ?_ | refine n4 ?_ | refine n5 ?_ | refine n6 ?_ | refine n7 rfl ?_ | refine W_seq ?_ | refine W_block ?_ | refine W_skip ?_ | refine W_exit ?_ | refine W_ret ?_)
  refine W_false rfl ?_
  with_reducible repeat (first | refine n1 ?_ | refine n2 ?_ | refine n3 ?_ | refine n4 ?_ | refine n5 ?_ | refine n6 ?_ | refine n7 rfl ?_ | refine W_seq ?_ | refine W_block ?_ | refine W_skip ?_ | refine W_exit ?_ | refine W_ret ?_)
  refine Fin_all (.tup []) (by first | exact .inl rfl | exact .inr rfl) rfl rfl (by simp) hk (by simp [one_]) (by simp) ⟨rfl, rfl⟩

theorem byteV_pos {l : List UInt8} (h : l ≠ []) : 0 < (byteV l).length := by rw [byteV_len]; exact List.length_pos_iff.2 h
theorem bytes_len (b : ByteArray) : b.data.toList.length = b.size := by rw [Array.length_toList]; rfl
theorem ok_bytes {D : Nat → Prop} (l : List UInt8) : OkO D (.arr 5 1 (byteV l)) := by
  intro x hx d hd
  simp only [byteV, List.mem_map] at hx
  obtain ⟨c, _, rfl⟩ := hx
  simp only [List.mem_singleton] at hd; subst hd; exact .c _
set_option maxRecDepth 8000 in
theorem f49_new {G} (i : Nat) (b : ByteArray) (h : Hp) (hi : h.get i = bld0) (h0 : 0 < b.size) (h1 : b.size ≤ 1000) : VCall Tryd.prog G (.fn 49 []) [.ep i 2 0 0, .c (.string b)] h
    (fun r h' => (∃ a c, r = .tup [.c a, .c c]) ∧ h' = List.set (List.set h i (bld1 i (.c (.slice none 0 0)))) i (bld1 i (.os (List.length h) b.size)) ++ [.arr 5 1 (byteV b.data.toList)]) := by
  have hT := tdOf_ok Tryd.prog
  refine VCall_fn' (tdOf_ok _) Tryd.func49 rfl (by rfl) 19 rfl (by simp) (by simp only [ents, List.cons_append, List.nil_append, List.append_nil] <;> rfl) (fun hk ha hc => ?_)
  with_reducible repeat (first | refine n1 ?_ | refine n2 ?_ | refine n3 ?_ | refine n4 ?_ | refine n5 ?_ | refine n6 ?_ | refine n7 rfl ?_ | refine W_seq ?_ | refine W_block ?_ | refine W_skip ?_ | refine W_exit ?_ | refine W_ret ?_)
  rw [List.append_nil]
  have hlt : i < List.length h := Hp.lt_of hi rfl
  refine W_go (by simp only [ev0, ev1, ev2, ev3, ev4, Nat.reduceLT, Nat.reduceLeDiff, Nat.reduceEqDiff, Nat.reduceAdd, Nat.reduceMul, Nat.reduceBEq, reduceCtorEq, fa74_1, ld72, sto72] <;> rfl) (Nat.le_of_ble_eq_true rfl) ?_
  refine WL_end ?_
  with_reducible repeat (first | refine n1 ?_ | refine n2 ?_ | refine n3 ?_ | refine n4 ?_ | refine n5 ?_ | refine n6 ?_ | refine n7 rfl ?_ | refine W_seq ?_ | refine W_block ?_ | refine W_skip ?_ | refine W_exit ?_ | refine W_ret ?_)
  refine W_go (by simp only [ev0, ev1, ev2, ev3, ev4, Nat.reduceLT, Nat.reduceLeDiff, Nat.reduceEqDiff, Nat.reduceAdd, Nat.reduceMul, Nat.reduceBEq, reduceCtorEq, fa74_1, ld72, sto72] <;> rfl) (Nat.le_of_ble_eq_true rfl) ?_
  refine WL_call' (f57_new i h hi) rfl (.inl rfl) (by simp only [ev0, ev1, ev2, ev3, ev4, Nat.reduceLT, Nat.reduceLeDiff, Nat.reduceEqDiff, Nat.reduceAdd, Nat.reduceMul, Nat.reduceBEq, reduceCtorEq, fa74_1, ld72, sto72] <;> rfl) (by simp only [ev0, ev1, ev2, ev3, ev4, Nat.reduceLT, Nat.reduceLeDiff, Nat.reduceEqDiff, Nat.reduceAdd, Nat.reduceMul, Nat.reduceBEq, reduceCtorEq, fa74_1, ld72, sto72] <;> rfl) rfl ?_
  rintro _ _ ⟨rfl, rfl⟩
  refine WL_go (by simp only [ev0, ev1, ev2, ev3, ev4, Nat.reduceLT, Nat.reduceLeDiff, Nat.reduceEqDiff, Nat.reduceAdd, Nat.reduceMul, Nat.reduceBEq, reduceCtorEq, fa74_1, ld72, sto72] <;> rfl) (Nat.le_of_ble_eq_true rfl) ?_
  refine WL_endk (ks := [0, 1, 4, 5]) (by simp only [ev0, ev4, Nat.reduceEqDiff] <;> rfl) ?_
  with_reducible repeat (first | refine n1 ?_ | refine n2 ?_ | refine n3 ?_ | refine n4 ?_ | refine n5 ?_ | refine n6 ?_ | refine n7 rfl ?_ | refine W_seq ?_ | refine W_block ?_ | refine W_skip ?_ | refine W_exit ?_ | refine W_ret ?_)
  have hg : Hp.get (List.set h i (bld1 i (.c (.slice none 0 0)))) i = .arr 74 2 [[.ep i 2 0 0, .c (.slice none 0 0)]] := get_set_self hlt _
  have hl : List.length (List.set h i (bld1 i (.c (.slice none 0 0)))) = List.length h := List.length_set
  refine W_go (by simp only [ev0, ev1, ev2, ev3, ev4, Nat.reduceLT, Nat.reduceLeDiff, Nat.reduceEqDiff, Nat.reduceAdd, Nat.reduceMul, Nat.reduceBEq, reduceCtorEq, fa74_1, ld72, sto72, hg] <;> rfl) (Nat.le_of_ble_eq_true rfl) ?_
  refine WL_ex (fid := none) (ob := .gone) (Does_append_nil_str hT rfl td72 rfl td9 rfl td5 rfl rfl (by simp only [ev0, ev1, ev2, ev3, ev4, Nat.reduceLT, Nat.reduceLeDiff, Nat.reduceEqDiff, Nat.reduceAdd, Nat.reduceMul, Nat.reduceBEq, reduceCtorEq, fa74_1, ld72, sto72, hg] <;> rfl) (by simp only [ev0, ev1, ev2, ev3, ev4, Nat.reduceLT, Nat.reduceLeDiff, Nat.reduceEqDiff, Nat.reduceAdd, Nat.reduceMul, Nat.reduceBEq, reduceCtorEq, fa74_1, ld72, sto72, hg] <;> rfl) h0 (by show b.size * 1 ≤ _; omega) (by omega)) (by intro c hc; cases hc) (.inl rfl) (by intro id hid; cases hid) (by simp only [ev0, ev1, ev2, ev3, ev4, Nat.reduceLT, Nat.reduceLeDiff, Nat.reduceEqDiff, Nat.reduceAdd, Nat.reduceMul, Nat.reduceBEq, reduceCtorEq, fa74_1, ld72, sto72, hg] <;> rfl) ?_
  have hg2 : ∀ o : Ob, Hp.get (List.set h i (bld1 i (.c (.slice none 0 0))) ++ [o]) i = .arr 74 2 [[.ep i 2 0 0, .c (.slice none 0 0)]] := fun o => by rw [get_append_l _ (by rw [hl]; exact hlt)]; exact hg
  have hg3 : ∀ o o' : Ob, List.set (List.set h i (bld1 i (.c (.slice none 0 0))) ++ [o]) i o' = List.set (List.set h i (bld1 i (.c (.slice none 0 0)))) i o' ++ [o] := fun o o' => List.set_append_left _ _ (by rw [hl]; exact hlt)
  refine WL_go (by simp only [ev0, ev1, ev2, ev3, ev4, Nat.reduceLT, Nat.reduceLeDiff, Nat.reduceEqDiff, Nat.reduceAdd, Nat.reduceMul, Nat.reduceBEq, reduceCtorEq, fa74_1, ld72, sto72, hg, one1_ep, one1_os, vcells_ep, vcells_os, hg2, hg3] <;> rfl) (Nat.le_of_ble_eq_true rfl) ?_
  refine WL_endk (ks := [1]) (by simp only [ev0, ev4, Nat.reduceEqDiff] <;> rfl) ?_
  with_reducible repeat (first | refine n1 ?_ | refine n2 ?_ | refine n3 ?_ | refine n4 ?_ | refine n5 ?_ | refine n6 ?_ | refine n7 rfl ?_ | refine W_seq ?_ | refine W_block ?_ | refine W_skip ?_ | refine W_exit ?_ | refine W_ret ?_)
  refine W_go (by simp only [ev0, ev1, ev2, ev3, ev4, Nat.reduceLT, Nat.reduceLeDiff, Nat.reduceEqDiff, Nat.reduceAdd, Nat.reduceMul, Nat.reduceBEq, reduceCtorEq, fa74_1, ld72, sto72] <;> rfl) (Nat.le_of_ble_eq_true rfl) ?_
  refine WL_ex (fid := none) (ob := .gone) (Does_len_str hT rfl td9 rfl (by simp only [ev0, ev1, ev2, ev3, ev4, Nat.reduceLT, Nat.reduceLeDiff, Nat.reduceEqDiff, Nat.reduceAdd, Nat.reduceMul, Nat.reduceBEq, reduceCtorEq, fa74_1, ld72, sto72] <;> rfl)) (by intro c hc; cases hc) (.inl rfl) (by intro id hid; cases hid) (by simp only [ev0, ev1, ev2, ev3, ev4, Nat.reduceLT, Nat.reduceLeDiff, Nat.reduceEqDiff, Nat.reduceAdd, Nat.reduceMul, Nat.reduceBEq, reduceCtorEq, fa74_1, ld72, sto72] <;> rfl) ?_
  refine WL_go (by simp only [ev0, ev1, ev2, ev3, ev4, Nat.reduceLT, Nat.reduceLeDiff, Nat.reduceEqDiff, Nat.reduceAdd, Nat.reduceMul, Nat.reduceBEq, reduceCtorEq, fa74_1, ld72, sto72] <;> rfl) (Nat.le_of_ble_eq_true rfl) ?_
  refine WL_endk (ks := [4, 5]) (by simp only [ev0, ev4, Nat.reduceEqDiff] <;> rfl) ?_
  with_reducible repeat (first | refine n1 ?_ | refine n2 ?_ | refine n3 ?_ | refine n4 ?_ | refine n5 ?_ | refine n6 ?_ | refine n7 rfl ?_ | refine W_seq ?_ | refine W_block ?_ | refine W_skip ?_ | refine W_exit ?_ | refine W_ret ?_)
  refine Fin_all (.tup [.c (.int .i64 b.size), .c .nilIface]) (by first | exact .inl rfl | exact .inr rfl) rfl (by simp only [Tryd.results49, vres, vresL, vres1, one_, vload_eq, Option.map_some, ev0, ev3, ev4, Nat.reduceEqDiff, Nat.reduceAdd, Nat.reduceLeDiff] <;> rfl) (by simp) ?_ (by simp only [one_, rf_c, rf_tup, List.map_cons, List.map_nil] <;> rfl) (by simp) ⟨⟨_, _, rfl⟩, by rw [hl]; rfl⟩
  rw [hl]
  show HOk (List.set (List.set h i (bld1 i (.c (.slice none 0 0)))) i (bld1 i (.os (List.length h) b.size)) ++ [.arr 5 1 (byteV b.data.toList)])
  rw [← hg3]
  refine HOk_set (HOk_append (HOk_set hk i (ok_bld1 hlt (.c _))) ?_) i (ok_bld1 ?_ (.os ?_))
  · intro o ho
    simp only [List.mem_singleton] at ho; subst ho
    exact ok_bytes _
  · simp; omega
  · simp
set_option maxRecDepth 8000 in
theorem f49_old {G} (i j : Nat) (l : List UInt8) (b : ByteArray) (h : Hp) (hi : h.get i = bld1 i (.os j l.length)) (hj : h.get j = .arr 5 1 (byteV l)) (hl0 : l ≠ []) (h0 : l.length + b.size ≤ 1000000) : VCall Tryd.prog G (.fn 49 []) [.ep i 2 0 0, .c (.string b)] h
    (fun r h' => (∃ a c, r = .tup [.c a, .c c]) ∧ h' = List.set (List.set h j .gone) i (bld1 i (.os (List.length h) (l ++ b.data.toList).length)) ++ [.arr 5 1 (byteV (l ++ b.data.toList))]) := by
  have hT := tdOf_ok Tryd.prog
  refine VCall_fn' (tdOf_ok _) Tryd.func49 rfl (by rfl) 19 rfl (by simp) (by simp only [ents, List.cons_append, List.nil_append, List.append_nil] <;> rfl) (fun hk ha hc => ?_)
  with_reducible repeat (first | refine n1 ?_ | refine n2 ?_ | refine n3 ?_ | refine n4 ?_ | refine n5 ?_ | refine n6 ?_ | refine n7 rfl ?_ | refine W_seq ?_ | refine W_block ?_ | refine W_skip ?_ | refine W_exit ?_ | refine W_ret ?_)
  rw [List.append_nil]
  have hlt : i < List.length h := Hp.lt_of hi rfl
  have hltj : j < List.length h := Hp.lt_of hj rfl
  have hne : j ≠ i := by
    intro e; subst e; rw [hi] at hj; unfold bld1 at hj; cases hj
  refine W_go (by simp only [ev0, ev1, ev2, ev3, ev4, Nat.reduceLT, Nat.reduceLeDiff, Nat.reduceEqDiff, Nat.reduceAdd, Nat.reduceMul, Nat.reduceBEq, reduceCtorEq, fa74_1, ld72, sto72] <;> rfl) (Nat.le_of_ble_eq_true rfl) ?_
  refine WL_end ?_
  with_reducible repeat (first | refine n1 ?_ | refine n2 ?_ | refine n3 ?_ | refine n4 ?_ | refine n5 ?_ | refine n6 ?_ | refine n7 rfl ?_ | refine W_seq ?_ | refine W_block ?_ | refine W_skip ?_ | refine W_exit ?_ | refine W_ret ?_)
  refine W_go (by simp only [ev0, ev1, ev2, ev3, ev4, Nat.reduceLT, Nat.reduceLeDiff, Nat.reduceEqDiff, Nat.reduceAdd, Nat.reduceMul, Nat.reduceBEq, reduceCtorEq, fa74_1, ld72, sto72] <;> rfl) (Nat.le_of_ble_eq_true rfl) ?_
  refine WL_pure (f57_old i _ h hi) rfl (.inl rfl) (by simp only [ev0, ev1, ev2, ev3, ev4, Nat.reduceLT, Nat.reduceLeDiff, Nat.reduceEqDiff, Nat.reduceAdd, Nat.reduceMul, Nat.reduceBEq, reduceCtorEq, fa74_1, ld72, sto72] <;> rfl) (by simp only [ev0, ev1, ev2, ev3, ev4, Nat.reduceLT, Nat.reduceLeDiff, Nat.reduceEqDiff, Nat.reduceAdd, Nat.reduceMul, Nat.reduceBEq, reduceCtorEq, fa74_1, ld72, sto72] <;> rfl) rfl (by simp only [ev0, ev1, ev2, ev3, ev4, Nat.reduceLT, Nat.reduceLeDiff, Nat.reduceEqDiff, Nat.reduceAdd, Nat.reduceMul, Nat.reduceBEq, reduceCtorEq, fa74_1, ld72, sto72] <;> rfl) ?_
  refine WL_go (by simp only [ev0, ev1, ev2, ev3, ev4, Nat.reduceLT, Nat.reduceLeDiff, Nat.reduceEqDiff, Nat.reduceAdd, Nat.reduceMul, Nat.reduceBEq, reduceCtorEq, fa74_1, ld72, sto72] <;> rfl) (Nat.le_of_ble_eq_true rfl) ?_
  refine WL_endk (ks := [0, 1, 4, 5]) (by simp only [ev0, ev4, Nat.reduceEqDiff] <;> rfl) ?_
  with_reducible repeat (first | refine n1 ?_ | refine n2 ?_ | refine n3 ?_ | refine n4 ?_ | refine n5 ?_ | refine n6 ?_ | refine n7 rfl ?_ | refine W_seq ?_ | refine W_block ?_ | refine W_skip ?_ | refine W_exit ?_ | refine W_ret ?_)
  have hg : Hp.get h i = .arr 74 2 [[.ep i 2 0 0, .os j l.length]] := hi
  have hl : List.length (List.set h j .gone) = List.length h := List.length_set
  have hbl : (byteV l).length = l.length := byteV_len l
  refine W_go (by simp only [ev0, ev1, ev2, ev3, ev4, Nat.reduceLT, Nat.reduceLeDiff, Nat.reduceEqDiff, Nat.reduceAdd, Nat.reduceMul, Nat.reduceBEq, reduceCtorEq, fa74_1, ld72, sto72, hg] <;> rfl) (Nat.le_of_ble_eq_true rfl) ?_
  refine WL_ex (fid := some (j)) (ob := .arr 5 1 (byteV l)) (Does_append_str hT rfl td72 rfl td9 rfl td5 rfl rfl (xs := byteV l) (by rw [byteV_len]; (simp only [ev0, ev1, ev2, ev3, ev4, Nat.reduceLT, Nat.reduceLeDiff, Nat.reduceEqDiff, Nat.reduceAdd, Nat.reduceMul, Nat.reduceBEq, reduceCtorEq, fa74_1, ld72, sto72, hg] <;> rfl)) (byteV_pos hl0) (by simp only [ev0, ev1, ev2, ev3, ev4, Nat.reduceLT, Nat.reduceLeDiff, Nat.reduceEqDiff, Nat.reduceAdd, Nat.reduceMul, Nat.reduceBEq, reduceCtorEq, fa74_1, ld72, sto72, hg] <;> rfl) (by rw [byteV_len]; show _ * 1 ≤ _; omega) (by rw [byteV_len]; omega)) (by intro c hc; cases hc) (.inl rfl) (by rintro _ ⟨⟩; exact ⟨hj, rfl, by simp⟩) (by simp only [ev0, ev1, ev2, ev3, ev4, Nat.reduceLT, Nat.reduceLeDiff, Nat.reduceEqDiff, Nat.reduceAdd, Nat.reduceMul, Nat.reduceBEq, reduceCtorEq, fa74_1, ld72, sto72, hg] <;> rfl) ?_
  have hg1 : Hp.get (List.set h j .gone) i = .arr 74 2 [[.ep i 2 0 0, .os j l.length]] := by rw [get_set_other hne]; exact hg
  have hg2 : ∀ o : Ob, Hp.get (List.set h j .gone ++ [o]) i = .arr 74 2 [[.ep i 2 0 0, .os j l.length]] := fun o => by rw [get_append_l _ (by rw [hl]; exact hlt)]; exact hg1
  have hg3 : ∀ o o' : Ob, List.set (List.set h j .gone ++ [o]) i o' = List.set (List.set h j .gone) i o' ++ [o] := fun o o' => List.set_append_left _ _ (by rw [hl]; exact hlt)
  refine WL_go (by simp only [ev0, ev1, ev2, ev3, ev4, Nat.reduceLT, Nat.reduceLeDiff, Nat.reduceEqDiff, Nat.reduceAdd, Nat.reduceMul, Nat.reduceBEq, reduceCtorEq, fa74_1, ld72, sto72, hg, one1_ep, one1_os, vcells_ep, vcells_os, hg2, hg3] <;> rfl) (Nat.le_of_ble_eq_true rfl) ?_
  refine WL_endk (ks := [1]) (by simp only [ev0, ev4, Nat.reduceEqDiff] <;> rfl) ?_
  with_reducible repeat (first | refine n1 ?_ | refine n2 ?_ | refine n3 ?_ | refine n4 ?_ | refine n5 ?_ | refine n6 ?_ | refine n7 rfl ?_ | refine W_seq ?_ | refine W_block ?_ | refine W_skip ?_ | refine W_exit ?_ | refine W_ret ?_)
  refine W_go (by simp only [ev0, ev1, ev2, ev3, ev4, Nat.reduceLT, Nat.reduceLeDiff, Nat.reduceEqDiff, Nat.reduceAdd, Nat.reduceMul, Nat.reduceBEq, reduceCtorEq, fa74_1, ld72, sto72] <;> rfl) (Nat.le_of_ble_eq_true rfl) ?_
  refine WL_ex (fid := none) (ob := .gone) (Does_len_str hT rfl td9 rfl (by simp only [ev0, ev1, ev2, ev3, ev4, Nat.reduceLT, Nat.reduceLeDiff, Nat.reduceEqDiff, Nat.reduceAdd, Nat.reduceMul, Nat.reduceBEq, reduceCtorEq, fa74_1, ld72, sto72] <;> rfl)) (by intro c hc; cases hc) (.inl rfl) (by intro id hid; cases hid) (by simp only [ev0, ev1, ev2, ev3, ev4, Nat.reduceLT, Nat.reduceLeDiff, Nat.reduceEqDiff, Nat.reduceAdd, Nat.reduceMul, Nat.reduceBEq, reduceCtorEq, fa74_1, ld72, sto72] <;> rfl) ?_
  refine WL_go (by simp only [ev0, ev1, ev2, ev3, ev4, Nat.reduceLT, Nat.reduceLeDiff, Nat.reduceEqDiff, Nat.reduceAdd, Nat.reduceMul, Nat.reduceBEq, reduceCtorEq, fa74_1, ld72, sto72] <;> rfl) (Nat.le_of_ble_eq_true rfl) ?_
  refine WL_endk (ks := [4, 5]) (by simp only [ev0, ev4, Nat.reduceEqDiff] <;> rfl) ?_
  with_reducible repeat (first | refine n1 ?_ | refine n2 ?_ | refine n3 ?_ | refine n4 ?_ | refine n5 ?_ | refine n6 ?_ | refine n7 rfl ?_ | refine W_seq ?_ | refine W_block ?_ | refine W_skip ?_ | refine W_exit ?_ | refine W_ret ?_)
  have ebl : (byteV l).length + b.size = (l ++ b.data.toList).length := by rw [byteV_len, List.length_append, bytes_len]
  have eby : byteV l ++ byteV b.data.toList = byteV (l ++ b.data.toList) := (byteV_append _ _).symm
  refine Fin_all (.tup [.c (.int .i64 b.size), .c .nilIface]) (by first | exact .inl rfl | exact .inr rfl) rfl (by simp only [Tryd.results49, vres, vresL, vres1, one_, vload_eq, Option.map_some, ev0, ev3, ev4, Nat.reduceEqDiff, Nat.reduceAdd, Nat.reduceLeDiff] <;> rfl) (by simp) ?_ (by simp only [one_, rf_c, rf_tup, List.map_cons, List.map_nil] <;> rfl) (by simp) ⟨⟨_, _, rfl⟩, by rw [← ebl, ← eby]; rfl⟩
  rw [ebl, eby]
  show HOk (List.set (List.set h j .gone) i (bld1 i (.os (List.length h) (l ++ b.data.toList).length)) ++ [.arr 5 1 (byteV (l ++ b.data.toList))])
  rw [← hg3]
  refine HOk_set (HOk_append (HOk_set (o := .gone) hk j trivial) ?_) i (ok_bld1 ?_ (.os ?_))
  · intro o ho
    simp only [List.mem_singleton] at ho; subst ho
    exact ok_bytes _
  · simp; omega
  · simp

theorem f52_ok {G} (i j : Nat) (l : List UInt8) (h : Hp) (hi : h.get i = bld1 i (.os j l.length)) (hj : h.get j = .arr 5 1 (byteV l)) (hl0 : l ≠ []) (h0 : l.length ≤ 1000000) : VCall Tryd.prog G (.fn 52 []) [.ep i 2 0 0] h
    (fun r h' => (∃ b, r = .c (.string b)) ∧ h' = List.set h j .gone) := by
  have hT := tdOf_ok Tryd.prog
  refine VCall_fn' (tdOf_ok _) Tryd.func52 rfl (by rfl) 14 rfl (by simp) (by simp only [ents, List.cons_append, List.nil_append, List.append_nil] <;> rfl) (fun hk ha hc => ?_)
  with_reducible repeat (first | refine n1 ?_ | refine n2 ?_ | refine n3 ?_ | refine n4 ?_ | refine n5 ?_ | refine n6 ?_ | refine n7 rfl ?_ | refine W_seq ?_ | refine W_block ?_ | refine W_skip ?_ | refine W_exit ?_ | refine W_ret ?_)
  have hlt : i < List.length h := Hp.lt_of hi rfl
  have hltj : j < List.length h := Hp.lt_of hj rfl
  have hg : Hp.get h i = .arr 74 2 [[.ep i 2 0 0, .os j l.length]] := hi
  have hbl : (byteV l).length = l.length := byteV_len l
  refine W_go (by simp only [ev0, ev1, ev2, ev3, ev4, Nat.reduceLT, Nat.reduceLeDiff, Nat.reduceEqDiff, Nat.reduceAdd, Nat.reduceMul, Nat.reduceBEq, reduceCtorEq, fa74_1, ld72, len72] <;> rfl) (Nat.le_of_ble_eq_true rfl) ?_
  refine WL_end ?_
  with_reducible repeat (first | refine n1 ?_ | refine n2 ?_ | refine n3 ?_ | refine n4 ?_ | refine n5 ?_ | refine n6 ?_ | refine n7 rfl ?_ | refine W_seq ?_ | refine W_block ?_ | refine W_skip ?_ | refine W_exit ?_ | refine W_ret ?_)
  have hne : j ≠ i := by
    intro e; subst e; rw [hi] at hj; unfold bld1 at hj; cases hj
  have hg4 : Hp.get (h ++ []) i = .arr 74 2 [[.ep i 2 0 0, .os j l.length]] := by rw [List.append_nil]; exact hg
  have hj4 : Hp.get (h ++ []) j = .arr 5 1 (byteV l) := by rw [List.append_nil]; exact hj
  refine Flt.W_drawL [] (by kernel_rfl) (Flt.DR_k 4 (by simp only [ev0, ev1, ev2, ev3, ev4, Nat.reduceLT, Nat.reduceLeDiff, Nat.reduceEqDiff, Nat.reduceAdd, Nat.reduceMul, Nat.reduceBEq, reduceCtorEq, fa74_1, ld72, len72, hg4, List.cons_append, List.nil_append, List.take_succ_cons, List.take_zero, List.drop_succ_cons, List.drop_zero] <;> rfl) rfl (Flt.DR_extH (fid := some (j)) (ob := .arr 5 1 (byteV l)) (fun _ => Does_sliceData rfl (xs := byteV l) (by rw [byteV_len]; (simp only [ev0, ev1, ev2, ev3, ev4, Nat.reduceLT, Nat.reduceLeDiff, Nat.reduceEqDiff, Nat.reduceAdd, Nat.reduceMul, Nat.reduceBEq, reduceCtorEq, fa74_1, ld72, len72, hg4, List.cons_append, List.nil_append, List.take_succ_cons, List.take_zero, List.drop_succ_cons, List.drop_zero] <;> rfl)) (byteV_pos hl0)) rfl rfl (by intro c hc; cases hc) (.inl rfl) (by rintro _ ⟨⟩; exact ⟨hj4, rfl, by simp⟩) (by simp only [ev0, ev1, ev2, ev3, ev4, Nat.reduceLT, Nat.reduceLeDiff, Nat.reduceEqDiff, Nat.reduceAdd, Nat.reduceMul, Nat.reduceBEq, reduceCtorEq, fa74_1, ld72, len72, hg4, List.cons_append, List.nil_append, List.take_succ_cons, List.take_zero, List.drop_succ_cons, List.drop_zero] <;> rfl) (Flt.DR_k 5 (by simp only [ev0, ev1, ev2, ev3, ev4, Nat.reduceLT, Nat.reduceLeDiff, Nat.reduceEqDiff, Nat.reduceAdd, Nat.reduceMul, Nat.reduceBEq, reduceCtorEq, fa74_1, ld72, len72, hg4, List.cons_append, List.nil_append, List.take_succ_cons, List.take_zero, List.drop_succ_cons, List.drop_zero] <;> rfl) rfl (Flt.DR_extH (fid := some (j)) (ob := .arr 5 1 (byteV l)) (fun _ => Does_unsafeString hT rfl td86 rfl (by kernel_rfl) (by simp only [ev0, ev1, ev2, ev3, ev4, Nat.reduceLT, Nat.reduceLeDiff, Nat.reduceEqDiff, Nat.reduceAdd, Nat.reduceMul, Nat.reduceBEq, reduceCtorEq, fa74_1, ld72, len72, hg4, List.cons_append, List.nil_append, List.take_succ_cons, List.take_zero, List.drop_succ_cons, List.drop_zero] <;> rfl) (by simp only [ev0, ev1, ev2, ev3, ev4, Nat.reduceLT, Nat.reduceLeDiff, Nat.reduceEqDiff, Nat.reduceAdd, Nat.reduceMul, Nat.reduceBEq, reduceCtorEq, fa74_1, ld72, len72, hg4, List.cons_append, List.nil_append, List.take_succ_cons, List.take_zero, List.drop_succ_cons, List.drop_zero] <;> rfl) hl0 (by omega)) rfl rfl (by intro c hc; cases hc) (.inl rfl) (by rintro _ ⟨⟩; exact ⟨hj4, rfl, by simp⟩) (by simp only [ev0, ev1, ev2, ev3, ev4, Nat.reduceLT, Nat.reduceLeDiff, Nat.reduceEqDiff, Nat.reduceAdd, Nat.reduceMul, Nat.reduceBEq, reduceCtorEq, fa74_1, ld72, len72, hg4, List.cons_append, List.nil_append, List.take_succ_cons, List.take_zero, List.drop_succ_cons, List.drop_zero] <;> rfl) (Flt.DR_e (by simp only [ev0, ev1, ev2, ev3, ev4, Nat.reduceLT, Nat.reduceLeDiff, Nat.reduceEqDiff, Nat.reduceAdd, Nat.reduceMul, Nat.reduceBEq, reduceCtorEq, fa74_1, ld72, len72, hg4, List.cons_append, List.nil_append, List.take_succ_cons, List.take_zero, List.drop_succ_cons, List.drop_zero] <;> rfl) rfl))))) (by kernel_rfl) (by kernel_rfl) (by rw [show Flt.dps _ = [(8, 4), (9, 4)] from by kernel_rfl]; simp [Flt.idsApart, Flt.idApart, Flt.cv] <;> omega) (by simp [Flt.fids, Flt.cv, List.range']) ?_
  with_reducible repeat (first | refine n1 ?_ | refine n2 ?_ | refine n3 ?_ | refine n4 ?_ | refine n5 ?_ | refine n6 ?_ | refine n7 rfl ?_ | refine W_seq ?_ | refine W_block ?_ | refine W_skip ?_ | refine W_exit ?_ | refine W_ret ?_)
  refine Fin_all (.c (.string ⟨l.toArray⟩)) (by first | exact .inl rfl | exact .inr rfl) rfl (by simp only [Tryd.results52, vres, vresL, vres1, one_, vload_eq, Option.map_some, ev0, ev3, ev4, Nat.reduceEqDiff, Nat.reduceAdd, Nat.reduceLeDiff] <;> rfl) (by simp) ?_ (by simp only [one_, rf_c]) (by simp) ⟨⟨_, rfl⟩, by rw [List.append_nil]⟩
  rw [List.append_nil]
  exact HOk_set (o := .gone) hk j trivial
end Go.Vm
/- schedule.Print comes to an end, with the error that the form says. -/
namespace Go.Vm
open Go Go.RowKit Go.Proofs
set_option linter.unusedSimpArgs false
set_option linter.unusedVariables false

/-- A builder among the objects that were laid since h, and its row. -/
structure BI (h : Hp) (s : Sch) (H : Hp) (j : Nat) (l : List UInt8) : Prop where
  pre : ∃ gs, H = h ++ gs
  sch : Hp.get H (List.length h) = .blk (schV s)
  bld : Hp.get H (List.length h + 1) = bld1 (List.length h + 1) (.os j l.length)
  row : Hp.get H j = .arr 5 1 (byteV l)
  ne : l ≠ []
  ge : List.length h ≤ j

theorem set_pre {h H : Hp} {i : Nat} {o : Ob} (hp : ∃ gs, H = h ++ gs) (hi : List.length h ≤ i) : ∃ gs, List.set H i o = h ++ gs := by
  obtain ⟨gs, rfl⟩ := hp
  exact ⟨List.set gs (i - List.length h) o, List.set_append_right _ _ hi⟩
theorem app_pre {h H e : Hp} (hp : ∃ gs, H = h ++ gs) : ∃ gs, H ++ e = h ++ gs := by
  obtain ⟨gs, rfl⟩ := hp
  exact ⟨gs ++ e, List.append_assoc _ _ _⟩

theorem get_append_end {h : Hp} {o : Ob} {n : Nat} (hn : n = List.length h) : Hp.get (h ++ [o]) n = o := by subst hn; rw [get_append_0]; rfl
theorem BI.next {h H : Hp} {s : Sch} {j : Nat} {l : List UInt8} (B : BI h s H j l) (ext : Hp) (b : List UInt8) :
    BI h s (List.set (List.set (H ++ ext) j .gone) (List.length h + 1) (bld1 (List.length h + 1) (.os (List.length (H ++ ext)) (l ++ b).length)) ++ [.arr 5 1 (byteV (l ++ b))]) (List.length (H ++ ext)) (l ++ b) := by
  have hl1 : List.length h + 1 < List.length H := Hp.lt_of B.bld rfl
  have hlj : j < List.length H := Hp.lt_of B.row rfl
  have hne1 : j ≠ List.length h := by
    intro e; have h1 := B.row; rw [e, B.sch] at h1; cases h1
  have hlen : List.length (List.set (List.set (H ++ ext) j .gone) (List.length h + 1) (bld1 (List.length h + 1) (.os (List.length (H ++ ext)) (l ++ b).length))) = List.length (H ++ ext) := by simp
  have hlt : List.length H ≤ List.length (H ++ ext) := by simp
  refine ⟨app_pre (set_pre (set_pre (app_pre B.pre) B.ge) (by omega)), ?_, ?_, ?_, by simp [B.ne], by have := B.ge; omega⟩
  · rw [get_append_l _ (by rw [hlen]; omega), get_set_other (by omega), get_set_other hne1, get_append_l _ (by omega)]; exact B.sch
  · rw [get_append_l _ (by rw [hlen]; omega), get_set_self (by simp; omega)]
  · exact get_append_end hlen.symm

theorem BI.first {h H : Hp} {s : Sch} (b : List UInt8) (hb : b ≠ []) (hp : ∃ gs, H = h ++ gs) (hs : Hp.get H (List.length h) = .blk (schV s)) (hl : List.length h + 1 < List.length H) (o : Ob) (n : Nat) (hn : n = b.length) :
    BI h s (List.set (List.set H (List.length h + 1) o) (List.length h + 1) (bld1 (List.length h + 1) (.os (List.length H) n)) ++ [.arr 5 1 (byteV b)]) (List.length H) b := by
  subst hn
  have hlen : List.length (List.set (List.set H (List.length h + 1) o) (List.length h + 1) (bld1 (List.length h + 1) (.os (List.length H) b.length))) = List.length H := by simp
  refine ⟨app_pre (set_pre (set_pre hp (by omega)) (by omega)), ?_, ?_, ?_, hb, by omega⟩
  · rw [get_append_l _ (by rw [hlen]; omega), get_set_other (by omega), get_set_other (by omega)]; exact hs
  · rw [get_append_l _ (by rw [hlen]; omega), get_set_self (by simp; omega)]
  · exact get_append_end hlen.symm

theorem okFrom_formed {s : Sch} (hf : formB s = true) (c : Cell) (hc : c ∈ s.cells) : ∀ x, x ∈ nums c → 0 ≤ x ∧ x ≤ 512 := by
  simp only [formB, sized, Bool.and_eq_true, decide_eq_true_eq] at hf
  obtain ⟨⟨⟨⟨⟨h1, h2⟩, h3⟩, h4⟩, h5⟩, h6⟩ := hf
  have := okFrom_all h6 c hc
  simp only [formed, placed, inside, Bool.and_eq_true, decide_eq_true_eq] at this
  intro x hx
  simp only [nums, List.mem_cons, List.not_mem_nil, or_false] at hx
  rcases hx with rfl | rfl | rfl | rfl | rfl <;> omega
set_option maxRecDepth 8000 in
theorem print_ok {G} (hG : TabG G) : PrintOK G := by
  rintro ⟨len, offs, xs⟩ h hl
  simp only at hl
  have hT := tdOf_ok Tryd.prog
  refine VCall_fn' (tdOf_ok _) Tryd.func39 rfl (by rfl) 32 rfl (by simp) (by simp only [ents, List.cons_append, List.nil_append, List.append_nil] <;> rfl) (fun hk ha hc => ?_)
  with_reducible repeat (first | refine n1 ?_ | refine n2 ?_ | refine n3 ?_ | refine n4 ?_ | refine n5 ?_ | refine n6 ?_ | refine n7 rfl ?_ | refine W_seq ?_ | refine W_block ?_ | refine W_skip ?_ | refine W_exit ?_ | refine W_ret ?_)
  cases hf : formB ⟨len, offs, xs⟩
  · refine W_go (by simp only [ev0, ev1, ev2, ev3, ev4, Nat.reduceLT, Nat.reduceLeDiff, Nat.reduceEqDiff, Nat.reduceAdd, Nat.reduceMul, Nat.reduceBEq, reduceCtorEq, ld24, alc74, fa24_0, ld3, fa24_1, bsl25, fa24_2, ld22, len22, ix22, ld29, alc29, sto29, alc80, sto80, schV] <;> rfl) (Nat.le_of_ble_eq_true rfl) ?_
    refine WL_end ?_
    with_reducible repeat (first | refine n1 ?_ | refine n2 ?_ | refine n3 ?_ | refine n4 ?_ | refine n5 ?_ | refine n6 ?_ | refine n7 rfl ?_ | refine W_seq ?_ | refine W_block ?_ | refine W_skip ?_ | refine W_exit ?_ | refine W_ret ?_)
    refine W_go (by simp only [ev0, ev1, ev2, ev3, ev4, Nat.reduceLT, Nat.reduceLeDiff, Nat.reduceEqDiff, Nat.reduceAdd, Nat.reduceMul, Nat.reduceBEq, reduceCtorEq, ld24, alc74, fa24_0, ld3, fa24_1, bsl25, fa24_2, ld22, len22, ix22, ld29, alc29, sto29, alc80, sto80] <;> rfl) (Nat.le_of_ble_eq_true rfl) ?_
    refine WL_pure (f48_ok ⟨len, offs, xs⟩ _ (by simp only; omega)) rfl (.inl rfl) (by simp only [ev0, ev1, ev2, ev3, ev4, Nat.reduceLT, Nat.reduceLeDiff, Nat.reduceEqDiff, Nat.reduceAdd, Nat.reduceMul, Nat.reduceBEq, reduceCtorEq, ld24, alc74, fa24_0, ld3, fa24_1, bsl25, fa24_2, ld22, len22, ix22, ld29, alc29, sto29, alc80, sto80, schV] <;> rfl) (by simp only [ev0, ev1, ev2, ev3, ev4, Nat.reduceLT, Nat.reduceLeDiff, Nat.reduceEqDiff, Nat.reduceAdd, Nat.reduceMul, Nat.reduceBEq, reduceCtorEq, ld24, alc74, fa24_0, ld3, fa24_1, bsl25, fa24_2, ld22, len22, ix22, ld29, alc29, sto29, alc80, sto80, schV] <;> rfl) rfl (by simp only [ev0, ev1, ev2, ev3, ev4, Nat.reduceLT, Nat.reduceLeDiff, Nat.reduceEqDiff, Nat.reduceAdd, Nat.reduceMul, Nat.reduceBEq, reduceCtorEq, ld24, alc74, fa24_0, ld3, fa24_1, bsl25, fa24_2, ld22, len22, ix22, ld29, alc29, sto29, alc80, sto80, schV] <;> rfl) ?_
    refine WL_go (by simp only [ev0, ev1, ev2, ev3, ev4, Nat.reduceLT, Nat.reduceLeDiff, Nat.reduceEqDiff, Nat.reduceAdd, Nat.reduceMul, Nat.reduceBEq, reduceCtorEq, ld24, alc74, fa24_0, ld3, fa24_1, bsl25, fa24_2, ld22, len22, ix22, ld29, alc29, sto29, alc80, sto80, hf, Bool.not_false] <;> rfl) (Nat.le_of_ble_eq_true rfl) ?_
    refine WL_endk (ks := [10]) (by simp only [ev0, ev4, Nat.reduceEqDiff] <;> rfl) ?_
    with_reducible repeat (first | refine n1 ?_ | refine n2 ?_ | refine n3 ?_ | refine n4 ?_ | refine n5 ?_ | refine n6 ?_ | refine n7 rfl ?_ | refine W_seq ?_ | refine W_block ?_ | refine W_skip ?_ | refine W_exit ?_ | refine W_ret ?_)
    refine W_true rfl ?_
    with_reducible repeat (first | refine n1 ?_ | refine n2 ?_ | refine n3 ?_ | refine n4 ?_ | refine n5 ?_ | refine n6 ?_ | refine n7 rfl ?_ | refine W_seq ?_ | refine W_block ?_ | refine W_skip ?_ | refine W_exit ?_ | refine W_ret ?_)
    refine W_go (by simp only [ev0, ev1, ev2, ev3, ev4, Nat.reduceLT, Nat.reduceLeDiff, Nat.reduceEqDiff, Nat.reduceAdd, Nat.reduceMul, Nat.reduceBEq, reduceCtorEq, ld24, alc74, fa24_0, ld3, fa24_1, bsl25, fa24_2, ld22, len22, ix22, ld29, alc29, sto29, alc80, sto80] <;> rfl) (Nat.le_of_ble_eq_true rfl) ?_
    refine WL_endk (ks := [2, 3]) (by simp only [ev0, ev4, Nat.reduceEqDiff] <;> rfl) ?_
    with_reducible repeat (first | refine n1 ?_ | refine n2 ?_ | refine n3 ?_ | refine n4 ?_ | refine n5 ?_ | refine n6 ?_ | refine n7 rfl ?_ | refine W_seq ?_ | refine W_block ?_ | refine W_skip ?_ | refine W_exit ?_ | refine W_ret ?_)
    refine Fin_pure [.blk (schV ⟨len, offs, xs⟩)] _ (by first | exact .inl rfl | exact .inr rfl) rfl (by simp only [Tryd.results39, vres, vresL, vres1, one_, vload_eq, Option.map_some, ev0, ev3, ev4, Nat.reduceEqDiff, Nat.reduceAdd, Nat.reduceLeDiff] <;> rfl) rfl (by simp only [one_, rf_c, rf_any, rf_sl, rf_ptr, rf_fn, rf_agg, rf_tup, rf, List.map_cons, List.map_nil] <;> rfl) hk (by simp) ?_
    exact ⟨rfl, _, rfl⟩
  obtain ⟨h1, h2, h3, h4, h5, h6⟩ := formB_spec hf
  simp only at h1 h2 h3 h4 h5 h6
  refine W_go (by simp only [ev0, ev1, ev2, ev3, ev4, Nat.reduceLT, Nat.reduceLeDiff, Nat.reduceEqDiff, Nat.reduceAdd, Nat.reduceMul, Nat.reduceBEq, reduceCtorEq, ld24, alc74, fa24_0, ld3, fa24_1, bsl25, fa24_2, ld22, len22, ix22, ld29, alc29, sto29, alc80, sto80, schV] <;> rfl) (Nat.le_of_ble_eq_true rfl) ?_
  refine WL_end ?_
  with_reducible repeat (first | refine n1 ?_ | refine n2 ?_ | refine n3 ?_ | refine n4 ?_ | refine n5 ?_ | refine n6 ?_ | refine n7 rfl ?_ | refine W_seq ?_ | refine W_block ?_ | refine W_skip ?_ | refine W_exit ?_ | refine W_ret ?_)
  refine W_go (by simp only [ev0, ev1, ev2, ev3, ev4, Nat.reduceLT, Nat.reduceLeDiff, Nat.reduceEqDiff, Nat.reduceAdd, Nat.reduceMul, Nat.reduceBEq, reduceCtorEq, ld24, alc74, fa24_0, ld3, fa24_1, bsl25, fa24_2, ld22, len22, ix22, ld29, alc29, sto29, alc80, sto80] <;> rfl) (Nat.le_of_ble_eq_true rfl) ?_
  refine WL_pure (f48_ok ⟨len, offs, xs⟩ _ (by simp only; omega)) rfl (.inl rfl) (by simp only [ev0, ev1, ev2, ev3, ev4, Nat.reduceLT, Nat.reduceLeDiff, Nat.reduceEqDiff, Nat.reduceAdd, Nat.reduceMul, Nat.reduceBEq, reduceCtorEq, ld24, alc74, fa24_0, ld3, fa24_1, bsl25, fa24_2, ld22, len22, ix22, ld29, alc29, sto29, alc80, sto80, schV] <;> rfl) (by simp only [ev0, ev1, ev2, ev3, ev4, Nat.reduceLT, Nat.reduceLeDiff, Nat.reduceEqDiff, Nat.reduceAdd, Nat.reduceMul, Nat.reduceBEq, reduceCtorEq, ld24, alc74, fa24_0, ld3, fa24_1, bsl25, fa24_2, ld22, len22, ix22, ld29, alc29, sto29, alc80, sto80, schV] <;> rfl) rfl (by simp only [ev0, ev1, ev2, ev3, ev4, Nat.reduceLT, Nat.reduceLeDiff, Nat.reduceEqDiff, Nat.reduceAdd, Nat.reduceMul, Nat.reduceBEq, reduceCtorEq, ld24, alc74, fa24_0, ld3, fa24_1, bsl25, fa24_2, ld22, len22, ix22, ld29, alc29, sto29, alc80, sto80, schV] <;> rfl) ?_
  refine WL_go (by simp only [ev0, ev1, ev2, ev3, ev4, Nat.reduceLT, Nat.reduceLeDiff, Nat.reduceEqDiff, Nat.reduceAdd, Nat.reduceMul, Nat.reduceBEq, reduceCtorEq, ld24, alc74, fa24_0, ld3, fa24_1, bsl25, fa24_2, ld22, len22, ix22, ld29, alc29, sto29, alc80, sto80, hf, Bool.not_true] <;> rfl) (Nat.le_of_ble_eq_true rfl) ?_
  refine WL_endk (ks := [1, 2, 3, 10]) (by simp only [ev0, ev4, Nat.reduceEqDiff] <;> rfl) ?_
  with_reducible repeat (first | refine n1 ?_ | refine n2 ?_ | refine n3 ?_ | refine n4 ?_ | refine n5 ?_ | refine n6 ?_ | refine n7 rfl ?_ | refine W_seq ?_ | refine W_block ?_ | refine W_skip ?_ | refine W_exit ?_ | refine W_ret ?_)
  refine W_false rfl ?_
  with_reducible repeat (first | refine n1 ?_ | refine n2 ?_ | refine n3 ?_ | refine n4 ?_ | refine n5 ?_ | refine n6 ?_ | refine n7 rfl ?_ | refine W_seq ?_ | refine W_block ?_ | refine W_skip ?_ | refine W_exit ?_ | refine W_ret ?_)
  refine W_region ?_
  refine WL_ex (fid := none) (ob := .gone) (Does_alloc_arr hT rfl td74 rfl rfl) (by intro c hc; cases hc) (.inl rfl) (by intro id hid; cases hid) (by simp only [ev0, ev1, ev2, ev3, ev4, Nat.reduceLT, Nat.reduceLeDiff, Nat.reduceEqDiff, Nat.reduceAdd, Nat.reduceMul, Nat.reduceBEq, reduceCtorEq, ld24, alc74, fa24_0, ld3, fa24_1, bsl25, fa24_2, ld22, len22, ix22, ld29, alc29, sto29, alc80, sto80] <;> rfl) ?_
  refine WL_go (by simp only [ev0, ev1, ev2, ev3, ev4, Nat.reduceLT, Nat.reduceLeDiff, Nat.reduceEqDiff, Nat.reduceAdd, Nat.reduceMul, Nat.reduceBEq, reduceCtorEq, ld24, alc74, fa24_0, ld3, fa24_1, bsl25, fa24_2, ld22, len22, ix22, ld29, alc29, sto29, alc80, sto80] <;> rfl) (Nat.le_of_ble_eq_true rfl) ?_
  refine WL_endk (ks := [1, 2, 3, 4]) (by simp only [ev0, ev4, Nat.reduceEqDiff] <;> rfl) ?_
  with_reducible repeat (first | refine n1 ?_ | refine n2 ?_ | refine n3 ?_ | refine n4 ?_ | refine n5 ?_ | refine n6 ?_ | refine n7 rfl ?_ | refine W_seq ?_ | refine W_block ?_ | refine W_skip ?_ | refine W_exit ?_ | refine W_ret ?_)
  have hg0 : Hp.get (h ++ [.blk (schV ⟨len, offs, xs⟩), bld0]) (List.length h + 1) = bld0 := by rw [get_append_r]; rfl
  refine W_go (by simp only [ev0, ev1, ev2, ev3, ev4, Nat.reduceLT, Nat.reduceLeDiff, Nat.reduceEqDiff, Nat.reduceAdd, Nat.reduceMul, Nat.reduceBEq, reduceCtorEq, ld24, alc74, fa24_0, ld3, fa24_1, bsl25, fa24_2, ld22, len22, ix22, ld29, alc29, sto29, alc80, sto80, schV] <;> rfl) (Nat.le_of_ble_eq_true rfl) ?_
  refine WL_call' (f50_ok hG ⟨#[115, 99, 104, 101, 100, 117, 108, 101]⟩ [len, offs] _ (by decide) (by intro x hx; simp at hx; rcases hx with rfl | rfl <;> omega) (by simp)) rfl (.inl rfl) (by simp only [ev0, ev1, ev2, ev3, ev4, Nat.reduceLT, Nat.reduceLeDiff, Nat.reduceEqDiff, Nat.reduceAdd, Nat.reduceMul, Nat.reduceBEq, reduceCtorEq, ld24, alc74, fa24_0, ld3, fa24_1, bsl25, fa24_2, ld22, len22, ix22, ld29, alc29, sto29, alc80, sto80, iv, schV] <;> rfl) (by simp only [ev0, ev1, ev2, ev3, ev4, Nat.reduceLT, Nat.reduceLeDiff, Nat.reduceEqDiff, Nat.reduceAdd, Nat.reduceMul, Nat.reduceBEq, reduceCtorEq, ld24, alc74, fa24_0, ld3, fa24_1, bsl25, fa24_2, ld22, len22, ix22, ld29, alc29, sto29, alc80, sto80, iv, schV] <;> rfl) rfl ?_
  rintro _ _ ⟨rfl, s, rfl, hs1, hs2⟩
  refine WL_go (by simp only [ev0, ev1, ev2, ev3, ev4, Nat.reduceLT, Nat.reduceLeDiff, Nat.reduceEqDiff, Nat.reduceAdd, Nat.reduceMul, Nat.reduceBEq, reduceCtorEq, ld24, alc74, fa24_0, ld3, fa24_1, bsl25, fa24_2, ld22, len22, ix22, ld29, alc29, sto29, alc80, sto80] <;> rfl) (Nat.le_of_ble_eq_true rfl) ?_
  refine WL_call' (f49_new (List.length h + 1) s (h ++ [.blk (schV ⟨len, offs, xs⟩), bld0]) hg0 hs1 hs2) rfl (.inl rfl) (by simp only [ev0, ev1, ev2, ev3, ev4, Nat.reduceLT, Nat.reduceLeDiff, Nat.reduceEqDiff, Nat.reduceAdd, Nat.reduceMul, Nat.reduceBEq, reduceCtorEq, ld24, alc74, fa24_0, ld3, fa24_1, bsl25, fa24_2, ld22, len22, ix22, ld29, alc29, sto29, alc80, sto80] <;> rfl) (by simp only [ev0, ev1, ev2, ev3, ev4, Nat.reduceLT, Nat.reduceLeDiff, Nat.reduceEqDiff, Nat.reduceAdd, Nat.reduceMul, Nat.reduceBEq, reduceCtorEq, ld24, alc74, fa24_0, ld3, fa24_1, bsl25, fa24_2, ld22, len22, ix22, ld29, alc29, sto29, alc80, sto80] <;> rfl) rfl ?_
  rintro _ _ ⟨⟨_, _, rfl⟩, rfl⟩
  refine WL_go (by simp only [ev0, ev1, ev2, ev3, ev4, Nat.reduceLT, Nat.reduceLeDiff, Nat.reduceEqDiff, Nat.reduceAdd, Nat.reduceMul, Nat.reduceBEq, reduceCtorEq, ld24, alc74, fa24_0, ld3, fa24_1, bsl25, fa24_2, ld22, len22, ix22, ld29, alc29, sto29, alc80, sto80] <;> rfl) (Nat.le_of_ble_eq_true rfl) ?_
  have hsz : ∀ b : ByteArray, 0 < b.size → b.data.toList ≠ [] := fun b hb e => by have := bytes_len b; rw [e] at this; simp at this; omega
  have hB : BI h ⟨len, offs, xs⟩ (h ++ [.blk (schV ⟨len, offs, xs⟩), bld1 (List.length h + 1) (.os (List.length h + 2) s.size), .arr 5 1 (byteV s.data.toList)]) (List.length h + 2) s.data.toList :=
    ⟨⟨_, rfl⟩, by rw [get_append_0]; rfl, by rw [get_append_r, bytes_len]; rfl, by rw [get_append_r]; rfl, hsz s hs1, by omega⟩
  have hBl : s.data.toList.length ≤ 1000 := by rw [bytes_len]; exact hs2
  refine WL_endk (ks := [1, 2, 3, 4]) (by simp only [ev0, ev4, Nat.reduceEqDiff] <;> rfl) ?_
  with_reducible repeat (first | refine n1 ?_ | refine n2 ?_ | refine n3 ?_ | refine n4 ?_ | refine n5 ?_ | refine n6 ?_ | refine n7 rfl ?_ | refine W_seq ?_ | refine W_block ?_ | refine W_skip ?_ | refine W_exit ?_ | refine W_ret ?_)
  refine W_go (by simp only [ev0, ev1, ev2, ev3, ev4, Nat.reduceLT, Nat.reduceLeDiff, Nat.reduceEqDiff, Nat.reduceAdd, Nat.reduceMul, Nat.reduceBEq, reduceCtorEq, ld24, alc74, fa24_0, ld3, fa24_1, bsl25, fa24_2, ld22, len22, ix22, ld29, alc29, sto29, alc80, sto80, schV, List.length_map] <;> rfl) (Nat.le_of_ble_eq_true rfl) ?_
  refine WL_endk (ks := [2, 3, 4, 19, 20, 21]) (by simp only [ev0, ev4, Nat.reduceEqDiff] <;> rfl) ?_
  with_reducible repeat (first | refine n1 ?_ | refine n2 ?_ | refine n3 ?_ | refine n4 ?_ | refine n5 ?_ | refine n6 ?_ | refine n7 rfl ?_ | refine W_seq ?_ | refine W_block ?_ | refine W_skip ?_ | refine W_exit ?_ | refine W_ret ?_)
  refine W_loopS (fun (p : Nat × Hp × Nat × List UInt8) => ⟨32, [(2, .c (.string ⟨#[]⟩)), (3, .c (.int .i64 0)), (4, .ep (List.length h + 1) 2 0 0), (19, .sl 5 (xs.map cellV)), (20, .c (.int .i64 xs.length)), (21, .c (.int .i64 p.1))], p.2.1, []⟩)
    (fun p => p.1 ≤ xs.length ∧ BI h ⟨len, offs, xs⟩ p.2.1 p.2.2.1 p.2.2.2 ∧ p.2.2.2.length ≤ 1000 + 1000 * p.1) (fun p => xs.length - p.1) (0, _, List.length h + 2, s.data.toList) ⟨by simp, hB, by simpa using hBl⟩ rfl (fun p hI => ?_)
  obtain ⟨k, H, j, l⟩ := p
  obtain ⟨hk1, B, hk2⟩ := hI
  simp only at hk1 B hk2
  with_reducible repeat (first | refine n1 ?_ | refine n2 ?_ | refine n3 ?_ | refine n4 ?_ | refine n5 ?_ | refine n6 ?_ | refine n7 rfl ?_ | refine W_seq ?_ | refine W_block ?_ | refine W_skip ?_ | refine W_exit ?_ | refine W_ret ?_)
  refine W_go (by simp only [ev0, ev1, ev2, ev3, ev4, Nat.reduceLT, Nat.reduceLeDiff, Nat.reduceEqDiff, Nat.reduceAdd, Nat.reduceMul, Nat.reduceBEq, reduceCtorEq, ld24, alc74, fa24_0, ld3, fa24_1, bsl25, fa24_2, ld22, len22, ix22, ld29, alc29, sto29, alc80, sto80] <;> rfl) (Nat.le_of_ble_eq_true rfl) ?_
  refine WL_end ?_
  with_reducible repeat (first | refine n1 ?_ | refine n2 ?_ | refine n3 ?_ | refine n4 ?_ | refine n5 ?_ | refine n6 ?_ | refine n7 rfl ?_ | refine W_seq ?_ | refine W_block ?_ | refine W_skip ?_ | refine W_exit ?_ | refine W_ret ?_)
  refine W_cond rfl (fun hc => ?_) (fun hc => ?_)
  · have hlt : k < xs.length := by simpa using hc
    have hcell : (xs.map cellV)[k]? = some (cellV xs[k]) := by simp [hlt]
    have hfm := okFrom_formed hf xs[k] (List.getElem_mem hlt)
    with_reducible repeat (first | refine n1 ?_ | refine n2 ?_ | refine n3 ?_ | refine n4 ?_ | refine n5 ?_ | refine n6 ?_ | refine n7 rfl ?_ | refine W_seq ?_ | refine W_block ?_ | refine W_skip ?_ | refine W_exit ?_ | refine W_ret ?_)
    refine W_go (by simp only [ev0, ev1, ev2, ev3, ev4, Nat.reduceLT, Nat.reduceLeDiff, Nat.reduceEqDiff, Nat.reduceAdd, Nat.reduceMul, Nat.reduceBEq, reduceCtorEq, ld24, alc74, fa24_0, ld3, fa24_1, bsl25, fa24_2, ld22, len22, ix22, ld29, alc29, sto29, alc80, sto80, hcell, cellV] <;> rfl) (Nat.le_of_ble_eq_true rfl) ?_
    refine WL_endk (ks := [2, 3, 4, 6, 19, 20, 21]) (by simp only [ev0, ev4, Nat.reduceEqDiff] <;> rfl) ?_
    with_reducible repeat (first | refine n1 ?_ | refine n2 ?_ | refine n3 ?_ | refine n4 ?_ | refine n5 ?_ | refine n6 ?_ | refine n7 rfl ?_ | refine W_seq ?_ | refine W_block ?_ | refine W_skip ?_ | refine W_exit ?_ | refine W_ret ?_)
    refine W_go (by simp only [ev0, ev1, ev2, ev3, ev4, Nat.reduceLT, Nat.reduceLeDiff, Nat.reduceEqDiff, Nat.reduceAdd, Nat.reduceMul, Nat.reduceBEq, reduceCtorEq, ld24, alc74, fa24_0, ld3, fa24_1, bsl25, fa24_2, ld22, len22, ix22, ld29, alc29, sto29, alc80, sto80, cellV] <;> rfl) (Nat.le_of_ble_eq_true rfl) ?_
    refine WL_pure (f51_ok xs[k] _) rfl (.inl rfl) (by simp only [ev0, ev1, ev2, ev3, ev4, Nat.reduceLT, Nat.reduceLeDiff, Nat.reduceEqDiff, Nat.reduceAdd, Nat.reduceMul, Nat.reduceBEq, reduceCtorEq, ld24, alc74, fa24_0, ld3, fa24_1, bsl25, fa24_2, ld22, len22, ix22, ld29, alc29, sto29, alc80, sto80, cellV] <;> rfl) (by simp only [ev0, ev1, ev2, ev3, ev4, Nat.reduceLT, Nat.reduceLeDiff, Nat.reduceEqDiff, Nat.reduceAdd, Nat.reduceMul, Nat.reduceBEq, reduceCtorEq, ld24, alc74, fa24_0, ld3, fa24_1, bsl25, fa24_2, ld22, len22, ix22, ld29, alc29, sto29, alc80, sto80, cellV] <;> rfl) rfl (by simp only [ev0, ev1, ev2, ev3, ev4, Nat.reduceLT, Nat.reduceLeDiff, Nat.reduceEqDiff, Nat.reduceAdd, Nat.reduceMul, Nat.reduceBEq, reduceCtorEq, ld24, alc74, fa24_0, ld3, fa24_1, bsl25, fa24_2, ld22, len22, ix22, ld29, alc29, sto29, alc80, sto80, cellV] <;> rfl) ?_
    refine WL_go (by simp only [ev0, ev1, ev2, ev3, ev4, Nat.reduceLT, Nat.reduceLeDiff, Nat.reduceEqDiff, Nat.reduceAdd, Nat.reduceMul, Nat.reduceBEq, reduceCtorEq, ld24, alc74, fa24_0, ld3, fa24_1, bsl25, fa24_2, ld22, len22, ix22, ld29, alc29, sto29, alc80, sto80, cellV] <;> rfl) (Nat.le_of_ble_eq_true rfl) ?_
    refine WL_endk (ks := [7, 2, 3, 4, 6, 19, 20, 21]) (by simp only [ev0, ev4, Nat.reduceEqDiff] <;> rfl) ?_
    with_reducible repeat (first | refine n1 ?_ | refine n2 ?_ | refine n3 ?_ | refine n4 ?_ | refine n5 ?_ | refine n6 ?_ | refine n7 rfl ?_ | refine W_seq ?_ | refine W_block ?_ | refine W_skip ?_ | refine W_exit ?_ | refine W_ret ?_)
    refine W_share (by rw [get_append_r]; rfl) (set_append_r _ _ _) ?_
    with_reducible repeat (first | refine n1 ?_ | refine n2 ?_ | refine n3 ?_ | refine n4 ?_ | refine n5 ?_ | refine n6 ?_ | refine n7 rfl ?_ | refine W_seq ?_ | refine W_block ?_ | refine W_skip ?_ | refine W_exit ?_ | refine W_ret ?_)
    have hb1 : ∀ e : Hp, Hp.get (H ++ e) (List.length h + 1) = bld1 (List.length h + 1) (.os j l.length) := fun e => by rw [get_append_l _ (Hp.lt_of B.bld rfl)]; exact B.bld
    have hr1 : ∀ e : Hp, Hp.get (H ++ e) j = .arr 5 1 (byteV l) := fun e => by rw [get_append_l _ (Hp.lt_of B.row rfl)]; exact B.row
    refine W_region ?_
    refine WL_ex (fid := none) (ob := .gone) (Does_slice_rp hT rfl td80 rfl td3 rfl (by simp only [ev0, ev1, ev2, ev3, ev4, Nat.reduceLT, Nat.reduceLeDiff, Nat.reduceEqDiff, Nat.reduceAdd, Nat.reduceMul, Nat.reduceBEq, reduceCtorEq, ld24, alc74, fa24_0, ld3, fa24_1, bsl25, fa24_2, ld22, len22, ix22, ld29, alc29, sto29, alc80, sto80] <;> rfl) rfl (by decide) (by simp [oneC])) (by intro c hc; cases hc) (.inl rfl) (by intro id hid; cases hid) (by simp only [ev0, ev1, ev2, ev3, ev4, Nat.reduceLT, Nat.reduceLeDiff, Nat.reduceEqDiff, Nat.reduceAdd, Nat.reduceMul, Nat.reduceBEq, reduceCtorEq, ld24, alc74, fa24_0, ld3, fa24_1, bsl25, fa24_2, ld22, len22, ix22, ld29, alc29, sto29, alc80, sto80] <;> rfl) ?_
    refine WL_go (by simp only [ev0, ev1, ev2, ev3, ev4, Nat.reduceLT, Nat.reduceLeDiff, Nat.reduceEqDiff, Nat.reduceAdd, Nat.reduceMul, Nat.reduceBEq, reduceCtorEq, ld24, alc74, fa24_0, ld3, fa24_1, bsl25, fa24_2, ld22, len22, ix22, ld29, alc29, sto29, alc80, sto80] <;> rfl) (Nat.le_of_ble_eq_true rfl) ?_
    refine WL_call' (f50_ok hG ⟨#[99, 101, 108, 108]⟩ (nums xs[k]) _ (by decide) hfm (by simp [nums])) rfl (.inl rfl) (by simp only [ev0, ev1, ev2, ev3, ev4, Nat.reduceLT, Nat.reduceLeDiff, Nat.reduceEqDiff, Nat.reduceAdd, Nat.reduceMul, Nat.reduceBEq, reduceCtorEq, ld24, alc74, fa24_0, ld3, fa24_1, bsl25, fa24_2, ld22, len22, ix22, ld29, alc29, sto29, alc80, sto80, iv, nums] <;> rfl) (by simp only [ev0, ev1, ev2, ev3, ev4, Nat.reduceLT, Nat.reduceLeDiff, Nat.reduceEqDiff, Nat.reduceAdd, Nat.reduceMul, Nat.reduceBEq, reduceCtorEq, ld24, alc74, fa24_0, ld3, fa24_1, bsl25, fa24_2, ld22, len22, ix22, ld29, alc29, sto29, alc80, sto80, iv, nums] <;> rfl) rfl ?_
    rintro _ _ ⟨rfl, s, rfl, hs1, hs2⟩
    refine WL_go (by simp only [ev0, ev1, ev2, ev3, ev4, Nat.reduceLT, Nat.reduceLeDiff, Nat.reduceEqDiff, Nat.reduceAdd, Nat.reduceMul, Nat.reduceBEq, reduceCtorEq, ld24, alc74, fa24_0, ld3, fa24_1, bsl25, fa24_2, ld22, len22, ix22, ld29, alc29, sto29, alc80, sto80] <;> rfl) (Nat.le_of_ble_eq_true rfl) ?_
    refine WL_call' (f49_old (List.length h + 1) j l s _ (hb1 _) (hr1 _) B.ne (by omega)) rfl (.inl rfl) (by simp only [ev0, ev1, ev2, ev3, ev4, Nat.reduceLT, Nat.reduceLeDiff, Nat.reduceEqDiff, Nat.reduceAdd, Nat.reduceMul, Nat.reduceBEq, reduceCtorEq, ld24, alc74, fa24_0, ld3, fa24_1, bsl25, fa24_2, ld22, len22, ix22, ld29, alc29, sto29, alc80, sto80] <;> rfl) (by simp only [ev0, ev1, ev2, ev3, ev4, Nat.reduceLT, Nat.reduceLeDiff, Nat.reduceEqDiff, Nat.reduceAdd, Nat.reduceMul, Nat.reduceBEq, reduceCtorEq, ld24, alc74, fa24_0, ld3, fa24_1, bsl25, fa24_2, ld22, len22, ix22, ld29, alc29, sto29, alc80, sto80] <;> rfl) rfl ?_
    rintro _ _ ⟨⟨_, _, rfl⟩, rfl⟩
    refine WL_go (by simp only [ev0, ev1, ev2, ev3, ev4, Nat.reduceLT, Nat.reduceLeDiff, Nat.reduceEqDiff, Nat.reduceAdd, Nat.reduceMul, Nat.reduceBEq, reduceCtorEq, ld24, alc74, fa24_0, ld3, fa24_1, bsl25, fa24_2, ld22, len22, ix22, ld29, alc29, sto29, alc80, sto80] <;> rfl) (Nat.le_of_ble_eq_true rfl) ?_
    have hB2 := B.next [.blk (cellV xs[k]), .gone] s.data.toList
    simp only [List.length_append, List.length_cons, List.length_nil, Nat.zero_add, Nat.reduceAdd] at hB2
    have hbl : s.data.toList.length = s.size := bytes_len s
    refine WL_endk (ks := [2, 3, 4, 19, 20, 21]) (by simp only [ev0, ev4, Nat.reduceEqDiff] <;> rfl) ?_
    with_reducible repeat (first | refine n1 ?_ | refine n2 ?_ | refine n3 ?_ | refine n4 ?_ | refine n5 ?_ | refine n6 ?_ | refine n7 rfl ?_ | refine W_seq ?_ | refine W_block ?_ | refine W_skip ?_ | refine W_exit ?_ | refine W_ret ?_)
    refine W_go (by simp only [ev0, ev1, ev2, ev3, ev4, Nat.reduceLT, Nat.reduceLeDiff, Nat.reduceEqDiff, Nat.reduceAdd, Nat.reduceMul, Nat.reduceBEq, reduceCtorEq, ld24, alc74, fa24_0, ld3, fa24_1, bsl25, fa24_2, ld22, len22, ix22, ld29, alc29, sto29, alc80, sto80] <;> rfl) (Nat.le_of_ble_eq_true rfl) ?_
    refine WL_endk (ks := [2, 3, 4, 19, 20, 21]) (by simp only [ev0, ev4, Nat.reduceEqDiff] <;> rfl) ?_
    with_reducible repeat (first | refine n1 ?_ | refine n2 ?_ | refine n3 ?_ | refine n4 ?_ | refine n5 ?_ | refine n6 ?_ | refine n7 rfl ?_ | refine W_seq ?_ | refine W_block ?_ | refine W_skip ?_ | refine W_exit ?_ | refine W_ret ?_)
    exact ⟨(k + 1, _, List.length H + 2, l ++ s.data.toList), by rw [wrap64 (by omega) (by omega)]; rfl, ⟨by simp only; omega, hB2, by simp only [List.length_append]; omega⟩, by simp only; omega⟩
  · have hkn : k = xs.length := by
      have : xs.length ≤ k := by simpa using hc
      omega
    subst hkn
    with_reducible repeat (first | refine n1 ?_ | refine n2 ?_ | refine n3 ?_ | refine n4 ?_ | refine n5 ?_ | refine n6 ?_ | refine n7 rfl ?_ | refine W_seq ?_ | refine W_block ?_ | refine W_skip ?_ | refine W_exit ?_ | refine W_ret ?_)
    refine W_go (by simp only [ev0, ev1, ev2, ev3, ev4, Nat.reduceLT, Nat.reduceLeDiff, Nat.reduceEqDiff, Nat.reduceAdd, Nat.reduceMul, Nat.reduceBEq, reduceCtorEq, ld24, alc74, fa24_0, ld3, fa24_1, bsl25, fa24_2, ld22, len22, ix22, ld29, alc29, sto29, alc80, sto80] <;> rfl) (Nat.le_of_ble_eq_true rfl) ?_
    refine WL_call' (f52_ok (List.length h + 1) j l H B.bld B.row B.ne (by omega)) rfl (.inl rfl) (by simp only [ev0, ev1, ev2, ev3, ev4, Nat.reduceLT, Nat.reduceLeDiff, Nat.reduceEqDiff, Nat.reduceAdd, Nat.reduceMul, Nat.reduceBEq, reduceCtorEq, ld24, alc74, fa24_0, ld3, fa24_1, bsl25, fa24_2, ld22, len22, ix22, ld29, alc29, sto29, alc80, sto80] <;> rfl) (by simp only [ev0, ev1, ev2, ev3, ev4, Nat.reduceLT, Nat.reduceLeDiff, Nat.reduceEqDiff, Nat.reduceAdd, Nat.reduceMul, Nat.reduceBEq, reduceCtorEq, ld24, alc74, fa24_0, ld3, fa24_1, bsl25, fa24_2, ld22, len22, ix22, ld29, alc29, sto29, alc80, sto80] <;> rfl) rfl ?_
    rintro _ _ ⟨⟨b, rfl⟩, rfl⟩
    refine WL_go (by simp only [ev0, ev1, ev2, ev3, ev4, Nat.reduceLT, Nat.reduceLeDiff, Nat.reduceEqDiff, Nat.reduceAdd, Nat.reduceMul, Nat.reduceBEq, reduceCtorEq, ld24, alc74, fa24_0, ld3, fa24_1, bsl25, fa24_2, ld22, len22, ix22, ld29, alc29, sto29, alc80, sto80] <;> rfl) (Nat.le_of_ble_eq_true rfl) ?_
    refine WL_endk (ks := [2, 3]) (by simp only [ev0, ev4, Nat.reduceEqDiff] <;> rfl) ?_
    with_reducible repeat (first | refine n1 ?_ | refine n2 ?_ | refine n3 ?_ | refine n4 ?_ | refine n5 ?_ | refine n6 ?_ | refine n7 rfl ?_ | refine W_seq ?_ | refine W_block ?_ | refine W_skip ?_ | refine W_exit ?_ | refine W_ret ?_)
    obtain ⟨gs, hgs⟩ := set_pre (o := .gone) B.pre B.ge
    refine Fin_pure gs _ (by first | exact .inl rfl | exact .inr rfl) rfl (by simp only [Tryd.results39, vres, vresL, vres1, one_, vload_eq, Option.map_some, ev0, ev3, ev4, Nat.reduceEqDiff, Nat.reduceAdd, Nat.reduceLeDiff] <;> rfl) hgs (by simp only [one_, rf_c, rf_any, rf_sl, rf_ptr, rf_fn, rf_agg, rf_tup, rf, List.map_cons, List.map_nil] <;> rfl) hk (by simp) ⟨rfl, _, rfl⟩
end Go.Vm
