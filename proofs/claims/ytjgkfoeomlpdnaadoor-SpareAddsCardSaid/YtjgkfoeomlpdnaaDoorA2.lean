/- A part of the proof: a calculus over values without addresses, and what the functions of the program compute in it. -/
import Derived.Test.YtjgkfoeomlpdnaaDoorA1
import Derived.Sort.Grow
import Derived.Deep.Draws
import Derived.Lib.AppendZeros
import Derived.Lib.AppendStr
/- The rules in the form in which the walks use them. -/
namespace Go.Vm
open Go Go.RowKit
variable {P : Program} {G : List (Nat × Obj)} {ro : Option Nat}

theorem WL_go {ops : Array Oper} {l : List Oper} {K : St → Prop} {s : St} {l' : List Oper} {s' : St} (hr : vrun (tdOf P) ops l s = (l', s')) (hm : s.m ≤ 1000000) (h : WL P G ro ops l' K s') : WL P G ro ops l K s :=
  WL_run l s hm (by rw [hr]; exact h)

theorem W_go {id : Nat} {ops : Array Oper} {Q : Exit → St → Prop} {s : St} {l' : List Oper} {s' : St} (hr : vrun (tdOf P) ops ops.toList s = (l', s')) (hm : s.m ≤ 1000000)
    (h : WL P G ro ops l' (Q .normal) s') : W P G ro (.region id ops false) Q s :=
  W_region (WL_go hr hm h)

theorem WL_end {ops : Array Oper} {K : St → Prop} {s : St} (h : K s) : WL P G ro ops [] K s := WL_nil h

theorem n1 {K : St → Prop} {Q : Exit → St → Prop} {s : St} (h : K s) : then_ K Q .normal s := h
theorem n2 {K : St → Prop} {Q : Exit → St → Prop} {s : St} (h : Q .ret s) : then_ K Q .ret s := h
theorem n3 {K : St → Prop} {Q : Exit → St → Prop} {s : St} {id : Nat} (h : Q (.exit id) s) : then_ K Q (.exit id) s := h
theorem n4 {id : Nat} {Q : Exit → St → Prop} {s : St} (h : Q .normal s) : inBlock_ id Q .normal s := h
theorem n5 {id : Nat} {Q : Exit → St → Prop} {s : St} (h : Q .ret s) : inBlock_ id Q .ret s := h
theorem n6 {id : Nat} {Q : Exit → St → Prop} {s : St} (h : Q .normal s) : inBlock_ id Q (.exit id) s := by simp only [inBlock_, if_true]; exact h
theorem n7 {id id' : Nat} {Q : Exit → St → Prop} {s : St} (hn : (id' == id) = false) (h : Q (.exit id') s) : inBlock_ id Q (.exit id') s := by
  have : id' ≠ id := by simpa using hn
  simp only [inBlock_, this, if_false]; exact h
theorem W_keep' {c : Code} {Q : Exit → St → Prop} {s s' : St} {ks : List Nat} (hk : s.keep ks = s') (h : W P G ro c Q s') : W P G ro c Q s := W_keep ks (by rw [hk]; exact h)

/-- A call, by its contract. -/
theorem WL_call' {ops : Array Oper} {o : Oper} {l : List Oper} {K : St → Prop} {s : St} {f : Operand} {args : Array Operand} {at_ : Array TypeId} {Q : Val → Hp → Prop} {fv : Val} {avs : List Val}
    (hc : VCall P G fv avs s.h Q) (ho : o.op = .call { callee := .value f, args := args, argTypes := at_ }) (hg : Wants ops s o)
    (hf : s.ev f = fv) (ha : args.toList.map s.ev = avs) (hd : s.d = []) (h : ∀ r h', Q r h' → WL P G ro ops l K { (s.put o.dst r) with h := h' }) : WL P G ro ops (o :: l) K s := by
  subst hf; subst ha
  refine WL_call ho hg (hc.mono fun r h' q => ⟨?_, h r h' q⟩)
  intro id hid
  rw [hd] at hid
  cases hid

/-- A call that leaves the heap. -/
theorem WL_pure {ops : Array Oper} {o : Oper} {l : List Oper} {K : St → Prop} {s s' : St} {f : Operand} {args : Array Operand} {at_ : Array TypeId} {fv r : Val} {avs : List Val}
    (hc : VCall P G fv avs s.h (fun r' h' => r' = r ∧ h' = s.h)) (ho : o.op = .call { callee := .value f, args := args, argTypes := at_ }) (hg : Wants ops s o)
    (hf : s.ev f = fv) (ha : args.toList.map s.ev = avs) (hd : s.d = []) (hs : s.put o.dst r = s') (h : WL P G ro ops l K s') : WL P G ro ops (o :: l) K s := by
  refine WL_call' hc ho hg hf ha hd ?_
  rintro r' h' ⟨rfl, rfl⟩
  have e : { (s.put o.dst r') with h := s.h } = s.put o.dst r' := by
    cases o.dst with
    | none => rfl
    | some d => simp only [St.put]; split <;> rfl
  rw [e, hs]; exact h

theorem Wants_none {ops : Array Oper} {s : St} {o : Oper} (h : o.guard = none) : Wants ops s o := .inl h


/-! ### What a value or a heap names -/
section
variable {D : Nat → Prop}
@[simp] theorem Ok_any : Ok D .any := .any
@[simp] theorem Ok_c (v : Value) : Ok D (.c v) := .c v
@[simp] theorem Ok_sl (sz : Nat) (xs : List (List Val)) : Ok D (.sl sz xs) ↔ ∀ x, x ∈ xs → ∀ d, d ∈ x → Ok D d := ⟨fun h => by cases h with | sl h => exact h, .sl⟩
@[simp] theorem Ok_agg (cs : List Val) : Ok D (.agg cs) ↔ ∀ d, d ∈ cs → Ok D d := ⟨fun h => by cases h with | agg h => exact h, .agg⟩
@[simp] theorem Ok_tup (cs : List Val) : Ok D (.tup cs) ↔ ∀ d, d ∈ cs → Ok D d := ⟨fun h => by cases h with | tup h => exact h, .tup⟩
@[simp] theorem Ok_fn (f : FuncId) (cs : List Val) : Ok D (.fn f cs) ↔ ∀ d, d ∈ cs → Ok D d := ⟨fun h => by cases h with | fn h => exact h, .fn⟩
@[simp] theorem Ok_ptr (id off : Nat) : Ok D (.ptr id off) ↔ D id := ⟨fun h => by cases h; assumption, .ptr⟩
@[simp] theorem Ok_os (id len : Nat) : Ok D (.os id len) ↔ D id := ⟨fun h => by cases h; assumption, .os⟩
end

def HOk (h : Hp) : Prop := ∀ i, i < List.length h → OkO (fun i => i < List.length h) (h.get i)

theorem get_append_l {h : Hp} (e : Hp) {i : Nat} (hi : i < List.length h) : Hp.get (h ++ e) i = h.get i := by
  unfold Hp.get; rw [List.getElem?_append_left hi]
theorem get_append_r {h : Hp} (e : Hp) (k : Nat) : Hp.get (h ++ e) (List.length h + k) = Hp.get e k := by
  unfold Hp.get; rw [List.getElem?_append_right (by omega)]; congr 2; omega
theorem get_append_0 {h : Hp} (e : Hp) : Hp.get (h ++ e) (List.length h) = Hp.get e 0 := get_append_r e 0
theorem set_append_r {h : Hp} (e : Hp) (k : Nat) (o : Ob) : List.set (h ++ e) (List.length h + k) o = h ++ List.set e k o := by
  rw [List.set_append_right _ _ (by omega)]; congr 2; omega
theorem set_append_0 {h : Hp} (e : Hp) (o : Ob) : List.set (h ++ e) (List.length h) o = h ++ List.set e 0 o := set_append_r e 0 o
theorem get_cons_0 (o : Ob) (e : List Ob) : Hp.get (o :: e) 0 = o := rfl
theorem get_cons_s (o : Ob) (e : List Ob) (k : Nat) : Hp.get (o :: e) (k + 1) = Hp.get e k := by unfold Hp.get; rfl

/-- The end of a function that leaves its caller's objects as they were. -/
theorem Fin_pure {T : Nat → Option TD} {fn : Func} {h : Hp} {Q : Val → Hp → Prop} {e : Exit} {s : St} {r0 : Val} (ext : List Ob) (r : Val) (he : e = .normal ∨ e = .ret) (hd : s.d = []) (hr : vres T s fn.results = some r0) (hh : s.h = h ++ ext)
    (hrf : rf (List.length h) (h ++ ext) r0 = r) (hwf : HOk h) (hok : Ok (fun i => i < List.length h) r) (hq : Q r h) : Fin T fn h Q e s := by
  have e : { s with h := s.h.gones s.d } = s := by cases s; simp only at hd; subst hd; rfl
  have e' : s.h.gones s.d = h ++ ext := by rw [hd]; exact hh
  refine ⟨he, by rw [hd]; simp, r0, h, ?_, Nat.le_refl _, by rw [hh]; simp, ?_, ?_, ?_⟩
  · rw [e]; exact hr
  · intro i hi
    rw [e', get_append_l ext hi]
    exact .inl ⟨rfl, hwf i hi⟩
  · rw [e', hrf]; exact hok
  · rw [e', hrf]; exact hq

theorem RelF.hok {V : View} {w : World} {h : Hp} (hr : RelF G V w h.D h.get) : HOk h := fun i hi => (hr.obj i hi).ok

theorem VCall_fn' {T : Nat → Option TD} (hT : TabOK P T) {f : FuncId} {fn : Func} {c : Code} {caps args : List Val} {h : Hp} {Q : Val → Hp → Prop} (hf : P.funcs[f]? = some fn) (hb : fn.body = some c) (hnm : (fn.name == "runtime.NumGoroutine") = false)
    (n : Nat) (hn : fn.ntmps = n) (hm : args.length + caps.length ≤ n) {t : List (Nat × Val)} (ht : ents 0 (args ++ caps) = t)
    (hw : HOk h → (∀ a, a ∈ args → Ok (fun i => i < List.length h) a) → (∀ a, a ∈ caps → Ok (fun i => i < List.length h) a) → W P G none c (Fin T fn h Q) ⟨n, t, h ++ [], []⟩) : VCall P G (.fn f caps) args h Q := by
  intro V w fx ax hr hfx hax
  refine VCall_fn hT hf hb hnm (by rw [hn]; exact hm) ?_ V w fx ax hr hfx hax
  have hw' := hw hr.hok ?_ ?_
  · rw [ht, hn]; rw [List.append_nil] at hw'; exact hw'
  · intro a ha
    obtain ⟨i, hi⟩ := List.getElem?_of_mem ha
    have hlt : i < ax.size := by rw [← hax.1]; exact (List.getElem?_eq_some_iff.1 hi).1
    exact (hax.2 i a _ hi (Array.getElem?_eq_getElem hlt)).ok
  · intro a ha
    have := hfx.ok
    rw [Ok_fn] at this
    exact this a ha


end Go.Vm
/- A region whose order of evaluation is drawn: it comes to what it comes to in the text's order. -/
namespace Go.Vm
open Go Go.RowKit
variable {P : Program} {G : List (Nat × Obj)} {ro : Option Nat}

/-! ### What is behind what -/
def binds1 (acc : List Nat) (s : Nat) (e : Edge) : Nat := if Region.binds .any e = true then s ||| (2 ^ e.on ||| acc.getD e.on 0) else s
def bin (acc : List Nat) (o : Oper) : Nat := o.after.toList.foldl (binds1 acc) 0
def befs : List Oper → List Nat → List Nat
  | [], acc => acc
  | o :: l, acc => befs l (acc ++ [bin acc o])

/-- Every edge of an operation that binds comes from a set. -/
def In (S : Nat → Bool) (o : Oper) : Prop := ∀ e, e ∈ o.after.toList → Region.binds .any e = true → S e.on = true

theorem bin_spec {S : Nat → Bool} {acc : List Nat} (ha : ∀ k, S k = true → ∀ j, (acc.getD k 0).testBit j = true → S j = true) {o : Oper} (ho : In S o) : ∀ j, (bin acc o).testBit j = true → S j = true := by
  have key : ∀ (l : List Edge), (∀ e, e ∈ l → Region.binds .any e = true → S e.on = true) → ∀ s, (∀ j, s.testBit j = true → S j = true) → ∀ j, (l.foldl (binds1 acc) s).testBit j = true → S j = true := by
    intro l
    induction l with
    | nil => intro _ s hs j hj; exact hs j hj
    | cons e l ih =>
      intro hl s hs j hj
      refine ih (fun e he => hl e (by simp [he])) (binds1 acc s e) ?_ j hj
      intro i hi
      unfold binds1 at hi
      split at hi
      · rename_i hb
        have hon := hl e (by simp) hb
        rw [Nat.testBit_or, Nat.testBit_or] at hi
        rcases Bool.or_eq_true_iff.1 hi with h | h
        · exact hs i h
        · rcases Bool.or_eq_true_iff.1 h with h | h
          · rw [Nat.testBit_two_pow] at h
            have : e.on = i := by simpa using h
            rw [← this]; exact hon
          · exact ha _ hon i h
      · exact hs i hi
  exact key o.after.toList ho 0 (by simp)

theorem befs_spec {S : Nat → Bool} : ∀ (l pre : List Oper) (acc : List Nat), acc.length = pre.length → (∀ (k : Nat) (o : Oper), (pre ++ l)[k]? = some o → S k = true → In S o) →
    (∀ (k : Nat) (o : Oper), pre[k]? = some o → In S o → ∀ j, (acc.getD k 0).testBit j = true → S j = true) →
    ∀ (k : Nat) (o : Oper), (pre ++ l)[k]? = some o → In S o → ∀ j, ((befs l acc).getD k 0).testBit j = true → S j = true
  | [], pre, acc, _, _, h => by simpa [befs] using h
  | x :: l, pre, acc, hl, hc, h => by
    have := befs_spec (S := S) l (pre ++ [x]) (acc ++ [bin acc x]) (by simp [hl]) (by simpa using hc) ?_
    · simpa [befs] using this
    · intro k o ho hi j hj
      rcases Nat.lt_trichotomy k pre.length with hk | hk | hk
      · rw [List.getElem?_append_left hk] at ho
        have : (acc ++ [bin acc x]).getD k 0 = acc.getD k 0 := by
          rw [List.getD_eq_getElem?_getD, List.getD_eq_getElem?_getD, List.getElem?_append_left (by omega)]
        rw [this] at hj
        exact h k o ho hi j hj
      · subst hk
        have e1 : (pre ++ [x])[pre.length]? = some x := by simp
        rw [e1] at ho; cases ho
        have : (acc ++ [bin acc x]).getD pre.length 0 = bin acc x := by
          rw [List.getD_eq_getElem?_getD, ← hl]; simp
        rw [this] at hj
        refine bin_spec ?_ hi j hj
        intro k hk j hj
        by_cases hkl : k < pre.length
        · have hx : pre[k]? = some pre[k] := List.getElem?_eq_getElem hkl
          exact h k _ hx (hc k _ (by rw [List.getElem?_append_left hkl]; exact hx) hk) j hj
        · rw [List.getD_eq_getElem?_getD, List.getElem?_eq_none (by omega)] at hj
          simp at hj
      · rw [List.getElem?_eq_none (by simp; omega)] at ho; cases ho

/-! ### What an operation touches -/
def heavy : Op → Bool
  | .alloc _ | .box .. | .store .. | .makeSlice .. => true
  | .slice .. => true
  | .call c => match c.callee with
    | .builtin .append => true
    | _ => false
  | _ => false
def loads : Op → Bool
  | .load .. => true
  | .call c => match c.callee with
    | .builtin .len => true
    | _ => false
  | _ => false
theorem loads_light {op : Op} (h : loads op = true) : heavy op = false := by
  cases op with
  | call c =>
    simp only [loads, heavy] at h ⊢
    generalize c.callee = k at h ⊢
    cases k with
    | builtin b => cases b <;> simp_all
    | _ => simp_all
  | load => rfl
  | _ => simp [loads] at h
def calls : Op → Bool
  | .call c => match c.callee with
    | .value _ => true
    | _ => false
  | _ => false

theorem light_act {T : Nat → Option TD} {op : Op} {ev : Operand → Val} {h : Hp} {fid : Option Nat} {ef : Ef} (hh : heavy op = false) (ha : vact T op ev h = some (fid, ef)) : ef.up = none ∧ ef.nw = none := by
  have hq : ∀ {r : Val}, q_ r = some (fid, ef) → ef.up = none ∧ ef.nw = none := fun h => by rw [(q_eq h).2]; exact ⟨rfl, rfl⟩
  have hn : ∀ {p : Prop}, (none : Act2) = some (fid, ef) → p := fun h => by cases h
  cases op <;> simp only [heavy, Bool.true_eq_false] at hh <;> simp only [vact] at ha
  case load t x =>
    unfold aLoad at ha
    repeat' split at ha
    all_goals first | exact hn ha | exact hq ha | (cases ha; exact ⟨rfl, rfl⟩)
  case call c =>
    unfold aCall aCallee at ha
    split at ha
    · unfold aBuiltin at ha
      split at ha
      · unfold aLenH at ha
        split at ha
        · repeat' split at ha
          all_goals first | exact hn ha | (cases ha; exact ⟨rfl, rfl⟩)
        · unfold aLen at ha
          repeat' split at ha
          all_goals first | exact hn ha | exact hq ha
      · unfold aMax at ha
        repeat' split at ha
        all_goals first | exact hn ha | exact hq ha
      · simp [*] at hh
      · exact hn ha
    · exact hn ha
  all_goals first
    | exact hq ha
    | exact hn ha
    | (simp only [aBin, aUn, aPick, aNil, aExtract, aField, aIndexAddr, aIndex, aFieldV, aConv, aBuild, aBuildSlice, aMakeFunc] at ha
       repeat' split at ha
       all_goals first | exact hn ha | exact hq ha)

theorem light_local {T : Nat → Option TD} {op : Op} {ev : Operand → Val} {h h' : Hp} {fid : Option Nat} {ef : Ef} (hh : heavy op = false) (ha : vact T op ev h = some (fid, ef)) (hf : loads op = true → ∀ id, fid = some id → h'.get id = h.get id) :
    vact T op ev h' = some (fid, ef) := by
  cases op <;> simp only [heavy, Bool.true_eq_false] at hh <;> simp only [vact] at ha ⊢
  case load t x =>
    have hf := hf rfl
    unfold aLoad at ha ⊢
    split at ha
    · split at ha
      · split at ha
        · cases ha; have hf := hf _ rfl
          simp [*]
        · cases ha
      · cases ha
    · exact ha
    · split at ha
      · split at ha
        · split at ha
          · split at ha
            · cases ha; have hf := hf _ rfl
              simp [*]
            · cases ha
          · cases ha
        · cases ha
      · cases ha
    · cases ha
  case call c =>
    unfold aCall aCallee at ha ⊢
    split at ha
    · rename_i hcal
      unfold aBuiltin at ha ⊢
      split at ha
      · have hf := hf (by simp only [loads, hcal])
        unfold aLenH at ha ⊢
        split at ha
        · split at ha
          · split at ha
            · cases ha; have hf := hf _ rfl
              simp [*]
            · cases ha
          · cases ha
        · exact ha
      · exact ha
      · simp [*] at hh
      · cases ha
    · exact ha
  all_goals first
    | exact ha

/-- What an operation of the text's run was. -/
inductive Rcd where
  | act (fid : Option Nat) (n : Nat)
  | skip
  | call

inductive TS (P : Program) (G : List (Nat × Obj)) (ops : Array Oper) (o : Oper) (s : St) : Rcd → St → Prop
  | act {fid : Option Nat} {ef : Ef} : vact (tdOf P) o.op s.ev s.h = some (fid, ef) → Wants ops s o → TS P G ops o s (.act fid (List.length s.h)) (s.app o.dst fid ef)
  | skip : Skips ops s o → TS P G ops o s .skip (s.put o.dst (.c undef))
  | call {f : Operand} {args : Array Operand} {at_ : Array TypeId} {r : Val} : o.op = .call { callee := .value f, args := args, argTypes := at_ } → Wants ops s o →
      VCall P G (s.ev f) (args.toList.map s.ev) s.h (fun r' h' => r' = r ∧ h' = s.h) → TS P G ops o s .call (s.put o.dst r)

inductive DR (P : Program) (G : List (Nat × Obj)) (ops : Array Oper) : List Oper → St → List Rcd → St → Prop
  | nil {s : St} : DR P G ops [] s [] s
  | cons {o : Oper} {l : List Oper} {s s1 s2 : St} {r : Rcd} {rs : List Rcd} : TS P G ops o s r s1 → DR P G ops l s1 rs s2 → DR P G ops (o :: l) s (r :: rs) s2

theorem DR.states {ops : Array Oper} {l : List Oper} {s s' : St} {rs : List Rcd} (h : DR P G ops l s rs s') : rs.length = l.length ∧ ∃ σ : Nat → St, σ 0 = s ∧ σ l.length = s' ∧
    ∀ (i : Nat) (o : Oper) (r : Rcd), l[i]? = some o → rs[i]? = some r → TS P G ops o (σ i) r (σ (i + 1)) := by
  induction h with
  | nil => exact ⟨rfl, fun _ => _, rfl, rfl, by simp⟩
  | @cons o l s s1 s2 r rs h1 _ ih =>
    obtain ⟨e, σ, e0, e1, hs⟩ := ih
    refine ⟨by simp [e], fun i => match i with | 0 => s | i + 1 => σ i, rfl, e1, ?_⟩
    intro i o' r' ho hr
    cases i with
    | zero => simp at ho hr; subst ho; subst hr; show TS P G ops o s r (σ 0); rw [e0]; exact h1
    | succ i => exact hs i o' r' (by simpa using ho) (by simpa using hr)

/-! ### The last one that has something -/
def lst (q : Nat → Bool) : Nat → Nat
  | 0 => 0
  | n + 1 => if q n = true then n + 1 else lst q n

theorem lst_le (q : Nat → Bool) : ∀ n, lst q n ≤ n
  | 0 => Nat.le_refl _
  | n + 1 => by unfold lst; split; exact Nat.le_refl _; exact Nat.le_succ_of_le (lst_le q n)
theorem lst_not (q : Nat → Bool) : ∀ n j, lst q n ≤ j → j < n → q j = false
  | 0, j, _, h => by omega
  | n + 1, j, h1, h2 => by
    unfold lst at h1
    split at h1
    · omega
    · rename_i hq
      by_cases e : j = n
      · subst e; simpa using hq
      · exact lst_not q n j h1 (by omega)
theorem lst_is (q : Nat → Bool) : ∀ n k, lst q n = k + 1 → q k = true ∧ k < n
  | 0, k, h => by simp [lst] at h
  | n + 1, k, h => by
    unfold lst at h
    split at h
    · cases h; exact ⟨‹_›, by omega⟩
    · exact ⟨(lst_is q n k h).1, by have := (lst_is q n k h).2; omega⟩
theorem lst_ge (q : Nat → Bool) (n k : Nat) (hk : k < n) (hq : q k = true) : k < lst q n := by
  rcases Nat.lt_or_ge k (lst q n) with h | h
  · exact h
  · have := lst_not q n k h hk; rw [hq] at this; cases this
theorem lst_congr {q q' : Nat → Bool} : ∀ n, (∀ j, j < n → q j = q' j) → lst q n = lst q' n
  | 0, _ => rfl
  | n + 1, h => by unfold lst; rw [h n (by omega), lst_congr n (fun j hj => h j (by omega))]

/-- What is the same from step to step. -/
theorem same_up {α : Type} {f : Nat → α} {a : Nat} : ∀ b, a ≤ b → (∀ j, a ≤ j → j < b → f (j + 1) = f j) → f b = f a
  | 0, h, _ => by rw [Nat.le_zero.1 h]
  | b + 1, h, hs => by
    rcases Nat.lt_or_ge b a with hb | hb
    · rw [show a = b + 1 by omega]
    · rw [hs b hb (by omega)]; exact same_up b hb (fun j h1 h2 => hs j h1 (by omega))

/-- Where all writers before i are in, and none behind. -/
theorem lst_exact {α : Type} {f : Nat → α} {S p : Nat → Bool} {n i : Nat} (hi : i ≤ n) (h1 : ∀ j, j < i → p j = true → S j = true) (h2 : ∀ j, i ≤ j → j < n → p j = true → S j = false) (hf : ∀ j, j < n → p j = false → f (j + 1) = f j) :
    f (lst (fun j => S j && p j) n) = f i ∧ lst (fun j => S j && p j) n ≤ i := by
  have hle : lst (fun j => S j && p j) n ≤ i := by
    rcases Nat.eq_zero_or_pos (lst (fun j => S j && p j) n) with h | h
    · omega
    · obtain ⟨k, hk⟩ : ∃ k, lst (fun j => S j && p j) n = k + 1 := ⟨_, (Nat.sub_add_cancel h).symm⟩
      obtain ⟨hq, hkn⟩ := lst_is _ _ _ hk
      rcases Nat.lt_or_ge k i with hki | hki
      · omega
      · have hp : S k = true ∧ p k = true := by simpa using hq
        have := h2 k hki hkn hp.2
        rw [hp.1] at this; cases this
  refine ⟨(same_up i hle fun j hj1 hj2 => hf j (by omega) ?_).symm, hle⟩
  have := lst_not _ n j hj1 (by omega)
  cases hp : p j with
  | false => rfl
  | true => simp [hp, h1 j hj2 hp] at this

/-! ### What is asked of a region -/
def tmpOf : Operand → Option Nat
  | .tmp t => some t
  | _ => none
def rdT (ops : Array Oper) (o : Oper) : List Nat := o.op.operands.toList.filterMap tmpOf ++ (match o.guard with | some (j, _) => [gdst ops j] | none => [])
def apartT (ops : Array Oper) (a b : Oper) : Bool :=
  (match a.dst with | some d => !(rdT ops b).contains d && (b.dst != some d) | none => true) && (match b.dst with | some d => !(rdT ops a).contains d | none => true)
def apartH (a b : Op) : Bool := !(heavy a && (heavy b || calls b)) && !(calls a && heavy b)
/-- Do two operations that lie in no order touch nothing of each other's? -/
def chk2 (ops : Array Oper) (bs : List Nat) (j : Nat) (a : Oper) : Nat → List Oper → Bool
  | _, [] => true
  | k, b :: l => ((bs.getD k 0).testBit j || (apartT ops a b && apartH a.op b.op)) && chk2 ops bs j a (k + 1) l
def chk1 (ops : Array Oper) (bs : List Nat) : Nat → List Oper → Bool
  | _, [] => true
  | j, a :: l => a.after.toList.all (fun e => !Region.binds .any e || decide (e.on < j)) && chk2 ops bs j a (j + 1) l && chk1 ops bs (j + 1) l
def chk (ops : Array Oper) : Bool := chk1 ops (befs ops.toList []) 0 ops.toList
/-- The pairs in no order of which one reads and one writes in the heap. -/
def dps2 (bs : List Nat) (j : Nat) (a : Oper) : Nat → List Oper → List (Nat × Nat)
  | _, [] => []
  | k, b :: l => if (bs.getD k 0).testBit j = false ∧ heavy a.op = true ∧ loads b.op = true then (k, j) :: dps2 bs j a (k + 1) l
    else if (bs.getD k 0).testBit j = false ∧ loads a.op = true ∧ heavy b.op = true then (j, k) :: dps2 bs j a (k + 1) l else dps2 bs j a (k + 1) l
def dps1 (bs : List Nat) : Nat → List Oper → List (Nat × Nat)
  | _, [] => []
  | j, a :: l => dps2 bs j a (j + 1) l ++ dps1 bs (j + 1) l
def dps (ops : Array Oper) : List (Nat × Nat) := dps1 (befs ops.toList []) 0 ops.toList
/-- What the first reads is nothing that the second one touches. -/
def idApart : Option Rcd → Option Rcd → Prop
  | some (.act (some a) _), some (.act fid n) => fid ≠ some a ∧ a ≠ n
  | _, _ => True
def idsApart (rs : List Rcd) : List (Nat × Nat) → Prop
  | [] => True
  | (j, k) :: l => idApart rs[j]? rs[k]? ∧ idsApart rs l

theorem chk2_spec {ops : Array Oper} {bs : List Nat} {j : Nat} {a : Oper} : ∀ {l : List Oper} {k : Nat}, chk2 ops bs j a k l = true → ∀ (i : Nat) (b : Oper), l[i]? = some b → (bs.getD (k + i) 0).testBit j = true ∨ (apartT ops a b = true ∧ apartH a.op b.op = true)
  | [], _, _, i, b, h => by simp at h
  | x :: l, k, hc, i, b, h => by
    simp only [chk2, Bool.and_eq_true, Bool.or_eq_true] at hc
    cases i with
    | zero => simp at h; subst h; exact hc.1
    | succ i => have := chk2_spec hc.2 i b (by simpa using h); rwa [show k + 1 + i = k + (i + 1) by omega] at this
theorem chk1_spec {ops : Array Oper} {bs : List Nat} : ∀ {l : List Oper} {j : Nat}, chk1 ops bs j l = true → (∀ (i : Nat) (a : Oper), l[i]? = some a → ∀ e, e ∈ a.after.toList → Region.binds .any e = true → e.on < j + i) ∧
    ∀ (i k : Nat) (a b : Oper), i < k → l[i]? = some a → l[k]? = some b → (bs.getD (j + k) 0).testBit (j + i) = true ∨ (apartT ops a b = true ∧ apartH a.op b.op = true)
  | [], _, _ => ⟨by simp, by simp⟩
  | x :: l, j, hc => by
    simp only [chk1, Bool.and_eq_true] at hc
    obtain ⟨⟨h1, h2⟩, h3⟩ := hc
    obtain ⟨g1, g2⟩ := chk1_spec h3
    constructor
    · intro i a ha e he hb
      cases i with
      | zero =>
        simp at ha; subst ha
        have := List.all_eq_true.1 h1 e he
        simp [hb] at this; omega
      | succ i => have := g1 i a (by simpa using ha) e he hb; omega
    · intro i k a b hik ha hb
      cases k with
      | zero => omega
      | succ k =>
        cases i with
        | zero =>
          simp at ha; subst ha
          have := chk2_spec h2 k b (by simpa using hb)
          rwa [show j + 1 + k = j + (k + 1) by omega] at this
        | succ i =>
          have := g2 i k a b (by omega) (by simpa using ha) (by simpa using hb)
          rwa [show j + 1 + k = j + (k + 1) by omega, show j + 1 + i = j + (i + 1) by omega] at this

theorem dps2_spec {bs : List Nat} {j : Nat} {a : Oper} {rs : List Rcd} : ∀ {l : List Oper} {k : Nat}, idsApart rs (dps2 bs j a k l) → ∀ (i : Nat) (b : Oper), l[i]? = some b → (bs.getD (k + i) 0).testBit j = false →
    (heavy a.op = true → loads b.op = true → idApart rs[k + i]? rs[j]?) ∧ (loads a.op = true → heavy b.op = true → idApart rs[j]? rs[k + i]?)
  | [], _, _, i, b, h, _ => by simp at h
  | x :: l, k, hc, i, b, h, hb => by
    have excl : ∀ op : Op, heavy op = true → loads op = true → False := by intro op h1 h2; rw [loads_light h2] at h1; cases h1
    cases i with
    | zero =>
      simp at h; subst h
      refine ⟨fun h1 h2 => ?_, fun h1 h2 => ?_⟩
      · unfold dps2 at hc; rw [if_pos ⟨hb, h1, h2⟩] at hc; exact hc.1
      · unfold dps2 at hc
        rw [if_neg (fun ⟨_, k1, _⟩ => excl _ k1 h1), if_pos ⟨hb, h1, h2⟩] at hc; exact hc.1
    | succ i =>
      have hc' : idsApart rs (dps2 bs j a (k + 1) l) := by
        unfold dps2 at hc
        split at hc
        · exact hc.2
        · split at hc
          · exact hc.2
          · exact hc
      have := dps2_spec hc' i b (by simpa using h) (by rw [show k + 1 + i = k + (i + 1) by omega]; exact hb)
      rwa [show k + 1 + i = k + (i + 1) by omega] at this
theorem idsApart_append {rs : List Rcd} : ∀ {a b : List (Nat × Nat)}, idsApart rs (a ++ b) → idsApart rs a ∧ idsApart rs b
  | [], b, h => ⟨trivial, h⟩
  | (j, k) :: a, b, h => ⟨⟨h.1, (idsApart_append h.2).1⟩, (idsApart_append h.2).2⟩
theorem dps1_spec {bs : List Nat} {rs : List Rcd} : ∀ {l : List Oper} {j : Nat}, idsApart rs (dps1 bs j l) → ∀ (i k : Nat) (a b : Oper), i < k → l[i]? = some a → l[k]? = some b → (bs.getD (j + k) 0).testBit (j + i) = false →
    (heavy a.op = true → loads b.op = true → idApart rs[j + k]? rs[j + i]?) ∧ (loads a.op = true → heavy b.op = true → idApart rs[j + i]? rs[j + k]?)
  | [], _, _, i, k, a, b, _, h, _, _ => by simp at h
  | x :: l, j, hc, i, k, a, b, hik, ha, hb, ht => by
    obtain ⟨h1, h2⟩ := idsApart_append hc
    cases k with
    | zero => omega
    | succ k =>
      cases i with
      | zero =>
        simp at ha; subst ha
        have := dps2_spec h1 k b (by simpa using hb) (by rw [show j + 1 + k = j + (k + 1) by omega]; exact ht)
        rwa [show j + 1 + k = j + (k + 1) by omega] at this
      | succ i =>
        have := dps1_spec h2 i k a b (by omega) (by simpa using ha) (by simpa using hb) (by rw [show j + 1 + k = j + (k + 1) by omega, show j + 1 + i = j + (i + 1) by omega]; exact ht)
        rwa [show j + 1 + k = j + (k + 1) by omega, show j + 1 + i = j + (i + 1) by omega] at this
end Go.Vm
/- A region whose order is drawn. -/
namespace Go.Vm
open Go Go.RowKit
variable {P : Program} {G : List (Nat × Obj)} {ro : Option Nat}

theorem get_put (s : St) (dst : Option Tmp) (r : Val) (t : Nat) : (s.put dst r).get t = if dst = some t ∧ t < s.m then r else s.get t := by
  cases dst with
  | none => simp [St.put]
  | some d =>
    simp only [St.put]
    by_cases h : d < s.m
    · simp only [h, if_true, St.get, lk]
      by_cases e : t = d
      · subst e; simp [h]
      · simp [e, Ne.symm e]
    · simp only [h, if_false]
      by_cases e : d = t
      · subst e; simp [h]
      · simp [e]
theorem h_put (s : St) (dst : Option Tmp) (r : Val) : (s.put dst r).h = s.h := by
  cases dst with
  | none => rfl
  | some d => simp only [St.put]; split <;> rfl
theorem d_put (s : St) (dst : Option Tmp) (r : Val) : (s.put dst r).d = s.d := by
  cases dst with
  | none => rfl
  | some d => simp only [St.put]; split <;> rfl
theorem get_app (s : St) (dst : Option Tmp) (fid : Option Nat) (ef : Ef) (t : Nat) : (s.app dst fid ef).get t = (s.put dst ef.r).get t := rfl
theorem h_app (s : St) (dst : Option Tmp) (fid : Option Nat) (ef : Ef) : (s.app dst fid ef).h = s.h.app fid ef := rfl
theorem d_app (s : St) (dst : Option Tmp) (fid : Option Nat) (ef : Ef) : (s.app dst fid ef).d = s.d := d_put _ _ _

theorem app_light (h : Hp) (fid : Option Nat) {ef : Ef} (h1 : ef.up = none) (h2 : ef.nw = none) : h.app fid ef = h := by
  unfold Hp.app; rw [h1, h2]; cases fid <;> rfl

section
variable {ops : Array Oper} {o : Oper} {s s' : St} {r : Rcd}

theorem TS.m (h : TS P G ops o s r s') : s'.m = s.m := by cases h; exact m_app _ _ _ _; exact m_put _ _ _; exact m_put _ _ _
theorem TS.d (h : TS P G ops o s r s') : s'.d = s.d := by cases h; exact d_app _ _ _ _; exact d_put _ _ _; exact d_put _ _ _
theorem TS.get (h : TS P G ops o s r s') {t : Nat} (ht : o.dst ≠ some t) : s'.get t = s.get t := by
  cases h
  · rw [get_app, get_put, if_neg (fun h => ht h.1)]
  · rw [get_put, if_neg (fun h => ht h.1)]
  · rw [get_put, if_neg (fun h => ht h.1)]
theorem TS.get_ge (h : TS P G ops o s r s') {t : Nat} (ht : s.m ≤ t) : s'.get t = s.get t := by
  cases h
  · rw [get_app, get_put, if_neg (fun h => Nat.not_lt.2 ht h.2)]
  · rw [get_put, if_neg (fun h => Nat.not_lt.2 ht h.2)]
  · rw [get_put, if_neg (fun h => Nat.not_lt.2 ht h.2)]
theorem TS.light (h : TS P G ops o s r s') (hh : heavy o.op = false) : s'.h = s.h := by
  cases h with
  | act ha _ => rw [h_app]; exact app_light _ _ (light_act hh ha).1 (light_act hh ha).2
  | skip _ => exact h_put _ _ _
  | call _ _ _ => exact h_put _ _ _
theorem app_far {h : Hp} {fid : Option Nat} {ef : Ef} (hf : ∀ id, fid = some id → id < List.length h) {id : Nat} (h1 : fid ≠ some id) (h2 : id ≠ List.length h) : (h.app fid ef).get id = h.get id := by
  rw [Hp.get_app h hf]
  unfold Ef.updH
  split
  · rw [if_neg h2, if_neg h1]
  · rw [if_neg h1]
theorem TS.far (h : TS P G ops o s r s') {id : Nat} (hi : ∀ fid n, r = .act fid n → fid ≠ some id ∧ id ≠ n) : s'.h.get id = s.h.get id := by
  cases h with
  | act ha _ =>
    obtain ⟨h1, h2⟩ := hi _ _ rfl
    obtain ⟨ob, _, hf⟩ := vact_ok (G := G) ha
    rw [h_app]; exact app_far (fun id e => Hp.get_lt (by rw [(hf id e).1]; exact (hf id e).2.1)) h1 h2
  | skip _ => rw [h_put]
  | call _ _ _ => rw [h_put]
theorem TS.mark (h : TS P G ops o s r s') {id : Nat} (hd : s.h.get id = .dfr) : s'.h.get id = .dfr := by
  cases h with
  | act ha _ =>
    obtain ⟨ob, _, hf⟩ := vact_ok (G := G) ha
    rw [h_app, app_far (fun id e => Hp.get_lt (by rw [(hf id e).1]; exact (hf id e).2.1))]
    · exact hd
    · intro e; exact (hf id e).2.2 ((hf id e).1.symm.trans hd)
    · have : id < List.length s.h := Hp.get_lt (by rw [hd]; rfl)
      omega
  | skip _ => rw [h_put]; exact hd
  | call _ _ _ => rw [h_put]; exact hd
end

/-- What a region's text's run is, and what was asked of it. -/
structure Run (P : Program) (G : List (Nat × Obj)) (ops : Array Oper) (rs : List Rcd) (σ : Nat → St) : Prop where
  len : rs.length = ops.size
  ts : ∀ (i : Nat) (o : Oper) (r : Rcd), ops[i]? = some o → rs[i]? = some r → TS P G ops o (σ i) r (σ (i + 1))
  ed : ∀ (i : Nat) (a : Oper), ops[i]? = some a → ∀ e, e ∈ a.after.toList → Region.binds .any e = true → e.on < i
  ap : ∀ (i k : Nat) (a b : Oper), i < k → ops[i]? = some a → ops[k]? = some b → ((befs ops.toList []).getD k 0).testBit i = true ∨ (apartT ops a b = true ∧ apartH a.op b.op = true)
  ids : ∀ (i k : Nat) (a b : Oper), i < k → ops[i]? = some a → ops[k]? = some b → ((befs ops.toList []).getD k 0).testBit i = false →
    (heavy a.op = true → loads b.op = true → idApart rs[k]? rs[i]?) ∧ (loads a.op = true → heavy b.op = true → idApart rs[i]? rs[k]?)

def pw (ops : Array Oper) (t j : Nat) : Bool := match ops[j]? with | some o => o.dst == some t | none => false
def ph (ops : Array Oper) (j : Nat) : Bool := match ops[j]? with | some o => heavy o.op | none => false

variable {ops : Array Oper} {rs : List Rcd} {σ : Nat → St}

theorem Run.step (R : Run P G ops rs σ) {i : Nat} (hi : i < ops.size) : ∃ r, rs[i]? = some r ∧ TS P G ops ops[i] (σ i) r (σ (i + 1)) := by
  have h2 : i < rs.length := by rw [R.len]; exact hi
  exact ⟨rs[i], List.getElem?_eq_getElem h2, R.ts i _ _ (Array.getElem?_eq_getElem hi) (List.getElem?_eq_getElem h2)⟩

theorem Run.get (R : Run P G ops rs σ) {t j : Nat} (hj : j < ops.size) (hp : pw ops t j = false) : (σ (j + 1)).get t = (σ j).get t := by
  obtain ⟨r, _, h⟩ := R.step hj
  refine h.get ?_
  simp only [pw, Array.getElem?_eq_getElem hj] at hp
  simpa using hp
theorem Run.hp (R : Run P G ops rs σ) {j : Nat} (hj : j < ops.size) (hp : ph ops j = false) : (σ (j + 1)).h = (σ j).h := by
  obtain ⟨r, _, h⟩ := R.step hj
  refine h.light ?_
  simpa only [ph, Array.getElem?_eq_getElem hj] using hp
theorem Run.m (R : Run P G ops rs σ) : ∀ i, i ≤ ops.size → (σ i).m = (σ 0).m
  | 0, _ => rfl
  | i + 1, hi => by obtain ⟨r, _, h⟩ := R.step (i := i) (by omega); rw [h.m]; exact R.m i (by omega)
theorem Run.d (R : Run P G ops rs σ) : ∀ i, i ≤ ops.size → (σ i).d = (σ 0).d
  | 0, _ => rfl
  | i + 1, hi => by obtain ⟨r, _, h⟩ := R.step (i := i) (by omega); rw [h.d]; exact R.d i (by omega)
theorem Run.dl (R : Run P G ops rs σ) {id : Nat} (h0 : (σ 0).h.get id = .dfr) : ∀ i, i ≤ ops.size → (σ i).h.get id = .dfr
  | 0, _ => h0
  | i + 1, hi => by obtain ⟨r, _, h⟩ := R.step (i := i) (by omega); exact h.mark (R.dl h0 i (by omega))

/-- What is closed under the edges. -/
def Closed (ops : Array Oper) (S : Nat → Bool) : Prop := ∀ (k : Nat) (o : Oper), ops[k]? = some o → S k = true → In S o
theorem Run.bef {S : Nat → Bool} (hc : Closed ops S) {k : Nat} {o : Oper} (ho : ops[k]? = some o) (hi : In S o) {j : Nat} (hb : ((befs ops.toList []).getD k 0).testBit j = true) : S j = true :=
  befs_spec (S := S) ops.toList [] [] rfl (by intro k o ho hk; exact hc k o (by simpa using ho) hk) (by simp) k o (by simpa using ho) hi j hb

/-- An operation that is ready, and another one that is not apart from it. -/
theorem Run.ord (R : Run P G ops rs σ) {S : Nat → Bool} (hc : Closed ops S) {i j : Nat} {o x : Oper} (ho : ops[i]? = some o) (hi : In S o) (hn : S i = false) (hx : ops[j]? = some x)
    (hap : ¬ (apartT ops x o = true ∧ apartH x.op o.op = true) ∨ i < j) (hap2 : ¬ (apartT ops o x = true ∧ apartH o.op x.op = true) ∨ j < i) : (j < i → S j = true) ∧ (i < j → S j = false) := by
  constructor
  · intro hlt
    rcases R.ap j i x o hlt hx ho with h | h
    · exact Run.bef hc ho hi h
    · exact absurd h (hap.resolve_right (by omega))
  · intro hlt
    rcases R.ap i j o x hlt ho hx with h | h
    · cases hj : S j with
      | false => rfl
      | true =>
        have := Run.bef hc hx (hc j x hx hj) h
        rw [hn] at this; cases this
    · exact absurd h (hap2.resolve_right (by omega))

/-- The temporary that an operation reads or writes. -/
theorem Run.tmp (R : Run P G ops rs σ) {S : Nat → Bool} (hc : Closed ops S) {i : Nat} {o : Oper} (ho : ops[i]? = some o) (hi : In S o) (hn : S i = false) {t : Nat} (ht : t ∈ rdT ops o ∨ o.dst = some t) {j : Nat} (hp : pw ops t j = true) :
    (j < i → S j = true) ∧ (i < j → S j = false) := by
  unfold pw at hp
  split at hp
  · rename_i x hx
    have hd : x.dst = some t := by simpa using hp
    refine R.ord hc ho hi hn hx (.inl ?_) (.inl ?_)
    · rintro ⟨h, _⟩
      simp only [apartT, hd, Bool.and_eq_true] at h
      rcases ht with ht | ht
      · have := h.1.1
        simp [ht] at this
      · have := h.1.2
        simp [ht] at this
    · rintro ⟨h, _⟩
      simp only [apartT, hd, Bool.and_eq_true] at h
      rcases ht with ht | ht
      · have := h.2
        simp [ht] at this
      · have := h.1
        simp [ht] at this
  · cases hp

def Tm (σ : Nat → St) (ops : Array Oper) (S : Nat → Bool) (t : Nat) : Val := (σ (lst (fun j => S j && pw ops t j) ops.size)).get t
def hS (σ : Nat → St) (ops : Array Oper) (S : Nat → Bool) : Hp := (σ (lst (fun j => S j && ph ops j) ops.size)).h

theorem Run.tm (R : Run P G ops rs σ) {S : Nat → Bool} (hc : Closed ops S) {i : Nat} {o : Oper} (ho : ops[i]? = some o) (hi : In S o) (hn : S i = false) {t : Nat} (ht : t ∈ rdT ops o ∨ o.dst = some t) : Tm σ ops S t = (σ i).get t := by
  have hlt : i < ops.size := (Array.getElem?_eq_some_iff.1 ho).1
  refine (lst_exact (f := fun k => (σ k).get t) (Nat.le_of_lt hlt) (fun j hj hp => (R.tmp hc ho hi hn ht hp).1 hj) ?_ (fun j hj hp => R.get hj hp)).1
  intro j hj hjn hp
  rcases Nat.lt_or_ge i j with h | h
  · exact (R.tmp hc ho hi hn ht hp).2 h
  · rw [show j = i by omega]; exact hn

def add_ (S : Nat → Bool) (i : Nat) : Nat → Bool := fun j => S j || (j == i)

theorem Run.tm_add (R : Run P G ops rs σ) {S : Nat → Bool} (hc : Closed ops S) {i : Nat} {o : Oper} (ho : ops[i]? = some o) (hi : In S o) (hn : S i = false) (t : Nat) :
    Tm σ ops (add_ S i) t = if o.dst = some t then (σ (i + 1)).get t else Tm σ ops S t := by
  have hlt : i < ops.size := (Array.getElem?_eq_some_iff.1 ho).1
  split
  · rename_i hd
    refine (lst_exact (f := fun k => (σ k).get t) (S := add_ S i) (p := pw ops t) hlt ?_ ?_ (fun j hj hp => R.get hj hp)).1
    · intro j hj hp
      rcases Nat.lt_or_ge j i with h | h
      · simp [add_, (R.tmp hc ho hi hn (.inr hd) hp).1 h]
      · simp [add_, show j = i by omega]
    · intro j hj hjn hp
      have hne : j ≠ i := by omega
      simp [add_, (R.tmp hc ho hi hn (.inr hd) hp).2 (by omega), hne]
  · rename_i hd
    unfold Tm
    rw [lst_congr]
    intro j hj
    by_cases e : j = i
    · subst e
      have : pw ops t j = false := by simp [pw, ho, hd]
      simp [this]
    · have e' : (j == i) = false := by simpa using e
      simp [add_, e']

/-- The heap at an operation that is heavy, or that calls. -/
theorem Run.heap (R : Run P G ops rs σ) {S : Nat → Bool} (hc : Closed ops S) {i : Nat} {o : Oper} (ho : ops[i]? = some o) (hi : In S o) (hn : S i = false) (hh : heavy o.op = true ∨ calls o.op = true) {j : Nat} (hp : ph ops j = true) :
    (j < i → S j = true) ∧ (i < j → S j = false) := by
  unfold ph at hp
  split at hp
  · rename_i x hx
    refine R.ord hc ho hi hn hx (.inl ?_) (.inl ?_)
    · rintro ⟨_, h⟩
      rcases hh with hh | hh <;> simp [apartH, hp, hh] at h
    · rintro ⟨_, h⟩
      rcases hh with hh | hh <;> simp [apartH, hp, hh] at h
  · cases hp

theorem Run.hS (R : Run P G ops rs σ) {S : Nat → Bool} (hc : Closed ops S) {i : Nat} {o : Oper} (ho : ops[i]? = some o) (hi : In S o) (hn : S i = false) (hh : heavy o.op = true ∨ calls o.op = true) : hS σ ops S = (σ i).h := by
  have hlt : i < ops.size := (Array.getElem?_eq_some_iff.1 ho).1
  refine (lst_exact (f := fun k => (σ k).h) (Nat.le_of_lt hlt) (fun j hj hp => (R.heap hc ho hi hn hh hp).1 hj) ?_ (fun j hj hp => R.hp hj hp)).1
  intro j hj hjn hp
  rcases Nat.lt_or_ge i j with h | h
  · exact (R.heap hc ho hi hn hh hp).2 h
  · rw [show j = i by omega]; exact hn

theorem Run.hS_add (R : Run P G ops rs σ) {S : Nat → Bool} (hc : Closed ops S) {i : Nat} {o : Oper} (ho : ops[i]? = some o) (hi : In S o) (hn : S i = false) :
    Vm.hS σ ops (add_ S i) = if heavy o.op = true then (σ (i + 1)).h else Vm.hS σ ops S := by
  have hlt : i < ops.size := (Array.getElem?_eq_some_iff.1 ho).1
  split
  · rename_i hd
    refine (lst_exact (f := fun k => (σ k).h) (S := add_ S i) (p := ph ops) hlt ?_ ?_ (fun j hj hp => R.hp hj hp)).1
    · intro j hj hp
      rcases Nat.lt_or_ge j i with h | h
      · simp [add_, (R.heap hc ho hi hn (.inl hd) hp).1 h]
      · simp [add_, show j = i by omega]
    · intro j hj hjn hp
      have hne : j ≠ i := by omega
      simp [add_, (R.heap hc ho hi hn (.inl hd) hp).2 (by omega), hne]
  · rename_i hd
    unfold Vm.hS
    rw [lst_congr]
    intro j hj
    by_cases e : j = i
    · subst e
      have : ph ops j = false := by simp [ph, ho]; simpa using hd
      simp [this]
    · have e' : (j == i) = false := by simpa using e
      simp [add_, e']

/-- The object that a load reads. -/
theorem Run.obj (R : Run P G ops rs σ) {S : Nat → Bool} (hc : Closed ops S) {i : Nat} {o : Oper} (ho : ops[i]? = some o) (hi : In S o) (hn : S i = false) (hl : loads o.op = true) {id n : Nat} (hr : rs[i]? = some (.act (some id) n)) :
    (Vm.hS σ ops S).get id = (σ i).h.get id := by
  have hlt : i < ops.size := (Array.getElem?_eq_some_iff.1 ho).1
  have hlight : ph ops i = false := by
    simp only [ph, ho]
    exact loads_light hl
  have far : ∀ j (hj : j < ops.size), (ph ops j = true → (j < i → S j = false) ∧ (i < j → S j = true)) → (σ (j + 1)).h.get id = (σ j).h.get id := by
    intro j hj hS
    cases hp : ph ops j with
    | false => rw [R.hp hj hp]
    | true =>
      obtain ⟨r, hrj, hts⟩ := R.step hj
      refine hts.far ?_
      rintro fid n' rfl
      have hx : ops[j]? = some ops[j] := Array.getElem?_eq_getElem hj
      have hh : heavy ops[j].op = true := by simpa [ph, hx] using hp
      obtain ⟨h1, h2⟩ := hS hp
      rcases Nat.lt_trichotomy j i with h | h | h
      · have hb : ((befs ops.toList []).getD i 0).testBit j = false := by
          cases hb : ((befs ops.toList []).getD i 0).testBit j with
          | false => rfl
          | true => have := Run.bef hc ho hi hb; rw [h1 h] at this; cases this
        have := (R.ids j i _ _ h hx ho hb).1 hh hl
        rw [hr, hrj] at this
        exact this
      · subst h; rw [hlight] at hp; cases hp
      · have hb : ((befs ops.toList []).getD j 0).testBit i = false := by
          cases hb : ((befs ops.toList []).getD j 0).testBit i with
          | false => rfl
          | true => have := Run.bef hc hx (hc j _ hx (h2 h)) hb; rw [hn] at this; cases this
        have := (R.ids i j _ _ h ho hx hb).2 hl hh
        rw [hr, hrj] at this
        exact this
  unfold Vm.hS
  rcases Nat.le_total (lst (fun j => S j && ph ops j) ops.size) i with h | h
  · refine (same_up (f := fun k => (σ k).h.get id) i h fun j h1 h2 => far j (by omega) fun hp => ⟨fun _ => ?_, fun h => by omega⟩).symm
    have := lst_not _ _ j h1 (by omega)
    simpa [hp] using this
  · refine same_up (f := fun k => (σ k).h.get id) _ h fun j h1 h2 => far j (by have := lst_le (fun j => S j && ph ops j) ops.size; omega) fun hp => ⟨fun h => by omega, fun hij => ?_⟩
    have hjn : j < ops.size := by have := lst_le (fun j => S j && ph ops j) ops.size; omega
    obtain ⟨k, hk⟩ : ∃ k, lst (fun j => S j && ph ops j) ops.size = k + 1 := ⟨_, (Nat.sub_add_cancel (show 1 ≤ lst (fun j => S j && ph ops j) ops.size by omega)).symm⟩
    obtain ⟨hq, hkn⟩ := lst_is _ _ _ hk
    have hq' : S k = true ∧ ph ops k = true := by simpa using hq
    by_cases e : j = k
    · rw [e]; exact hq'.1
    · have hxk : ops[k]? = some ops[k] := Array.getElem?_eq_getElem hkn
      have hxj : ops[j]? = some ops[j] := Array.getElem?_eq_getElem hjn
      have hhk : heavy ops[k].op = true := by simpa [ph, hxk] using hq'.2
      have hhj : heavy ops[j].op = true := by simpa [ph, hxj] using hp
      rcases R.ap j k _ _ (by omega) hxj hxk with h | h
      · exact Run.bef hc hxk (hc k _ hxk hq'.1) h
      · have := h.2
        simp [apartH, hhk, hhj] at this

/-- What holds when a set of the operations has run. -/
structure DInv (G : List (Nat × Obj)) (ops : Array Oper) (σ : Nat → St) (S : Nat → Bool) (V : View) (a : Act) (w : World) : Prop where
  sz : a.tmps.size = (σ 0).m
  tm : ∀ t, RV V (hS σ ops S).D w (Tm σ ops S t) (a.tmps.getD t undef)
  hp : RelF G V w (hS σ ops S).D (hS σ ops S).get
  df : a.defers = (σ 0).d.map (mark V)

theorem DInv.ev (R : Run P G ops rs σ) {S : Nat → Bool} (hc : Closed ops S) {i : Nat} {o : Oper} (ho : ops[i]? = some o) (hi : In S o) (hn : S i = false) {V : View} {a : Act} {w : World} (I : DInv G ops σ S V a w) :
    ∀ x, x ∈ o.op.operands → RV V (hS σ ops S).D w ((σ i).ev x) (a.eval x) := by
  intro x hx
  cases x with
  | tmp t =>
    have : t ∈ rdT ops o := by
      unfold rdT
      exact List.mem_append_left _ (List.mem_filterMap.2 ⟨.tmp t, by simpa using hx, rfl⟩)
    show RV V _ w ((σ i).get t) (a.tmps.getD t undef)
    rw [← R.tm hc ho hi hn (.inl this)]
    exact I.tm t
  | const v => exact .c v
  | global g => exact .any _
  | func f => exact .fn rfl (by intro i d v h1; simp at h1)

theorem DInv.grd (R : Run P G ops rs σ) {S : Nat → Bool} (hc : Closed ops S) {i : Nat} {o : Oper} (ho : ops[i]? = some o) (hi : In S o) (hn : S i = false) {V : View} {a : Act} {w : World} (I : DInv G ops σ S V a w) {j : Nat} {b : Bool} {d : Nat}
    (hg : o.guard = some (j, b)) (h1 : (ops[j]?).bind (·.dst) = some d) {v : Value} (h2 : (σ i).get d = .c v) : a.tmps.getD d undef = v := by
  have hd : d ∈ rdT ops o := by
    unfold rdT
    rw [hg]
    refine List.mem_append_right _ ?_
    simp [gdst, h1]
  have h := I.tm d
  rw [R.tm hc ho hi hn (.inl hd), h2] at h
  exact h.c_inv

theorem DInv.wants (R : Run P G ops rs σ) {S : Nat → Bool} (hc : Closed ops S) {i : Nat} {o : Oper} (ho : ops[i]? = some o) (hi : In S o) (hn : S i = false) {V : View} {a : Act} {w : World} (I : DInv G ops σ S V a w) {j : Nat} {b b' : Bool} {d : Nat}
    (hg : o.guard = some (j, b)) (h1 : (ops[j]?).bind (·.dst) = some d) (h2 : (σ i).get d = .c (.bool b')) : yielded ops a.tmps j = some b' := by
  have hcv := I.grd R hc ho hi hn hg h1 h2
  rw [Array.getD_eq_getD_getElem?] at hcv
  unfold yielded
  rw [h1]
  cases hq : a.tmps[d]? with
  | none => rw [hq] at hcv; simp [undef] at hcv
  | some v => rw [hq] at hcv; simp at hcv; subst hcv; simp [hq]

/-- One more has run. -/
theorem DInv.next (R : Run P G ops rs σ) {S : Nat → Bool} (hc : Closed ops S) {i : Nat} {o : Oper} (ho : ops[i]? = some o) (hi : In S o) (hn : S i = false) {V V' : View} {a : Act} {w w' : World} (I : DInv G ops σ S V a w) (hdl : ∀ id, id ∈ (σ 0).d → (σ 0).h.get id = .dfr)
    {x : Value} (hp : RelF G V' w' (hS σ ops (add_ S i)).D (hS σ ops (add_ S i)).get) (hs : Step V w (hS σ ops S).D (hS σ ops S).get V' w' (hS σ ops (add_ S i)).get) (hD : ∀ j, (hS σ ops S).D j → (hS σ ops (add_ S i)).D j)
    (hx : ∀ d, o.dst = some d → d < (σ 0).m → RV V' (hS σ ops (add_ S i)).D w' ((σ (i + 1)).get d) x) : DInv G ops σ (add_ S i) V' (a.put o.dst x) w' := by
  have hlt : i < ops.size := (Array.getElem?_eq_some_iff.1 ho).1
  have hold : ∀ t, RV V' (hS σ ops (add_ S i)).D w' (Tm σ ops S t) (a.tmps.getD t undef) := fun t => (I.tm t).step hs I.hp hD
  have hmark : (σ 0).d.map (mark V') = (σ 0).d.map (mark V) := by
    refine List.map_congr_left fun id hid => ?_
    have h1 : (hS σ ops S).get id = .dfr := R.dl (hdl id hid) _ (lst_le _ _)
    have : (hS σ ops S).D id := I.hp.dom (by rw [h1]; rfl)
    simp [mark, hs.at_ id this]
  refine ⟨?_, ?_, hp, ?_⟩
  · cases o.dst with
    | none => exact I.sz
    | some d => show (a.tmps.setIfInBounds d x).size = _; rw [Array.size_setIfInBounds]; exact I.sz
  · intro t
    rw [R.tm_add hc ho hi hn t]
    split
    · rename_i hd
      show RV _ _ _ _ ((a.put o.dst x).tmps.getD t undef)
      rw [hd]
      show RV _ _ _ _ ((a.tmps.setIfInBounds t x).getD t undef)
      by_cases hlt' : t < (σ 0).m
      · have : t < a.tmps.size := by rw [I.sz]; exact hlt'
        simp only [Array.getD_eq_getD_getElem?, Array.getElem?_setIfInBounds_self_of_lt this, Option.getD_some]
        exact hx t hd hlt'
      · rw [Array.setIfInBounds_eq_of_size_le (by rw [I.sz]; omega)]
        have h1 := hold t
        rw [R.tm hc ho hi hn (.inr hd)] at h1
        have : (σ (i + 1)).get t = (σ i).get t := by
          obtain ⟨r, _, h⟩ := R.step hlt
          exact h.get_ge (by rw [R.m i (by omega)]; omega)
        rw [this]; exact h1
    · rename_i hd
      have : (a.put o.dst x).tmps.getD t undef = a.tmps.getD t undef := by
        cases hod : o.dst with
        | none => rfl
        | some d =>
          have : d ≠ t := by rintro rfl; exact hd hod
          show (a.tmps.setIfInBounds d x).getD t undef = _
          rw [Array.getD_eq_getD_getElem?, Array.getD_eq_getD_getElem?, Array.getElem?_setIfInBounds_ne this]
      rw [this]; exact hold t
  · show (a.put o.dst x).defers = _
    rw [hmark]
    cases o.dst <;> exact I.df

theorem add_self (S : Nat → Bool) (i : Nat) : add_ S i i = true := by simp [add_]

theorem draw_step (R : Run P G ops rs σ) (hdl : ∀ id, id ∈ (σ 0).d → (σ 0).h.get id = .dfr) {S : Nat → Bool} (hc : Closed ops S) {i : Nat} {o : Oper} (ho : ops[i]? = some o) (hi : In S o) (hn : S i = false) {V : View} {a : Act} {w : World} (I : DInv G ops σ S V a w)
    {n : Nat} {Q : Exit → Act → World → Prop} {K : Act → World → Prop}
    (hK : ∀ V' a' w', DInv G ops σ (add_ S i) V' a' w' → Step V w (hS σ ops S).D (hS σ ops S).get V' w' (hS σ ops (add_ S i)).get → (∀ j, (hS σ ops S).D j → (hS σ ops (add_ S i)).D j) → K a' w') : wpOpIn (fence ro) n P ops Q i K a w := by
  have hlt : i < ops.size := (Array.getElem?_eq_some_iff.1 ho).1
  obtain ⟨r, hr, hts⟩ := R.step hlt
  have he : ops[i] = o := by rw [Array.getElem?_eq_getElem hlt] at ho; exact Option.some.inj ho
  rw [he] at hts
  have hev := I.ev R hc ho hi hn
  have hadd := R.hS_add hc ho hi hn
  have hwants : Wants ops (σ i) o → Region.wanted o (yielded ops a.tmps) = true := by
    rintro (h | ⟨j, b, d, h1, h2, h3⟩)
    · simp [Region.wanted, h]
    · simp [Region.wanted, h1, I.wants R hc ho hi hn h1 h2 h3]
  unfold wpOpIn
  simp only [ho]
  generalize hs1 : σ (i + 1) = s1 at hts hadd
  cases hts with
  | @act fid ef ha hg =>
    rw [if_pos (hwants hg)]
    have hheavy : heavy o.op = true → hS σ ops S = (σ i).h := fun h => R.hS hc ho hi hn (.inl h)
    have ha' : vact (tdOf P) o.op (σ i).ev (hS σ ops S) = some (fid, ef) := by
      cases hh : heavy o.op with
      | true => rw [hheavy hh]; exact ha
      | false => exact light_local hh ha fun hl id hid => by subst hid; exact R.obj hc ho hi hn hl hr
    obtain ⟨ob, hd, hf⟩ := vact_ok (G := G) ha'
    have hnext : hS σ ops (add_ S i) = (hS σ ops S).app fid ef := by
      rw [hadd]
      split
      · rename_i hh; rw [hheavy hh]; exact h_app _ _ _ _
      · rename_i hh
        have hh : heavy o.op = false := by simpa using hh
        exact (app_light _ _ (light_act hh ha).1 (light_act hh ha).2).symm
    obtain ⟨x, w', V', hrun, k1, k2, k3⟩ := hd V (hS σ ops S).D w (hS σ ops S).get a.eval I.hp hev (fun id e => (hf id e).1) (by simp [Hp.D])
    have hfl : ∀ id, fid = some id → id < (hS σ ops S).length := fun id e => Hp.get_lt (by rw [(hf id e).1]; exact (hf id e).2.1)
    rw [← Hp.get_app (hS σ ops S) hfl, ← hnext] at k1 k2
    rw [← Hp.D_app, ← hnext] at k1 k3
    have hD : ∀ j, (hS σ ops S).D j → (hS σ ops (add_ S i)).D j := by rw [hnext, Hp.D_app]; exact fun j h => .inl h
    have hI := I.next R hc ho hi hn hdl k1 k2 hD (x := x) (by
      intro d hd hdm
      rw [hs1, get_app, get_put, if_pos ⟨hd, by rw [R.m i (Nat.le_of_lt hlt)]; exact hdm⟩]; exact k3)
    refine ⟨fun _ _ => trivial, ?_⟩
    rw [Oper.semAt_eq _ _ _ (not_defer ha)]
    rcases hrun with hrun | ⟨hrun, rfl⟩
    · rw [hrun]; exact hK V' _ w' hI k2 hD
    · rw [hrun]; exact hK V' _ w' hI k2 hD
  | skip hg =>
    obtain ⟨j, b, h1, h2⟩ := hg
    have hw : Region.wanted o (yielded ops a.tmps) = false := by
      have := not_yielded (tmps := a.tmps) (b := b) (ops := ops) (j := j) (fun d hd => by
        obtain ⟨v, h3, h4⟩ := h2 d hd
        exact ⟨v, I.grd R hc ho hi hn h1 hd h3, h4⟩)
      simp only [Region.wanted, h1]
      simpa using this
    rw [if_neg (by rw [hw]; simp)]
    refine ⟨fun _ _ => trivial, ?_⟩
    have hnext : hS σ ops (add_ S i) = hS σ ops S := by
      rw [hadd]
      split
      · rename_i hh; rw [h_put]; exact (R.hS hc ho hi hn (.inl hh)).symm
      · rfl
    refine hK V _ w (I.next R hc ho hi hn hdl (by rw [hnext]; exact I.hp) (by rw [hnext]; exact Step.refl _ _ _ _) (by rw [hnext]; exact fun _ h => h) ?_) (by rw [hnext]; exact Step.refl _ _ _ _) (by rw [hnext]; exact fun _ h => h)
    intro d hd hdm
    rw [hs1, get_put, if_pos ⟨hd, by rw [R.m i (Nat.le_of_lt hlt)]; exact hdm⟩]; exact .c _
  | @call f args at_ r hop hg hcall =>
    rw [if_pos (hwants hg)]
    have hcl : calls o.op = true := by rw [hop]; rfl
    have hheap : hS σ ops S = (σ i).h := R.hS hc ho hi hn (.inr hcl)
    have hnext : hS σ ops (add_ S i) = hS σ ops S := by
      rw [hadd, if_neg (by rw [hop]; simp [heavy])]
    have hargs : RVs V (σ i).h.D w (args.toList.map (σ i).ev) (args.map a.eval) := by
      refine ⟨by simp, ?_⟩
      intro k d v h1 h2
      simp only [List.getElem?_map, Array.getElem?_map, Option.map_eq_some_iff] at h1 h2
      obtain ⟨x, hx, rfl⟩ := h1
      obtain ⟨y, hy, rfl⟩ := h2
      have : x = y := by
        have hx2 : args[k]? = some x := by simpa using hx
        rw [hx2] at hy; exact Option.some.inj hy
      subst this
      rw [← hheap]
      refine hev x ?_
      rw [hop]
      have : x ∈ args := by
        have hx2 : args[k]? = some x := by simpa using hx
        exact Array.mem_of_getElem? hx2
      simp [Op.operands, Call.operands, this]
    have hfv : RV V (σ i).h.D w ((σ i).ev f) (a.eval f) := by
      rw [← hheap]; refine hev f ?_; rw [hop]; simp [Op.operands, Call.operands]
    have hp0 := I.hp
    rw [hheap] at hp0
    have hfin : ∀ v w', (∃ V' r' h', RelF G V' w' (Hp.D h') (Hp.get h') ∧ Step V w (σ i).h.D (σ i).h.get V' w' (Hp.get h') ∧ (∀ i_1, (σ i).h.D i_1 → Hp.D h' i_1) ∧ RV V' (Hp.D h') w' r' v ∧ r' = r ∧ h' = (σ i).h) → K (a.put o.dst v) w' := by
      rintro v w' ⟨V', r', h', k1, k2, k3, k4, rfl, rfl⟩
      rw [← hheap] at k1 k2 k4
      refine hK V' _ w' (I.next R hc ho hi hn hdl (by rw [hnext]; exact k1) (by rw [hnext]; exact k2) (by rw [hnext]; exact fun _ h => h) ?_) (by rw [hnext]; exact k2) (by rw [hnext]; exact fun _ h => h)
      intro d hd hdm
      rw [hs1, get_put, if_pos ⟨hd, by rw [R.m i (Nat.le_of_lt hlt)]; exact hdm⟩, hnext]; exact k4
    refine ⟨fun _ _ => trivial, ?_⟩
    rw [Oper.semAt_eq _ _ _ (by rw [hop]; simp)]
    rcases hcall V w (a.eval f) (args.map a.eval) hp0 hfv hargs with ⟨g, caps, h1, h2, h3⟩ | ⟨lp, fn, tmps, assign, body, h1, h2, h3⟩
    · have hrun : (execOp a.eval o).run P w = .ok (.enter g (args.map a.eval ++ caps)) w := by
        simp [execOp, hop, resolve, h1, Deferred.ofValue, invoke, h2]
      rw [hrun]
      refine ⟨by simp, (callsIn_any (h3)).mono ?_⟩
      rintro e w' ⟨v, rfl, hq⟩
      exact hfin v w' hq
    · have hrun : (execOp a.eval o).run P w = .ok (.round lp fn tmps assign body) w := by
        simp [execOp, hop, resolve, h1, Deferred.ofValue, invoke, h2]
      rw [hrun]
      refine ⟨by simp, (roundIn_any h3).mono ?_⟩
      rintro e w' ⟨v, rfl, hq⟩
      exact hfin v w' hq
end Go.Vm
/- A region whose order is drawn: the whole. -/
namespace Go.Vm
open Go Go.RowKit
variable {P : Program} {G : List (Nat × Obj)} {ro : Option Nat} {ops : Array Oper} {rs : List Rcd} {σ : Nat → St}

def setOf (listed : Array Bool) : Nat → Bool := fun j => listed.getD j false

theorem setOf_set {listed : Array Bool} {i : Nat} (hi : i < listed.size) : setOf (listed.setIfInBounds i true) = add_ (setOf listed) i := by
  funext j
  show (listed.setIfInBounds i true).getD j false = (listed.getD j false || (j == i))
  rw [Array.getD_eq_getD_getElem?, Array.getD_eq_getD_getElem?]
  by_cases e : j = i
  · subst e; rw [Array.getElem?_setIfInBounds_self_of_lt hi]; simp
  · rw [Array.getElem?_setIfInBounds_ne (Ne.symm e)]
    have : (j == i) = false := by simpa using e
    simp [this]

def left_ (listed : Array Bool) : Nat := (listed.toList.filter (fun b => !b)).length

theorem filter_set : ∀ (l : List Bool) (i : Nat), l[i]? = some false → ((l.set i true).filter (fun b => !b)).length + 1 = (l.filter (fun b => !b)).length
  | [], i, h => by simp at h
  | b :: l, 0, h => by simp at h; subst h; simp
  | b :: l, i + 1, h => by
    have := filter_set l i (by simpa using h)
    cases b <;> simp [List.filter_cons] <;> omega

theorem left_set {listed : Array Bool} {i : Nat} (hi : i < listed.size) (h : setOf listed i = false) : left_ (listed.setIfInBounds i true) + 1 = left_ listed := by
  unfold left_
  rw [Array.toList_setIfInBounds]
  refine filter_set _ _ ?_
  unfold setOf at h
  rw [Array.getD_eq_getD_getElem?, Array.getElem?_eq_getElem hi] at h
  rw [Array.getElem?_toList, Array.getElem?_eq_getElem hi]
  simpa using h

theorem ready_iff {listed : Array Bool} (hl : listed.size = ops.size) {i : Nat} : i ∈ Region.ready .any ops listed ↔ ∃ o, ops[i]? = some o ∧ setOf listed i = false ∧ In (setOf listed) o := by
  unfold Region.ready
  rw [List.mem_filter, List.mem_range]
  constructor
  · rintro ⟨hi, h⟩
    rw [Array.getElem?_eq_getElem hi] at h
    simp only [Bool.and_eq_true, Option.map_some, Option.getD_some] at h
    refine ⟨ops[i], Array.getElem?_eq_getElem hi, ?_, ?_⟩
    · have := h.1
      unfold setOf
      rw [Array.getD_eq_getD_getElem?, Array.getElem?_eq_getElem (by omega)] at this ⊢
      simpa using this
    · intro e he hb
      have h2 := h.2
      rw [Array.all_eq_true'] at h2
      have := h2 e (by simpa using he)
      simpa [hb, setOf] using this
  · rintro ⟨o, ho, h1, h2⟩
    have hi := (Array.getElem?_eq_some_iff.1 ho).1
    refine ⟨hi, ?_⟩
    rw [ho]
    simp only [Bool.and_eq_true, Option.map_some, Option.getD_some]
    constructor
    · unfold setOf at h1
      rw [Array.getD_eq_getD_getElem?, Array.getElem?_eq_getElem (by omega)] at h1 ⊢
      simpa using h1
    · rw [Array.all_eq_true']
      intro e he
      cases hb : Region.binds .any e with
      | false => rfl
      | true => have := h2 e (by simpa using he) hb; simpa [setOf] using this

theorem none_ready (R : Run P G ops rs σ) {listed : Array Bool} (hl : listed.size = ops.size) (hr : Region.ready .any ops listed = []) : ∀ i, i < ops.size → setOf listed i = true := by
  intro i
  induction i using Nat.strongRecOn with
  | _ i ih =>
    intro hi
    cases h : setOf listed i with
    | true => rfl
    | false =>
      have : i ∈ Region.ready .any ops listed := (ready_iff hl).2 ⟨ops[i], Array.getElem?_eq_getElem hi, h, fun e he hb => by
        have := R.ed i _ (Array.getElem?_eq_getElem hi) e he hb
        exact ih e.on this (by omega)⟩
      rw [hr] at this; cases this

theorem lst_all {α : Type} {f : Nat → α} {S p : Nat → Bool} {n : Nat} (hS : ∀ i, i < n → S i = true) (hf : ∀ j, j < n → p j = false → f (j + 1) = f j) : f (lst (fun j => S j && p j) n) = f n :=
  (lst_exact (Nat.le_refl n) (fun j hj _ => hS j hj) (fun j h1 h2 => by omega) hf).1

theorem draw_go (R : Run P G ops rs σ) (hdl : ∀ id, id ∈ (σ 0).d → (σ 0).h.get id = .dfr) {n : Nat} {V0 : View} {w0 : World} {Q : Exit → St → Prop} (hQ : Q .normal (σ ops.size)) : ∀ (fuel : Nat) (listed : Array Bool), listed.size = ops.size → left_ listed ≤ fuel → Closed ops (setOf listed) →
    ∀ (V : View) (a : Act) (w : World), DInv G ops σ (setOf listed) V a w → Step V0 w0 (σ 0).h.D (σ 0).h.get V w (hS σ ops (setOf listed)).get → (∀ j, (σ 0).h.D j → (hS σ ops (setOf listed)).D j) →
    wpAnyIn (fence ro) n P .any ops (Post G V0 w0 (σ 0) Q) fuel listed a w := by
  intro fuel
  have done : ∀ (listed : Array Bool), listed.size = ops.size → ∀ (V : View) (a : Act) (w : World), DInv G ops σ (setOf listed) V a w → Step V0 w0 (σ 0).h.D (σ 0).h.get V w (hS σ ops (setOf listed)).get → (∀ j, (σ 0).h.D j → (hS σ ops (setOf listed)).D j) →
      Region.ready .any ops listed = [] → Post G V0 w0 (σ 0) Q .normal a w := by
    intro listed hl V a w I hs hD hr
    have hall := none_ready R hl hr
    have e1 : hS σ ops (setOf listed) = (σ ops.size).h := lst_all (f := fun k => (σ k).h) hall (fun j hj hp => R.hp hj hp)
    have e2 : ∀ t, Tm σ ops (setOf listed) t = (σ ops.size).get t := fun t => lst_all (f := fun k => (σ k).get t) hall (fun j hj hp => R.get hj hp)
    rw [e1] at hs hD
    have hp := I.hp
    rw [e1] at hp
    refine ⟨V, σ ops.size, ⟨?_, ?_, hp, ?_, ?_⟩, hs, hD, hQ⟩
    · rw [I.sz, R.m _ (Nat.le_refl _)]
    · intro t; have := I.tm t; rw [e1, e2] at this; exact this
    · rw [I.df, R.d _ (Nat.le_refl _)]
    · intro id hid
      rw [R.d _ (Nat.le_refl _)] at hid
      exact R.dl (hdl id hid) _ (Nat.le_refl _)
  induction fuel with
  | zero =>
    intro listed hl hf hc V a w I hs hD
    have hr : Region.ready .any ops listed = [] := by
      cases hr : Region.ready .any ops listed with
      | nil => rfl
      | cons i l =>
        have : i ∈ Region.ready .any ops listed := by rw [hr]; simp
        obtain ⟨o, ho, h1, _⟩ := (ready_iff hl).1 this
        have hi := (Array.getElem?_eq_some_iff.1 ho).1
        have := left_set (by omega : i < listed.size) h1
        omega
    exact ⟨hr, done listed hl V a w I hs hD hr⟩
  | succ fuel ih =>
    intro listed hl hf hc V a w I hs hD
    refine ⟨done listed hl V a w I hs hD, ?_⟩
    intro i hi
    obtain ⟨o, ho, h1, h2⟩ := (ready_iff hl).1 hi
    have hlt := (Array.getElem?_eq_some_iff.1 ho).1
    refine draw_step R hdl hc ho h2 h1 I ?_
    intro V' a' w' I' hs' hD'
    rw [← setOf_set (by omega)] at I' hs' hD'
    refine ih (listed.setIfInBounds i true) (by rw [Array.size_setIfInBounds]; exact hl) (by have := left_set (by omega : i < listed.size) h1; omega) ?_ V' a' w' I' (hs.trans hs' hD) (fun j hj => hD' j (hD j hj))
    rw [setOf_set (by omega)]
    intro k x hx hk e he hb
    have hk' : setOf listed k = true ∨ k = i := by simpa [add_] using hk
    have : setOf listed e.on = true := by
      rcases hk' with hk' | rfl
      · exact hc k x hx hk' e he hb
      · rw [ho] at hx; cases hx; exact h2 e he hb
    simp [add_, this]

theorem drew {V : View} {s : St} {a : Act} {w : World} (hr : Rel G V s a w) : Rel G V s a { w with drawn := w.drawn + 1 } ∧ StepS V w s V { w with drawn := w.drawn + 1 } s := by
  have hs : Step V w s.h.D s.h.get V { w with drawn := w.drawn + 1 } s.h.get :=
    ⟨fun _ _ => rfl, fun _ _ => rfl, fun _ h => h, fun _ h _ => .inl h, Nat.le_refl _, rfl, rfl, rfl, fun _ _ _ => rfl, fun i b h1 h2 _ => ⟨i, h1, h2⟩⟩
  have hp : RelF G V { w with drawn := w.drawn + 1 } s.h.D s.h.get :=
    ⟨fun id hid => RO.mono (w := w) (w' := { w with drawn := w.drawn + 1 }) (fun _ h => h) (fun _ _ => rfl) (fun _ _ => rfl) (fun _ h => h) (fun _ _ => rfl) hid (hr.hp.obj id hid) (fun _ _ _ => rfl), hr.hp.dead, hr.hp.inj, hr.hp.apart, hr.hp.lt, hr.hp.shlt, hr.hp.gl⟩
  exact ⟨⟨hr.sz, fun i => (hr.tm i).step hs hr.hp (fun _ h => h), hp, hr.df, hr.dl⟩, hs⟩

theorem W_draw {id : Nat} {Q : Exit → St → Prop} {s s' : St} (hm : P.follows .mixedOrders = true) (hd : DR P G ops ops.toList s rs s') (hc : chk ops = true) (hi : idsApart rs (dps ops)) (hQ : Q .normal s') : W P G ro (.region id ops true) Q s := by
  obtain ⟨hlen, σ, h0, h1, hts⟩ := hd.states
  rw [Array.length_toList] at hlen h1
  have R : Run P G ops rs σ := by
    obtain ⟨c1, c2⟩ := chk1_spec hc
    refine ⟨hlen, fun i o r ho hr => hts i o r (by simpa using ho) hr, fun i a ha e he hb => ?_, fun i k a b hik ha hb => ?_, fun i k a b hik ha hb ht => ?_⟩
    · have := c1 i a (by simpa using ha) e he hb; omega
    · have := c2 i k a b hik (by simpa using ha) (by simpa using hb); rwa [Nat.zero_add, Nat.zero_add] at this
    · have := dps1_spec hi i k a b hik (by simpa using ha) (by simpa using hb) (by rw [Nat.zero_add, Nat.zero_add]; exact ht)
      rwa [Nat.zero_add, Nat.zero_add] at this
  subst h0; subst h1
  intro V a w hr n
  obtain ⟨hr', hs'⟩ := drew hr
  refine wpIn_region_any hm ?_
  have hset : setOf (Array.replicate ops.size false) = fun _ => false := by
    funext j; unfold setOf
    rw [Array.getD_eq_getD_getElem?, Array.getElem?_replicate]; split <;> rfl
  have hz : ∀ p : Nat → Bool, lst (fun j => false && p j) ops.size = 0 := by
    intro p
    cases h : lst (fun j => false && p j) ops.size with
    | zero => rfl
    | succ k => have := (lst_is _ _ _ h).1; simp at this
  have e1 : hS σ ops (setOf (Array.replicate ops.size false)) = (σ 0).h := by rw [hset]; unfold hS; rw [hz]
  refine draw_go R hr.dl hQ ops.size _ (by simp) ?_ ?_ V a _ ⟨hr'.sz, ?_, ?_, hr'.df⟩ ?_ ?_
  · unfold left_; exact Nat.le_trans (List.length_filter_le _ _) (by simp)
  · rw [hset]; intro k o _ h; cases h
  · intro t
    have : Tm σ ops (setOf (Array.replicate ops.size false)) t = (σ 0).get t := by rw [hset]; unfold Tm; rw [hz]
    rw [e1, this]; exact hr'.tm t
  · rw [e1]; exact hr'.hp
  · rw [e1]; exact hs'
  · rw [e1]; exact fun _ h => h
end Go.Vm
/- Loops by their states; runs of drawn regions. -/
namespace Go.Vm
open Go Go.RowKit
variable {P : Program} {G : List (Nat × Obj)} {ro : Option Nat} {ops : Array Oper}

theorem W_loopS {c : Code} {Q : Exit → St → Prop} {s : St} {α : Type} (S : α → St) (p : α → Prop) (m : α → Nat) (a0 : α) (hp : p a0) (h0 : s = S a0)
    (round : ∀ a, p a → W P G ro c (then_ (fun s2 => ∃ a', s2 = S a' ∧ p a' ∧ m a' < m a) Q) (S a)) : W P G ro (.loop c) Q s := by
  subst h0
  let I : St → Nat → Prop := fun s n => ∃ a, s = S a ∧ p a ∧ m a = n
  let μ : St → Nat := fun s => open Classical in if h : ∃ n, I s n then Classical.choose (least_of h) else 0
  have hμ : ∀ s n, I s n → I s (μ s) ∧ μ s ≤ n := by
    intro s n hn
    have h : ∃ n, I s n := ⟨n, hn⟩
    have e : μ s = Classical.choose (least_of h) := dif_pos h
    have := Classical.choose_spec (least_of h)
    rw [e]
    exact ⟨this.1, this.2 n hn⟩
  refine W_loop (fun s => ∃ n, I s n) μ ⟨m a0, a0, rfl, hp, rfl⟩ ?_
  rintro s1 ⟨n, hn⟩
  obtain ⟨⟨a, rfl, hpa, hm⟩, _⟩ := hμ s1 n hn
  refine W.mono (round a hpa) ?_
  rintro e s2 q
  cases e with
  | normal =>
    obtain ⟨a', rfl, hpa', hlt⟩ := q
    have := (hμ (S a') (m a') ⟨a', rfl, hpa', rfl⟩).2
    exact ⟨⟨m a', a', rfl, hpa', rfl⟩, by omega⟩
  | exit id => exact q
  | goto l => exact q
  | ret => exact q
  | panic ch => exact q
  | outgrown => exact q

/-- The run of a drawn region, in the text's order. -/
def drun (T : Nat → Option TD) (ops : Array Oper) : List Oper → St → List Oper × List Rcd × St
  | [], s => ([], [], s)
  | o :: l, s =>
    match o.guard with
    | none => match vact T o.op s.ev s.h with
      | some (fid, ef) => match drun T ops l (s.app o.dst fid ef) with
        | (l', rs, s') => (l', .act fid (List.length s.h) :: rs, s')
      | none => (o :: l, [], s)
    | some (j, b) => match gv b (s.get (gdst ops j)), gdst ops j == 1000000 with
      | some true, false => match vact T o.op s.ev s.h with
          | some (fid, ef) => match drun T ops l (s.app o.dst fid ef) with
            | (l', rs, s') => (l', .act fid (List.length s.h) :: rs, s')
          | none => (o :: l, [], s)
      | some false, _ => match drun T ops l (s.put o.dst (.c undef)) with
          | (l', rs, s') => (l', .skip :: rs, s')
      | _, _ => (o :: l, [], s)

theorem DR_go : ∀ {l : List Oper} {s s1 s' : St} {l' : List Oper} {rs rs' : List Rcd}, drun (tdOf P) ops l s = (l', rs, s1) → DR P G ops l' s1 rs' s' → DR P G ops l s (rs ++ rs') s'
  | [], s, s1, s', l', rs, rs', h, hd => by
    simp only [drun, Prod.mk.injEq] at h
    obtain ⟨rfl, rfl, rfl⟩ := h
    exact hd
  | o :: l, s, s1, s', l', rs, rs', h, hd => by
    simp only [drun] at h
    split at h
    · rename_i hg
      split at h
      · rename_i fid ef ha
        generalize hq : drun (tdOf P) ops l (s.app o.dst fid ef) = q at h
        obtain ⟨l2, rs2, s2⟩ := q
        simp only [Prod.mk.injEq] at h
        obtain ⟨rfl, rfl, rfl⟩ := h
        exact .cons (.act ha (.inl hg)) (DR_go hq hd)
      · simp only [Prod.mk.injEq] at h
        obtain ⟨rfl, rfl, rfl⟩ := h
        exact hd
    · rename_i j b hg
      split at h
      · rename_i hgv hj
        have hd1 := gdst_some (j := j) (ops := ops) (by simpa using hj)
        split at h
        · rename_i fid ef ha
          generalize hq : drun (tdOf P) ops l (s.app o.dst fid ef) = q at h
          obtain ⟨l2, rs2, s2⟩ := q
          simp only [Prod.mk.injEq] at h
          obtain ⟨rfl, rfl, rfl⟩ := h
          exact .cons (.act ha (.inr ⟨j, b, _, hg, hd1, gv_true hgv⟩)) (DR_go hq hd)
        · simp only [Prod.mk.injEq] at h
          obtain ⟨rfl, rfl, rfl⟩ := h
          exact hd
      · rename_i hgv
        generalize hq : drun (tdOf P) ops l (s.put o.dst (.c undef)) = q at h
        obtain ⟨l2, rs2, s2⟩ := q
        simp only [Prod.mk.injEq] at h
        obtain ⟨rfl, rfl, rfl⟩ := h
        exact .cons (.skip ⟨j, b, hg, fun d hd => by rw [← gdst_of hd]; exact gv_false hgv⟩) (DR_go hq hd)
      · simp only [Prod.mk.injEq] at h
        obtain ⟨rfl, rfl, rfl⟩ := h
        exact hd

theorem DR_end {l : List Oper} {s s1 : St} {rs : List Rcd} (h : drun (tdOf P) ops l s = ([], rs, s1)) : DR P G ops l s rs s1 := by
  have := DR_go (G := G) (rs' := []) (s' := s1) h .nil
  rwa [List.append_nil] at this

theorem Wants_at {s : St} {o : Oper} {j d : Nat} {b : Bool} (hg : o.guard = some (j, b)) (hj : (ops[j]?).bind (·.dst) = some d) (hb : s.get d = .c (.bool b)) : Wants ops s o := .inr ⟨j, b, d, hg, hj, hb⟩

theorem DR_pure {o : Oper} {l : List Oper} {s s1 s' : St} {rs : List Rcd} {f : Operand} {args : Array Operand} {at_ : Array TypeId} {fv r : Val} {avs : List Val}
    (hc : VCall P G fv avs s.h (fun r' h' => r' = r ∧ h' = s.h)) (ho : o.op = .call { callee := .value f, args := args, argTypes := at_ }) (hg : Wants ops s o)
    (hf : s.ev f = fv) (ha : args.toList.map s.ev = avs) (hs : s.put o.dst r = s1) (h : DR P G ops l s1 rs s') : DR P G ops (o :: l) s (.call :: rs) s' := by
  subst hf; subst ha; subst hs
  exact .cons (.call ho hg hc) h
end Go.Vm
/- The reckoning in forms that are quick to simplify: each type's numbers given. -/
namespace Go.Vm
open Go Go.RowKit

def vl (row : Bool) (size : Nat) (cs : List Val) (o : Nat) : Option Val := if row = true then (if o + size ≤ cs.length then some (.agg ((cs.drop o).take size)) else none) else cs[o]?
theorem vload_eq (d : TD) : vload d = vl d.row d.size := rfl

def fa (off : Nat) (x : Val) : Act2 := match paddr x off with | some r => q_ r | none => none
theorem aField_eq {d df : TD} {f off t : Nat} (h : d.off f = some (off, t)) (hs : (df.size == 0) = false) : aField (some d) (some df) f = fa off := by
  have hs : df.size ≠ 0 := by simpa using hs
  funext x; simp only [aField, h, if_neg hs, fa]; generalize paddr x off = o; cases o <;> rfl
theorem fa_ptr (o id k : Nat) : fa o (.ptr id k) = q_ (.ptr id (k + o)) := rfl
theorem fa_ep (o id sz i j : Nat) : fa o (.ep id sz i j) = q_ (.ep id sz i (j + o)) := rfl
theorem fa_rp (o : Nat) (cs : List Val) : fa o (.rp cs) = if o ≤ cs.length then q_ (.rp (cs.drop o)) else none := by
  simp only [fa, paddr]; by_cases h : o ≤ cs.length <;> simp [h]

def fvl (off : Nat) (row : Bool) (size : Nat) : Val → Act2
  | .agg cs => match vl row size cs off with
    | some r => q_ r
    | none => none
  | _ => none
theorem aFieldV_eq {d df : TD} {f off t : Nat} (h : d.off f = some (off, t)) : aFieldV (some d) (some df) f = fvl off df.row df.size := by
  funext x; cases x <;> simp only [aFieldV, h, fvl, vload_eq]
  generalize vl _ _ _ _ = o; cases o <;> rfl

def ld (row : Bool) (size : Nat) (h : Hp) : Val → Act2
  | .ptr id off => match h.get id with
    | .blk cs => match vl row size cs off with
      | some r => some (some id, ⟨r, none, none⟩)
      | none => none
    | _ => none
  | .rp cs => match vl row size cs 0 with
    | some r => q_ r
    | none => none
  | .ep id sz i j => match h.get id with
    | .arr _ sz' xs => if sz = sz' then match xs[i]? with
        | some el => match vl row size el j with
          | some r => some (some id, ⟨r, none, none⟩)
          | none => none
        | none => none
      else none
    | _ => none
  | _ => none
theorem aLoad_eq (d : TD) : aLoad (some d) = ld d.row d.size := by
  funext h x
  cases x <;> simp only [aLoad, ld, vload_eq]
  · generalize h.get _ = o; cases o <;> try rfl
  · generalize h.get _ = o; cases o <;> rfl
  · generalize vl _ _ _ _ = o; cases o <;> rfl

def sto (size : Nat) (h : Hp) : Val → Val → Act2
  | .ptr id off, y => match h.get id, vcells y with
    | .blk cs, some es => if es.all one1 = true ∧ es.length = size ∧ off + es.length ≤ cs.length then some (some id, ⟨.any, some (.blk (splice cs off es)), none⟩) else none
    | _, _ => none
  | .ep id sz i j, y => match h.get id, vcells y with
    | .arr e sz' xs, some es => if sz = sz' then match xs[i]? with
        | some el => if es.all one1 = true ∧ es.length = size ∧ j + es.length ≤ el.length then some (some id, ⟨.any, some (.arr e sz (xs.set i (splice el j es))), none⟩) else none
        | none => none
      else none
    | _, _ => none
  | _, _ => none
theorem aStore_eq (d : TD) : aStore (some d) = sto d.size := by
  funext h x y
  cases x <;> simp only [aStore, sto]
  · generalize h.get _ = o; cases o <;> try rfl
    generalize vcells y = v; cases v <;> rfl
  · generalize h.get _ = o; cases o <;> try rfl
    generalize vcells y = v; cases v <;> rfl

def alc (z : List Value) (h : Hp) : Act2 := some (none, ⟨.ptr (List.length h) 0, none, some (.blk (z.map .c))⟩)
theorem aAlloc_eq (d : TD) (hz : d.zero.all oneC = true) : aAlloc (some d) = alc d.zero := by funext h; simp only [aAlloc, hz, if_true, alc]

def ixs (size : Nat) : Val → Val → Act2
  | .sl sz xs, .c (.int _ n) => if sz = size ∧ 0 ≤ n then match xs[n.toNat]? with
        | some el => q_ (.rp el)
        | none => none
      else none
  | .os id len, .c (.int _ n) => if 0 ≤ n ∧ n < (len : Int) then q_ (.ep id size n.toNat 0) else none
  | _, _ => none
theorem aIndexAddr_eq {d de : TD} (h : (isSlice d).isSome = true) (ha : isArray d = none) : aIndexAddr (some d) (some de) = ixs de.size := by
  have h' : ¬ isSlice d = none := by intro e; rw [e] at h; cases h
  funext x y
  cases x <;> cases y <;> try (simp only [aIndexAddr, ixs]; done)
  all_goals (rename_i v; cases v <;> simp only [aIndexAddr, ixs, if_neg h', ha])
  congr 1
def ixa (len size : Nat) : Val → Val → Act2
  | x, .c (.int _ n) => if 0 ≤ n ∧ n < (len : Int) then match paddr x (n.toNat * size) with
          | some r => q_ r
          | none => none
        else none
  | _, _ => none
theorem ixa_ptr (len size id o : Nat) (k : IntKind) (n : Int) : ixa len size (.ptr id o) (.c (.int k n)) = if 0 ≤ n ∧ n < (len : Int) then q_ (.ptr id (o + n.toNat * size)) else none := rfl
theorem ixa_of {d de : TD} {len e : Nat} (h : isArray d = some (len, e)) (id o : Nat) (k : IntKind) (n : Int) : aIndexAddr (some d) (some de) (.ptr id o) (.c (.int k n)) = ixa len de.size (.ptr id o) (.c (.int k n)) := by
  simp only [aIndexAddr, ixa, h]
  congr 1

def len_ (x : Val) : Act2 := match vlen x with
    | some n => q_ (.c (.int .i64 n))
    | none => none
theorem aLen_eq (d : TD) (h : (isSlice d).isSome = true) : aLen (some d) = len_ := by
  have h' : ¬ isSlice d = none := by intro e; rw [e] at h; cases h
  funext x; simp only [aLen, if_neg h', len_]; generalize vlen x = o; cases o <;> rfl
theorem len_sl (sz : Nat) (xs : List (List Val)) : len_ (.sl sz xs) = q_ (.c (.int .i64 xs.length)) := rfl
theorem len_os (id n : Nat) : len_ (.os id n) = q_ (.c (.int .i64 n)) := rfl
theorem len_nil : len_ (.c (.slice none 0 0)) = q_ (.c (.int .i64 0)) := rfl

def bld (pl : List (Nat × Nat)) (z : List Value) (ps : List (Nat × Val)) : Act2 := match vfill (fun i => pl[i]?) (z.map .c) ps with
      | some rs => q_ (.agg rs)
      | none => none
theorem aBuild_eq (T : Nat → Option TD) (d : TD) (hk : d.known T = true) (pl : List (Nat × Nat)) (hp : ∀ i, d.place T i = pl[i]?) : aBuild T (some d) = bld pl d.zero := by
  funext ps; simp only [aBuild, hk, if_true, bld]; rw [show d.place T = fun i => pl[i]? from funext hp]; generalize vfill _ _ _ = o; cases o <;> rfl

def bsl (size len : Nat) (ps : List (Nat × Val)) : Act2 := if len * size ≤ 16777216 ∧ ps.length = len then match vels size 0 ps with
      | some xs => q_ (.sl size xs)
      | none => none
    else none
theorem aBuildSlice_eq {d de : TD} (h : (isSlice d).isSome = true) (hz : (de.zero.length == de.size) = true) : aBuildSlice (some d) (some de) = bsl de.size := by
  have h' : ¬ isSlice d = none := by intro e; rw [e] at h; cases h
  have hz : de.zero.length = de.size := by simpa using hz
  funext len ps; simp only [aBuildSlice, if_neg h', bsl, hz, true_and]; congr 1

def apd (e size bytes : Nat) (h : Hp) : Val → Val → Act2
  | .c (.slice none 0 0), .sl sz ys => if sz = size ∧ ys.length * bytes ≤ 140737488355328 ∧ ys.length ≤ 140737488355328 then
        some (none, ⟨.os (List.length h) ys.length, none, some (.arr e size ys)⟩) else none
  | .os id len, .sl sz' ys => match h.get id with
    | .arr e' sz xs => if e' = e ∧ sz = size ∧ sz' = size ∧ len = xs.length ∧ (xs.length + ys.length) * bytes ≤ 140737488355328 ∧ xs.length + ys.length ≤ 140737488355328 then
        some (some id, ⟨.os (List.length h) (xs.length + ys.length), some .gone, some (.arr e size (xs ++ ys))⟩) else none
    | _ => none
  | _, _ => none
theorem apd_nil (e size bytes : Nat) (h : Hp) (sz : Nat) (ys : List (List Val)) : apd e size bytes h (.c (.slice none 0 0)) (.sl sz ys) = if sz = size ∧ ys.length * bytes ≤ 140737488355328 ∧ ys.length ≤ 140737488355328 then
        some (none, ⟨.os (List.length h) ys.length, none, some (.arr e size ys)⟩) else none := rfl
theorem aAppend_eq {d de : TD} (h : (isSlice d).isSome = true) (hz : (de.zero.length == de.size) = true) (e : Nat) : aAppend (some d) (some de) e = apd e de.size de.bytes := by
  have h' : ¬ isSlice d = none := by intro e; rw [e] at h; cases h
  have hz : de.zero.length = de.size := by simpa using hz
  funext h x y
  unfold aAppend apd
  split <;> simp only [if_neg h', hz, true_and]
  · generalize Hp.get h _ = o; cases o <;> simp only [if_neg h', hz, true_and]

def mks (e size bytes : Nat) (z : List Value) (h : Hp) : Val → Val → Act2
  | .c (.int .i64 n), .c (.int .i64 n') => if n' = n ∧ 0 ≤ n ∧ n.toNat * bytes ≤ 140737488355328 ∧ n.toNat ≤ 140737488355328 then
        some (none, ⟨.os (List.length h) n.toNat, none, some (.arr e size (List.replicate n.toNat (z.map .c)))⟩) else none
  | _, _ => none
theorem aMake_eq {d de : TD} (h : (isSlice d).isSome = true) (hz : (de.zero.length == de.size) = true) (ho : de.zero.all oneC = true) (e : Nat) : aMake (some d) (some de) e = mks e de.size de.bytes de.zero := by
  have h' : ¬ isSlice d = none := by intro e; rw [e] at h; cases h
  have hz : de.zero.length = de.size := by simpa using hz
  funext h x y
  unfold aMake mks
  split <;> simp only [if_neg h', hz, ho, true_and]

def cnv (k : IntKind) : Val → Act2
  | .c (.int _ n) => q_ (.c (.int k (k.wrap n)))
  | _ => none
theorem aConv_eq {d du : TD} {k k' : IntKind} (h : d.desc = .int k') (hu : du.desc = .int k) : aConv (some d) (some du) = cnv k := by
  funext x
  unfold aConv cnv
  split <;> simp only [h, hu]
end Go.Vm
/- A call does not see what lies beside its heap. -/
namespace Go.Vm
open Go Go.RowKit
variable {P : Program} {G : List (Nat × Obj)}

theorem live_append {h e : Hp} {i : Nat} (hl : (h.get i).live = true) : (Hp.get (h ++ e) i).live = true := by
  rw [get_append_l e (Hp.get_lt hl)]; exact hl

theorem RelF.restrict {V : View} {w : World} {h e : Hp} (hr : RelF G V w (Hp.D (h ++ e)) (Hp.get (h ++ e))) (hk : HOk h) : RelF G V w h.D h.get := by
  have hlt : ∀ {i}, i < List.length h → Hp.D (h ++ e) i := fun {i} hi => by show i < (h ++ e).length; rw [List.length_append]; omega
  refine ⟨fun id hid => ?_, fun id hid => ?_, fun i j b h1 h2 => hr.inj i j b (live_append h1) (live_append h2), fun i b h1 => hr.apart i b (live_append h1), fun i b h1 => hr.lt i b (live_append h1), hr.shlt, hr.gl⟩
  · have := hr.obj id (hlt hid)
    rw [get_append_l e hid] at this
    exact this.shrink (hk id hid)
  · unfold Hp.get; rw [List.getElem?_eq_none (Nat.le_of_not_lt hid)]; rfl

theorem VCall.frame {fv : Val} {args : List Val} {h : Hp} {r : Val} (hc : VCall P G fv args h (fun r' h' => r' = r ∧ h' = h)) (hk : HOk h) (hf : Ok (fun i => i < List.length h) fv) (ha : ∀ a, a ∈ args → Ok (fun i => i < List.length h) a) (e : Hp) :
    VCall P G fv args (h ++ e) (fun r' h' => r' = r ∧ h' = h ++ e) := by
  intro V w fx ax hr hfx hax
  have hr0 := hr.restrict hk
  have hlt : ∀ {i}, i < List.length h → Hp.D (h ++ e) i := fun {i} hi => by show i < (h ++ e).length; rw [List.length_append]; omega
  have hax0 : RVs V h.D w args ax := ⟨hax.1, fun i d v h1 h2 => (hax.2 i d v h1 h2).shrink (ha d (List.mem_of_getElem? h1))⟩
  refine (hc V w fx ax hr0 (hfx.shrink hf) hax0).mono ?_
  rintro v w' ⟨V', r', h', k1, k2, k3, k4, rfl, rfl⟩
  let V2 : View := { at_ := fun i => if i < List.length h' then V'.at_ i else V.at_ i, cap := fun i => if i < List.length h' then V'.cap i else V.cap i, sh := V'.sh }
  have eat : ∀ i, V2.at_ i = V.at_ i := by
    intro i
    show (if i < List.length h' then V'.at_ i else V.at_ i) = _
    split
    · exact k2.at_ i ‹_›
    · rfl
  have ecap : ∀ i, V2.cap i = V.cap i := by
    intro i
    show (if i < List.length h' then V'.cap i else V.cap i) = _
    split
    · exact k2.cap i ‹_›
    · rfl
  have emem : ∀ k, V.sh k → w'.heap[k]? = w.heap[k]? := fun k hk => k2.keep k (hr.shlt k hk) (fun i hi e => hr0.apart i k hi e hk)
  have eapart : ∀ i b, (Hp.get (h' ++ e) i).live = true → V.at_ i = some b → ¬ V'.sh b := by
    intro i b hi hb hs
    rcases k2.shn b hs (hr.lt i b hi hb) with h1 | ⟨j, hj, hjb⟩
    · exact hr.apart i b hi hb h1
    · have := hr.inj i j b hi (live_append hj) hb hjb
      subst this
      exact k1.apart i b hj ((k2.at_ i (Hp.get_lt hj)).trans hb) hs
  refine ⟨V2, r', h' ++ e, ⟨?_, fun id hid => hr.dead id hid, ?_, ?_, ?_, k1.shlt, k1.gl⟩, ⟨fun id _ => eat id, fun id _ => ecap id, k2.sh, ?_, k2.size, k2.os, k2.tape, k2.output, ?_, ?_⟩, fun _ h => h, ?_, rfl, rfl⟩
  · intro id hid
    by_cases hl : id < List.length h'
    · have := k1.obj id hl
      rw [get_append_l e hl]
      refine RO.mono (V := V') (V' := V2) (n := h'.D) (n' := Hp.D (h' ++ e)) (fun i hi => hlt hi) ?_ ?_ (fun _ h => h) (fun _ _ => rfl) hl this (fun _ _ _ => rfl)
      · intro i hi; rw [eat]; exact (k2.at_ i hi).symm
      · intro i hi; rw [ecap]; exact (k2.cap i hi).symm
    · refine RO.mono (fun _ h => h) (fun i _ => eat i) (fun i _ => ecap i) k2.sh emem hid (hr.obj id hid) ?_
      intro hlive b hb
      refine k2.keep b (hr.lt id b hlive hb) ?_
      intro j hj hjb
      have := hr.inj id j b hlive (live_append hj) hb hjb
      have := Hp.get_lt hj
      omega
  · intro i j b h1 h2 h3 h4
    rw [eat] at h3 h4
    exact hr.inj i j b h1 h2 h3 h4
  · intro i b h1 h2
    rw [eat] at h2
    exact eapart i b h1 h2
  · intro i b h1 h2
    rw [eat] at h2
    exact Nat.lt_of_lt_of_le (hr.lt i b h1 h2) k2.size
  · intro k hk hlt
    rcases k2.shn k hk hlt with h1 | ⟨i, hi, hb⟩
    · exact .inl h1
    · exact .inr ⟨i, live_append hi, hb⟩
  · intro k hk hno
    exact k2.keep k hk (fun i hi => hno i (live_append hi))
  · intro i b h1 h2 h3
    rw [eat] at h2
    exact ⟨i, h1, h2⟩
  · refine RV.mono (V := V') (V' := V2) (n := h'.D) (n' := Hp.D (h' ++ e)) (fun i hi => hlt hi) ?_ ?_ (fun _ h => h) (fun _ _ => rfl) k4
    · intro i hi; rw [eat]; exact (k2.at_ i hi).symm
    · intro i hi; rw [ecap]; exact (k2.cap i hi).symm

theorem WL_endk {ro : Option Nat} {ops : Array Oper} {K : St → Prop} {s s' : St} {ks : List Nat} (hk : s.keep ks = s') (h : K s') : WL P G ro ops [] K s := by
  subst hk
  exact fun i _ V0 w0 s0 V a w hr hs hn n Q hq => ⟨V, s.keep ks, hr.keep ks, hs, hn, hq _ h⟩

theorem Ok.mono {D D' : Nat → Prop} (hd : ∀ i, D i → D' i) {d : Val} (h : Ok D d) : Ok D' d := by
  induction h with
  | any => exact .any
  | c v => exact .c v
  | ptr h => exact .ptr (hd _ h)
  | ep h => exact .ep (hd _ h)
  | rp _ ih => exact .rp ih
  | os h => exact .os (hd _ h)
  | sl _ ih => exact .sl ih
  | fn _ ih => exact .fn ih
  | yld h => exact .yld (hd _ h)
  | mp h => exact .mp (hd _ h)
  | agg _ ih => exact .agg ih
  | tup _ ih => exact .tup ih
theorem OkO.mono {D D' : Nat → Prop} {o : Ob} (h : OkO D o) (hd : ∀ i, D i → D' i) : OkO D' o := by
  cases o with
  | blk cs => exact fun d hm => (h d hm).mono hd
  | arr e sz xs => exact fun x hx d hm => (h x hx d hm).mono hd
  | lp snap m fn ps a b st pe => exact fun i => (h i).mono hd
  | gone => trivial
  | dfr => trivial
  | mpo es => exact fun k d hm => (h k d hm).mono hd

/-- A call that leaves the heap as it was. -/
abbrev VPure (P : Program) (G : List (Nat × Obj)) (fv : Val) (args : List Val) (h : Hp) (r : Val) : Prop := VCall P G fv args h (fun r' h' => r' = r ∧ h' = h)

theorem wrap64 {n : Int} (h1 : -9223372036854775808 ≤ n) (h2 : n < 9223372036854775808) : IntKind.i64.wrap n = n := by
  have e : IntKind.i64.wrap n = if n % 18446744073709551616 ≥ 9223372036854775808 then n % 18446744073709551616 - 18446744073709551616 else n % 18446744073709551616 := by
    show (if (true && decide (n % 18446744073709551616 ≥ 9223372036854775808)) = true then _ else _) = _
    simp only [Bool.true_and, decide_eq_true_eq]
    rfl
  rw [e]
  split <;> omega
end Go.Vm
/- What the walks simplify by, in one bundle. -/
namespace Go.Vm
open Go Go.RowKit
set_option linter.unusedSimpArgs false
set_option linter.unusedVariables false

def vcont (T : Nat → Option TD) (ops : Array Oper) (l : List Oper) (o : Oper) (s : St) : Act2 → List Oper × St
  | some (fid, ef) => vrun T ops l (s.app o.dst fid ef)
  | none => (o :: l, s)
def vguard (T : Nat → Option TD) (ops : Array Oper) (l : List Oper) (o : Oper) (s : St) : Option Bool → List Oper × St
  | some true => vcont T ops l o s (vact T o.op s.ev s.h)
  | some false => vrun T ops l (s.put o.dst (.c undef))
  | none => (o :: l, s)
theorem vrun_none (T : Nat → Option TD) (ops : Array Oper) (dst : Option Tmp) (op : Op) (ty : TypeId) (ps : String) (af : Array Edge) (l : List Oper) (s : St) : vrun T ops (⟨dst, op, ty, ps, af, none⟩ :: l) s = vcont T ops l ⟨dst, op, ty, ps, af, none⟩ s (vact T op s.ev s.h) := by
  simp only [vrun]
  generalize vact T op s.ev s.h = a
  rcases a with _ | ⟨fid, ef⟩ <;> rfl
theorem vrun_some (T : Nat → Option TD) (ops : Array Oper) (dst : Option Tmp) (op : Op) (ty : TypeId) (ps : String) (af : Array Edge) (j : Nat) (b : Bool) (l : List Oper) (s : St) : vrun T ops (⟨dst, op, ty, ps, af, some (j, b)⟩ :: l) s = vguard T ops l ⟨dst, op, ty, ps, af, some (j, b)⟩ s (gv b (s.get (gdst ops j))) := by
  simp only [vrun]
  generalize gv b (s.get (gdst ops j)) = x
  rcases x with _ | _ | _ <;> (try rfl)
def dadd (r : Rcd) : List Oper × List Rcd × St → List Oper × List Rcd × St
  | (l, rs, s) => (l, r :: rs, s)
def dcont (T : Nat → Option TD) (ops : Array Oper) (l : List Oper) (o : Oper) (s : St) : Act2 → List Oper × List Rcd × St
  | some (fid, ef) => dadd (.act fid (List.length s.h)) (drun T ops l (s.app o.dst fid ef))
  | none => (o :: l, [], s)
def dguard (T : Nat → Option TD) (ops : Array Oper) (l : List Oper) (o : Oper) (s : St) : Option Bool → Bool → List Oper × List Rcd × St
  | some true, false => dcont T ops l o s (vact T o.op s.ev s.h)
  | some false, _ => dadd .skip (drun T ops l (s.put o.dst (.c undef)))
  | _, _ => (o :: l, [], s)
theorem drun_none (T : Nat → Option TD) (ops : Array Oper) (dst : Option Tmp) (op : Op) (ty : TypeId) (ps : String) (af : Array Edge) (l : List Oper) (s : St) : drun T ops (⟨dst, op, ty, ps, af, none⟩ :: l) s = dcont T ops l ⟨dst, op, ty, ps, af, none⟩ s (vact T op s.ev s.h) := by
  simp only [drun]
  generalize vact T op s.ev s.h = a
  rcases a with _ | ⟨fid, ef⟩ <;> rfl
theorem drun_some (T : Nat → Option TD) (ops : Array Oper) (dst : Option Tmp) (op : Op) (ty : TypeId) (ps : String) (af : Array Edge) (j : Nat) (b : Bool) (l : List Oper) (s : St) : drun T ops (⟨dst, op, ty, ps, af, some (j, b)⟩ :: l) s = dguard T ops l ⟨dst, op, ty, ps, af, some (j, b)⟩ s (gv b (s.get (gdst ops j))) (gdst ops j == 1000000) := by
  simp only [drun]
  generalize gv b (s.get (gdst ops j)) = x
  generalize (gdst ops j == 1000000) = y
  rcases x with _ | _ | _ <;> cases y <;> (try rfl)
theorem St.app_some (m : Nat) (t : List (Nat × Val)) (h : Hp) (d : List Nat) (i : Nat) (fid : Option Nat) (r : Val) (up nw : Option Ob) : St.app ⟨m, t, h, d⟩ (some i) fid ⟨r, up, nw⟩ = if i < m then ⟨m, (i, r) :: t, h.app fid ⟨r, up, nw⟩, d⟩ else ⟨m, t, h.app fid ⟨r, up, nw⟩, d⟩ := by
  simp only [St.app, St.put]; split <;> rfl
def iand (k : IntKind) (a b : Int) : Int := k.wrap (BitVec.ofInt k.bits a &&& BitVec.ofInt k.bits b).toNat
def ior (k : IntKind) (a b : Int) : Int := k.wrap (BitVec.ofInt k.bits a ||| BitVec.ofInt k.bits b).toNat
def iandNot (k : IntKind) (a b : Int) : Int := k.wrap (BitVec.ofInt k.bits a &&& ~~~BitVec.ofInt k.bits b).toNat
def ishl (k : IntKind) (a b : Int) : Int := k.wrap (a * 2 ^ min b.toNat k.bits)
def ishr (k : IntKind) (a b : Int) : Int := a.fdiv (2 ^ min b.toNat k.bits)
def oq : Option Val → Act2
  | some r => q_ r
  | none => none
def oqi (id : Nat) : Option Val → Act2
  | some r => some (some id, ⟨r, none, none⟩)
  | none => none
def oqr : Option (List Val) → Act2
  | some r => q_ (.rp r)
  | none => none
def obl : Option (List Val) → Act2
  | some r => q_ (.agg r)
  | none => none
def obs (sz : Nat) : Option (List (List Val)) → Act2
  | some r => q_ (.sl sz r)
  | none => none
theorem fvl_agg (off : Nat) (row : Bool) (size : Nat) (cs : List Val) : fvl off row size (.agg cs) = oq (vl row size cs off) := by
  simp only [fvl]; generalize vl row size cs off = o; cases o <;> rfl
def ldo (row : Bool) (size id off : Nat) : Ob → Act2
  | .blk cs => oqi id (vl row size cs off)
  | _ => none
def lde2 (row : Bool) (size id j : Nat) : Option (List Val) → Act2
  | some el => oqi id (vl row size el j)
  | none => none
def lde (row : Bool) (size id sz i j : Nat) : Ob → Act2
  | .arr _ sz' xs => if sz = sz' then lde2 row size id j xs[i]? else none
  | _ => none
theorem ld_ptr (row : Bool) (size : Nat) (h : Hp) (id off : Nat) : ld row size h (.ptr id off) = ldo row size id off (h.get id) := by
  simp only [ld]; generalize h.get id = o; cases o <;> simp only [ldo]
  generalize vl row size _ off = o; cases o <;> rfl
theorem ld_rp (row : Bool) (size : Nat) (h : Hp) (cs : List Val) : ld row size h (.rp cs) = oq (vl row size cs 0) := by
  simp only [ld]; generalize vl row size cs 0 = o; cases o <;> rfl
theorem ld_ep (row : Bool) (size : Nat) (h : Hp) (id sz i j : Nat) : ld row size h (.ep id sz i j) = lde row size id sz i j (h.get id) := by
  simp only [ld]; generalize h.get id = o; cases o <;> simp only [lde]
  rename_i e sz' xs
  generalize xs[i]? = o
  cases o <;> simp only [lde2]
  rename_i el
  generalize vl row size el j = o; cases o <;> rfl
def stb (size id off : Nat) : Ob → Option (List Val) → Act2
  | .blk cs, some es => if es.all one1 = true ∧ es.length = size ∧ off + es.length ≤ cs.length then some (some id, ⟨.any, some (.blk (splice cs off es)), none⟩) else none
  | _, _ => none
def ste2 (size id e sz i j : Nat) (xs : List (List Val)) (es : List Val) : Option (List Val) → Act2
  | some el => if es.all one1 = true ∧ es.length = size ∧ j + es.length ≤ el.length then some (some id, ⟨.any, some (.arr e sz (xs.set i (splice el j es))), none⟩) else none
  | none => none
def ste (size id sz i j : Nat) : Ob → Option (List Val) → Act2
  | .arr e sz' xs, some es => if sz = sz' then ste2 size id e sz i j xs es xs[i]? else none
  | _, _ => none
theorem sto_ptr (size : Nat) (h : Hp) (id off : Nat) (y : Val) : sto size h (.ptr id off) y = stb size id off (h.get id) (vcells y) := by
  simp only [sto]; generalize h.get id = o; generalize vcells y = v; cases o <;> cases v <;> rfl
theorem sto_ep (size : Nat) (h : Hp) (id sz i j : Nat) (y : Val) : sto size h (.ep id sz i j) y = ste size id sz i j (h.get id) (vcells y) := by
  simp only [sto]; generalize h.get id = o; generalize vcells y = v; cases o <;> cases v <;> simp only [ste]
  rename_i e sz' xs es
  generalize xs[i]? = o; cases o <;> rfl
def abx (h : Hp) : Option (List Val) → Act2
  | some cs => if cs.all one1 = true then some (none, ⟨.ptr (List.length h) 0, none, some (.blk cs)⟩) else none
  | none => none
theorem abx_eq (h : Hp) (x : Val) : aBox h x = abx h (vcells x) := by
  simp only [aBox]; generalize vcells x = o; cases o <;> rfl
theorem ixs_sl (size sz : Nat) (xs : List (List Val)) (k : IntKind) (n : Int) : ixs size (.sl sz xs) (.c (.int k n)) = if sz = size ∧ 0 ≤ n then oqr xs[n.toNat]? else none := by
  simp only [ixs]; generalize xs[n.toNat]? = o; cases o <;> rfl
theorem bld_eq (pl : List (Nat × Nat)) (z : List Value) (ps : List (Nat × Val)) : bld pl z ps = obl (vfill (fun i => pl[i]?) (z.map .c) ps) := by
  simp only [bld]; generalize vfill _ _ _ = o; cases o <;> rfl
def vfl (p : Nat → Option (Nat × Nat)) (cs : List Val) (r : List (Nat × Val)) : Option (Nat × Nat) → Option (List Val) → Option (List Val)
  | some (off, size), some es => if es.length = size ∧ off + es.length ≤ cs.length then vfill p (splice cs off es) r else none
  | _, _ => none
theorem vfl_eq (p : Nat → Option (Nat × Nat)) (cs : List Val) (i : Nat) (v : Val) (r : List (Nat × Val)) : vfill p cs ((i, v) :: r) = vfl p cs r (p i) (vcells v) := by
  simp only [vfill]; generalize p i = o; generalize vcells v = u; rcases o with _ | ⟨a, b⟩ <;> cases u <;> rfl
theorem bsl_eq (size len : Nat) (ps : List (Nat × Val)) : bsl size len ps = if len * size ≤ 16777216 ∧ ps.length = len then obs size (vels size 0 ps) else none := by
  simp only [bsl]; generalize vels size 0 ps = o; cases o <;> rfl
def vel2 (sz : Nat) : Option (List Val) → Option (List (List Val)) → Option (List (List Val))
  | some es, some xs => if es.length = sz ∧ es.all one1 = true then some (es :: xs) else none
  | _, _ => none
theorem vels_eq (sz k i : Nat) (v : Val) (r : List (Nat × Val)) : vels sz k ((i, v) :: r) = if i = k then vel2 sz (vcells v) (vels sz (k + 1) r) else none := by
  simp only [vels]; generalize vcells v = o; generalize vels sz (k + 1) r = u; cases o <;> cases u <;> rfl
def apo (e size bytes : Nat) (h : Hp) (id len sz' : Nat) (ys : List (List Val)) : Ob → Act2
  | .arr e' sz xs => if e' = e ∧ sz = size ∧ sz' = size ∧ len = xs.length ∧ (xs.length + ys.length) * bytes ≤ 140737488355328 ∧ xs.length + ys.length ≤ 140737488355328 then some (some id, ⟨.os (List.length h) (xs.length + ys.length), some .gone, some (.arr e size (xs ++ ys))⟩) else none
  | _ => none
theorem apd_os (e size bytes : Nat) (h : Hp) (id len sz' : Nat) (ys : List (List Val)) : apd e size bytes h (.os id len) (.sl sz' ys) = apo e size bytes h id len sz' ys (h.get id) := by
  simp only [apd]; generalize h.get id = o; cases o <;> rfl

theorem ev0_0 : ∀ (T : Nat → Option TD) (ops : Array Oper) (s : St), vrun T ops [] s = ([], s) := fun _ _ _ => rfl
theorem ev0_1 : ∀ (T : Nat → Option TD) (ops : Array Oper) (dst : Option Tmp) (op : Op) (ty : TypeId) (ps : String) (af : Array Edge) (l : List Oper) (s : St), vrun T ops (⟨dst, op, ty, ps, af, none⟩ :: l) s = vcont T ops l ⟨dst, op, ty, ps, af, none⟩ s (vact T op s.ev s.h) := vrun_none
theorem ev0_2 : ∀ (T : Nat → Option TD) (ops : Array Oper) (dst : Option Tmp) (op : Op) (ty : TypeId) (ps : String) (af : Array Edge) (j : Nat) (b : Bool) (l : List Oper) (s : St), vrun T ops (⟨dst, op, ty, ps, af, some (j, b)⟩ :: l) s = vguard T ops l ⟨dst, op, ty, ps, af, some (j, b)⟩ s (gv b (s.get (gdst ops j))) := vrun_some
theorem ev0_3 : ∀ (T : Nat → Option TD) (ops : Array Oper) (l : List Oper) (o : Oper) (s : St) (fid : Option Nat) (ef : Ef), vcont T ops l o s (some (fid, ef)) = vrun T ops l (s.app o.dst fid ef) := fun _ _ _ _ _ _ _ => rfl
theorem ev0_4 : ∀ (T : Nat → Option TD) (ops : Array Oper) (l : List Oper) (o : Oper) (s : St), vguard T ops l o s (some true) = vcont T ops l o s (vact T o.op s.ev s.h) := fun _ _ _ _ _ => rfl
theorem ev0_5 : ∀ (T : Nat → Option TD) (ops : Array Oper) (l : List Oper) (o : Oper) (s : St), vguard T ops l o s (some false) = vrun T ops l (s.put o.dst (.c undef)) := fun _ _ _ _ _ => rfl
theorem ev0_6 : gv true (.c (.bool true)) = some true := rfl
theorem ev0_7 : gv true (.c (.bool false)) = some false := rfl
theorem ev0_8 : gv false (.c (.bool true)) = some false := rfl
theorem ev0_9 : gv false (.c (.bool false)) = some true := rfl
theorem ev0_10 : ∀ (b : Bool), gv b (.c undef) = some false := fun _ => rfl
theorem ev0_11 : ∀ (T : Nat → Option TD) (ops : Array Oper) (s : St), drun T ops [] s = ([], [], s) := fun _ _ _ => rfl
theorem ev0_12 : ∀ (T : Nat → Option TD) (ops : Array Oper) (dst : Option Tmp) (op : Op) (ty : TypeId) (ps : String) (af : Array Edge) (l : List Oper) (s : St), drun T ops (⟨dst, op, ty, ps, af, none⟩ :: l) s = dcont T ops l ⟨dst, op, ty, ps, af, none⟩ s (vact T op s.ev s.h) := drun_none
theorem ev0_13 : ∀ (T : Nat → Option TD) (ops : Array Oper) (dst : Option Tmp) (op : Op) (ty : TypeId) (ps : String) (af : Array Edge) (j : Nat) (b : Bool) (l : List Oper) (s : St), drun T ops (⟨dst, op, ty, ps, af, some (j, b)⟩ :: l) s = dguard T ops l ⟨dst, op, ty, ps, af, some (j, b)⟩ s (gv b (s.get (gdst ops j))) (gdst ops j == 1000000) := drun_some
theorem ev0_14 : ∀ (T : Nat → Option TD) (ops : Array Oper) (l : List Oper) (o : Oper) (s : St) (fid : Option Nat) (ef : Ef), dcont T ops l o s (some (fid, ef)) = dadd (.act fid (List.length s.h)) (drun T ops l (s.app o.dst fid ef)) := fun _ _ _ _ _ _ _ => rfl
theorem ev0_15 : ∀ (T : Nat → Option TD) (ops : Array Oper) (l : List Oper) (o : Oper) (s : St), dguard T ops l o s (some true) false = dcont T ops l o s (vact T o.op s.ev s.h) := fun _ _ _ _ _ => rfl
theorem ev0_16 : ∀ (T : Nat → Option TD) (ops : Array Oper) (l : List Oper) (o : Oper) (s : St) (b : Bool), dguard T ops l o s (some false) b = dadd .skip (drun T ops l (s.put o.dst (.c undef))) := fun _ _ _ _ _ _ => rfl
theorem ev0_17 : ∀ (r : Rcd) (l : List Oper) (rs : List Rcd) (s : St), dadd r (l, rs, s) = (l, r :: rs, s) := fun _ _ _ _ => rfl
theorem ev0_18 : ∀ (m : Nat) (t : List (Nat × Val)) (h : Hp) (d : List Nat) (i : Nat), St.ev ⟨m, t, h, d⟩ (.tmp i) = lk t i := fun _ _ _ _ _ => rfl
theorem ev0_19 : ∀ (s : St) (v : Value), St.ev s (.const v) = .c v := fun _ _ => rfl
theorem ev0_20 : ∀ (s : St) (f : FuncId), St.ev s (.func f) = .fn f [] := fun _ _ => rfl
theorem ev0_21 : ∀ (m : Nat) (t : List (Nat × Val)) (h : Hp) (d : List Nat) (i : Nat), St.get ⟨m, t, h, d⟩ i = lk t i := fun _ _ _ _ _ => rfl
theorem ev0_22 : ∀ (k : Nat) (v : Val) (l : List (Nat × Val)) (i : Nat), lk ((k, v) :: l) i = if i = k then v else lk l i := fun _ _ _ _ => rfl
theorem ev0_23 : ∀ (s : St) (fid : Option Nat) (ef : Ef), St.app s none fid ef = ⟨s.m, s.t, s.h.app fid ef, s.d⟩ := fun _ _ _ => rfl
theorem ev0_24 : ∀ (m : Nat) (t : List (Nat × Val)) (h : Hp) (d : List Nat) (i : Nat) (fid : Option Nat) (r : Val) (up nw : Option Ob), St.app ⟨m, t, h, d⟩ (some i) fid ⟨r, up, nw⟩ = if i < m then ⟨m, (i, r) :: t, h.app fid ⟨r, up, nw⟩, d⟩ else ⟨m, t, h.app fid ⟨r, up, nw⟩, d⟩ := St.app_some
theorem ev0_25 : ∀ (s : St) (v : Val), St.put s none v = s := fun _ _ => rfl
theorem ev0_26 : ∀ (m : Nat) (t : List (Nat × Val)) (h : Hp) (d : List Nat) (i : Nat) (v : Val), St.put ⟨m, t, h, d⟩ (some i) v = if i < m then ⟨m, (i, v) :: t, h, d⟩ else ⟨m, t, h, d⟩ := fun m t h d i v => rfl
theorem ev0_27 : ∀ (h : Hp) (fid : Option Nat) (r : Val), Hp.app h fid ⟨r, none, none⟩ = h := fun h fid r => by cases fid <;> rfl
theorem ev0_28 : ∀ (h : Hp) (r : Val) (o : Ob), Hp.app h none ⟨r, none, some o⟩ = h ++ [o] := fun _ _ _ => rfl
theorem ev0_29 : ∀ (h : Hp) (id : Nat) (r : Val) (o : Ob), Hp.app h (some id) ⟨r, some o, none⟩ = List.set h id o := fun _ _ _ _ => rfl
theorem ev0_30 : ∀ (h : Hp) (id : Nat) (r : Val) (o o' : Ob), Hp.app h (some id) ⟨r, some o, some o'⟩ = List.set h id o ++ [o'] := fun _ _ _ _ _ => rfl
theorem ev0_31 : ∀ (s : St) (ks : List Nat), s.keep ks = { s with t := ks.map fun k => (k, lk s.t k) } := fun _ _ => rfl
theorem ev0_32 : ∀ (h e : Hp) (k : Nat), Hp.get (h ++ e) (List.length h + k) = Hp.get e k := fun h e k => get_append_r e k
theorem ev0_33 : ∀ (h e : Hp), Hp.get (h ++ e) (List.length h) = Hp.get e 0 := fun h e => get_append_0 e
theorem ev0_34 : ∀ (h e : Hp) (k : Nat) (o : Ob), List.set (h ++ e) (List.length h + k) o = h ++ List.set e k o := fun h e k o => set_append_r e k o
theorem ev0_35 : ∀ (h e : Hp) (o : Ob), List.set (h ++ e) (List.length h) o = h ++ List.set e 0 o := fun h e o => set_append_0 e o
theorem ev0_36 : ∀ (o : Ob) (e : List Ob), Hp.get (o :: e) 0 = o := fun _ _ => rfl
theorem ev0_37 : ∀ (o : Ob) (e : List Ob) (k : Nat), Hp.get (o :: e) (k + 1) = Hp.get e k := fun _ _ _ => rfl
theorem ev0_38 : ∀ (o x : Ob) (e : List Ob), List.set (o :: e) 0 x = x :: e := fun _ _ _ => rfl
theorem ev0_39 : ∀ (o x : Ob) (e : List Ob) (k : Nat), List.set (o :: e) (k + 1) x = o :: List.set e k x := fun _ _ _ _ => rfl
theorem ev0 : (∀ (T : Nat → Option TD) (ops : Array Oper) (s : St), vrun T ops [] s = ([], s)) ∧ (∀ (T : Nat → Option TD) (ops : Array Oper) (dst : Option Tmp) (op : Op) (ty : TypeId) (ps : String) (af : Array Edge) (l : List Oper) (s : St), vrun T ops (⟨dst, op, ty, ps, af, none⟩ :: l) s = vcont T ops l ⟨dst, op, ty, ps, af, none⟩ s (vact T op s.ev s.h)) ∧ (∀ (T : Nat → Option TD) (ops : Array Oper) (dst : Option Tmp) (op : Op) (ty : TypeId) (ps : String) (af : Array Edge) (j : Nat) (b : Bool) (l : List Oper) (s : St), vrun T ops (⟨dst, op, ty, ps, af, some (j, b)⟩ :: l) s = vguard T ops l ⟨dst, op, ty, ps, af, some (j, b)⟩ s (gv b (s.get (gdst ops j)))) ∧ (∀ (T : Nat → Option TD) (ops : Array Oper) (l : List Oper) (o : Oper) (s : St) (fid : Option Nat) (ef : Ef), vcont T ops l o s (some (fid, ef)) = vrun T ops l (s.app o.dst fid ef)) ∧ (∀ (T : Nat → Option TD) (ops : Array Oper) (l : List Oper) (o : Oper) (s : St), vguard T ops l o s (some true) = vcont T ops l o s (vact T o.op s.ev s.h)) ∧ (∀ (T : Nat → Option TD) (ops : Array Oper) (l : List Oper) (o : Oper) (s : St), vguard T ops l o s (some false) = vrun T ops l (s.put o.dst (.c undef))) ∧ (gv true (.c (.bool true)) = some true) ∧ (gv true (.c (.bool false)) = some false) ∧ (gv false (.c (.bool true)) = some false) ∧ (gv false (.c (.bool false)) = some true) ∧ (∀ (b : Bool), gv b (.c undef) = some false) ∧ (∀ (T : Nat → Option TD) (ops : Array Oper) (s : St), drun T ops [] s = ([], [], s)) ∧ (∀ (T : Nat → Option TD) (ops : Array Oper) (dst : Option Tmp) (op : Op) (ty : TypeId) (ps : String) (af : Array Edge) (l : List Oper) (s : St), drun T ops (⟨dst, op, ty, ps, af, none⟩ :: l) s = dcont T ops l ⟨dst, op, ty, ps, af, none⟩ s (vact T op s.ev s.h)) ∧ (∀ (T : Nat → Option TD) (ops : Array Oper) (dst : Option Tmp) (op : Op) (ty : TypeId) (ps : String) (af : Array Edge) (j : Nat) (b : Bool) (l : List Oper) (s : St), drun T ops (⟨dst, op, ty, ps, af, some (j, b)⟩ :: l) s = dguard T ops l ⟨dst, op, ty, ps, af, some (j, b)⟩ s (gv b (s.get (gdst ops j))) (gdst ops j == 1000000)) ∧ (∀ (T : Nat → Option TD) (ops : Array Oper) (l : List Oper) (o : Oper) (s : St) (fid : Option Nat) (ef : Ef), dcont T ops l o s (some (fid, ef)) = dadd (.act fid (List.length s.h)) (drun T ops l (s.app o.dst fid ef))) ∧ (∀ (T : Nat → Option TD) (ops : Array Oper) (l : List Oper) (o : Oper) (s : St), dguard T ops l o s (some true) false = dcont T ops l o s (vact T o.op s.ev s.h)) ∧ (∀ (T : Nat → Option TD) (ops : Array Oper) (l : List Oper) (o : Oper) (s : St) (b : Bool), dguard T ops l o s (some false) b = dadd .skip (drun T ops l (s.put o.dst (.c undef)))) ∧ (∀ (r : Rcd) (l : List Oper) (rs : List Rcd) (s : St), dadd r (l, rs, s) = (l, r :: rs, s)) ∧ (∀ (m : Nat) (t : List (Nat × Val)) (h : Hp) (d : List Nat) (i : Nat), St.ev ⟨m, t, h, d⟩ (.tmp i) = lk t i) ∧ (∀ (s : St) (v : Value), St.ev s (.const v) = .c v) ∧ (∀ (s : St) (f : FuncId), St.ev s (.func f) = .fn f []) ∧ (∀ (m : Nat) (t : List (Nat × Val)) (h : Hp) (d : List Nat) (i : Nat), St.get ⟨m, t, h, d⟩ i = lk t i) ∧ (∀ (k : Nat) (v : Val) (l : List (Nat × Val)) (i : Nat), lk ((k, v) :: l) i = if i = k then v else lk l i) ∧ (∀ (s : St) (fid : Option Nat) (ef : Ef), St.app s none fid ef = ⟨s.m, s.t, s.h.app fid ef, s.d⟩) ∧ (∀ (m : Nat) (t : List (Nat × Val)) (h : Hp) (d : List Nat) (i : Nat) (fid : Option Nat) (r : Val) (up nw : Option Ob), St.app ⟨m, t, h, d⟩ (some i) fid ⟨r, up, nw⟩ = if i < m then ⟨m, (i, r) :: t, h.app fid ⟨r, up, nw⟩, d⟩ else ⟨m, t, h.app fid ⟨r, up, nw⟩, d⟩) ∧ (∀ (s : St) (v : Val), St.put s none v = s) ∧ (∀ (m : Nat) (t : List (Nat × Val)) (h : Hp) (d : List Nat) (i : Nat) (v : Val), St.put ⟨m, t, h, d⟩ (some i) v = if i < m then ⟨m, (i, v) :: t, h, d⟩ else ⟨m, t, h, d⟩) ∧ (∀ (h : Hp) (fid : Option Nat) (r : Val), Hp.app h fid ⟨r, none, none⟩ = h) ∧ (∀ (h : Hp) (r : Val) (o : Ob), Hp.app h none ⟨r, none, some o⟩ = h ++ [o]) ∧ (∀ (h : Hp) (id : Nat) (r : Val) (o : Ob), Hp.app h (some id) ⟨r, some o, none⟩ = List.set h id o) ∧ (∀ (h : Hp) (id : Nat) (r : Val) (o o' : Ob), Hp.app h (some id) ⟨r, some o, some o'⟩ = List.set h id o ++ [o']) ∧ (∀ (s : St) (ks : List Nat), s.keep ks = { s with t := ks.map fun k => (k, lk s.t k) }) ∧ (∀ (h e : Hp) (k : Nat), Hp.get (h ++ e) (List.length h + k) = Hp.get e k) ∧ (∀ (h e : Hp), Hp.get (h ++ e) (List.length h) = Hp.get e 0) ∧ (∀ (h e : Hp) (k : Nat) (o : Ob), List.set (h ++ e) (List.length h + k) o = h ++ List.set e k o) ∧ (∀ (h e : Hp) (o : Ob), List.set (h ++ e) (List.length h) o = h ++ List.set e 0 o) ∧ (∀ (o : Ob) (e : List Ob), Hp.get (o :: e) 0 = o) ∧ (∀ (o : Ob) (e : List Ob) (k : Nat), Hp.get (o :: e) (k + 1) = Hp.get e k) ∧ (∀ (o x : Ob) (e : List Ob), List.set (o :: e) 0 x = x :: e) ∧ (∀ (o x : Ob) (e : List Ob) (k : Nat), List.set (o :: e) (k + 1) x = o :: List.set e k x) := ⟨ev0_0, ev0_1, ev0_2, ev0_3, ev0_4, ev0_5, ev0_6, ev0_7, ev0_8, ev0_9, ev0_10, ev0_11, ev0_12, ev0_13, ev0_14, ev0_15, ev0_16, ev0_17, ev0_18, ev0_19, ev0_20, ev0_21, ev0_22, ev0_23, ev0_24, ev0_25, ev0_26, ev0_27, ev0_28, ev0_29, ev0_30, ev0_31, ev0_32, ev0_33, ev0_34, ev0_35, ev0_36, ev0_37, ev0_38, ev0_39⟩
theorem ev1_0 : ∀ (T : Nat → Option TD) (ev : Operand → Val) (h : Hp) (x : Operand), vact T (.move x) ev h = q_ (ev x) := fun _ _ _ _ => rfl
theorem ev1_1 : ∀ (T : Nat → Option TD) (ev : Operand → Val) (h : Hp) (x : Operand), vact T (.assign x) ev h = q_ (ev x) := fun _ _ _ _ => rfl
theorem ev1_2 : ∀ (T : Nat → Option TD) (ev : Operand → Val) (h : Hp) (c a b : Operand), vact T (.pick c a b) ev h = aPick (ev c) (ev a) (ev b) := fun _ _ _ _ _ _ => rfl
theorem ev1_3 : ∀ (T : Nat → Option TD) (ev : Operand → Val) (h : Hp) (op : BinOp) (t u : TypeId) (x y : Operand), vact T (.binOp op t x y u) ev h = aBin op (ev x) (ev y) := fun _ _ _ _ _ _ _ _ => rfl
theorem ev1_4 : ∀ (T : Nat → Option TD) (ev : Operand → Val) (h : Hp) (op : UnOp) (t : TypeId) (x : Operand), vact T (.unOp op t x) ev h = aUn op (ev x) := fun _ _ _ _ _ _ => rfl
theorem ev1_5 : ∀ (T : Nat → Option TD) (ev : Operand → Val) (h : Hp) (x : Operand), vact T (.nilCheck x) ev h = aNil (ev x) := fun _ _ _ _ => rfl
theorem ev1_6 : ∀ (T : Nat → Option TD) (ev : Operand → Val) (h : Hp) (x : Operand) (i : Nat), vact T (.extract x i) ev h = aExtract (ev x) i := fun _ _ _ _ _ => rfl
theorem ev1_7 : ∀ (T : Nat → Option TD) (ev : Operand → Val) (h : Hp) (fn : Fn) (first caps : Array Operand), vact T (.makeFunc fn first caps) ev h = aMakeFunc ev fn first.toList caps.toList := fun _ _ _ _ _ _ => rfl
theorem ev1_8 : ∀ (T : Nat → Option TD) (ev : Operand → Val) (h : Hp) (t : TypeId) (x : Operand) (f : Nat), vact T (.fieldAddr t x f) ev h = aField (T t) (T (fieldT (T t) f)) f (ev x) := fun _ _ _ _ _ _ => rfl
theorem ev1_9 : ∀ (T : Nat → Option TD) (ev : Operand → Val) (h : Hp) (t : TypeId) (x : Operand) (f : Nat), vact T (.field t x f) ev h = aFieldV (T t) (T (fieldT (T t) f)) f (ev x) := fun _ _ _ _ _ _ => rfl
theorem ev1_10 : ∀ (T : Nat → Option TD) (ev : Operand → Val) (h : Hp) (t : TypeId) (x : Operand), vact T (.load t x) ev h = aLoad (T t) h (ev x) := fun _ _ _ _ _ => rfl
theorem ev1_11 : ∀ (T : Nat → Option TD) (ev : Operand → Val) (h : Hp) (t : TypeId) (x y : Operand), vact T (.store t x y) ev h = aStore (T t) h (ev x) (ev y) := fun _ _ _ _ _ _ => rfl
theorem ev1_12 : ∀ (T : Nat → Option TD) (ev : Operand → Val) (h : Hp) (t : TypeId), vact T (.alloc t) ev h = aAlloc (T t) h := fun _ _ _ _ => rfl
theorem ev1_13 : ∀ (T : Nat → Option TD) (ev : Operand → Val) (h : Hp) (t : TypeId) (x : Operand), vact T (.box t x) ev h = aBox h (ev x) := fun _ _ _ _ _ => rfl
theorem ev1_14 : ∀ (T : Nat → Option TD) (ev : Operand → Val) (h : Hp) (t : TypeId) (x y : Operand), vact T (.indexAddr t x y) ev h = aIndexAddr (T t) (T (elemT (T t))) (ev x) (ev y) := fun _ _ _ _ _ _ => rfl
theorem ev1_15 : ∀ (T : Nat → Option TD) (ev : Operand → Val) (h : Hp) (t : TypeId) (x y : Operand), vact T (.index t x y) ev h = aIndex (T t) (T (elemT (T t))) (ev x) (ev y) := fun _ _ _ _ _ _ => rfl
theorem ev1_16 : ∀ (T : Nat → Option TD) (ev : Operand → Val) (h : Hp) (t u : TypeId) (x : Operand), vact T (.convert t u x) ev h = aConv (T t) (T u) (ev x) := fun _ _ _ _ _ _ => rfl
theorem ev1_17 : ∀ (T : Nat → Option TD) (ev : Operand → Val) (h : Hp) (t : TypeId) (ps : Array (Nat × Operand)), vact T (.build t ps) ev h = aBuild T (T t) (ps.toList.map fun p => (p.1, ev p.2)) := fun _ _ _ _ _ => rfl
theorem ev1_18 : ∀ (T : Nat → Option TD) (ev : Operand → Val) (h : Hp) (t : TypeId) (len : Nat) (ps : Array (Nat × Operand)), vact T (.buildSlice t len ps) ev h = aBuildSlice (T t) (T (elemT (T t))) len (ps.toList.map fun p => (p.1, ev p.2)) := fun _ _ _ _ _ _ => rfl
theorem ev1_19 : ∀ (T : Nat → Option TD) (ev : Operand → Val) (h : Hp) (t : TypeId) (x y : Operand), vact T (.makeSlice t x y) ev h = aMake (T t) (T (elemT (T t))) (elemT (T t)) h (ev x) (ev y) := fun _ _ _ _ _ _ => rfl
theorem ev1_20 : ∀ (T : Nat → Option TD) (ev : Operand → Val) (h : Hp) (t : TypeId) (x : Operand) (lo hi : Option Operand), vact T (.slice t x lo hi none) ev h = aSlice (T t) (T (elemT (T t))) h ev lo hi (ev x) := fun _ _ _ _ _ _ _ => rfl
theorem ev1_21 : ∀ (T : Nat → Option TD) (ev : Operand → Val) (h : Hp) (x : Operand) (t : TypeId), vact T (.call ⟨.builtin .len, #[x], #[t]⟩) ev h = aLenH (T t) h (ev x) := fun _ _ _ _ _ => rfl
theorem ev1_22 : ∀ (T : Nat → Option TD) (ev : Operand → Val) (h : Hp) (x y : Operand) (ts : Array TypeId), vact T (.call ⟨.builtin .max, #[x, y], ts⟩) ev h = aMax (ev x) (ev y) := fun _ _ _ _ _ _ => rfl
theorem ev1_23 : ∀ (T : Nat → Option TD) (ev : Operand → Val) (h : Hp) (s x : Operand) (t : TypeId), vact T (.call ⟨.builtin .append, #[s, x], #[t, t]⟩) ev h = aAppend (T t) (T (elemT (T t))) (elemT (T t)) h (ev s) (ev x) := fun T ev h s x t => if_pos rfl
theorem ev1_24 : ∀ (T : Nat → Option TD) (ev : Operand → Val) (h : Hp) (f : Operand) (as : Array Operand) (ts : Array TypeId), vact T (.call ⟨.value f, as, ts⟩) ev h = none := fun _ _ _ _ _ _ => rfl
theorem ev1_25 : ∀ (r : Val), q_ r = some (none, ⟨r, none, none⟩) := fun _ => rfl
theorem ev1_26 : ∀ (b : Bool) (x y : Val), aPick (.c (.bool b)) x y = some (none, ⟨if b then x else y, none, none⟩) := fun _ _ _ => rfl
theorem ev1_27 : ∀ (a b : Nat), aNil (.ptr a b) = q_ (.ptr a b) := fun _ _ => rfl
theorem ev1_28 : ∀ (a b c d : Nat), aNil (.ep a b c d) = q_ (.ep a b c d) := fun _ _ _ _ => rfl
theorem ev1_29 : ∀ (cs : List Val), aNil (.rp cs) = q_ (.rp cs) := fun _ => rfl
theorem ev1_30 : ∀ (f : FuncId) (cs : List Val), aNil (.fn f cs) = q_ (.fn f cs) := fun _ _ => rfl
theorem ev1_31 : ∀ (v : Val) (vs : List Val), aExtract (.tup (v :: vs)) 0 = some (none, ⟨v, none, none⟩) := fun _ _ => rfl
theorem ev1_32 : ∀ (v : Val) (vs : List Val) (i : Nat), aExtract (.tup (v :: vs)) (i + 1) = aExtract (.tup vs) i := fun _ _ _ => rfl
theorem ev1_33 : ∀ (ev : Operand → Val) (f : FuncId) (caps : List Operand), aMakeFunc ev (.func f) [] caps = q_ (.fn f (caps.map ev)) := fun _ _ _ => rfl
theorem ev1_34 : ∀ (k : IntKind) (a b : Int), aBin .add (.c (.int k a)) (.c (.int k b)) = some (none, ⟨.c (.int k (k.wrap (a + b))), none, none⟩) := fun k a b => by simp [aBin, vbin, q_]
theorem ev1_35 : ∀ (k : IntKind) (a b : Int), aBin .sub (.c (.int k a)) (.c (.int k b)) = some (none, ⟨.c (.int k (k.wrap (a - b))), none, none⟩) := fun k a b => by simp [aBin, vbin, q_]
theorem ev1_36 : ∀ (k : IntKind) (a b : Int), aBin .mul (.c (.int k a)) (.c (.int k b)) = some (none, ⟨.c (.int k (k.wrap (a * b))), none, none⟩) := fun k a b => by simp [aBin, vbin, q_]
theorem ev1_37 : ∀ (k : IntKind) (a b : Int), aBin .eql (.c (.int k a)) (.c (.int k b)) = some (none, ⟨.c (.bool (a == b)), none, none⟩) := fun k a b => by simp [aBin, vbin, q_]
theorem ev1_38 : ∀ (k : IntKind) (a b : Int), aBin .neq (.c (.int k a)) (.c (.int k b)) = some (none, ⟨.c (.bool (a != b)), none, none⟩) := fun k a b => by simp [aBin, vbin, q_]
theorem ev1_39 : ∀ (k : IntKind) (a b : Int), aBin .lss (.c (.int k a)) (.c (.int k b)) = some (none, ⟨.c (.bool (decide (a < b))), none, none⟩) := fun k a b => by simp [aBin, vbin, q_]
theorem ev1 : (∀ (T : Nat → Option TD) (ev : Operand → Val) (h : Hp) (x : Operand), vact T (.move x) ev h = q_ (ev x)) ∧ (∀ (T : Nat → Option TD) (ev : Operand → Val) (h : Hp) (x : Operand), vact T (.assign x) ev h = q_ (ev x)) ∧ (∀ (T : Nat → Option TD) (ev : Operand → Val) (h : Hp) (c a b : Operand), vact T (.pick c a b) ev h = aPick (ev c) (ev a) (ev b)) ∧ (∀ (T : Nat → Option TD) (ev : Operand → Val) (h : Hp) (op : BinOp) (t u : TypeId) (x y : Operand), vact T (.binOp op t x y u) ev h = aBin op (ev x) (ev y)) ∧ (∀ (T : Nat → Option TD) (ev : Operand → Val) (h : Hp) (op : UnOp) (t : TypeId) (x : Operand), vact T (.unOp op t x) ev h = aUn op (ev x)) ∧ (∀ (T : Nat → Option TD) (ev : Operand → Val) (h : Hp) (x : Operand), vact T (.nilCheck x) ev h = aNil (ev x)) ∧ (∀ (T : Nat → Option TD) (ev : Operand → Val) (h : Hp) (x : Operand) (i : Nat), vact T (.extract x i) ev h = aExtract (ev x) i) ∧ (∀ (T : Nat → Option TD) (ev : Operand → Val) (h : Hp) (fn : Fn) (first caps : Array Operand), vact T (.makeFunc fn first caps) ev h = aMakeFunc ev fn first.toList caps.toList) ∧ (∀ (T : Nat → Option TD) (ev : Operand → Val) (h : Hp) (t : TypeId) (x : Operand) (f : Nat), vact T (.fieldAddr t x f) ev h = aField (T t) (T (fieldT (T t) f)) f (ev x)) ∧ (∀ (T : Nat → Option TD) (ev : Operand → Val) (h : Hp) (t : TypeId) (x : Operand) (f : Nat), vact T (.field t x f) ev h = aFieldV (T t) (T (fieldT (T t) f)) f (ev x)) ∧ (∀ (T : Nat → Option TD) (ev : Operand → Val) (h : Hp) (t : TypeId) (x : Operand), vact T (.load t x) ev h = aLoad (T t) h (ev x)) ∧ (∀ (T : Nat → Option TD) (ev : Operand → Val) (h : Hp) (t : TypeId) (x y : Operand), vact T (.store t x y) ev h = aStore (T t) h (ev x) (ev y)) ∧ (∀ (T : Nat → Option TD) (ev : Operand → Val) (h : Hp) (t : TypeId), vact T (.alloc t) ev h = aAlloc (T t) h) ∧ (∀ (T : Nat → Option TD) (ev : Operand → Val) (h : Hp) (t : TypeId) (x : Operand), vact T (.box t x) ev h = aBox h (ev x)) ∧ (∀ (T : Nat → Option TD) (ev : Operand → Val) (h : Hp) (t : TypeId) (x y : Operand), vact T (.indexAddr t x y) ev h = aIndexAddr (T t) (T (elemT (T t))) (ev x) (ev y)) ∧ (∀ (T : Nat → Option TD) (ev : Operand → Val) (h : Hp) (t : TypeId) (x y : Operand), vact T (.index t x y) ev h = aIndex (T t) (T (elemT (T t))) (ev x) (ev y)) ∧ (∀ (T : Nat → Option TD) (ev : Operand → Val) (h : Hp) (t u : TypeId) (x : Operand), vact T (.convert t u x) ev h = aConv (T t) (T u) (ev x)) ∧ (∀ (T : Nat → Option TD) (ev : Operand → Val) (h : Hp) (t : TypeId) (ps : Array (Nat × Operand)), vact T (.build t ps) ev h = aBuild T (T t) (ps.toList.map fun p => (p.1, ev p.2))) ∧ (∀ (T : Nat → Option TD) (ev : Operand → Val) (h : Hp) (t : TypeId) (len : Nat) (ps : Array (Nat × Operand)), vact T (.buildSlice t len ps) ev h = aBuildSlice (T t) (T (elemT (T t))) len (ps.toList.map fun p => (p.1, ev p.2))) ∧ (∀ (T : Nat → Option TD) (ev : Operand → Val) (h : Hp) (t : TypeId) (x y : Operand), vact T (.makeSlice t x y) ev h = aMake (T t) (T (elemT (T t))) (elemT (T t)) h (ev x) (ev y)) ∧ (∀ (T : Nat → Option TD) (ev : Operand → Val) (h : Hp) (t : TypeId) (x : Operand) (lo hi : Option Operand), vact T (.slice t x lo hi none) ev h = aSlice (T t) (T (elemT (T t))) h ev lo hi (ev x)) ∧ (∀ (T : Nat → Option TD) (ev : Operand → Val) (h : Hp) (x : Operand) (t : TypeId), vact T (.call ⟨.builtin .len, #[x], #[t]⟩) ev h = aLenH (T t) h (ev x)) ∧ (∀ (T : Nat → Option TD) (ev : Operand → Val) (h : Hp) (x y : Operand) (ts : Array TypeId), vact T (.call ⟨.builtin .max, #[x, y], ts⟩) ev h = aMax (ev x) (ev y)) ∧ (∀ (T : Nat → Option TD) (ev : Operand → Val) (h : Hp) (s x : Operand) (t : TypeId), vact T (.call ⟨.builtin .append, #[s, x], #[t, t]⟩) ev h = aAppend (T t) (T (elemT (T t))) (elemT (T t)) h (ev s) (ev x)) ∧ (∀ (T : Nat → Option TD) (ev : Operand → Val) (h : Hp) (f : Operand) (as : Array Operand) (ts : Array TypeId), vact T (.call ⟨.value f, as, ts⟩) ev h = none) ∧ (∀ (r : Val), q_ r = some (none, ⟨r, none, none⟩)) ∧ (∀ (b : Bool) (x y : Val), aPick (.c (.bool b)) x y = some (none, ⟨if b then x else y, none, none⟩)) ∧ (∀ (a b : Nat), aNil (.ptr a b) = q_ (.ptr a b)) ∧ (∀ (a b c d : Nat), aNil (.ep a b c d) = q_ (.ep a b c d)) ∧ (∀ (cs : List Val), aNil (.rp cs) = q_ (.rp cs)) ∧ (∀ (f : FuncId) (cs : List Val), aNil (.fn f cs) = q_ (.fn f cs)) ∧ (∀ (v : Val) (vs : List Val), aExtract (.tup (v :: vs)) 0 = some (none, ⟨v, none, none⟩)) ∧ (∀ (v : Val) (vs : List Val) (i : Nat), aExtract (.tup (v :: vs)) (i + 1) = aExtract (.tup vs) i) ∧ (∀ (ev : Operand → Val) (f : FuncId) (caps : List Operand), aMakeFunc ev (.func f) [] caps = q_ (.fn f (caps.map ev))) ∧ (∀ (k : IntKind) (a b : Int), aBin .add (.c (.int k a)) (.c (.int k b)) = some (none, ⟨.c (.int k (k.wrap (a + b))), none, none⟩)) ∧ (∀ (k : IntKind) (a b : Int), aBin .sub (.c (.int k a)) (.c (.int k b)) = some (none, ⟨.c (.int k (k.wrap (a - b))), none, none⟩)) ∧ (∀ (k : IntKind) (a b : Int), aBin .mul (.c (.int k a)) (.c (.int k b)) = some (none, ⟨.c (.int k (k.wrap (a * b))), none, none⟩)) ∧ (∀ (k : IntKind) (a b : Int), aBin .eql (.c (.int k a)) (.c (.int k b)) = some (none, ⟨.c (.bool (a == b)), none, none⟩)) ∧ (∀ (k : IntKind) (a b : Int), aBin .neq (.c (.int k a)) (.c (.int k b)) = some (none, ⟨.c (.bool (a != b)), none, none⟩)) ∧ (∀ (k : IntKind) (a b : Int), aBin .lss (.c (.int k a)) (.c (.int k b)) = some (none, ⟨.c (.bool (decide (a < b))), none, none⟩)) := ⟨ev1_0, ev1_1, ev1_2, ev1_3, ev1_4, ev1_5, ev1_6, ev1_7, ev1_8, ev1_9, ev1_10, ev1_11, ev1_12, ev1_13, ev1_14, ev1_15, ev1_16, ev1_17, ev1_18, ev1_19, ev1_20, ev1_21, ev1_22, ev1_23, ev1_24, ev1_25, ev1_26, ev1_27, ev1_28, ev1_29, ev1_30, ev1_31, ev1_32, ev1_33, ev1_34, ev1_35, ev1_36, ev1_37, ev1_38, ev1_39⟩
theorem ev2_0 : ∀ (k : IntKind) (a b : Int), aBin .leq (.c (.int k a)) (.c (.int k b)) = some (none, ⟨.c (.bool (decide (a ≤ b))), none, none⟩) := fun k a b => by simp [aBin, vbin, q_]
theorem ev2_1 : ∀ (k : IntKind) (a b : Int), aBin .gtr (.c (.int k a)) (.c (.int k b)) = some (none, ⟨.c (.bool (decide (b < a))), none, none⟩) := fun k a b => by simp [aBin, vbin, q_]
theorem ev2_2 : ∀ (k : IntKind) (a b : Int), aBin .geq (.c (.int k a)) (.c (.int k b)) = some (none, ⟨.c (.bool (decide (b ≤ a))), none, none⟩) := fun k a b => by simp [aBin, vbin, q_]
theorem ev2_3 : ∀ (k : IntKind) (a b : Int), aBin .and (.c (.int k a)) (.c (.int k b)) = some (none, ⟨.c (.int k (iand k a b)), none, none⟩) := fun k a b => by simp [aBin, vbin, q_, iand, ior, iandNot]
theorem ev2_4 : ∀ (k : IntKind) (a b : Int), aBin .or (.c (.int k a)) (.c (.int k b)) = some (none, ⟨.c (.int k (ior k a b)), none, none⟩) := fun k a b => by simp [aBin, vbin, q_, iand, ior, iandNot]
theorem ev2_5 : ∀ (k : IntKind) (a b : Int), aBin .andNot (.c (.int k a)) (.c (.int k b)) = some (none, ⟨.c (.int k (iandNot k a b)), none, none⟩) := fun k a b => by simp [aBin, vbin, q_, iand, ior, iandNot]
theorem ev2_6 : ∀ (k k' : IntKind) (a b : Int), aBin .shl (.c (.int k a)) (.c (.int k' b)) = if 0 ≤ b then some (none, ⟨.c (.int k (ishl k a b)), none, none⟩) else none := fun k k' a b => by by_cases hb : 0 ≤ b <;> simp [aBin, vbin, q_, ishl, ishr, hb]
theorem ev2_7 : ∀ (k k' : IntKind) (a b : Int), aBin .shr (.c (.int k a)) (.c (.int k' b)) = if 0 ≤ b then some (none, ⟨.c (.int k (ishr k a b)), none, none⟩) else none := fun k k' a b => by by_cases hb : 0 ≤ b <;> simp [aBin, vbin, q_, ishl, ishr, hb]
theorem ev2_8 : ∀ (k : IntKind) (a b : Int), aBin .quo (.c (.int k a)) (.c (.int k b)) = if b ≠ 0 then some (none, ⟨.c (.int k (k.wrap (a.tdiv b))), none, none⟩) else none := fun k a b => by by_cases hb : b = 0 <;> simp [aBin, vbin, q_, hb]
theorem ev2_9 : ∀ (k : IntKind) (a b : Int), aBin .rem (.c (.int k a)) (.c (.int k b)) = if b ≠ 0 then some (none, ⟨.c (.int k (a.tmod b)), none, none⟩) else none := fun k a b => by by_cases hb : b = 0 <;> simp [aBin, vbin, q_, hb]
theorem ev2_10 : ∀ (b : Bool), aUn .not (.c (.bool b)) = some (none, ⟨.c (.bool !b), none, none⟩) := fun _ => rfl
theorem ev2_11 : ∀ (k : IntKind) (n : Int), aUn .neg (.c (.int k n)) = some (none, ⟨.c (.int k (k.wrap (0 - n))), none, none⟩) := fun _ _ => rfl
theorem ev2_12 : ∀ (k k' : IntKind) (a b : Int), aMax (.c (.int k a)) (.c (.int k' b)) = some (none, ⟨.c (.int k (if b > a then b else a)), none, none⟩) := fun _ _ _ _ => rfl
theorem ev2_13 : ∀ (o id k : Nat), fa o (.ptr id k) = some (none, ⟨.ptr id (k + o), none, none⟩) := fun _ _ _ => rfl
theorem ev2_14 : ∀ (o id sz i j : Nat), fa o (.ep id sz i j) = some (none, ⟨.ep id sz i (j + o), none, none⟩) := fun _ _ _ _ _ => rfl
theorem ev2_15 : ∀ (o : Nat) (cs : List Val), fa o (.rp cs) = if o ≤ cs.length then some (none, ⟨.rp (cs.drop o), none, none⟩) else none := fun o cs => fa_rp o cs
theorem ev2_16 : ∀ (off : Nat) (row : Bool) (size : Nat) (cs : List Val), fvl off row size (.agg cs) = oq (vl row size cs off) := fvl_agg
theorem ev2_17 : ∀ (r : Val), oq (some r) = some (none, ⟨r, none, none⟩) := fun _ => rfl
theorem ev2_18 : ∀ (size : Nat) (cs : List Val) (o : Nat), vl false size cs o = cs[o]? := fun _ _ _ => rfl
theorem ev2_19 : ∀ (size : Nat) (cs : List Val) (o : Nat), vl true size cs o = if o + size ≤ cs.length then some (.agg ((cs.drop o).take size)) else none := fun _ _ _ => rfl
theorem ev2_20 : ∀ (row : Bool) (size : Nat) (h : Hp) (id off : Nat), ld row size h (.ptr id off) = ldo row size id off (h.get id) := ld_ptr
theorem ev2_21 : ∀ (row : Bool) (size id off : Nat) (cs : List Val), ldo row size id off (.blk cs) = oqi id (vl row size cs off) := fun _ _ _ _ _ => rfl
theorem ev2_22 : ∀ (id : Nat) (r : Val), oqi id (some r) = some (some id, ⟨r, none, none⟩) := fun _ _ => rfl
theorem ev2_23 : ∀ (row : Bool) (size : Nat) (h : Hp) (cs : List Val), ld row size h (.rp cs) = oq (vl row size cs 0) := ld_rp
theorem ev2_24 : ∀ (row : Bool) (size : Nat) (h : Hp) (id sz i j : Nat), ld row size h (.ep id sz i j) = lde row size id sz i j (h.get id) := ld_ep
theorem ev2_25 : ∀ (row : Bool) (size id sz sz' i j e : Nat) (xs : List (List Val)), lde row size id sz i j (.arr e sz' xs) = if sz = sz' then lde2 row size id j xs[i]? else none := fun _ _ _ _ _ _ _ _ _ => rfl
theorem ev2_26 : ∀ (row : Bool) (size id j : Nat) (el : List Val), lde2 row size id j (some el) = oqi id (vl row size el j) := fun _ _ _ _ _ => rfl
theorem ev2_27 : ∀ (size : Nat) (h : Hp) (id off : Nat) (y : Val), sto size h (.ptr id off) y = stb size id off (h.get id) (vcells y) := sto_ptr
theorem ev2_28 : ∀ (size id off : Nat) (cs es : List Val), stb size id off (.blk cs) (some es) = if es.all one1 = true ∧ es.length = size ∧ off + es.length ≤ cs.length then some (some id, ⟨.any, some (.blk (splice cs off es)), none⟩) else none := fun _ _ _ _ _ => rfl
theorem ev2_29 : ∀ (size : Nat) (h : Hp) (id sz i j : Nat) (y : Val), sto size h (.ep id sz i j) y = ste size id sz i j (h.get id) (vcells y) := sto_ep
theorem ev2_30 : ∀ (size id sz sz' i j e : Nat) (xs : List (List Val)) (es : List Val), ste size id sz i j (.arr e sz' xs) (some es) = if sz = sz' then ste2 size id e sz i j xs es xs[i]? else none := fun _ _ _ _ _ _ _ _ _ => rfl
theorem ev2_31 : ∀ (size id e sz i j : Nat) (xs : List (List Val)) (es el : List Val), ste2 size id e sz i j xs es (some el) = if es.all one1 = true ∧ es.length = size ∧ j + es.length ≤ el.length then some (some id, ⟨.any, some (.arr e sz (xs.set i (splice el j es))), none⟩) else none := fun _ _ _ _ _ _ _ _ _ => rfl
theorem ev2_32 : ∀ (z : List Value) (h : Hp), alc z h = some (none, ⟨.ptr (List.length h) 0, none, some (.blk (z.map .c))⟩) := fun _ _ => rfl
theorem ev2_33 : ∀ (h : Hp) (x : Val), aBox h x = abx h (vcells x) := abx_eq
theorem ev2_34 : ∀ (h : Hp) (cs : List Val), abx h (some cs) = if cs.all one1 = true then some (none, ⟨.ptr (List.length h) 0, none, some (.blk cs)⟩) else none := fun _ _ => rfl
theorem ev2_35 : ∀ (size sz : Nat) (xs : List (List Val)) (k : IntKind) (n : Int), ixs size (.sl sz xs) (.c (.int k n)) = if sz = size ∧ 0 ≤ n then oqr xs[n.toNat]? else none := ixs_sl
theorem ev2_36 : ∀ (el : List Val), oqr (some el) = some (none, ⟨.rp el, none, none⟩) := fun _ => rfl
theorem ev2_37 : ∀ (size id len : Nat) (k : IntKind) (n : Int), ixs size (.os id len) (.c (.int k n)) = if 0 ≤ n ∧ n < (len : Int) then some (none, ⟨.ep id size n.toNat 0, none, none⟩) else none := fun _ _ _ _ _ => rfl
theorem ev2_38 : ∀ (len size id o : Nat) (k : IntKind) (n : Int), ixa len size (.ptr id o) (.c (.int k n)) = if 0 ≤ n ∧ n < (len : Int) then some (none, ⟨.ptr id (o + n.toNat * size), none, none⟩) else none := fun _ _ _ _ _ _ => rfl
theorem ev2_39 : ∀ (sz : Nat) (xs : List (List Val)), len_ (.sl sz xs) = some (none, ⟨.c (.int .i64 xs.length), none, none⟩) := fun _ _ => rfl
theorem ev2 : (∀ (k : IntKind) (a b : Int), aBin .leq (.c (.int k a)) (.c (.int k b)) = some (none, ⟨.c (.bool (decide (a ≤ b))), none, none⟩)) ∧ (∀ (k : IntKind) (a b : Int), aBin .gtr (.c (.int k a)) (.c (.int k b)) = some (none, ⟨.c (.bool (decide (b < a))), none, none⟩)) ∧ (∀ (k : IntKind) (a b : Int), aBin .geq (.c (.int k a)) (.c (.int k b)) = some (none, ⟨.c (.bool (decide (b ≤ a))), none, none⟩)) ∧ (∀ (k : IntKind) (a b : Int), aBin .and (.c (.int k a)) (.c (.int k b)) = some (none, ⟨.c (.int k (iand k a b)), none, none⟩)) ∧ (∀ (k : IntKind) (a b : Int), aBin .or (.c (.int k a)) (.c (.int k b)) = some (none, ⟨.c (.int k (ior k a b)), none, none⟩)) ∧ (∀ (k : IntKind) (a b : Int), aBin .andNot (.c (.int k a)) (.c (.int k b)) = some (none, ⟨.c (.int k (iandNot k a b)), none, none⟩)) ∧ (∀ (k k' : IntKind) (a b : Int), aBin .shl (.c (.int k a)) (.c (.int k' b)) = if 0 ≤ b then some (none, ⟨.c (.int k (ishl k a b)), none, none⟩) else none) ∧ (∀ (k k' : IntKind) (a b : Int), aBin .shr (.c (.int k a)) (.c (.int k' b)) = if 0 ≤ b then some (none, ⟨.c (.int k (ishr k a b)), none, none⟩) else none) ∧ (∀ (k : IntKind) (a b : Int), aBin .quo (.c (.int k a)) (.c (.int k b)) = if b ≠ 0 then some (none, ⟨.c (.int k (k.wrap (a.tdiv b))), none, none⟩) else none) ∧ (∀ (k : IntKind) (a b : Int), aBin .rem (.c (.int k a)) (.c (.int k b)) = if b ≠ 0 then some (none, ⟨.c (.int k (a.tmod b)), none, none⟩) else none) ∧ (∀ (b : Bool), aUn .not (.c (.bool b)) = some (none, ⟨.c (.bool !b), none, none⟩)) ∧ (∀ (k : IntKind) (n : Int), aUn .neg (.c (.int k n)) = some (none, ⟨.c (.int k (k.wrap (0 - n))), none, none⟩)) ∧ (∀ (k k' : IntKind) (a b : Int), aMax (.c (.int k a)) (.c (.int k' b)) = some (none, ⟨.c (.int k (if b > a then b else a)), none, none⟩)) ∧ (∀ (o id k : Nat), fa o (.ptr id k) = some (none, ⟨.ptr id (k + o), none, none⟩)) ∧ (∀ (o id sz i j : Nat), fa o (.ep id sz i j) = some (none, ⟨.ep id sz i (j + o), none, none⟩)) ∧ (∀ (o : Nat) (cs : List Val), fa o (.rp cs) = if o ≤ cs.length then some (none, ⟨.rp (cs.drop o), none, none⟩) else none) ∧ (∀ (off : Nat) (row : Bool) (size : Nat) (cs : List Val), fvl off row size (.agg cs) = oq (vl row size cs off)) ∧ (∀ (r : Val), oq (some r) = some (none, ⟨r, none, none⟩)) ∧ (∀ (size : Nat) (cs : List Val) (o : Nat), vl false size cs o = cs[o]?) ∧ (∀ (size : Nat) (cs : List Val) (o : Nat), vl true size cs o = if o + size ≤ cs.length then some (.agg ((cs.drop o).take size)) else none) ∧ (∀ (row : Bool) (size : Nat) (h : Hp) (id off : Nat), ld row size h (.ptr id off) = ldo row size id off (h.get id)) ∧ (∀ (row : Bool) (size id off : Nat) (cs : List Val), ldo row size id off (.blk cs) = oqi id (vl row size cs off)) ∧ (∀ (id : Nat) (r : Val), oqi id (some r) = some (some id, ⟨r, none, none⟩)) ∧ (∀ (row : Bool) (size : Nat) (h : Hp) (cs : List Val), ld row size h (.rp cs) = oq (vl row size cs 0)) ∧ (∀ (row : Bool) (size : Nat) (h : Hp) (id sz i j : Nat), ld row size h (.ep id sz i j) = lde row size id sz i j (h.get id)) ∧ (∀ (row : Bool) (size id sz sz' i j e : Nat) (xs : List (List Val)), lde row size id sz i j (.arr e sz' xs) = if sz = sz' then lde2 row size id j xs[i]? else none) ∧ (∀ (row : Bool) (size id j : Nat) (el : List Val), lde2 row size id j (some el) = oqi id (vl row size el j)) ∧ (∀ (size : Nat) (h : Hp) (id off : Nat) (y : Val), sto size h (.ptr id off) y = stb size id off (h.get id) (vcells y)) ∧ (∀ (size id off : Nat) (cs es : List Val), stb size id off (.blk cs) (some es) = if es.all one1 = true ∧ es.length = size ∧ off + es.length ≤ cs.length then some (some id, ⟨.any, some (.blk (splice cs off es)), none⟩) else none) ∧ (∀ (size : Nat) (h : Hp) (id sz i j : Nat) (y : Val), sto size h (.ep id sz i j) y = ste size id sz i j (h.get id) (vcells y)) ∧ (∀ (size id sz sz' i j e : Nat) (xs : List (List Val)) (es : List Val), ste size id sz i j (.arr e sz' xs) (some es) = if sz = sz' then ste2 size id e sz i j xs es xs[i]? else none) ∧ (∀ (size id e sz i j : Nat) (xs : List (List Val)) (es el : List Val), ste2 size id e sz i j xs es (some el) = if es.all one1 = true ∧ es.length = size ∧ j + es.length ≤ el.length then some (some id, ⟨.any, some (.arr e sz (xs.set i (splice el j es))), none⟩) else none) ∧ (∀ (z : List Value) (h : Hp), alc z h = some (none, ⟨.ptr (List.length h) 0, none, some (.blk (z.map .c))⟩)) ∧ (∀ (h : Hp) (x : Val), aBox h x = abx h (vcells x)) ∧ (∀ (h : Hp) (cs : List Val), abx h (some cs) = if cs.all one1 = true then some (none, ⟨.ptr (List.length h) 0, none, some (.blk cs)⟩) else none) ∧ (∀ (size sz : Nat) (xs : List (List Val)) (k : IntKind) (n : Int), ixs size (.sl sz xs) (.c (.int k n)) = if sz = size ∧ 0 ≤ n then oqr xs[n.toNat]? else none) ∧ (∀ (el : List Val), oqr (some el) = some (none, ⟨.rp el, none, none⟩)) ∧ (∀ (size id len : Nat) (k : IntKind) (n : Int), ixs size (.os id len) (.c (.int k n)) = if 0 ≤ n ∧ n < (len : Int) then some (none, ⟨.ep id size n.toNat 0, none, none⟩) else none) ∧ (∀ (len size id o : Nat) (k : IntKind) (n : Int), ixa len size (.ptr id o) (.c (.int k n)) = if 0 ≤ n ∧ n < (len : Int) then some (none, ⟨.ptr id (o + n.toNat * size), none, none⟩) else none) ∧ (∀ (sz : Nat) (xs : List (List Val)), len_ (.sl sz xs) = some (none, ⟨.c (.int .i64 xs.length), none, none⟩)) := ⟨ev2_0, ev2_1, ev2_2, ev2_3, ev2_4, ev2_5, ev2_6, ev2_7, ev2_8, ev2_9, ev2_10, ev2_11, ev2_12, ev2_13, ev2_14, ev2_15, ev2_16, ev2_17, ev2_18, ev2_19, ev2_20, ev2_21, ev2_22, ev2_23, ev2_24, ev2_25, ev2_26, ev2_27, ev2_28, ev2_29, ev2_30, ev2_31, ev2_32, ev2_33, ev2_34, ev2_35, ev2_36, ev2_37, ev2_38, ev2_39⟩
theorem ev3_0 : ∀ (id n : Nat), len_ (.os id n) = some (none, ⟨.c (.int .i64 n), none, none⟩) := fun _ _ => rfl
theorem ev3_1 : len_ (.c (.slice none 0 0)) = some (none, ⟨.c (.int .i64 0), none, none⟩) := rfl
theorem ev3_2 : ∀ (pl : List (Nat × Nat)) (z : List Value) (ps : List (Nat × Val)), bld pl z ps = obl (vfill (fun i => pl[i]?) (z.map .c) ps) := bld_eq
theorem ev3_3 : ∀ (rs : List Val), obl (some rs) = some (none, ⟨.agg rs, none, none⟩) := fun _ => rfl
theorem ev3_4 : ∀ (p : Nat → Option (Nat × Nat)) (cs : List Val), vfill p cs [] = some cs := fun _ _ => rfl
theorem ev3_5 : ∀ (p : Nat → Option (Nat × Nat)) (cs : List Val) (i : Nat) (v : Val) (r : List (Nat × Val)), vfill p cs ((i, v) :: r) = vfl p cs r (p i) (vcells v) := vfl_eq
theorem ev3_6 : ∀ (p : Nat → Option (Nat × Nat)) (cs : List Val) (r : List (Nat × Val)) (off size : Nat) (es : List Val), vfl p cs r (some (off, size)) (some es) = if es.length = size ∧ off + es.length ≤ cs.length then vfill p (splice cs off es) r else none := fun _ _ _ _ _ _ => rfl
theorem ev3_7 : ∀ (size len : Nat) (ps : List (Nat × Val)), bsl size len ps = if len * size ≤ 16777216 ∧ ps.length = len then obs size (vels size 0 ps) else none := bsl_eq
theorem ev3_8 : ∀ (size : Nat) (xs : List (List Val)), obs size (some xs) = some (none, ⟨.sl size xs, none, none⟩) := fun _ _ => rfl
theorem ev3_9 : ∀ (sz k : Nat), vels sz k [] = some [] := fun _ _ => rfl
theorem ev3_10 : ∀ (sz k i : Nat) (v : Val) (r : List (Nat × Val)), vels sz k ((i, v) :: r) = if i = k then vel2 sz (vcells v) (vels sz (k + 1) r) else none := vels_eq
theorem ev3_11 : ∀ (sz : Nat) (es : List Val) (xs : List (List Val)), vel2 sz (some es) (some xs) = if es.length = sz ∧ es.all one1 = true then some (es :: xs) else none := fun _ _ _ => rfl
theorem ev3_12 : ∀ (e size bytes : Nat) (h : Hp) (sz : Nat) (ys : List (List Val)), apd e size bytes h (.c (.slice none 0 0)) (.sl sz ys) = if sz = size ∧ ys.length * bytes ≤ 140737488355328 ∧ ys.length ≤ 140737488355328 then some (none, ⟨.os (List.length h) ys.length, none, some (.arr e size ys)⟩) else none := fun _ _ _ _ _ _ => rfl
theorem ev3_13 : ∀ (e size bytes : Nat) (h : Hp) (id len sz' : Nat) (ys : List (List Val)), apd e size bytes h (.os id len) (.sl sz' ys) = apo e size bytes h id len sz' ys (h.get id) := apd_os
theorem ev3_14 : ∀ (e size bytes : Nat) (h : Hp) (id len sz' : Nat) (ys : List (List Val)) (e' sz : Nat) (xs : List (List Val)), apo e size bytes h id len sz' ys (.arr e' sz xs) = if e' = e ∧ sz = size ∧ sz' = size ∧ len = xs.length ∧ (xs.length + ys.length) * bytes ≤ 140737488355328 ∧ xs.length + ys.length ≤ 140737488355328 then some (some id, ⟨.os (List.length h) (xs.length + ys.length), some .gone, some (.arr e size (xs ++ ys))⟩) else none := fun _ _ _ _ _ _ _ _ _ _ _ => rfl
theorem ev3_15 : ∀ (e size bytes : Nat) (z : List Value) (h : Hp) (n n' : Int), mks e size bytes z h (.c (.int .i64 n)) (.c (.int .i64 n')) = if n' = n ∧ 0 ≤ n ∧ n.toNat * bytes ≤ 140737488355328 ∧ n.toNat ≤ 140737488355328 then some (none, ⟨.os (List.length h) n.toNat, none, some (.arr e size (List.replicate n.toNat (z.map .c)))⟩) else none := fun _ _ _ _ _ _ _ => rfl
theorem ev3_16 : ∀ (k k' : IntKind) (n : Int), cnv k (.c (.int k' n)) = some (none, ⟨.c (.int k (k.wrap n)), none, none⟩) := fun _ _ _ => rfl
theorem ev3_17 : ∀ (cs : List Val), vcells (.agg cs) = some cs := fun _ => rfl
theorem ev3_18 : ∀ (k : IntKind) (n : Int), vcells (.c (.int k n)) = some [.c (.int k n)] := fun _ _ => rfl
theorem ev3_19 : ∀ (b : Bool), vcells (.c (.bool b)) = some [.c (.bool b)] := fun _ => rfl
theorem ev3_20 : ∀ (b : ByteArray), vcells (.c (.string b)) = some [.c (.string b)] := fun _ => rfl
theorem ev3_21 : vcells (.c (.slice none 0 0)) = some [.c (.slice none 0 0)] := rfl
theorem ev3_22 : ∀ (a b : Nat), vcells (.ptr a b) = some [.ptr a b] := fun _ _ => rfl
theorem ev3_23 : ∀ (a b : Nat), vcells (.os a b) = some [.os a b] := fun _ _ => rfl
theorem ev3_24 : ∀ (a : Nat) (xs : List (List Val)), vcells (.sl a xs) = some [.sl a xs] := fun _ _ => rfl
theorem ev3_25 : ∀ (f : FuncId) (xs : List Val), vcells (.fn f xs) = some [.fn f xs] := fun _ _ => rfl
theorem ev3_26 : ∀ (k : IntKind) (n : Int), one1 (.c (.int k n)) = true := fun _ _ => rfl
theorem ev3_27 : ∀ (b : Bool), one1 (.c (.bool b)) = true := fun _ => rfl
theorem ev3_28 : ∀ (b : ByteArray), one1 (.c (.string b)) = true := fun _ => rfl
theorem ev3_29 : one1 (.c (.slice none 0 0)) = true := rfl
theorem ev3_30 : ∀ (a b : Nat), one1 (.ptr a b) = true := fun _ _ => rfl
theorem ev3_31 : ∀ (a b : Nat), one1 (.os a b) = true := fun _ _ => rfl
theorem ev3_32 : ∀ (a : Nat) (xs : List (List Val)), one1 (.sl a xs) = true := fun _ _ => rfl
theorem ev3_33 : ∀ (f : FuncId) (xs : List Val), one1 (.fn f xs) = true := fun _ _ => rfl
theorem ev3_34 : ∀ (cs : List Val) (o : Nat) (es : List Val), splice cs o es = cs.take o ++ es ++ cs.drop (o + es.length) := fun _ _ _ => rfl
theorem ev3_35 : ∀ (α β : Type) (f : α → β), List.map f [] = [] := fun _ _ _ => rfl
theorem ev3_36 : ∀ (α β : Type) (f : α → β) (a : α) (l : List α), List.map f (a :: l) = f a :: List.map f l := fun _ _ _ _ _ => rfl
theorem ev3_37 : ∀ (α : Type), List.length ([] : List α) = 0 := fun _ => rfl
theorem ev3_38 : ∀ (α : Type) (a : α) (l : List α), List.length (a :: l) = List.length l + 1 := fun _ _ _ => rfl
theorem ev3_39 : ∀ (α : Type) (l l' : List α), List.length (l ++ l') = List.length l + List.length l' := fun α l l' => List.length_append
theorem ev3 : (∀ (id n : Nat), len_ (.os id n) = some (none, ⟨.c (.int .i64 n), none, none⟩)) ∧ (len_ (.c (.slice none 0 0)) = some (none, ⟨.c (.int .i64 0), none, none⟩)) ∧ (∀ (pl : List (Nat × Nat)) (z : List Value) (ps : List (Nat × Val)), bld pl z ps = obl (vfill (fun i => pl[i]?) (z.map .c) ps)) ∧ (∀ (rs : List Val), obl (some rs) = some (none, ⟨.agg rs, none, none⟩)) ∧ (∀ (p : Nat → Option (Nat × Nat)) (cs : List Val), vfill p cs [] = some cs) ∧ (∀ (p : Nat → Option (Nat × Nat)) (cs : List Val) (i : Nat) (v : Val) (r : List (Nat × Val)), vfill p cs ((i, v) :: r) = vfl p cs r (p i) (vcells v)) ∧ (∀ (p : Nat → Option (Nat × Nat)) (cs : List Val) (r : List (Nat × Val)) (off size : Nat) (es : List Val), vfl p cs r (some (off, size)) (some es) = if es.length = size ∧ off + es.length ≤ cs.length then vfill p (splice cs off es) r else none) ∧ (∀ (size len : Nat) (ps : List (Nat × Val)), bsl size len ps = if len * size ≤ 16777216 ∧ ps.length = len then obs size (vels size 0 ps) else none) ∧ (∀ (size : Nat) (xs : List (List Val)), obs size (some xs) = some (none, ⟨.sl size xs, none, none⟩)) ∧ (∀ (sz k : Nat), vels sz k [] = some []) ∧ (∀ (sz k i : Nat) (v : Val) (r : List (Nat × Val)), vels sz k ((i, v) :: r) = if i = k then vel2 sz (vcells v) (vels sz (k + 1) r) else none) ∧ (∀ (sz : Nat) (es : List Val) (xs : List (List Val)), vel2 sz (some es) (some xs) = if es.length = sz ∧ es.all one1 = true then some (es :: xs) else none) ∧ (∀ (e size bytes : Nat) (h : Hp) (sz : Nat) (ys : List (List Val)), apd e size bytes h (.c (.slice none 0 0)) (.sl sz ys) = if sz = size ∧ ys.length * bytes ≤ 140737488355328 ∧ ys.length ≤ 140737488355328 then some (none, ⟨.os (List.length h) ys.length, none, some (.arr e size ys)⟩) else none) ∧ (∀ (e size bytes : Nat) (h : Hp) (id len sz' : Nat) (ys : List (List Val)), apd e size bytes h (.os id len) (.sl sz' ys) = apo e size bytes h id len sz' ys (h.get id)) ∧ (∀ (e size bytes : Nat) (h : Hp) (id len sz' : Nat) (ys : List (List Val)) (e' sz : Nat) (xs : List (List Val)), apo e size bytes h id len sz' ys (.arr e' sz xs) = if e' = e ∧ sz = size ∧ sz' = size ∧ len = xs.length ∧ (xs.length + ys.length) * bytes ≤ 140737488355328 ∧ xs.length + ys.length ≤ 140737488355328 then some (some id, ⟨.os (List.length h) (xs.length + ys.length), some .gone, some (.arr e size (xs ++ ys))⟩) else none) ∧ (∀ (e size bytes : Nat) (z : List Value) (h : Hp) (n n' : Int), mks e size bytes z h (.c (.int .i64 n)) (.c (.int .i64 n')) = if n' = n ∧ 0 ≤ n ∧ n.toNat * bytes ≤ 140737488355328 ∧ n.toNat ≤ 140737488355328 then some (none, ⟨.os (List.length h) n.toNat, none, some (.arr e size (List.replicate n.toNat (z.map .c)))⟩) else none) ∧ (∀ (k k' : IntKind) (n : Int), cnv k (.c (.int k' n)) = some (none, ⟨.c (.int k (k.wrap n)), none, none⟩)) ∧ (∀ (cs : List Val), vcells (.agg cs) = some cs) ∧ (∀ (k : IntKind) (n : Int), vcells (.c (.int k n)) = some [.c (.int k n)]) ∧ (∀ (b : Bool), vcells (.c (.bool b)) = some [.c (.bool b)]) ∧ (∀ (b : ByteArray), vcells (.c (.string b)) = some [.c (.string b)]) ∧ (vcells (.c (.slice none 0 0)) = some [.c (.slice none 0 0)]) ∧ (∀ (a b : Nat), vcells (.ptr a b) = some [.ptr a b]) ∧ (∀ (a b : Nat), vcells (.os a b) = some [.os a b]) ∧ (∀ (a : Nat) (xs : List (List Val)), vcells (.sl a xs) = some [.sl a xs]) ∧ (∀ (f : FuncId) (xs : List Val), vcells (.fn f xs) = some [.fn f xs]) ∧ (∀ (k : IntKind) (n : Int), one1 (.c (.int k n)) = true) ∧ (∀ (b : Bool), one1 (.c (.bool b)) = true) ∧ (∀ (b : ByteArray), one1 (.c (.string b)) = true) ∧ (one1 (.c (.slice none 0 0)) = true) ∧ (∀ (a b : Nat), one1 (.ptr a b) = true) ∧ (∀ (a b : Nat), one1 (.os a b) = true) ∧ (∀ (a : Nat) (xs : List (List Val)), one1 (.sl a xs) = true) ∧ (∀ (f : FuncId) (xs : List Val), one1 (.fn f xs) = true) ∧ (∀ (cs : List Val) (o : Nat) (es : List Val), splice cs o es = cs.take o ++ es ++ cs.drop (o + es.length)) ∧ (∀ (α β : Type) (f : α → β), List.map f [] = []) ∧ (∀ (α β : Type) (f : α → β) (a : α) (l : List α), List.map f (a :: l) = f a :: List.map f l) ∧ (∀ (α : Type), List.length ([] : List α) = 0) ∧ (∀ (α : Type) (a : α) (l : List α), List.length (a :: l) = List.length l + 1) ∧ (∀ (α : Type) (l l' : List α), List.length (l ++ l') = List.length l + List.length l') := ⟨ev3_0, ev3_1, ev3_2, ev3_3, ev3_4, ev3_5, ev3_6, ev3_7, ev3_8, ev3_9, ev3_10, ev3_11, ev3_12, ev3_13, ev3_14, ev3_15, ev3_16, ev3_17, ev3_18, ev3_19, ev3_20, ev3_21, ev3_22, ev3_23, ev3_24, ev3_25, ev3_26, ev3_27, ev3_28, ev3_29, ev3_30, ev3_31, ev3_32, ev3_33, ev3_34, ev3_35, ev3_36, ev3_37, ev3_38, ev3_39⟩
theorem ev4_0 : ∀ (α β : Type) (f : α → β) (l : List α), List.length (List.map f l) = List.length l := fun α β f l => List.length_map ..
theorem ev4_1 : ∀ (α : Type) (l : List α), List.drop 0 l = l := fun _ _ => rfl
theorem ev4_2 : ∀ (α : Type) (a : α) (l : List α) (n : Nat), List.drop (n + 1) (a :: l) = List.drop n l := fun _ _ _ _ => rfl
theorem ev4_3 : ∀ (α : Type) (n : Nat), List.drop n ([] : List α) = [] := fun α n => List.drop_nil
theorem ev4_4 : ∀ (α : Type) (l : List α), List.take 0 l = [] := fun _ _ => rfl
theorem ev4_5 : ∀ (α : Type) (a : α) (l : List α) (n : Nat), List.take (n + 1) (a :: l) = a :: List.take n l := fun _ _ _ _ => rfl
theorem ev4_6 : ∀ (α : Type) (n : Nat), List.take n ([] : List α) = [] := fun α n => List.take_nil
theorem ev4_7 : ∀ (α : Type) (a : α) (l : List α), (a :: l)[0]? = some a := fun _ _ _ => rfl
theorem ev4_8 : ∀ (α : Type) (a : α) (l : List α) (n : Nat), (a :: l)[n + 1]? = l[n]? := fun _ _ _ _ => rfl
theorem ev4_9 : ∀ (α : Type) (p : α → Bool), List.all [] p = true := fun _ _ => rfl
theorem ev4_10 : ∀ (α : Type) (p : α → Bool) (a : α) (l : List α), List.all (a :: l) p = (p a && List.all l p) := fun _ _ _ _ => rfl
theorem ev4_11 : ∀ (α : Type) (l l' l'' : List α), l ++ l' ++ l'' = l ++ (l' ++ l'') := fun α l l' l'' => List.append_assoc l l' l''
theorem ev4_12 : ∀ (α : Type) (a : α) (l l' : List α), (a :: l) ++ l' = a :: (l ++ l') := fun _ _ _ _ => rfl
theorem ev4_13 : ∀ (α : Type) (l : List α), [] ++ l = l := fun _ _ => rfl
theorem ev4_14 : ∀ (α : Type) (l : List α), (l.toArray).toList = l := fun _ _ => rfl
theorem ev4_15 : ∀ (ops : Array Oper) (j : Nat), gdst ops j = ((ops[j]?).bind (·.dst)).getD 1000000 := fun _ _ => rfl
theorem ev4_16 : ∀ (α : Type) (l : List α) (n : Nat), (l.toArray)[n]? = l[n]? := fun α l n => List.getElem?_toArray
theorem ev4_17 : ∀ (α β : Type) (a : α) (f : α → Option β), Option.bind (some a) f = f a := fun _ _ _ _ => rfl
theorem ev4_18 : ∀ (α : Type) (a d : α), Option.getD (some a) d = a := fun _ _ _ => rfl
theorem ev4_19 : ∀ (b : Bool), (true && b) = b := fun b => Bool.true_and b
theorem ev4_20 : ∀ (b : Bool), (b && true) = b := fun b => Bool.and_true b
theorem ev4_21 : ∀ (p : Prop), (True ∧ p) = p := fun p => true_and p
theorem ev4_22 : ∀ (p : Prop), (p ∧ True) = p := fun p => and_true p
theorem ev4_23 : ∀ (n : Nat), (n ≤ n) = True := fun n => eq_true (Nat.le_refl n)
theorem ev4_24 : ∀ (n : Nat), 0 + n = n := Nat.zero_add
theorem ev4_25 : ∀ (n : Nat), n + 0 = n := fun _ => rfl
theorem ev4_26 : ∀ (α : Type) (a : α), (a = a) = True := fun α a => eq_true rfl
theorem ev4_27 : ∀ (α : Type) (a b : α), (if True then a else b) = a := fun α a b => if_pos trivial
theorem ev4_28 : ∀ (α : Type) (a b : α), (if False then a else b) = b := fun α a b => if_neg not_false
theorem ev4_29 : (false = true) = False := by simp
theorem ev4_30 : (true = false) = False := by simp
theorem ev4_31 : ∀ (α : Type) (a b : α), (if true = true then a else b) = a := fun α a b => if_pos rfl
theorem ev4_32 : ∀ (n : Nat), (0 ≤ (n : Int)) = True := fun n => eq_true (Int.natCast_nonneg n)
theorem ev4_33 : ∀ (n : Nat), ((n : Int)).toNat = n := fun n => Int.toNat_natCast n
theorem lenA : ∀ (d : Option TD) (h : Hp) (sz : Nat) (xs : List (List Val)), aLenH d h (.sl sz xs) = aLen d (.sl sz xs) := fun _ _ _ _ => rfl
theorem lenB : ∀ (d : Option TD) (h : Hp) (id n : Nat), aLenH d h (.os id n) = aLen d (.os id n) := fun _ _ _ _ => rfl
theorem lenC : ∀ (d : Option TD) (h : Hp) (v : Value), aLenH d h (.c v) = aLen d (.c v) := fun _ _ _ => rfl
theorem ev4 : (∀ (d : Option TD) (h : Hp) (sz : Nat) (xs : List (List Val)), aLenH d h (.sl sz xs) = aLen d (.sl sz xs)) ∧ (∀ (d : Option TD) (h : Hp) (id n : Nat), aLenH d h (.os id n) = aLen d (.os id n)) ∧ (∀ (d : Option TD) (h : Hp) (v : Value), aLenH d h (.c v) = aLen d (.c v)) ∧ (∀ (α β : Type) (f : α → β) (l : List α), List.length (List.map f l) = List.length l) ∧ (∀ (α : Type) (l : List α), List.drop 0 l = l) ∧ (∀ (α : Type) (a : α) (l : List α) (n : Nat), List.drop (n + 1) (a :: l) = List.drop n l) ∧ (∀ (α : Type) (n : Nat), List.drop n ([] : List α) = []) ∧ (∀ (α : Type) (l : List α), List.take 0 l = []) ∧ (∀ (α : Type) (a : α) (l : List α) (n : Nat), List.take (n + 1) (a :: l) = a :: List.take n l) ∧ (∀ (α : Type) (n : Nat), List.take n ([] : List α) = []) ∧ (∀ (α : Type) (a : α) (l : List α), (a :: l)[0]? = some a) ∧ (∀ (α : Type) (a : α) (l : List α) (n : Nat), (a :: l)[n + 1]? = l[n]?) ∧ (∀ (α : Type) (p : α → Bool), List.all [] p = true) ∧ (∀ (α : Type) (p : α → Bool) (a : α) (l : List α), List.all (a :: l) p = (p a && List.all l p)) ∧ (∀ (α : Type) (l l' l'' : List α), l ++ l' ++ l'' = l ++ (l' ++ l'')) ∧ (∀ (α : Type) (a : α) (l l' : List α), (a :: l) ++ l' = a :: (l ++ l')) ∧ (∀ (α : Type) (l : List α), [] ++ l = l) ∧ (∀ (α : Type) (l : List α), (l.toArray).toList = l) ∧ (∀ (ops : Array Oper) (j : Nat), gdst ops j = ((ops[j]?).bind (·.dst)).getD 1000000) ∧ (∀ (α : Type) (l : List α) (n : Nat), (l.toArray)[n]? = l[n]?) ∧ (∀ (α β : Type) (a : α) (f : α → Option β), Option.bind (some a) f = f a) ∧ (∀ (α : Type) (a d : α), Option.getD (some a) d = a) ∧ (∀ (b : Bool), (true && b) = b) ∧ (∀ (b : Bool), (b && true) = b) ∧ (∀ (p : Prop), (True ∧ p) = p) ∧ (∀ (p : Prop), (p ∧ True) = p) ∧ (∀ (n : Nat), (n ≤ n) = True) ∧ (∀ (n : Nat), 0 + n = n) ∧ (∀ (n : Nat), n + 0 = n) ∧ (∀ (α : Type) (a : α), (a = a) = True) ∧ (∀ (α : Type) (a b : α), (if True then a else b) = a) ∧ (∀ (α : Type) (a b : α), (if False then a else b) = b) ∧ ((false = true) = False) ∧ ((true = false) = False) ∧ (∀ (α : Type) (a b : α), (if true = true then a else b) = a) ∧ (∀ (n : Nat), (0 ≤ (n : Int)) = True) ∧ (∀ (n : Nat), ((n : Int)).toNat = n) := ⟨lenA, lenB, lenC, ev4_0, ev4_1, ev4_2, ev4_3, ev4_4, ev4_5, ev4_6, ev4_7, ev4_8, ev4_9, ev4_10, ev4_11, ev4_12, ev4_13, ev4_14, ev4_15, ev4_16, ev4_17, ev4_18, ev4_19, ev4_20, ev4_21, ev4_22, ev4_23, ev4_24, ev4_25, ev4_26, ev4_27, ev4_28, ev4_29, ev4_30, ev4_31, ev4_32, ev4_33⟩

/-- The end of a function that hands new objects to its caller. -/
theorem Fin_ext {T : Nat → Option TD} {fn : Func} {h : Hp} {Q : Val → Hp → Prop} {e : Exit} {s : St} {r0 : Val} (ext : List Ob) (r : Val) (he : e = .normal ∨ e = .ret) (hd : s.d = []) (hr : vres T s fn.results = some r0) (hh : s.h = h ++ ext)
    (hrf : rf (List.length (h ++ ext)) (h ++ ext) r0 = r) (hwf : HOk h) (hx : ∀ o, o ∈ ext → OkO (fun i => i < List.length (h ++ ext)) o) (hok : Ok (fun i => i < List.length (h ++ ext)) r) (hq : Q r (h ++ ext)) : Fin T fn h Q e s := by
  have e : { s with h := s.h.gones s.d } = s := by cases s; simp only at hd; subst hd; rfl
  have e' : s.h.gones s.d = h ++ ext := by rw [hd]; exact hh
  refine ⟨he, by rw [hd]; simp, r0, h ++ ext, ?_, by rw [List.length_append]; omega, by rw [hh]; exact Nat.le_refl _, ?_, ?_, ?_⟩
  · rw [e]; exact hr
  · intro i hi
    rw [e']
    refine .inl ⟨rfl, ?_⟩
    by_cases hl : i < List.length h
    · rw [get_append_l ext hl]
      exact (hwf i hl).mono fun j hj => by rw [List.length_append]; omega
    · obtain ⟨k, rfl⟩ : ∃ k, i = List.length h + k := ⟨i - List.length h, by omega⟩
      rw [get_append_r ext k]
      rw [List.length_append] at hi
      have hk : k < ext.length := by omega
      have : Hp.get ext k = ext[k] := by unfold Hp.get; rw [List.getElem?_eq_getElem hk]; rfl
      rw [this]
      exact hx _ (List.getElem_mem hk)
  · rw [e', hrf]; exact hok
  · rw [e', hrf]; exact hq
end Go.Vm
/- Ranging over a function: the round, and the statement. -/
namespace Go.Vm
open Go Go.RowKit
variable {P : Program} {G : List (Nat × Obj)}

def rEnd : Exit → Option (Bool × LoopState × Option Code)
  | .normal => some (true, .ready, none)
  | .ret => some (false, .done, some .ret)
  | .exit id => some (false, .done, some (.exit id))
  | _ => none

/-- What a round leaves to the function that yielded. -/
def REnd (L : Nat) (o : LoopState → Option Code → Ob) (n0 : Nat) (Q : Val → Hp → Prop) : Exit → St → Prop := fun e s =>
  ∃ b st pe h', rEnd e = some (b, st, pe) ∧ s.h.get L = o .busy none ∧ n0 ≤ List.length h' ∧ List.length h' ≤ s.h.length ∧
    (∀ i, i < List.length h' → FO (List.length h') (List.set s.h L (o st pe)) (Hp.get (List.set s.h L (o st pe)) i) (Hp.get h' i)) ∧ Q (.c (.bool b)) h'

def rArgs (m : Nat) : List Tmp → List Val → List (Nat × Val) → List (Nat × Val)
  | p :: ps, a :: as, t => rArgs m ps as (if p < m then (p, a) :: t else t)
  | _, _, t => t

theorem put_lk {V : View} {D : Nat → Prop} {w : World} {m d : Nat} {t : List (Nat × Val)} {tm : Array Value} {r : Val} {x : Value} (hsz : tm.size = m) (h : ∀ i, RV V D w (lk t i) (tm.getD i undef)) (hx : RV V D w r x) :
    (tm.setIfInBounds d x).size = m ∧ ∀ i, RV V D w (lk (if d < m then (d, r) :: t else t) i) ((tm.setIfInBounds d x).getD i undef) := by
  refine ⟨by rw [Array.size_setIfInBounds]; exact hsz, fun i => ?_⟩
  by_cases hlt : d < m
  · simp only [hlt, if_true, lk]
    by_cases e : i = d
    · subst e
      have : i < tm.size := by rw [hsz]; exact hlt
      simp only [if_true, Array.getD_eq_getD_getElem?, Array.getElem?_setIfInBounds_self_of_lt this, Option.getD_some]
      exact hx
    · simp only [e, if_false, Array.getD_eq_getD_getElem?, Array.getElem?_setIfInBounds_ne (Ne.symm e)]
      have := h i
      rw [Array.getD_eq_getD_getElem?] at this
      exact this
  · simp only [hlt, if_false]
    have hge : tm.size ≤ d := by rw [hsz]; exact Nat.le_of_not_lt hlt
    rw [Array.setIfInBounds_eq_of_size_le hge]
    exact h i

theorem rArgs_ok {V : View} {D : Nat → Prop} {w : World} {m : Nat} : ∀ (ps : List Tmp) (as : List Val) (ax : List Value) (t : List (Nat × Val)) (tm : Array Value), as.length = ax.length →
    (∀ (i : Nat) (d : Val) (v : Value), as[i]? = some d → ax[i]? = some v → RV V D w d v) → tm.size = m → (∀ i, RV V D w (lk t i) (tm.getD i undef)) →
    ((ps.zip ax).foldl (fun tmps (t, a) => tmps.setIfInBounds t a) tm).size = m ∧ ∀ i, RV V D w (lk (rArgs m ps as t) i) (((ps.zip ax).foldl (fun tmps (t, a) => tmps.setIfInBounds t a) tm).getD i undef)
  | [], as, ax, t, tm, hl, hp, hs, ht => by cases as <;> exact ⟨hs, ht⟩
  | p :: ps, [], [], t, tm, hl, hp, hs, ht => ⟨hs, ht⟩
  | p :: ps, a :: as, [], t, tm, hl, hp, hs, ht => by simp at hl
  | p :: ps, [], a :: ax, t, tm, hl, hp, hs, ht => by simp at hl
  | p :: ps, a :: as, x :: ax, t, tm, hl, hp, hs, ht => by
    obtain ⟨h1, h2⟩ := put_lk (d := p) hs ht (hp 0 a x rfl rfl)
    simp only [List.zip_cons_cons, List.foldl_cons, rArgs]
    exact rArgs_ok ps as ax _ _ (by simpa using hl) (fun i d v e1 e2 => hp (i + 1) d v (by simpa using e1) (by simpa using e2)) h1 h2

theorem get_set_at {h : Hp} {id : Nat} (o : Ob) (hid : id < List.length h) : Hp.get (List.set h id o) = fun i => if i = id then o else h.get i := by
  funext i
  unfold Hp.get
  rw [List.getElem?_set]
  by_cases e : id = i
  · subst e; simp [hid]
  · simp [e, Ne.symm e]
theorem D_set {h : Hp} {id : Nat} {o : Ob} : Hp.D (List.set h id o) = h.D := by unfold Hp.D; simp

/-- The loop's record gets another state. -/
theorem lp_turn {V : View} {w : World} {h : Hp} {L b : Nat} {t : List (Nat × Val)} {m : Nat} {fn : FuncId} {ps : Array Tmp} {assign body : Code} {st st' : LoopState} {pe pe' : Option Code}
    (hr : RelF G V w h.D h.get) (hL : h.get L = .lp (lk t) m fn ps assign body st pe) (hb : V.at_ L = some b) :
    ∃ D tm, w.heap[b]? = some (.loop { state := st, pending := pe, fn, tmps := tm, params := ps, assign, body, defers := D }) ∧
      RelF G V (w.putObj b (.loop { state := st', pending := pe', fn, tmps := tm, params := ps, assign, body, defers := D })) (Hp.D (List.set h L (.lp (lk t) m fn ps assign body st' pe'))) (Hp.get (List.set h L (.lp (lk t) m fn ps assign body st' pe'))) ∧
      Step V w h.D h.get V (w.putObj b (.loop { state := st', pending := pe', fn, tmps := tm, params := ps, assign, body, defers := D })) (Hp.get (List.set h L (.lp (lk t) m fn ps assign body st' pe'))) := by
  have hlive : (h.get L).live = true := by rw [hL]; rfl
  have hlt := Hp.get_lt hlive
  have hobj := hr.obj L hlt
  rw [hL] at hobj
  obtain ⟨b', D, tm, e1, e2, e3, e4⟩ := hobj
  rw [hb] at e1; cases e1
  have hbw : b < w.heap.size := hr.lt L b hlive hb
  obtain ⟨k1, k2⟩ := hr.put (id := L) (b := b) hlive hb (only_putObj (o := .loop { state := st', pending := pe', fn, tmps := tm, params := ps, assign, body, defers := D })) (o := .lp (lk t) m fn ps assign body st' pe')
    ⟨b, D, tm, hb, World.putObj_heap_same hbw, e3, fun i => (e4 i).only only_putObj (hr.apart L b hlive hb)⟩
  refine ⟨D, tm, e2, ?_, ?_⟩
  · rw [D_set, get_set_at _ hlt]; exact k1
  · rw [get_set_at _ hlt]; exact k2

theorem VCall_yld {h : Hp} {L : Nat} {t t' : List (Nat × Val)} {m : Nat} {fn : FuncId} {ps : Array Tmp} {assign body : Code} {args : List Val} {Q : Val → Hp → Prop}
    (hL : h.get L = .lp (lk t) m fn ps assign body .ready none) (hn : args.length = ps.size) (ht : rArgs m ps.toList args t = t')
    (hA : ∀ ro, W P G ro assign (then_ (fun s1 => s1.d = [] ∧ s1.h.get L = .lp (lk t) m fn ps assign body .ready none ∧
      W P G ro body (REnd L (.lp (lk t) m fn ps assign body) (List.length h) Q) { s1 with h := List.set s1.h L (.lp (lk t) m fn ps assign body .busy none) }) (fun _ _ => False)) ⟨m, t', h, []⟩) :
    VCall P G (.yld L) args h Q := by
  intro V w fx ax hr hfx hax
  cases hfx
  rename_i b hi hb
  have hobj := hr.obj L hi
  rw [hL] at hobj
  obtain ⟨b', D, tm, e1, e2, e3, e4⟩ := hobj
  rw [hb] at e1; cases e1
  refine .inr ⟨b, fn, _, assign, body, rfl, run_yield e2 (by rw [← hax.1, hn]), ?_⟩
  refine roundIn_of_wpIn trivial ?_
  show assign.wpIn (fence (some b)) 0 P _ _ w
  obtain ⟨g1, g2⟩ := rArgs_ok (V := V) (D := h.D) (w := w) (m := m) ps.toList args ax.toList t tm (by rw [hax.1]; simp) (fun i d v h1 h2 => hax.2 i d v h1 (by simpa using h2)) e3 e4
  have ez : (ps.zip ax).foldl (fun tmps (t, a) => tmps.setIfInBounds t a) tm = (ps.toList.zip ax.toList).foldl (fun tmps (t, a) => tmps.setIfInBounds t a) tm := by
    rw [← Array.foldl_toList, Array.toList_zip]
  have hrel : Rel G V ⟨m, t', h, []⟩ { tmps := (ps.zip ax).foldl (fun tmps (t, a) => tmps.setIfInBounds t a) tm, defers := [] } w := by
    rw [ez]
    subst ht
    exact ⟨g1, g2, hr, rfl, by simp⟩
  refine wpIn_mono (hA (some b) V _ w hrel 0) ?_
  rintro e a1 w1 ⟨V1, s1, hr1, hs1, hD1, q⟩
  cases e with
  | normal =>
    obtain ⟨hd1, hL1, hB⟩ := q
    have hb1 : V1.at_ L = some b := (hs1.at_ L hi).trans hb
    obtain ⟨D1, tm1, f2, k1, k2⟩ := lp_turn (st' := .busy) (pe' := none) hr1.hp hL1 hb1
    refine ⟨_, run_beginRound f2 rfl, ?_⟩
    have hrel1 : Rel G V1 { s1 with h := List.set s1.h L (.lp (lk t) m fn ps assign body .busy none) } a1 (w1.putObj b (.loop { state := .busy, pending := none, fn, tmps := tm1, params := ps, assign, body, defers := D1 })) := by
      refine ⟨hr1.sz, fun i => ?_, k1, ?_, ?_⟩
      · show RV V1 (Hp.D (List.set s1.h L _)) _ (s1.get i) _
        rw [D_set]; exact (hr1.tm i).step k2 hr1.hp (fun _ h => h)
      · show a1.defers = s1.d.map (mark V1)
        exact hr1.df
      · intro id hid
        have hid' : id ∈ s1.d := hid
        rw [hd1] at hid'; cases hid'
    refine wpIn_mono (hB V1 a1 _ hrel1 0) ?_
    rintro e a2 w2 ⟨V2, s2, hr2, hs2, hD2, bb, st, pe, h', q1, q2, q3, q4, q5, q6⟩
    have hL2 : Hp.D (List.set s1.h L (.lp (lk t) m fn ps assign body .busy none)) L := by rw [D_set]; exact hD1 L hi
    have hb2 : V2.at_ L = some b := (hs2.at_ L hL2).trans hb1
    have key : ∀ jump : Option Code, jump = pe → jump.isNone = bb → (if jump.isNone then LoopState.ready else .done) = st → ∃ v w', (Instr.endRound b jump).run P w2 = .ok v w' ∧
        ∃ v_1, Ending.returned v = Ending.returned v_1 ∧ ∃ V' r h', RelF G V' w' (Hp.D h') (Hp.get h') ∧ Step V w h.D h.get V' w' (Hp.get h') ∧ (∀ i, h.D i → Hp.D h' i) ∧ RV V' (Hp.D h') w' r v_1 ∧ Q r h' := by
      intro jump ej eb es
      obtain ⟨D2, tm2, f2', m1, m2⟩ := lp_turn (st' := st) (pe' := pe) hr2.hp q2 hb2
      obtain ⟨n1, n2⟩ := m1.fin (h' := h') (by simpa using q4) q5
      subst ej
      subst eb
      subst es
      have t1 : Step V w h.D h.get V1 _ (Hp.get (List.set s1.h L (.lp (lk t) m fn ps assign body .busy none))) := hs1.trans k2 hD1
      have t2 : Step V w h.D h.get V2 w2 s2.h.get := t1.trans hs2 (fun i hi => by rw [D_set]; exact hD1 i hi)
      have hD12 : ∀ i, h.D i → s2.h.D i := fun i hi => hD2 i (by show Hp.D (List.set s1.h L _) i; rw [D_set]; exact hD1 i hi)
      exact ⟨_, _, run_endRound jump f2', _, rfl, _, .c (.bool jump.isNone), h', n1, (t2.trans m2 hD12).trans n2 (fun i hi => by rw [D_set]; exact hD12 i hi), fun i hi => Nat.lt_of_lt_of_le hi q3, .c _, q6⟩
    cases e with
    | normal => simp only [rEnd, Option.some.injEq, Prod.mk.injEq] at q1; obtain ⟨rfl, rfl, rfl⟩ := q1; exact key none rfl rfl rfl
    | ret => simp only [rEnd, Option.some.injEq, Prod.mk.injEq] at q1; obtain ⟨rfl, rfl, rfl⟩ := q1; exact key _ rfl rfl rfl
    | exit id => simp only [rEnd, Option.some.injEq, Prod.mk.injEq] at q1; obtain ⟨rfl, rfl, rfl⟩ := q1; exact key _ rfl rfl rfl
    | goto l => simp [rEnd] at q1
    | panic ch => simp [rEnd] at q1
    | outgrown => simp [rEnd] at q1
  | exit id => exact q.elim
  | goto l => exact q.elim
  | ret => exact q.elim
  | panic ch => exact q.elim
  | outgrown => exact q.elim

theorem get_two {h : Hp} (o1 o2 : Ob) : Hp.get (h ++ [o1, o2]) = fun i => if i = List.length h + 1 then o2 else if i = List.length h then o1 else h.get i := by
  funext i
  by_cases e1 : i = List.length h + 1
  · subst e1; rw [get_append_r]; simp; rfl
  · by_cases e2 : i = List.length h
    · subst e2; rw [get_append_0]; simp; rfl
    · simp only [e1, e2, if_false]
      rcases Nat.lt_or_ge i (List.length h) with hi | hi
      · exact get_append_l _ hi
      · unfold Hp.get
        rw [List.getElem?_eq_none (by simp; omega), List.getElem?_eq_none hi]
theorem D_two {h : Hp} (o1 o2 : Ob) : Hp.D (h ++ [o1, o2]) = fun i => (h.D i ∨ i = List.length h) ∨ i = List.length h + 1 := by
  funext i; simp [Hp.D]; omega

/-- The statement. -/
theorem W_range {g : Operand} {ps : Array Tmp} {assign body : Code} {Q : Exit → St → Prop} {s : St} {f : FuncId} {cs : List Val} (hg : s.ev g = .fn f cs)
    (h : ∀ fn, VCall P G (.fn f cs) [.yld (List.length s.h + 1)] (s.h ++ [.dfr, .lp (lk s.t) s.m fn ps assign body .ready none]) (fun _ h' => (∀ id, id ∈ List.length s.h :: s.d → Hp.get h' id = .dfr) ∧
      ∃ st pe, Hp.get h' (List.length s.h + 1) = .lp (lk s.t) s.m fn ps assign body st pe ∧ st ≠ .busy ∧
        (∀ c, pe = some c → W P G none c Q { s with h := List.set h' (List.length s.h + 1) .gone, d := List.length s.h :: s.d }) ∧
        (pe = none → Q .normal { s with h := List.set h' (List.length s.h + 1) .gone, d := List.length s.h :: s.d }))) :
    W P G none (.rangeFunc g ps assign body) Q s := by
  intro V a w hr n
  refine wpIn_rangeFunc (F := fence none) ?_
  intro fn _
  have hev := hr.ev g
  rw [hg] at hev
  generalize hq : a.eval g = gv at hev
  obtain ⟨k1, k2⟩ := hr.hp.new (nid := List.length s.h) (by simp [Hp.D]) 0 (.deferred (some [])) (o := .dfr) ⟨w.heap.size, by simp [View.bind], heap_new _ _⟩
  have hD1 : ¬ (s.h.D (List.length s.h + 1) ∨ List.length s.h + 1 = List.length s.h) := by simp [Hp.D]
  obtain ⟨m1, m2⟩ := k1.new (nid := List.length s.h + 1) hD1 0 (.loop { state := .ready, pending := none, fn, tmps := a.tmps, params := ps, assign, body, defers := w.heap.size })
    (o := .lp (lk s.t) s.m fn ps assign body .ready none) ⟨_, _, a.tmps, by simp [View.bind], heap_new _ _, hr.sz, fun i => RV.new k1 hD1 ((hr.tm i).step k2 hr.hp (fun _ h => Or.inl h))⟩
  have kk := k2.trans m2 (fun _ h => .inl h)
  rw [← get_two, ← D_two] at m1
  rw [← get_two] at kk
  have hDD : ∀ i, s.h.D i → Hp.D (s.h ++ [.dfr, .lp (lk s.t) s.m fn ps assign body .ready none]) i := fun i hi => by rw [D_two]; exact .inl (.inl hi)
  have hgv := hev.step kk hr.hp hDD
  have hnew : (w.alloc (Obj.deferred (some []))).heap.size = w.heap.size + 1 := by simp
  have hargs : RVs (View.bind (View.bind V (List.length s.h) (some w.heap.size) 0) (List.length s.h + 1) (some (w.alloc (Obj.deferred (some []))).heap.size) 0) (Hp.D (s.h ++ [.dfr, .lp (lk s.t) s.m fn ps assign body .ready none]))
      ((w.alloc (Obj.deferred (some []))).alloc (.loop { state := .ready, pending := none, fn, tmps := a.tmps, params := ps, assign, body, defers := w.heap.size })) [.yld (List.length s.h + 1)] #[.func (.yield (w.heap.size + 1)) #[] #[]] := by
    refine ⟨rfl, ?_⟩
    intro i d v h1 h2
    cases i with
    | zero =>
      simp at h1 h2; subst h1; subst h2
      exact .yld (by rw [D_two]; exact .inr rfl) (by simp [View.bind])
    | succ i => simp at h1
  have hsame : ∀ {b}, a.eval g = b → b = gv := fun e => e.symm.trans hq
  rcases h fn _ _ gv _ m1 hgv hargs with ⟨f', caps, h1, h2, h3⟩ | ⟨lp, fn', tmps, as', bo', h1, h2, h3⟩
  · have hres : ∀ W : World, (resolve a.eval (rangeCall g (w.heap.size + 1)) 0).run P W = .ok { target := .fn (.func f') caps, args := #[.func (.yield (w.heap.size + 1)) #[] #[]] } W := by
      intro W; rw [show resolve a.eval (rangeCall g (w.heap.size + 1)) 0 = Deferred.ofValue (a.eval g) #[.func (.yield (w.heap.size + 1)) #[] #[]] from by simp [resolve]; rfl, hq, h1]; simp [Deferred.ofValue]
    refine ⟨w.heap.size + 1, [{ target := .collected w.heap.size, args := #[] }], _, _, _, f', _, _, run_enterLoop_outer fn a.tmps ps assign body, hres _, fun _ _ => trivial, ?_, by simp, (callsIn_any h3).mono ?_⟩
    · simpa [invoke] using h2
    · rintro e w3 ⟨v, rfl, V', r, h', r1, r2, r3, r4, q1, st, pe, q2, q3, q4, q5⟩
      have hL' : Hp.D h' (List.length s.h + 1) := r3 _ (by rw [D_two]; exact .inr rfl)
      have hb' : V'.at_ (List.length s.h + 1) = some (w.heap.size + 1) := by
        rw [r2.at_ _ (by rw [D_two]; exact .inr rfl)]; simp [View.bind]
      obtain ⟨D2, tm2, f2, t1, t2⟩ := lp_turn (st' := .exhausted) (pe' := pe) r1 q2 hb'
      refine ⟨pe, _, run_endLoop f2 q3, ?_⟩
      obtain ⟨u1, u2⟩ := t1.kill (List.length s.h + 1)
      have hlt' : List.length s.h + 1 < List.length h' := hL'
      have eset : (fun i => if i = List.length s.h + 1 then Ob.gone else Hp.get (List.set h' (List.length s.h + 1) (.lp (lk s.t) s.m fn ps assign body .exhausted pe)) i) = Hp.get (List.set h' (List.length s.h + 1) .gone) := by
        rw [get_set_at _ hlt', get_set_at _ hlt']; funext i; by_cases e : i = List.length s.h + 1 <;> simp [e]
      rw [eset] at u1 u2
      have hst : Step V w s.h.D s.h.get V' _ (Hp.get (List.set h' (List.length s.h + 1) .gone)) := ((kk.trans r2 hDD).trans t2 (fun i hi => r3 i (hDD i hi))).trans u2 (fun i hi => by rw [D_set]; exact r3 i (hDD i hi))
      have hDh : ∀ i, s.h.D i → Hp.D (List.set h' (List.length s.h + 1) .gone) i := fun i hi => by rw [D_set]; exact r3 i (hDD i hi)
      have hrel : Rel G V' { s with h := List.set h' (List.length s.h + 1) .gone, d := List.length s.h :: s.d } { a with defers := [{ target := .collected w.heap.size, args := #[] }] ++ a.defers } (w3.putObj (w.heap.size + 1) (.loop { state := .exhausted, pending := pe, fn, tmps := tm2, params := ps, assign, body, defers := D2 })) := by
        refine ⟨hr.sz, fun i => ?_, by rw [D_set] at u1 ⊢; exact u1, ?_, ?_⟩
        · exact (hr.tm i).step hst hr.hp hDh
        · show [_] ++ a.defers = mark V' (List.length s.h) :: s.d.map (mark V')
          have hmark : s.d.map (mark V') = s.d.map (mark V) := by
            refine List.map_congr_left fun id hid => ?_
            have : s.h.D id := hr.hp.dom (by rw [hr.dl id hid]; rfl)
            simp [mark, hst.at_ id this]
          have h0 : V'.at_ (List.length s.h) = some w.heap.size := by
            rw [r2.at_ _ (by rw [D_two]; exact .inl (.inr rfl))]; simp [View.bind]
          rw [hmark, hr.df]; simp [mark, h0]
        · intro id hid
          show Hp.get (List.set h' (List.length s.h + 1) .gone) id = _
          rw [get_set_at _ hlt']
          have := q1 id hid
          by_cases e : id = List.length s.h + 1
          · subst e; rw [q2] at this; cases this
          · simp only [e, if_false]; exact this
      cases pe with
      | some c => exact wpIn_mono (q4 c rfl V' _ _ hrel n) (fun e a2 w2 k => k.trans hst hDh (fun _ _ h => h))
      | none => exact ⟨V', _, hrel, hst, hDh, q5 rfl⟩
  · rw [h1] at hgv
    cases hgv

end Go.Vm
/- A proved summary of the kit, as a contract over values without addresses. -/
namespace Go.Vm
open Go Go.RowKit Go.Sort
variable {P : Program} {G : List (Nat × Obj)}

theorem RelF.grow {V : View} {w : World} {h : Hp} (hr : RelF G V w h.D h.get) (k : Nat) (os : Array Obj) : RelF G V (Go.Sort.grow (w.drewN k) os) h.D h.get ∧ Step V w h.D h.get V (Go.Sort.grow (w.drewN k) os) h.get := by
  have hs : ∀ i, i < w.heap.size → (Go.Sort.grow (w.drewN k) os).heap[i]? = w.heap[i]? := fun i hi => by
    show (w.heap ++ os)[i]? = w.heap[i]?
    rw [Array.getElem?_append_left hi]
  have hz : w.heap.size ≤ (Go.Sort.grow (w.drewN k) os).heap.size := by show w.heap.size ≤ (w.heap ++ os).size; simp
  refine ⟨⟨fun id hi => (hr.obj id hi).mono (fun _ h => h) (fun _ _ => rfl) (fun _ _ => rfl) (fun _ h => h) (fun k hk => hs k (hr.shlt k hk)) hi (fun hl b hb => hs b (hr.lt id b hl hb)), hr.dead, hr.inj, hr.apart,
    fun i b h1 h2 => Nat.lt_of_lt_of_le (hr.lt i b h1 h2) hz, fun k hk => Nat.lt_of_lt_of_le (hr.shlt k hk) hz, fun g o hg => ⟨(hs g (hr.shlt g (hr.gl g o hg).2)).trans (hr.gl g o hg).1, (hr.gl g o hg).2⟩⟩,
    ⟨fun _ _ => rfl, fun _ _ => rfl, fun _ h => h, fun _ h _ => .inl h, hz, rfl, rfl, rfl, fun k hk _ => hs k hk, fun i b h1 h2 _ => ⟨i, h1, h2⟩⟩⟩

theorem VCall_lib {f : FuncId} {as : List Value} {h : Hp} {R : Value → Prop} (he : ∀ args w, (callFunc f args).run P w = .ok (.enter f args) w)
    (hc : ∀ w : World, (∀ g o, (g, o) ∈ G → w.heap[g]? = some o) → Calls P f as.toArray w (fun e w' => ∃ v, e = .returned v ∧ R v ∧ ∃ k os, w' = Go.Sort.grow (w.drewN k) os)) :
    VCall P G (.fn f []) (as.map .c) h (fun r h' => (∃ v, r = .c v ∧ R v) ∧ h' = h) := by
  intro V w fx ax hr hfx hax
  cases hfx
  rename_i vs hl hp
  have e1 : vs = #[] := by
    apply Array.eq_empty_of_size_eq_zero; simpa using hl.symm
  subst e1
  have e2 : ax = as.toArray := by
    apply Array.ext_getElem?
    intro i
    rcases Nat.lt_or_ge i as.length with hi | hi
    · have h1 : i < ax.size := by rw [← hax.1]; simpa using hi
      have := hax.2 i (.c as[i]) ax[i] (by simp [hi]) (Array.getElem?_eq_getElem h1)
      have := this.c_inv
      rw [Array.getElem?_eq_getElem h1, this]; simp [hi]
    · have h1 : ax.size ≤ i := by rw [← hax.1]; simpa using hi
      rw [Array.getElem?_eq_none h1]; simp [hi]
  subst e2
  refine .inl ⟨f, #[], rfl, he _ _, ?_⟩
  rw [Array.append_empty]
  refine (hc w (fun g o hg => (hr.gl g o hg).1)).mono ?_
  rintro e w' ⟨v, rfl, hR, k, os, rfl⟩
  obtain ⟨k1, k2⟩ := hr.grow k os
  exact ⟨v, rfl, V, .c v, h, k1, k2, fun _ h => h, .c v, ⟨v, rfl, hR⟩, rfl⟩
end Go.Vm
/- Conditions with a known answer. -/
namespace Go.Vm
open Go Go.RowKit
variable {P : Program} {G : List (Nat × Obj)} {ro : Option Nat}

theorem W_true {c : Operand} {x y : Code} {Q : Exit → St → Prop} {s : St} (hc : s.ev c = .c (.bool true)) (h : W P G ro x Q s) : W P G ro (.cond c x y) Q s :=
  W_cond hc (fun _ => h) (fun e => by cases e)
theorem W_false {c : Operand} {x y : Code} {Q : Exit → St → Prop} {s : St} (hc : s.ev c = .c (.bool false)) (h : W P G ro y Q s) : W P G ro (.cond c x y) Q s :=
  W_cond hc (fun e => by cases e) (fun _ => h)

theorem WL_ex {ops : Array Oper} {o : Oper} {l : List Oper} {K : St → Prop} {s s' : St} {fid : Option Nat} {ob : Ob} {ef : Ef} (hd : Does P G o s.ev fid ob s.h.length ef) (hnd : ∀ c, o.op ≠ .defer c) (hg : Wants ops s o)
    (hf : ∀ id, fid = some id → s.h.get id = ob ∧ ob.live = true ∧ ob ≠ .dfr) (hs : s.app o.dst fid ef = s') (h : WL P G ro ops l K s') : WL P G ro ops (o :: l) K s := by
  subst hs; exact WL_op hd hnd hg hf h
end Go.Vm
/- nil slices, growing, cutting short, strings. -/
namespace Go.Vm
open Go Go.RowKit
variable {P : Program} {G : List (Nat × Obj)} {ro : Option Nat}

/-- nil is an own row without elements. -/
theorem Weak_nil {m k e sz : Nat} {t : List (Nat × Val)} {h : Hp} {d : List Nat} : Weak G ⟨m, (k, .c (.slice none 0 0)) :: t, h, d⟩ ⟨m, (k, .os (List.length h) 0) :: t, h ++ [.arr e sz []], d⟩ := by
  intro V a w hr
  have hn : ¬ h.D (List.length h) := by simp [Hp.D]
  have k1 := hr.hp.bind (nid := List.length h) hn none 0 (o := .arr e sz []) (by simp) (.inl ⟨rfl, by simp [View.bind]⟩)
  have eD : (fun i => h.D i ∨ i = List.length h) = Hp.D (h ++ [.arr e sz []]) := by funext i; simp [Hp.D]; omega
  have eH : (fun i => if i = List.length h then Ob.arr e sz [] else h.get i) = Hp.get (h ++ [.arr e sz []]) := by
    funext i
    by_cases ei : i = List.length h
    · subst ei; rw [get_append_0]; simp; rfl
    · simp only [ei, if_false]
      rcases Nat.lt_or_ge i (List.length h) with hi | hi
      · exact (get_append_l _ hi).symm
      · unfold Hp.get; rw [List.getElem?_eq_none hi, List.getElem?_eq_none (by simp; omega)]
  rw [eD, eH] at k1
  have hst : Step V w h.D h.get (V.bind (List.length h) none 0) w (Hp.get (h ++ [.arr e sz []])) := by
    rw [← eH]
    refine ⟨?_, ?_, fun _ h => h, fun _ h _ => .inl h, Nat.le_refl _, rfl, rfl, rfl, fun _ _ _ => rfl, ?_⟩
    · intro i hi; simp only [View.bind]; rw [if_neg (by intro e; exact hn (by rw [← e]; exact hi))]
    · intro i hi; simp only [View.bind]; rw [if_neg (by intro e; exact hn (by rw [← e]; exact hi))]
    · intro i b hi hb hlt
      by_cases e : i = List.length h
      · simp [View.bind, e] at hb
      · simp only [View.bind, e, if_false] at hi hb; exact ⟨i, hi, hb⟩
  have hD : ∀ i, h.D i → Hp.D (h ++ [.arr e sz []]) i := by rw [← eD]; exact fun _ h => .inl h
  refine ⟨_, ⟨hr.sz, fun i => ?_, k1, ?_, ?_⟩, hst, hD⟩
  · have h1 := hr.tm i
    show RV _ _ _ (lk ((k, .os (List.length h) 0) :: t) i) _
    by_cases ei : i = k
    · have h2 : RV V h.D w (lk ((k, .c (.slice none 0 0)) :: t) i) (a.tmps.getD i undef) := h1
      simp only [lk, ei, if_true] at h2 ⊢
      rw [h2.c_inv]
      exact .osNil (by rw [← eD]; exact .inr rfl) (by simp [View.bind])
    · have h2 : RV V h.D w (lk ((k, .c (.slice none 0 0)) :: t) i) (a.tmps.getD i undef) := h1
      simp only [lk, ei, if_false] at h2 ⊢
      exact h2.step hst hr.hp hD
  · show a.defers = _
    rw [hr.df]
    refine List.map_congr_left fun id hid => ?_
    have : h.D id := hr.hp.dom (by rw [show Hp.get h id = _ from hr.dl id hid]; rfl)
    simp [mark, hst.at_ id this]
  · intro id hid
    have h1 : Hp.get h id = .dfr := hr.dl id hid
    show Hp.get (h ++ _) id = _
    rw [get_append_l _ (Hp.get_lt (by rw [h1]; rfl))]; exact h1

theorem W_nil {c : Code} {Q : Exit → St → Prop} {m k : Nat} (e sz : Nat) {t : List (Nat × Val)} {h : Hp} {d : List Nat} (hw : W P G ro c Q ⟨m, (k, .os (List.length h) 0) :: t, h ++ [.arr e sz []], d⟩) :
    W P G ro c Q ⟨m, (k, .c (.slice none 0 0)) :: t, h ++ [], d⟩ := by
  rw [List.append_nil]
  exact W_weak Weak_nil hw

theorem W_nil' {c : Code} {Q : Exit → St → Prop} {m k : Nat} (e sz : Nat) {t : List (Nat × Val)} {h : Hp} {d : List Nat} (hw : W P G ro c Q ⟨m, (k, .os (List.length h) 0) :: t, h ++ [.arr e sz []], d⟩) :
    W P G ro c Q ⟨m, (k, .c (.slice none 0 0)) :: t, h, d⟩ := W_weak Weak_nil hw

/-- nil is a slice without elements. -/
theorem W_nilsl {c : Code} {Q : Exit → St → Prop} {m k : Nat} (sz : Nat) {t : List (Nat × Val)} {h : Hp} {d : List Nat} (hw : W P G ro c Q ⟨m, (k, .sl sz []) :: t, h, d⟩) :
    W P G ro c Q ⟨m, (k, .c (.slice none 0 0)) :: t, h, d⟩ := by
  refine W_weak (s' := ⟨m, (k, .sl sz []) :: t, h, d⟩) (fun V a w hr => ⟨V, ⟨hr.sz, fun i => ?_, hr.hp, hr.df, hr.dl⟩, Step.refl _ _ _ _, fun _ h => h⟩) hw
  have h1 := hr.tm i
  show RV V h.D w (lk ((k, .sl sz []) :: t) i) _
  have h2 : RV V h.D w (lk ((k, .c (.slice none 0 0)) :: t) i) (a.tmps.getD i undef) := h1
  by_cases ei : i = k
  · simp only [lk, ei, if_true] at h2 ⊢
    rw [h2.c_inv]; exact .slNil
  · simp only [lk, ei, if_false] at h2 ⊢
    exact h2

theorem Does_cap_nil {T : Nat → Option TD} (hT : TabOK P T) {o : Oper} {t : TypeId} {x : Operand} (ho : o.op = .call { callee := .builtin .cap, args := #[x], argTypes := #[t] }) {d : TD} {e : TypeId} (ht : T t = some d) (he : isSlice d = some e)
    {ev : Operand → Val} (hx : ev x = .c (.slice none 0 0)) {fid : Option Nat} {ob : Ob} {nid : Nat} : Does P G o ev fid ob nid ⟨.c (.int .i64 0), none, none⟩ :=
  Does.quiet fun V D w H ρ _ hv _ => by
    have e1 := hv x (by simp [ho, Op.operands, Call.operands]); rw [hx] at e1
    have hu := hT.under ht w
    rw [isSlice_spec he] at hu
    refine ⟨.int .i64 0, ?_, .c _⟩
    simp [execOp, ho, resolve, invoke, builtin, Builtin.cap_, e1.c_inv, hu, goInt]

theorem Does_slice_nil {T : Nat → Option TD} (hT : TabOK P T) {o : Oper} {t : TypeId} {x y : Operand} (ho : o.op = .slice t x none (some y) none) {d : TD} {e : TypeId} (ht : T t = some d) (he : isSlice d = some e) {de : TD} (hde : T e = some de)
    {ev : Operand → Val} (hx : ev x = .c (.slice none 0 0)) (hy : ev y = .c (.int .i64 0)) {fid : Option Nat} {ob : Ob} {nid : Nat} : Does P G o ev fid ob nid ⟨.c (.slice none 0 0), none, none⟩ :=
  Does.quiet fun V D w H ρ _ hv _ => by
    have e1 := hv x (by simp [ho, Op.operands]); rw [hx] at e1
    have e2 := hv y (by simp [ho, Op.operands]); rw [hy] at e2
    have hu := hT.under ht w
    rw [isSlice_spec he] at hu
    have hb := run_sliceBounds (P := P) true 0 0 (lo := none) (hi := some (.int .i64 0)) (l := 0) (h := 0) (.inl ⟨rfl, rfl⟩) (.inr ⟨_, rfl⟩) (Int.le_refl _) (Int.le_refl _) (Int.le_refl _) w
    simp only [Int.toNat_zero] at hb
    refine ⟨.slice none 0 0, ?_, .c _⟩
    simp [execOp, ho, e1.c_inv, e2.c_inv, Instr.sliceAt, Instr.slice, hu, hT.size hde, hb]

theorem Does_slice_os0 {T : Nat → Option TD} (hT : TabOK P T) {o : Oper} {t : TypeId} {x y : Operand} (ho : o.op = .slice t x none (some y) none) {d : TD} {e : TypeId} (ht : T t = some d) (he : isSlice d = some e) {de : TD} (hde : T e = some de)
    {ev : Operand → Val} {id n : Nat} (hx : ev x = .os id n) (hy : ev y = .c (.int .i64 0)) {fid : Option Nat} {ob : Ob} {nid : Nat} : Does P G o ev fid ob nid ⟨.os id 0, none, none⟩ :=
  Does.quiet fun V D w H ρ _ hv _ => by
    have e1 := hv x (by simp [ho, Op.operands]); rw [hx] at e1
    have e2 := hv y (by simp [ho, Op.operands]); rw [hy] at e2
    have hu := hT.under ht w
    rw [isSlice_spec he] at hu
    generalize hq : ρ x = v at e1
    cases e1 with
    | os hi hb =>
      rename_i b
      have hbd := run_sliceBounds (P := P) true n (V.cap id) (lo := none) (hi := some (.int .i64 0)) (l := 0) (h := 0) (.inl ⟨rfl, rfl⟩) (.inr ⟨_, rfl⟩) (Int.le_refl _) (Int.le_refl _) (by omega) w
      simp only [Int.toNat_zero] at hbd
      refine ⟨.slice (some ⟨b, 0, none⟩) 0 (V.cap id), ?_, .os hi hb⟩
      by_cases hc : V.cap id = 0
      · rw [hc] at hbd
        simp [execOp, ho, hq, e2.c_inv, Instr.sliceAt, Instr.slice, hu, hT.size hde, hbd, hc]
      · simp [execOp, ho, hq, e2.c_inv, Instr.sliceAt, Instr.slice, hu, hT.size hde, hbd, hc, add_none]
    | osNil hi hb =>
      have hbd := run_sliceBounds (P := P) true 0 0 (lo := none) (hi := some (.int .i64 0)) (l := 0) (h := 0) (.inl ⟨rfl, rfl⟩) (.inr ⟨_, rfl⟩) (Int.le_refl _) (Int.le_refl _) (Int.le_refl _) w
      simp only [Int.toNat_zero] at hbd
      refine ⟨.slice none 0 0, ?_, .osNil hi hb⟩
      simp [execOp, ho, hq, e2.c_inv, Instr.sliceAt, Instr.slice, hu, hT.size hde, hbd]

theorem Does_append_make {T : Nat → Option TD} (hT : TabOK P T) {o : Oper} {t u : TypeId} {s x : Operand} (ho : o.op = .call { callee := .builtin .append, args := #[s, x], argTypes := #[t, u] }) {d du de : TD} {e : TypeId}
    (ht : T t = some d) (he : isSlice d = some e) (hu : T u = some du) {kn : IntKind} (hdu : du.desc = .int kn) (hde : T e = some de) (hz : de.zero.length = de.size) (hp : 0 < de.size) {ev : Operand → Val} (hs : ev s = .c (.slice none 0 0)) {n : Nat} (hx : ev x = .c (.int .i64 n))
    (h0 : 0 < n) (hb : n * de.bytes ≤ 140737488355328) (hm : n ≤ 140737488355328) {fid : Option Nat} {ob : Ob} {nid : Nat} : Does P G o ev fid ob nid ⟨.os nid n, none, some (.arr e de.size [])⟩ := by
  intro V D w H ρ hr hv hf hn
  have h1 := hv s (by simp [ho, Op.operands, Call.operands]); rw [hs] at h1
  have h2 := hv x (by simp [ho, Op.operands, Call.operands]); rw [hx] at h2
  obtain ⟨i, z, hi, his, hib, hiz, hzl⟩ := info_of hT hde
  have hut := hT.u ht
  rw [isSlice_spec he] at hut
  have huu := hT.u hu
  rw [hdu] at huu
  have hzs : z.cells.size = de.size := by rw [← Array.length_toList, hzl, hz]
  rw [addD_new rfl, updH_new rfl rfl]
  have hrun := Lib.run_append_nil_zeros (P := P) w t u o.type e i z .i64 kn hut huu hi hiz n h0 (by rw [his]; exact hp) (by omega) (by rw [hib]; omega)
  have hge : n ≤ grownCap w n 0 e := grownCap_ge w n 0 e
  obtain ⟨k1, k2⟩ := grown_new (G := G) (e := e) (xs := []) (ys := []) (sz := de.size) (olds := []) (news := []) (rest := (Builtin.zeroCells z.cells n ++ Builtin.zeroCells z.cells (grownCap w n 0 e - n)).toList) (cap := grownCap w n 0 e) (nid := nid) hr hn (by simp) (by simp) (by simp) (by simp) (by simp) (by simp) (by simp) (by simp) (by simp)
    (ar := Builtin.zeroCells z.cells n ++ Builtin.zeroCells z.cells (grownCap w n 0 e - n)) (by simp) (by
      rw [Array.size_append, size_zero, size_zero, hzs, ← Nat.add_mul]; congr 1; omega)
  refine ⟨.slice (some ⟨w.heap.size, 0, none⟩) n (grownCap w n 0 e), _, _, .inl ?_, k1, k2, os_new (.inr rfl)⟩
  simp [execOp, ho, resolve, invoke, builtin, h1.c_inv, h2.c_inv, hrun]
end Go.Vm
