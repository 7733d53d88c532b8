/- A part of the proof: a calculus over values without addresses, and what the functions of the program compute in it. -/
import Derived.Test.YtjgkfoeomlpdnaaDoorA2
import Derived.Lib.Builder
import Derived.Lib.UnsafeStr
import Derived.Laws.Externs
import Derived.Laws.Append
import Derived.WideShapes
import Derived.ChangeArms
import Derived.ChangeSlices
import Derived.Carry
import Derived.SizedLaws
import Derived.Lib.LaidTab
import Derived.KernelRfl
/- Drawn regions in which new variables are laid at any time. -/
namespace Go.Vm.Flt
open Go Go.RowKit Go.Vm
variable {P : Program} {G : List (Nat × Obj)} {ro : Option Nat}

def isAl : Op → Bool
  | .alloc _ | .slice .. => true
  | _ => false
def heavy : Op → Bool
  | .box .. | .store .. | .makeSlice .. => true
  | .call c => match c.callee with
    | .builtin .append => true
    | .builtin .unsafeString => true
    | .builtin .unsafeSliceData => true
    | _ => false
  | _ => false
def loads : Op → Bool
  | .load .. => true
  | .call c => match c.callee with
    | .builtin .len => true
    | _ => false
  | _ => false
theorem loads_light {op : Op} (h : loads op = true) : heavy op = false := by
  cases op with
  | call c =>
    simp only [loads, heavy] at h ⊢
    generalize c.callee = k at h ⊢
    cases k with
    | builtin b => cases b <;> simp_all
    | _ => simp_all
  | load => rfl
  | _ => simp [loads] at h
def calls : Op → Bool
  | .call c => match c.callee with
    | .value _ => true
    | _ => false
  | _ => false

theorem light_act {T : Nat → Option TD} {op : Op} {ev : Operand → Val} {h : Hp} {fid : Option Nat} {ef : Ef} (hh : heavy op = false) (hal : isAl op = false) (ha : vact T op ev h = some (fid, ef)) : ef.up = none ∧ ef.nw = none := by
  have hq : ∀ {r : Val}, q_ r = some (fid, ef) → ef.up = none ∧ ef.nw = none := fun h => by rw [(q_eq h).2]; exact ⟨rfl, rfl⟩
  have hn : ∀ {p : Prop}, (none : Act2) = some (fid, ef) → p := fun h => by cases h
  cases op <;> simp only [heavy, Bool.true_eq_false] at hh <;> simp only [isAl, Bool.true_eq_false] at hal <;> simp only [vact] at ha
  case load t x =>
    unfold aLoad at ha
    repeat' split at ha
    all_goals first | exact hn ha | exact hq ha | (cases ha; exact ⟨rfl, rfl⟩)
  case call c =>
    unfold aCall aCallee at ha
    split at ha
    · unfold aBuiltin at ha
      split at ha
      · unfold aLenH at ha
        split at ha
        · repeat' split at ha
          all_goals first | exact hn ha | (cases ha; exact ⟨rfl, rfl⟩)
        · unfold aLen at ha
          repeat' split at ha
          all_goals first | exact hn ha | exact hq ha
      · unfold aMax at ha
        repeat' split at ha
        all_goals first | exact hn ha | exact hq ha
      · simp [*] at hh
      · exact hn ha
    · exact hn ha
  all_goals first
    | exact hq ha
    | exact hn ha
    | (simp only [aBin, aUn, aPick, aNil, aExtract, aField, aIndexAddr, aIndex, aFieldV, aConv, aBuild, aBuildSlice, aMakeFunc] at ha
       repeat' split at ha
       all_goals first | exact hn ha | exact hq ha)

theorem light_local {T : Nat → Option TD} {op : Op} {ev : Operand → Val} {h h' : Hp} {fid : Option Nat} {ef : Ef} (hh : heavy op = false) (hal : isAl op = false) (ha : vact T op ev h = some (fid, ef)) (hf : loads op = true → ∀ id, fid = some id → h'.get id = h.get id) :
    vact T op ev h' = some (fid, ef) := by
  cases op <;> simp only [heavy, Bool.true_eq_false] at hh <;> simp only [isAl, Bool.true_eq_false] at hal <;> simp only [vact] at ha ⊢
  case load t x =>
    have hf := hf rfl
    unfold aLoad at ha ⊢
    split at ha
    · split at ha
      · split at ha
        · cases ha; have hf := hf _ rfl
          simp [*]
        · cases ha
      · cases ha
    · exact ha
    · split at ha
      · split at ha
        · split at ha
          · split at ha
            · cases ha; have hf := hf _ rfl
              simp [*]
            · cases ha
          · cases ha
        · cases ha
      · cases ha
    · cases ha
  case call c =>
    unfold aCall aCallee at ha ⊢
    split at ha
    · rename_i hcal
      unfold aBuiltin at ha ⊢
      split at ha
      · have hf := hf (by simp only [loads, hcal])
        unfold aLenH at ha ⊢
        split at ha
        · split at ha
          · split at ha
            · cases ha; have hf := hf _ rfl
              simp [*]
            · cases ha
          · cases ha
        · exact ha
      · exact ha
      · simp [*] at hh
      · cases ha
    · exact ha
  all_goals first
    | exact ha

/-- What an operation of the text's run was. -/
inductive Rcd where
  | act (fid : Option Nat) (n : Nat)
  | skip
  | call
  | flt (id : Nat)

inductive TS (P : Program) (G : List (Nat × Obj)) (ops : Array Oper) (o : Oper) (s : St) : Rcd → St → Prop
  | act {fid : Option Nat} {ef : Ef} : vact (tdOf P) o.op s.ev s.h = some (fid, ef) → isAl o.op = false → Wants ops s o → TS P G ops o s (.act fid (List.length s.h)) (s.app o.dst fid ef)
  | skip : Skips ops s o → TS P G ops o s .skip (s.put o.dst (.c undef))
  | call {f : Operand} {args : Array Operand} {at_ : Array TypeId} {r : Val} : o.op = .call { callee := .value f, args := args, argTypes := at_ } → Wants ops s o →
      VCall P G (s.ev f) (args.toList.map s.ev) [] (fun r' h' => r' = r ∧ h' = []) → Ok (fun _ => False) (s.ev f) → (∀ a, a ∈ args.toList.map s.ev → Ok (fun _ => False) a) → TS P G ops o s .call (s.put o.dst r)
  | flt {t : TypeId} {d : TD} {id : Nat} : o.op = .alloc t → tdOf P t = some d → d.zero.all oneC = true → Wants ops s o → s.h.get id = .blk (d.zero.map .c) → TS P G ops o s (.flt id) (s.put o.dst (.ptr id 0))
  | ext {r : Val} : heavy o.op = false → (∀ c, o.op ≠ .defer c) → Wants ops s o → (∀ nid, Does P G o s.ev none .gone nid ⟨r, none, none⟩) → TS P G ops o s .call (s.put o.dst r)
  | extH {fid : Option Nat} {ob : Ob} {ef : Ef} : heavy o.op = true → isAl o.op = false → (∀ c, o.op ≠ .defer c) → Wants ops s o → (∀ id, fid = some id → s.h.get id = ob ∧ ob.live = true ∧ ob ≠ .dfr) →
      (∀ nid, Does P G o s.ev fid ob nid ef) → TS P G ops o s (.act fid (List.length s.h)) (s.app o.dst fid ef)

inductive DR (P : Program) (G : List (Nat × Obj)) (ops : Array Oper) : List Oper → St → List Rcd → St → Prop
  | nil {s : St} : DR P G ops [] s [] s
  | cons {o : Oper} {l : List Oper} {s s1 s2 : St} {r : Rcd} {rs : List Rcd} : TS P G ops o s r s1 → DR P G ops l s1 rs s2 → DR P G ops (o :: l) s (r :: rs) s2

theorem DR.states {ops : Array Oper} {l : List Oper} {s s' : St} {rs : List Rcd} (h : DR P G ops l s rs s') : rs.length = l.length ∧ ∃ σ : Nat → St, σ 0 = s ∧ σ l.length = s' ∧
    ∀ (i : Nat) (o : Oper) (r : Rcd), l[i]? = some o → rs[i]? = some r → TS P G ops o (σ i) r (σ (i + 1)) := by
  induction h with
  | nil => exact ⟨rfl, fun _ => _, rfl, rfl, by simp⟩
  | @cons o l s s1 s2 r rs h1 _ ih =>
    obtain ⟨e, σ, e0, e1, hs⟩ := ih
    refine ⟨by simp [e], fun i => match i with | 0 => s | i + 1 => σ i, rfl, e1, ?_⟩
    intro i o' r' ho hr
    cases i with
    | zero => simp at ho hr; subst ho; subst hr; show TS P G ops o s r (σ 0); rw [e0]; exact h1
    | succ i => exact hs i o' r' (by simpa using ho) (by simpa using hr)

def apartH (a b : Op) : Bool := !(heavy a && (heavy b || calls b)) && !(calls a && heavy b)
/-- Do two operations that lie in no order touch nothing of each other's? -/
def chk2 (ops : Array Oper) (bs : List Nat) (j : Nat) (a : Oper) : Nat → List Oper → Bool
  | _, [] => true
  | k, b :: l => ((bs.getD k 0).testBit j || (apartT ops a b && apartH a.op b.op)) && chk2 ops bs j a (k + 1) l
def chk1 (ops : Array Oper) (bs : List Nat) : Nat → List Oper → Bool
  | _, [] => true
  | j, a :: l => a.after.toList.all (fun e => !Region.binds .any e || decide (e.on < j)) && chk2 ops bs j a (j + 1) l && chk1 ops bs (j + 1) l
def chk (ops : Array Oper) : Bool := chk1 ops (befs ops.toList []) 0 ops.toList
/-- The pairs in no order of which one reads and one writes in the heap. -/
def dps2 (bs : List Nat) (j : Nat) (a : Oper) : Nat → List Oper → List (Nat × Nat)
  | _, [] => []
  | k, b :: l => if (bs.getD k 0).testBit j = false ∧ (heavy a.op || isAl a.op) = true ∧ loads b.op = true then (k, j) :: dps2 bs j a (k + 1) l
    else if (bs.getD k 0).testBit j = false ∧ loads a.op = true ∧ (heavy b.op || isAl b.op) = true then (j, k) :: dps2 bs j a (k + 1) l else dps2 bs j a (k + 1) l
def dps1 (bs : List Nat) : Nat → List Oper → List (Nat × Nat)
  | _, [] => []
  | j, a :: l => dps2 bs j a (j + 1) l ++ dps1 bs (j + 1) l
def dps (ops : Array Oper) : List (Nat × Nat) := dps1 (befs ops.toList []) 0 ops.toList
/-- What the first reads is nothing that the second one touches. -/
def idApart : Option Rcd → Option Rcd → Prop
  | some (.act (some a) _), some (.act fid n) => fid ≠ some a ∧ a ≠ n
  | some (.act (some a) _), some (.flt id) => a ≠ id
  | _, _ => True
def idsApart (rs : List Rcd) : List (Nat × Nat) → Prop
  | [] => True
  | (j, k) :: l => idApart rs[j]? rs[k]? ∧ idsApart rs l

theorem chk2_spec {ops : Array Oper} {bs : List Nat} {j : Nat} {a : Oper} : ∀ {l : List Oper} {k : Nat}, chk2 ops bs j a k l = true → ∀ (i : Nat) (b : Oper), l[i]? = some b → (bs.getD (k + i) 0).testBit j = true ∨ (apartT ops a b = true ∧ apartH a.op b.op = true)
  | [], _, _, i, b, h => by simp at h
  | x :: l, k, hc, i, b, h => by
    simp only [chk2, Bool.and_eq_true, Bool.or_eq_true] at hc
    cases i with
    | zero => simp at h; subst h; exact hc.1
    | succ i => have := chk2_spec hc.2 i b (by simpa using h); rwa [show k + 1 + i = k + (i + 1) by omega] at this
theorem chk1_spec {ops : Array Oper} {bs : List Nat} : ∀ {l : List Oper} {j : Nat}, chk1 ops bs j l = true → (∀ (i : Nat) (a : Oper), l[i]? = some a → ∀ e, e ∈ a.after.toList → Region.binds .any e = true → e.on < j + i) ∧
    ∀ (i k : Nat) (a b : Oper), i < k → l[i]? = some a → l[k]? = some b → (bs.getD (j + k) 0).testBit (j + i) = true ∨ (apartT ops a b = true ∧ apartH a.op b.op = true)
  | [], _, _ => ⟨by simp, by simp⟩
  | x :: l, j, hc => by
    simp only [chk1, Bool.and_eq_true] at hc
    obtain ⟨⟨h1, h2⟩, h3⟩ := hc
    obtain ⟨g1, g2⟩ := chk1_spec h3
    constructor
    · intro i a ha e he hb
      cases i with
      | zero =>
        simp at ha; subst ha
        have := List.all_eq_true.1 h1 e he
        simp [hb] at this; omega
      | succ i => have := g1 i a (by simpa using ha) e he hb; omega
    · intro i k a b hik ha hb
      cases k with
      | zero => omega
      | succ k =>
        cases i with
        | zero =>
          simp at ha; subst ha
          have := chk2_spec h2 k b (by simpa using hb)
          rwa [show j + 1 + k = j + (k + 1) by omega] at this
        | succ i =>
          have := g2 i k a b (by omega) (by simpa using ha) (by simpa using hb)
          rwa [show j + 1 + k = j + (k + 1) by omega, show j + 1 + i = j + (i + 1) by omega] at this

theorem dps2_spec {bs : List Nat} {j : Nat} {a : Oper} {rs : List Rcd} : ∀ {l : List Oper} {k : Nat}, idsApart rs (dps2 bs j a k l) → ∀ (i : Nat) (b : Oper), l[i]? = some b → (bs.getD (k + i) 0).testBit j = false →
    ((heavy a.op || isAl a.op) = true → loads b.op = true → idApart rs[k + i]? rs[j]?) ∧ (loads a.op = true → (heavy b.op || isAl b.op) = true → idApart rs[j]? rs[k + i]?)
  | [], _, _, i, b, h, _ => by simp at h
  | x :: l, k, hc, i, b, h, hb => by
    have excl : ∀ op : Op, (heavy op || isAl op) = true → loads op = true → False := by intro op h1 h2; rw [loads_light h2] at h1; cases op <;> simp [loads, isAl] at h1 h2
    cases i with
    | zero =>
      simp at h; subst h
      refine ⟨fun h1 h2 => ?_, fun h1 h2 => ?_⟩
      · unfold dps2 at hc; rw [if_pos ⟨hb, h1, h2⟩] at hc; exact hc.1
      · unfold dps2 at hc
        rw [if_neg (fun ⟨_, k1, _⟩ => excl _ k1 h1), if_pos ⟨hb, h1, h2⟩] at hc; exact hc.1
    | succ i =>
      have hc' : idsApart rs (dps2 bs j a (k + 1) l) := by
        unfold dps2 at hc
        split at hc
        · exact hc.2
        · split at hc
          · exact hc.2
          · exact hc
      have := dps2_spec hc' i b (by simpa using h) (by rw [show k + 1 + i = k + (i + 1) by omega]; exact hb)
      rwa [show k + 1 + i = k + (i + 1) by omega] at this
theorem idsApart_append {rs : List Rcd} : ∀ {a b : List (Nat × Nat)}, idsApart rs (a ++ b) → idsApart rs a ∧ idsApart rs b
  | [], b, h => ⟨trivial, h⟩
  | (j, k) :: a, b, h => ⟨⟨h.1, (idsApart_append h.2).1⟩, (idsApart_append h.2).2⟩
theorem dps1_spec {bs : List Nat} {rs : List Rcd} : ∀ {l : List Oper} {j : Nat}, idsApart rs (dps1 bs j l) → ∀ (i k : Nat) (a b : Oper), i < k → l[i]? = some a → l[k]? = some b → (bs.getD (j + k) 0).testBit (j + i) = false →
    ((heavy a.op || isAl a.op) = true → loads b.op = true → idApart rs[j + k]? rs[j + i]?) ∧ (loads a.op = true → (heavy b.op || isAl b.op) = true → idApart rs[j + i]? rs[j + k]?)
  | [], _, _, i, k, a, b, _, h, _, _ => by simp at h
  | x :: l, j, hc, i, k, a, b, hik, ha, hb, ht => by
    obtain ⟨h1, h2⟩ := idsApart_append hc
    cases k with
    | zero => omega
    | succ k =>
      cases i with
      | zero =>
        simp at ha; subst ha
        have := dps2_spec h1 k b (by simpa using hb) (by rw [show j + 1 + k = j + (k + 1) by omega]; exact ht)
        rwa [show j + 1 + k = j + (k + 1) by omega] at this
      | succ i =>
        have := dps1_spec h2 i k a b (by omega) (by simpa using ha) (by simpa using hb) (by rw [show j + 1 + k = j + (k + 1) by omega, show j + 1 + i = j + (i + 1) by omega]; exact ht)
        rwa [show j + 1 + k = j + (k + 1) by omega, show j + 1 + i = j + (i + 1) by omega] at this

-- FROM Vf
section
variable {ops : Array Oper} {o : Oper} {s s' : St} {r : Rcd}

theorem TS.m (h : TS P G ops o s r s') : s'.m = s.m := by cases h; exact m_app _ _ _ _; exact m_put _ _ _; exact m_put _ _ _; exact m_put _ _ _; exact m_put _ _ _; exact m_app _ _ _ _
theorem TS.d (h : TS P G ops o s r s') : s'.d = s.d := by cases h; exact d_app _ _ _ _; exact d_put _ _ _; exact d_put _ _ _; exact d_put _ _ _; exact d_put _ _ _; exact d_app _ _ _ _
theorem TS.get (h : TS P G ops o s r s') {t : Nat} (ht : o.dst ≠ some t) : s'.get t = s.get t := by
  cases h
  · rw [get_app, get_put, if_neg (fun h => ht h.1)]
  · rw [get_put, if_neg (fun h => ht h.1)]
  · rw [get_put, if_neg (fun h => ht h.1)]
  · rw [get_put, if_neg (fun h => ht h.1)]
  · rw [get_put, if_neg (fun h => ht h.1)]
  · rw [get_app, get_put, if_neg (fun h => ht h.1)]
theorem TS.get_ge (h : TS P G ops o s r s') {t : Nat} (ht : s.m ≤ t) : s'.get t = s.get t := by
  cases h
  · rw [get_app, get_put, if_neg (fun h => Nat.not_lt.2 ht h.2)]
  · rw [get_put, if_neg (fun h => Nat.not_lt.2 ht h.2)]
  · rw [get_put, if_neg (fun h => Nat.not_lt.2 ht h.2)]
  · rw [get_put, if_neg (fun h => Nat.not_lt.2 ht h.2)]
  · rw [get_put, if_neg (fun h => Nat.not_lt.2 ht h.2)]
  · rw [get_app, get_put, if_neg (fun h => Nat.not_lt.2 ht h.2)]
theorem TS.light (h : TS P G ops o s r s') (hh : heavy o.op = false) : s'.h = s.h := by
  cases h with
  | act ha hal _ => rw [h_app]; exact app_light _ _ (light_act hh hal ha).1 (light_act hh hal ha).2
  | skip _ => exact h_put _ _ _
  | call _ _ _ _ _ => exact h_put _ _ _
  | flt _ _ _ _ _ => exact h_put _ _ _
  | ext _ _ _ _ => exact h_put _ _ _
  | extH h _ _ _ _ _ => rw [hh] at h; cases h
theorem app_far {h : Hp} {fid : Option Nat} {ef : Ef} (hf : ∀ id, fid = some id → id < List.length h) {id : Nat} (h1 : fid ≠ some id) (h2 : id ≠ List.length h) : (h.app fid ef).get id = h.get id := by
  rw [Hp.get_app h hf]
  unfold Ef.updH
  split
  · rw [if_neg h2, if_neg h1]
  · rw [if_neg h1]
theorem TS.far (h : TS P G ops o s r s') {id : Nat} (hi : ∀ fid n, r = .act fid n → fid ≠ some id ∧ id ≠ n) : s'.h.get id = s.h.get id := by
  cases h with
  | act ha _ _ =>
    obtain ⟨h1, h2⟩ := hi _ _ rfl
    obtain ⟨ob, _, hf⟩ := vact_ok (G := G) ha
    rw [h_app]; exact app_far (fun id e => Hp.get_lt (by rw [(hf id e).1]; exact (hf id e).2.1)) h1 h2
  | skip _ => rw [h_put]
  | call _ _ _ _ _ => rw [h_put]
  | flt _ _ _ _ _ => rw [h_put]
  | ext _ _ _ _ => rw [h_put]
  | extH _ _ _ _ hf _ =>
    obtain ⟨h1, h2⟩ := hi _ _ rfl
    rw [h_app]; exact app_far (fun id e => Hp.get_lt (by rw [(hf id e).1]; exact (hf id e).2.1)) h1 h2
theorem TS.mark (h : TS P G ops o s r s') {id : Nat} (hd : s.h.get id = .dfr) : s'.h.get id = .dfr := by
  cases h with
  | act ha _ _ =>
    obtain ⟨ob, _, hf⟩ := vact_ok (G := G) ha
    rw [h_app, app_far (fun id e => Hp.get_lt (by rw [(hf id e).1]; exact (hf id e).2.1))]
    · exact hd
    · intro e; exact (hf id e).2.2 ((hf id e).1.symm.trans hd)
    · have : id < List.length s.h := Hp.get_lt (by rw [hd]; rfl)
      omega
  | skip _ => rw [h_put]; exact hd
  | call _ _ _ _ _ => rw [h_put]; exact hd
  | flt _ _ _ _ _ => rw [h_put]; exact hd
  | ext _ _ _ _ => rw [h_put]; exact hd
  | extH _ _ _ _ hf _ =>
    rw [h_app, app_far (fun id e => Hp.get_lt (by rw [(hf id e).1]; exact (hf id e).2.1))]
    · exact hd
    · intro e; exact (hf id e).2.2 ((hf id e).1.symm.trans hd)
    · have : id < List.length s.h := Hp.get_lt (by rw [hd]; rfl)
      omega
end

/-- What a region's text's run is, and what was asked of it. -/
structure Run (P : Program) (G : List (Nat × Obj)) (ops : Array Oper) (rs : List Rcd) (σ : Nat → St) : Prop where
  len : rs.length = ops.size
  ts : ∀ (i : Nat) (o : Oper) (r : Rcd), ops[i]? = some o → rs[i]? = some r → TS P G ops o (σ i) r (σ (i + 1))
  ed : ∀ (i : Nat) (a : Oper), ops[i]? = some a → ∀ e, e ∈ a.after.toList → Region.binds .any e = true → e.on < i
  ap : ∀ (i k : Nat) (a b : Oper), i < k → ops[i]? = some a → ops[k]? = some b → ((befs ops.toList []).getD k 0).testBit i = true ∨ (apartT ops a b = true ∧ apartH a.op b.op = true)
  ids : ∀ (i k : Nat) (a b : Oper), i < k → ops[i]? = some a → ops[k]? = some b → ((befs ops.toList []).getD k 0).testBit i = false →
    ((heavy a.op || isAl a.op) = true → loads b.op = true → idApart rs[k]? rs[i]?) ∧ (loads a.op = true → (heavy b.op || isAl b.op) = true → idApart rs[i]? rs[k]?)

/-- Which are the floats, and what is behind them. -/
structure Flo (ops : Array Oper) (rs : List Rcd) : Prop where
  one : ∀ (i j id : Nat), rs[i]? = some (.flt id) → rs[j]? = some (.flt id) → i = j
  hv : ∀ (i k : Nat) (a b : Oper), ops[i]? = some a → ops[k]? = some b → isAl a.op = true → heavy b.op = true → ((befs ops.toList []).getD k 0).testBit i = true

def pw (ops : Array Oper) (t j : Nat) : Bool := match ops[j]? with | some o => o.dst == some t | none => false
def ph (ops : Array Oper) (j : Nat) : Bool := match ops[j]? with | some o => heavy o.op | none => false

variable {ops : Array Oper} {rs : List Rcd} {σ : Nat → St}

theorem Run.step (R : Run P G ops rs σ) {i : Nat} (hi : i < ops.size) : ∃ r, rs[i]? = some r ∧ TS P G ops ops[i] (σ i) r (σ (i + 1)) := by
  have h2 : i < rs.length := by rw [R.len]; exact hi
  exact ⟨rs[i], List.getElem?_eq_getElem h2, R.ts i _ _ (Array.getElem?_eq_getElem hi) (List.getElem?_eq_getElem h2)⟩

theorem Run.get (R : Run P G ops rs σ) {t j : Nat} (hj : j < ops.size) (hp : pw ops t j = false) : (σ (j + 1)).get t = (σ j).get t := by
  obtain ⟨r, _, h⟩ := R.step hj
  refine h.get ?_
  simp only [pw, Array.getElem?_eq_getElem hj] at hp
  simpa using hp
theorem Run.hp (R : Run P G ops rs σ) {j : Nat} (hj : j < ops.size) (hp : ph ops j = false) : (σ (j + 1)).h = (σ j).h := by
  obtain ⟨r, _, h⟩ := R.step hj
  refine h.light ?_
  simpa only [ph, Array.getElem?_eq_getElem hj] using hp
theorem Run.m (R : Run P G ops rs σ) : ∀ i, i ≤ ops.size → (σ i).m = (σ 0).m
  | 0, _ => rfl
  | i + 1, hi => by obtain ⟨r, _, h⟩ := R.step (i := i) (by omega); rw [h.m]; exact R.m i (by omega)
theorem Run.d (R : Run P G ops rs σ) : ∀ i, i ≤ ops.size → (σ i).d = (σ 0).d
  | 0, _ => rfl
  | i + 1, hi => by obtain ⟨r, _, h⟩ := R.step (i := i) (by omega); rw [h.d]; exact R.d i (by omega)
theorem Run.dl (R : Run P G ops rs σ) {id : Nat} (h0 : (σ 0).h.get id = .dfr) : ∀ i, i ≤ ops.size → (σ i).h.get id = .dfr
  | 0, _ => h0
  | i + 1, hi => by obtain ⟨r, _, h⟩ := R.step (i := i) (by omega); exact h.mark (R.dl h0 i (by omega))

/-- What is closed under the edges. -/
def Closed (ops : Array Oper) (S : Nat → Bool) : Prop := ∀ (k : Nat) (o : Oper), ops[k]? = some o → S k = true → In S o
theorem Run.bef {S : Nat → Bool} (hc : Closed ops S) {k : Nat} {o : Oper} (ho : ops[k]? = some o) (hi : In S o) {j : Nat} (hb : ((befs ops.toList []).getD k 0).testBit j = true) : S j = true :=
  befs_spec (S := S) ops.toList [] [] rfl (by intro k o ho hk; exact hc k o (by simpa using ho) hk) (by simp) k o (by simpa using ho) hi j hb

/-- An operation that is ready, and another one that is not apart from it. -/
theorem Run.ord (R : Run P G ops rs σ) {S : Nat → Bool} (hc : Closed ops S) {i j : Nat} {o x : Oper} (ho : ops[i]? = some o) (hi : In S o) (hn : S i = false) (hx : ops[j]? = some x)
    (hap : ¬ (apartT ops x o = true ∧ apartH x.op o.op = true) ∨ i < j) (hap2 : ¬ (apartT ops o x = true ∧ apartH o.op x.op = true) ∨ j < i) : (j < i → S j = true) ∧ (i < j → S j = false) := by
  constructor
  · intro hlt
    rcases R.ap j i x o hlt hx ho with h | h
    · exact Run.bef hc ho hi h
    · exact absurd h (hap.resolve_right (by omega))
  · intro hlt
    rcases R.ap i j o x hlt ho hx with h | h
    · cases hj : S j with
      | false => rfl
      | true =>
        have := Run.bef hc hx (hc j x hx hj) h
        rw [hn] at this; cases this
    · exact absurd h (hap2.resolve_right (by omega))

/-- The temporary that an operation reads or writes. -/
theorem Run.tmp (R : Run P G ops rs σ) {S : Nat → Bool} (hc : Closed ops S) {i : Nat} {o : Oper} (ho : ops[i]? = some o) (hi : In S o) (hn : S i = false) {t : Nat} (ht : t ∈ rdT ops o ∨ o.dst = some t) {j : Nat} (hp : pw ops t j = true) :
    (j < i → S j = true) ∧ (i < j → S j = false) := by
  unfold pw at hp
  split at hp
  · rename_i x hx
    have hd : x.dst = some t := by simpa using hp
    refine R.ord hc ho hi hn hx (.inl ?_) (.inl ?_)
    · rintro ⟨h, _⟩
      simp only [apartT, hd, Bool.and_eq_true] at h
      rcases ht with ht | ht
      · have := h.1.1
        simp [ht] at this
      · have := h.1.2
        simp [ht] at this
    · rintro ⟨h, _⟩
      simp only [apartT, hd, Bool.and_eq_true] at h
      rcases ht with ht | ht
      · have := h.2
        simp [ht] at this
      · have := h.1
        simp [ht] at this
  · cases hp

def Tm (σ : Nat → St) (ops : Array Oper) (S : Nat → Bool) (t : Nat) : Val := (σ (lst (fun j => S j && pw ops t j) ops.size)).get t
def hS (σ : Nat → St) (ops : Array Oper) (S : Nat → Bool) : Hp := (σ (lst (fun j => S j && ph ops j) ops.size)).h

theorem Run.tm (R : Run P G ops rs σ) {S : Nat → Bool} (hc : Closed ops S) {i : Nat} {o : Oper} (ho : ops[i]? = some o) (hi : In S o) (hn : S i = false) {t : Nat} (ht : t ∈ rdT ops o ∨ o.dst = some t) : Tm σ ops S t = (σ i).get t := by
  have hlt : i < ops.size := (Array.getElem?_eq_some_iff.1 ho).1
  refine (lst_exact (f := fun k => (σ k).get t) (Nat.le_of_lt hlt) (fun j hj hp => (R.tmp hc ho hi hn ht hp).1 hj) ?_ (fun j hj hp => R.get hj hp)).1
  intro j hj hjn hp
  rcases Nat.lt_or_ge i j with h | h
  · exact (R.tmp hc ho hi hn ht hp).2 h
  · rw [show j = i by omega]; exact hn

def add_ (S : Nat → Bool) (i : Nat) : Nat → Bool := fun j => S j || (j == i)

theorem Run.tm_add (R : Run P G ops rs σ) {S : Nat → Bool} (hc : Closed ops S) {i : Nat} {o : Oper} (ho : ops[i]? = some o) (hi : In S o) (hn : S i = false) (t : Nat) :
    Tm σ ops (add_ S i) t = if o.dst = some t then (σ (i + 1)).get t else Tm σ ops S t := by
  have hlt : i < ops.size := (Array.getElem?_eq_some_iff.1 ho).1
  split
  · rename_i hd
    refine (lst_exact (f := fun k => (σ k).get t) (S := add_ S i) (p := pw ops t) hlt ?_ ?_ (fun j hj hp => R.get hj hp)).1
    · intro j hj hp
      rcases Nat.lt_or_ge j i with h | h
      · simp [add_, (R.tmp hc ho hi hn (.inr hd) hp).1 h]
      · simp [add_, show j = i by omega]
    · intro j hj hjn hp
      have hne : j ≠ i := by omega
      simp [add_, (R.tmp hc ho hi hn (.inr hd) hp).2 (by omega), hne]
  · rename_i hd
    unfold Tm
    rw [lst_congr]
    intro j hj
    by_cases e : j = i
    · subst e
      have : pw ops t j = false := by simp [pw, ho, hd]
      simp [this]
    · have e' : (j == i) = false := by simpa using e
      simp [add_, e']

/-- The heap at an operation that is heavy, or that calls. -/
theorem Run.heap (R : Run P G ops rs σ) {S : Nat → Bool} (hc : Closed ops S) {i : Nat} {o : Oper} (ho : ops[i]? = some o) (hi : In S o) (hn : S i = false) (hh : heavy o.op = true ∨ calls o.op = true) {j : Nat} (hp : ph ops j = true) :
    (j < i → S j = true) ∧ (i < j → S j = false) := by
  unfold ph at hp
  split at hp
  · rename_i x hx
    refine R.ord hc ho hi hn hx (.inl ?_) (.inl ?_)
    · rintro ⟨_, h⟩
      rcases hh with hh | hh <;> simp [apartH, hp, hh] at h
    · rintro ⟨_, h⟩
      rcases hh with hh | hh <;> simp [apartH, hp, hh] at h
  · cases hp

theorem Run.hS (R : Run P G ops rs σ) {S : Nat → Bool} (hc : Closed ops S) {i : Nat} {o : Oper} (ho : ops[i]? = some o) (hi : In S o) (hn : S i = false) (hh : heavy o.op = true ∨ calls o.op = true) : hS σ ops S = (σ i).h := by
  have hlt : i < ops.size := (Array.getElem?_eq_some_iff.1 ho).1
  refine (lst_exact (f := fun k => (σ k).h) (Nat.le_of_lt hlt) (fun j hj hp => (R.heap hc ho hi hn hh hp).1 hj) ?_ (fun j hj hp => R.hp hj hp)).1
  intro j hj hjn hp
  rcases Nat.lt_or_ge i j with h | h
  · exact (R.heap hc ho hi hn hh hp).2 h
  · rw [show j = i by omega]; exact hn

theorem Run.hS_add (R : Run P G ops rs σ) {S : Nat → Bool} (hc : Closed ops S) {i : Nat} {o : Oper} (ho : ops[i]? = some o) (hi : In S o) (hn : S i = false) :
    Flt.hS σ ops (add_ S i) = if heavy o.op = true then (σ (i + 1)).h else Flt.hS σ ops S := by
  have hlt : i < ops.size := (Array.getElem?_eq_some_iff.1 ho).1
  split
  · rename_i hd
    refine (lst_exact (f := fun k => (σ k).h) (S := add_ S i) (p := ph ops) hlt ?_ ?_ (fun j hj hp => R.hp hj hp)).1
    · intro j hj hp
      rcases Nat.lt_or_ge j i with h | h
      · simp [add_, (R.heap hc ho hi hn (.inl hd) hp).1 h]
      · simp [add_, show j = i by omega]
    · intro j hj hjn hp
      have hne : j ≠ i := by omega
      simp [add_, (R.heap hc ho hi hn (.inl hd) hp).2 (by omega), hne]
  · rename_i hd
    unfold Flt.hS
    rw [lst_congr]
    intro j hj
    by_cases e : j = i
    · subst e
      have : ph ops j = false := by simp [ph, ho]; simpa using hd
      simp [this]
    · have e' : (j == i) = false := by simpa using e
      simp [add_, e']

/-- The object that a load reads. -/
theorem Run.obj (R : Run P G ops rs σ) {S : Nat → Bool} (hc : Closed ops S) {i : Nat} {o : Oper} (ho : ops[i]? = some o) (hi : In S o) (hn : S i = false) (hl : loads o.op = true) {id n : Nat} (hr : rs[i]? = some (.act (some id) n)) :
    (Flt.hS σ ops S).get id = (σ i).h.get id := by
  have hlt : i < ops.size := (Array.getElem?_eq_some_iff.1 ho).1
  have hlight : ph ops i = false := by
    simp only [ph, ho]
    exact loads_light hl
  have far : ∀ j (hj : j < ops.size), (ph ops j = true → (j < i → S j = false) ∧ (i < j → S j = true)) → (σ (j + 1)).h.get id = (σ j).h.get id := by
    intro j hj hS
    cases hp : ph ops j with
    | false => rw [R.hp hj hp]
    | true =>
      obtain ⟨r, hrj, hts⟩ := R.step hj
      refine hts.far ?_
      rintro fid n' rfl
      have hx : ops[j]? = some ops[j] := Array.getElem?_eq_getElem hj
      have hh : heavy ops[j].op = true := by simpa [ph, hx] using hp
      obtain ⟨h1, h2⟩ := hS hp
      rcases Nat.lt_trichotomy j i with h | h | h
      · have hb : ((befs ops.toList []).getD i 0).testBit j = false := by
          cases hb : ((befs ops.toList []).getD i 0).testBit j with
          | false => rfl
          | true => have := Run.bef hc ho hi hb; rw [h1 h] at this; cases this
        have := (R.ids j i _ _ h hx ho hb).1 (by rw [hh]; rfl) hl
        rw [hr, hrj] at this
        exact this
      · subst h; rw [hlight] at hp; cases hp
      · have hb : ((befs ops.toList []).getD j 0).testBit i = false := by
          cases hb : ((befs ops.toList []).getD j 0).testBit i with
          | false => rfl
          | true => have := Run.bef hc hx (hc j _ hx (h2 h)) hb; rw [hn] at this; cases this
        have := (R.ids i j _ _ h ho hx hb).2 hl (by rw [hh]; rfl)
        rw [hr, hrj] at this
        exact this
  unfold Flt.hS
  rcases Nat.le_total (lst (fun j => S j && ph ops j) ops.size) i with h | h
  · refine (same_up (f := fun k => (σ k).h.get id) i h fun j h1 h2 => far j (by omega) fun hp => ⟨fun _ => ?_, fun h => by omega⟩).symm
    have := lst_not _ _ j h1 (by omega)
    simpa [hp] using this
  · refine same_up (f := fun k => (σ k).h.get id) _ h fun j h1 h2 => far j (by have := lst_le (fun j => S j && ph ops j) ops.size; omega) fun hp => ⟨fun h => by omega, fun hij => ?_⟩
    have hjn : j < ops.size := by have := lst_le (fun j => S j && ph ops j) ops.size; omega
    obtain ⟨k, hk⟩ : ∃ k, lst (fun j => S j && ph ops j) ops.size = k + 1 := ⟨_, (Nat.sub_add_cancel (show 1 ≤ lst (fun j => S j && ph ops j) ops.size by omega)).symm⟩
    obtain ⟨hq, hkn⟩ := lst_is _ _ _ hk
    have hq' : S k = true ∧ ph ops k = true := by simpa using hq
    by_cases e : j = k
    · rw [e]; exact hq'.1
    · have hxk : ops[k]? = some ops[k] := Array.getElem?_eq_getElem hkn
      have hxj : ops[j]? = some ops[j] := Array.getElem?_eq_getElem hjn
      have hhk : heavy ops[k].op = true := by simpa [ph, hxk] using hq'.2
      have hhj : heavy ops[j].op = true := by simpa [ph, hxj] using hp
      rcases R.ap j k _ _ (by omega) hxj hxk with h | h
      · exact Run.bef hc hxk (hc k _ hxk hq'.1) h
      · have := h.2
        simp [apartH, hhk, hhj] at this

end Go.Vm.Flt
/- Drawn regions in which new variables are laid at any time: the draws. -/
namespace Go.Vm.Flt
open Go Go.RowKit Go.Vm
variable {P : Program} {G : List (Nat × Obj)} {ro : Option Nat} {ops : Array Oper} {rs : List Rcd} {σ : Nat → St}

/-- A variable that is not laid yet. -/
def pnd (rs : List Rcd) (S : Nat → Bool) (id : Nat) : Prop := ∃ i, rs[i]? = some (.flt id) ∧ S i = false
def nS (σ : Nat → St) (ops : Array Oper) (rs : List Rcd) (S : Nat → Bool) : Nat → Prop := fun id => (hS σ ops S).D id ∧ ¬ pnd rs S id
open Classical in
noncomputable def HS (σ : Nat → St) (ops : Array Oper) (rs : List Rcd) (S : Nat → Bool) : Nat → Ob := fun id => if pnd rs S id then .gone else (hS σ ops S).get id

structure DInv (G : List (Nat × Obj)) (ops : Array Oper) (rs : List Rcd) (σ : Nat → St) (S : Nat → Bool) (V : View) (a : Act) (w : World) : Prop where
  sz : a.tmps.size = (σ 0).m
  tm : ∀ t, RV V (nS σ ops rs S) w (Tm σ ops S t) (a.tmps.getD t undef)
  hp : RelF G V w (nS σ ops rs S) (HS σ ops rs S)
  df : a.defers = []

theorem DInv.ev (R : Run P G ops rs σ) {S : Nat → Bool} (hc : Closed ops S) {i : Nat} {o : Oper} (ho : ops[i]? = some o) (hi : In S o) (hn : S i = false) {V : View} {a : Act} {w : World} (I : DInv G ops rs σ S V a w) :
    ∀ x, x ∈ o.op.operands → RV V (nS σ ops rs S) w ((σ i).ev x) (a.eval x) := by
  intro x hx
  cases x with
  | tmp t =>
    have : t ∈ rdT ops o := by
      unfold rdT
      exact List.mem_append_left _ (List.mem_filterMap.2 ⟨.tmp t, by simpa using hx, rfl⟩)
    show RV V _ w ((σ i).get t) (a.tmps.getD t undef)
    rw [← R.tm hc ho hi hn (.inl this)]
    exact I.tm t
  | const v => exact .c v
  | global g => exact .any _
  | func f => exact .fn rfl (by intro i d v h1; simp at h1)

theorem DInv.grd (R : Run P G ops rs σ) {S : Nat → Bool} (hc : Closed ops S) {i : Nat} {o : Oper} (ho : ops[i]? = some o) (hi : In S o) (hn : S i = false) {V : View} {a : Act} {w : World} (I : DInv G ops rs σ S V a w) {j : Nat} {b : Bool} {d : Nat}
    (hg : o.guard = some (j, b)) (h1 : (ops[j]?).bind (·.dst) = some d) {v : Value} (h2 : (σ i).get d = .c v) : a.tmps.getD d undef = v := by
  have hd : d ∈ rdT ops o := by
    unfold rdT
    rw [hg]
    refine List.mem_append_right _ ?_
    simp [gdst, h1]
  have h := I.tm d
  rw [R.tm hc ho hi hn (.inl hd), h2] at h
  exact h.c_inv

theorem DInv.wants (R : Run P G ops rs σ) {S : Nat → Bool} (hc : Closed ops S) {i : Nat} {o : Oper} (ho : ops[i]? = some o) (hi : In S o) (hn : S i = false) {V : View} {a : Act} {w : World} (I : DInv G ops rs σ S V a w) {j : Nat} {b b' : Bool} {d : Nat}
    (hg : o.guard = some (j, b)) (h1 : (ops[j]?).bind (·.dst) = some d) (h2 : (σ i).get d = .c (.bool b')) : yielded ops a.tmps j = some b' := by
  have hcv := I.grd R hc ho hi hn hg h1 h2
  rw [Array.getD_eq_getD_getElem?] at hcv
  unfold yielded
  rw [h1]
  cases hq : a.tmps[d]? with
  | none => rw [hq] at hcv; simp [undef] at hcv
  | some v => rw [hq] at hcv; simp at hcv; subst hcv; simp [hq]

/-- One more has run. -/
theorem DInv.next (R : Run P G ops rs σ) {S : Nat → Bool} (hc : Closed ops S) {i : Nat} {o : Oper} (ho : ops[i]? = some o) (hi : In S o) (hn : S i = false) {V V' : View} {a : Act} {w w' : World} (I : DInv G ops rs σ S V a w)
    {x : Value} (hp : RelF G V' w' (nS σ ops rs (add_ S i)) (HS σ ops rs (add_ S i))) (hs : Step V w (nS σ ops rs S) (HS σ ops rs S) V' w' (HS σ ops rs (add_ S i))) (hD : ∀ j, nS σ ops rs S j → nS σ ops rs (add_ S i) j)
    (hx : ∀ d, o.dst = some d → d < (σ 0).m → RV V' (nS σ ops rs (add_ S i)) w' ((σ (i + 1)).get d) x) : DInv G ops rs σ (add_ S i) V' (a.put o.dst x) w' := by
  have hlt : i < ops.size := (Array.getElem?_eq_some_iff.1 ho).1
  have hold : ∀ t, RV V' (nS σ ops rs (add_ S i)) w' (Tm σ ops S t) (a.tmps.getD t undef) := fun t => (I.tm t).step hs I.hp hD
  refine ⟨?_, ?_, hp, ?_⟩
  · cases o.dst with
    | none => exact I.sz
    | some d => show (a.tmps.setIfInBounds d x).size = _; rw [Array.size_setIfInBounds]; exact I.sz
  · intro t
    rw [R.tm_add hc ho hi hn t]
    split
    · rename_i hd
      show RV _ _ _ _ ((a.put o.dst x).tmps.getD t undef)
      rw [hd]
      show RV _ _ _ _ ((a.tmps.setIfInBounds t x).getD t undef)
      by_cases hlt' : t < (σ 0).m
      · have : t < a.tmps.size := by rw [I.sz]; exact hlt'
        simp only [Array.getD_eq_getD_getElem?, Array.getElem?_setIfInBounds_self_of_lt this, Option.getD_some]
        exact hx t hd hlt'
      · rw [Array.setIfInBounds_eq_of_size_le (by rw [I.sz]; omega)]
        have h1 := hold t
        rw [R.tm hc ho hi hn (.inr hd)] at h1
        have : (σ (i + 1)).get t = (σ i).get t := by
          obtain ⟨r, _, h⟩ := R.step hlt
          exact h.get_ge (by rw [R.m i (by omega)]; omega)
        rw [this]; exact h1
    · rename_i hd
      have : (a.put o.dst x).tmps.getD t undef = a.tmps.getD t undef := by
        cases hod : o.dst with
        | none => rfl
        | some d =>
          have : d ≠ t := by rintro rfl; exact hd hod
          show (a.tmps.setIfInBounds d x).getD t undef = _
          rw [Array.getD_eq_getD_getElem?, Array.getD_eq_getD_getElem?, Array.getElem?_setIfInBounds_ne this]
      rw [this]; exact hold t
  · cases o.dst <;> exact I.df

/-- A call that names no object, wherever it is made. -/
theorem VCall.at_ {fv : Val} {args : List Val} {r : Val} (hc : VCall P G fv args [] (fun r' h' => r' = r ∧ h' = [])) (hf : Ok (fun _ => False) fv) (ha : ∀ a, a ∈ args → Ok (fun _ => False) a)
    {V : View} {w : World} {n : Nat → Prop} {H : Nat → Ob} {fx : Value} {ax : Array Value} (hr : RelF G V w n H) (hfx : RV V n w fv fx) (hax : RVs V n w args ax) :
    Into P fx ax w (fun v w' => ∃ V', RelF G V' w' n H ∧ Step V w n H V' w' H ∧ RV V' n w' r v) := by
  have hD : ∀ i, Hp.D [] i → False := by intro i hi; simp [Hp.D] at hi
  have hG : ∀ i, Hp.get [] i = .gone := by intro i; rfl
  have hr0 : RelF G V w (Hp.D []) (Hp.get []) := by
    refine ⟨fun id hid => (hD id hid).elim, fun id _ => hG id, ?_, ?_, ?_, hr.shlt, hr.gl⟩
    · intro i j b h1; rw [hG] at h1; simp [Ob.live] at h1
    · intro i b h1; rw [hG] at h1; simp [Ob.live] at h1
    · intro i b h1; rw [hG] at h1; simp [Ob.live] at h1
  have sub : ∀ {d : Val}, Ok (fun _ => False) d → Ok (Hp.D []) d := fun h => h.mono (fun _ h => h.elim)
  refine (hc V w fx ax hr0 (hfx.shrink (sub hf)) ⟨hax.1, fun i d v h1 h2 => (hax.2 i d v h1 h2).shrink (sub (ha d (List.mem_of_getElem? h1)))⟩).mono ?_
  rintro v w' ⟨V', r', h', k1, k2, k3, k4, rfl, rfl⟩
  have keep : ∀ k, k < w.heap.size → w'.heap[k]? = w.heap[k]? := fun k hk => k2.keep k hk (fun i hi => by rw [hG] at hi; simp [Ob.live] at hi)
  have shn : ∀ k, V'.sh k → k < w.heap.size → V.sh k := fun k hk hlt => by
    rcases k2.shn k hk hlt with h1 | ⟨i, hi, _⟩
    · exact h1
    · rw [hG] at hi; simp [Ob.live] at hi
  let V2 : View := { at_ := V.at_, cap := V.cap, sh := V'.sh }
  refine ⟨V2, ⟨?_, hr.dead, hr.inj, ?_, ?_, k1.shlt, k1.gl⟩, ⟨fun _ _ => rfl, fun _ _ => rfl, k2.sh, fun k hk hlt => .inl (shn k hk hlt), k2.size, k2.os, k2.tape, k2.output, fun k hk _ => keep k hk, fun i b h1 h2 _ => ⟨i, h1, h2⟩⟩, ?_⟩
  · intro id hid
    exact RO.mono (V := V) (V' := V2) (fun _ h => h) (fun _ _ => rfl) (fun _ _ => rfl) k2.sh (fun k hk => keep k (hr.shlt k hk)) hid (hr.obj id hid) (fun hl b hb => keep b (hr.lt id b hl hb))
  · intro i b hi hb hs
    exact hr.apart i b hi hb (shn b hs (hr.lt i b hi hb))
  · intro i b hi hb; exact Nat.lt_of_lt_of_le (hr.lt i b hi hb) k2.size
  · exact RV.mono (V := V') (V' := V2) (n := Hp.D []) (n' := n) (fun i hi => (hD i hi).elim) (fun i hi => (hD i hi).elim) (fun i hi => (hD i hi).elim) (fun _ h => h) (fun _ _ => rfl) k4

theorem pnd_add {S : Nat → Bool} {i id : Nat} (h : pnd rs (add_ S i) id) : pnd rs S id := by
  obtain ⟨j, h1, h2⟩ := h
  refine ⟨j, h1, ?_⟩
  simp [add_] at h2; exact h2.1
theorem pnd_same {S : Nat → Bool} {i id : Nat} (hf : ∀ id, rs[i]? ≠ some (.flt id)) : pnd rs (add_ S i) id ↔ pnd rs S id := by
  refine ⟨pnd_add, fun ⟨j, h1, h2⟩ => ⟨j, h1, ?_⟩⟩
  have : j ≠ i := by rintro rfl; exact hf id h1
  simp [add_, h2, this]

theorem TS.hlen {o : Oper} {s s' : St} {r : Rcd} (h : TS P G ops o s r s') : List.length s.h ≤ List.length s'.h := by
  cases h with
  | @act fid ef ha _ _ =>
    rw [h_app]
    have h1 : ∀ i, s.h.D i → (s.h.app fid ef).D i := by
      intro i hi; rw [Hp.D_app]; exact .inl hi
    rcases Nat.eq_zero_or_pos (List.length s.h) with h0 | h0
    · omega
    · have h2 : List.length s.h - 1 < List.length (s.h.app fid ef) := h1 (List.length s.h - 1) (by show _ < _; omega)
      omega
  | @extH fid ob ef _ _ _ _ _ _ =>
    rw [h_app]
    have h1 : ∀ i, s.h.D i → (s.h.app fid ef).D i := by
      intro i hi; rw [Hp.D_app]; exact .inl hi
    rcases Nat.eq_zero_or_pos (List.length s.h) with h0 | h0
    · omega
    · have h2 : List.length s.h - 1 < List.length (s.h.app fid ef) := h1 (List.length s.h - 1) (by show _ < _; omega)
      omega
  | skip _ => rw [h_put]; exact Nat.le_refl _
  | call _ _ _ _ _ => rw [h_put]; exact Nat.le_refl _
  | flt _ _ _ _ _ => rw [h_put]; exact Nat.le_refl _
  | ext _ _ _ _ => rw [h_put]; exact Nat.le_refl _
theorem Run.hlenN (R : Run P G ops rs σ) : ∀ i, i ≤ ops.size → List.length (σ 0).h ≤ List.length (σ i).h
  | 0, _ => Nat.le_refl _
  | i + 1, h => by
    obtain ⟨r, _, hts⟩ := R.step (i := i) (by omega)
    exact Nat.le_trans (R.hlenN i (by omega)) hts.hlen
theorem Run.hlen (R : Run P G ops rs σ) (S : Nat → Bool) : List.length (σ 0).h ≤ List.length (Flt.hS σ ops S) := R.hlenN _ (lst_le _ _)

theorem light_fid {T : Nat → Option TD} {op : Op} {ev : Operand → Val} {h : Hp} {fid : Option Nat} {ef : Ef} (hh : heavy op = false) (hal : isAl op = false) (ha : vact T op ev h = some (fid, ef)) :
    ∀ id, fid = some id → ∃ x, x ∈ op.operands ∧ ((∃ off, ev x = .ptr id off) ∨ (∃ sz i j, ev x = .ep id sz i j) ∨ ev x = .mp id) := by
  have hq : ∀ {r : Val} {p : Prop}, q_ r = some (fid, ef) → ∀ id, fid = some id → p := fun h id e => by rw [(q_eq h).1] at e; cases e
  have hn : ∀ {p : Prop}, (none : Act2) = some (fid, ef) → p := fun h => by cases h
  intro id hid
  cases op <;> simp only [heavy, Bool.true_eq_false] at hh <;> simp only [isAl, Bool.true_eq_false] at hal <;> simp only [vact] at ha
  case load t x =>
    refine ⟨x, by simp [Op.operands], ?_⟩
    unfold aLoad at ha
    repeat' split at ha
    all_goals first | exact hn ha | exact hq ha id hid | (cases ha; cases hid; first | exact .inl ⟨_, by assumption⟩ | exact .inr (.inl ⟨_, _, _, by assumption⟩))
  case call c =>
    unfold aCall aCallee at ha
    split at ha
    · unfold aBuiltin at ha
      split at ha
      · rename_i x t h1 h2 h3
        unfold aLenH at ha
        split at ha
        · repeat' split at ha
          all_goals first | exact hn ha | (cases ha; cases hid; exact ⟨x, by simp only [Op.operands, Call.operands]; simp [← Array.mem_toList_iff, h1], .inr (.inr (by assumption))⟩)
        · unfold aLen at ha
          repeat' split at ha
          all_goals first | exact hn ha | exact hq ha id hid
      · unfold aMax at ha
        repeat' split at ha
        all_goals first | exact hn ha | exact hq ha id hid
      · simp [*] at hh
      · exact hn ha
    · exact hn ha
  all_goals first
    | exact hq ha id hid
    | exact hn ha
    | (simp only [aBin, aUn, aPick, aNil, aExtract, aField, aIndexAddr, aIndex, aFieldV, aConv, aBuild, aBuildSlice, aMakeFunc] at ha
       repeat' split at ha
       all_goals first | exact hn ha | exact hq ha id hid)

theorem flt_al (R : Run P G ops rs σ) {j id : Nat} (h : rs[j]? = some (.flt id)) : ∃ o, ops[j]? = some o ∧ isAl o.op = true := by
  have hj : j < ops.size := by rw [← R.len]; exact (List.getElem?_eq_some_iff.1 h).1
  have := R.ts j _ _ (Array.getElem?_eq_getElem hj) h
  generalize σ (j + 1) = s1 at this
  cases this with
  | flt h1 _ _ _ _ => exact ⟨_, Array.getElem?_eq_getElem hj, by rw [h1]; rfl⟩

theorem bef_lt (R : Run P G ops rs σ) {i k : Nat} {b : Oper} (hb : ops[k]? = some b) (h : ((befs ops.toList []).getD k 0).testBit i = true) : i < k := by
  have := Run.bef (S := fun j => decide (j < k)) (ops := ops) (fun j o ho hj e he hbd => by
    have h1 := R.ed j o ho e he hbd
    have : j < k := by simpa using hj
    simp; omega) hb (fun e he hbd => by simpa using R.ed k b hb e he hbd) h
  simpa using this

theorem flt_heap (R : Run P G ops rs σ) (F : Flo ops rs) {S : Nat → Bool} (hc : Closed ops S) {i id : Nat} {o : Oper} (ho : ops[i]? = some o) (hn : S i = false) (hr : rs[i]? = some (.flt id)) : hS σ ops S = (σ 0).h ∧ (σ i).h = (σ 0).h := by
  obtain ⟨o', ho', hal⟩ := flt_al R hr
  rw [ho] at ho'; cases ho'
  have hlt : i < ops.size := (Array.getElem?_eq_some_iff.1 ho).1
  have hv : ∀ k (x : Oper), ops[k]? = some x → heavy x.op = true → i < k ∧ S k = false := by
    intro k x hx hh
    have hb := F.hv i k o x ho hx hal hh
    refine ⟨bef_lt R hx hb, ?_⟩
    cases hS : S k with
    | false => rfl
    | true => have := Run.bef hc hx (hc k x hx hS) hb; rw [hn] at this; cases this
  refine ⟨?_, ?_⟩
  · unfold Flt.hS
    have : lst (fun j => S j && ph ops j) ops.size = 0 := by
      cases hl : lst (fun j => S j && ph ops j) ops.size with
      | zero => rfl
      | succ k =>
        obtain ⟨hq, hk⟩ := lst_is _ _ _ hl
        have hq' : S k = true ∧ ph ops k = true := by simpa using hq
        have hx : ops[k]? = some ops[k] := Array.getElem?_eq_getElem hk
        have := (hv k _ hx (by simpa [ph, hx] using hq'.2)).2
        rw [hq'.1] at this; cases this
    rw [this]
  · refine same_up (f := fun k => (σ k).h) i (Nat.zero_le _) fun j _ hj => R.hp (by omega) ?_
    cases hp : ph ops j with
    | false => rfl
    | true =>
      have hjl : j < ops.size := by omega
      have hx : ops[j]? = some ops[j] := Array.getElem?_eq_getElem hjl
      have := (hv j _ hx (by simpa [ph, hx] using hp)).1
      omega

open Classical in
theorem HS_same {S S' : Nat → Bool} (h1 : hS σ ops S' = hS σ ops S) (h2 : ∀ id, pnd rs S' id ↔ pnd rs S id) : HS σ ops rs S' = HS σ ops rs S := by
  funext j
  show (if pnd rs S' j then Ob.gone else (hS σ ops S').get j) = (if pnd rs S j then Ob.gone else (hS σ ops S).get j)
  rw [h1]
  by_cases h : pnd rs S j
  · rw [if_pos h, if_pos ((h2 j).2 h)]
  · rw [if_neg h, if_neg (fun k => h ((h2 j).1 k))]

open Classical in
theorem draw_step (R : Run P G ops rs σ) (F : Flo ops rs) (hfl : ∀ (i id : Nat), rs[i]? = some (.flt id) → id < List.length (σ 0).h) {S : Nat → Bool} (hc : Closed ops S) {i : Nat} {o : Oper} (ho : ops[i]? = some o) (hi : In S o) (hn : S i = false) {V : View} {a : Act} {w : World} (I : DInv G ops rs σ S V a w)
    {n : Nat} {Q : Exit → Act → World → Prop} {K : Act → World → Prop}
    (hK : ∀ V' a' w', DInv G ops rs σ (add_ S i) V' a' w' → Step V w (nS σ ops rs S) (HS σ ops rs S) V' w' (HS σ ops rs (add_ S i)) → (∀ j, nS σ ops rs S j → nS σ ops rs (add_ S i) j) → K a' w') : wpOpIn (fence ro) n P ops Q i K a w := by
  have hlt : i < ops.size := (Array.getElem?_eq_some_iff.1 ho).1
  obtain ⟨r, hr, hts⟩ := R.step hlt
  have he : ops[i] = o := by rw [Array.getElem?_eq_getElem hlt] at ho; exact Option.some.inj ho
  rw [he] at hts
  have hev := I.ev R hc ho hi hn
  have hadd := R.hS_add hc ho hi hn
  have hwants : Wants ops (σ i) o → Region.wanted o (yielded ops a.tmps) = true := by
    rintro (h | ⟨j, b, d, h1, h2, h3⟩)
    · simp [Region.wanted, h]
    · simp [Region.wanted, h1, I.wants R hc ho hi hn h1 h2 h3]
  unfold wpOpIn
  simp only [ho]
  generalize hs1 : σ (i + 1) = s1 at hts hadd
  have hnid : ¬ nS σ ops rs S (List.length (hS σ ops S)) := by intro h; have := h.1; simp [Hp.D] at this
  cases hts with
  | @act fid ef ha hal hg =>
    rw [if_pos (hwants hg)]
    have hps : ∀ id, pnd rs (add_ S i) id ↔ pnd rs S id := fun id => pnd_same (fun id h => by rw [hr] at h; cases h)
    have hheavy : heavy o.op = true → hS σ ops S = (σ i).h := fun h => R.hS hc ho hi hn (.inl h)
    have ha' : vact (tdOf P) o.op (σ i).ev (hS σ ops S) = some (fid, ef) := by
      cases hh : heavy o.op with
      | true => rw [hheavy hh]; exact ha
      | false => exact light_local hh hal ha fun hl id hid => by subst hid; exact R.obj hc ho hi hn hl hr
    obtain ⟨ob, hd, hf⟩ := vact_ok (G := G) ha'
    have hnp : ∀ id, fid = some id → ¬ pnd rs S id := by
      intro id hid
      cases hh : heavy o.op with
      | true =>
        rintro ⟨j, h1, h2⟩
        obtain ⟨x, hx, hxa⟩ := flt_al R h1
        have := Run.bef hc ho hi (F.hv j i x o hx ho hxa hh)
        rw [h2] at this; cases this
      | false =>
        obtain ⟨x, hx, hv⟩ := light_fid hh hal ha id hid
        have hrv := hev x hx
        rcases hv with ⟨off, hv⟩ | ⟨sz, i', j', hv⟩ | hv
        · rw [hv] at hrv
          have := hrv.ok
          cases this; exact (‹nS σ ops rs S id›).2
        · rw [hv] at hrv
          have := hrv.ok
          cases this; exact (‹nS σ ops rs S id›).2
        · rw [hv] at hrv
          have := hrv.ok
          cases this; exact (‹nS σ ops rs S id›).2
    have hlen : List.length (σ 0).h ≤ List.length (hS σ ops S) := R.hlen S
    have hnew : ef.nw ≠ none → ∀ id, ¬ pnd rs S id := by
      intro hnw id
      cases hh : heavy o.op with
      | true =>
        rintro ⟨j, h1, h2⟩
        obtain ⟨x, hx, hxa⟩ := flt_al R h1
        have := Run.bef hc ho hi (F.hv j i x o hx ho hxa hh)
        rw [h2] at this; cases this
      | false => exact absurd (light_act hh hal ha).2 hnw
    have hnext : hS σ ops (add_ S i) = (hS σ ops S).app fid ef := by
      rw [hadd]
      split
      · rename_i hh; rw [hheavy hh]; exact h_app _ _ _ _
      · rename_i hh
        have hh : heavy o.op = false := by simpa using hh
        exact (app_light _ _ (light_act hh hal ha).1 (light_act hh hal ha).2).symm
    have hfl' : ∀ id, fid = some id → id < (hS σ ops S).length := fun id e => Hp.get_lt (by rw [(hf id e).1]; exact (hf id e).2.1)
    obtain ⟨x, w', V', hrun, k1, k2, k3⟩ := hd V (nS σ ops rs S) w (HS σ ops rs S) a.eval I.hp hev (fun id e => by unfold HS; rw [if_neg (hnp id e)]; exact (hf id e).1) hnid
    have eD : ef.addD (nS σ ops rs S) (List.length (hS σ ops S)) = nS σ ops rs (add_ S i) := by
      funext j
      unfold nS
      rw [hnext, Hp.D_app]
      simp only [Ef.addD, hps j, eq_iff_iff]
      constructor
      · rintro (h | ⟨h, rfl⟩)
        · exact ⟨.inl h.1, h.2⟩
        · exact ⟨.inr ⟨h, rfl⟩, hnew (by intro e; rw [e] at h; cases h) _⟩
      · rintro ⟨h | h, hp⟩
        · exact .inl ⟨h, hp⟩
        · exact .inr h
    have hH1 : ∀ j, HS σ ops rs S j = if pnd rs S j then .gone else (hS σ ops S).get j := fun _ => rfl
    have hH2 : ∀ j, HS σ ops rs (add_ S i) j = if pnd rs (add_ S i) j then .gone else (hS σ ops (add_ S i)).get j := fun _ => rfl
    have eH : ef.updH (HS σ ops rs S) fid (List.length (hS σ ops S)) = HS σ ops rs (add_ S i) := by
      funext j
      rw [hH2, hnext, Hp.get_app (hS σ ops S) hfl']
      by_cases hp : pnd rs S j
      · rw [if_pos ((hps j).2 hp)]
        have hjl : j ≠ List.length (hS σ ops S) := by
          obtain ⟨q, h1, _⟩ := hp
          have := hfl q j h1
          omega
        have hjf : fid ≠ some j := fun e => hnp j e hp
        simp only [Ef.updH, hH1]
        split
        · rw [if_neg hjl, if_neg hjf, if_pos hp]
        · rw [if_neg hjf, if_pos hp]
      · rw [if_neg (fun h => hp ((hps j).1 h))]
        simp only [Ef.updH, hH1]
        rw [if_neg hp]
    rw [eD, eH] at k1
    rw [eH] at k2
    rw [eD] at k3
    have hD : ∀ j, nS σ ops rs S j → nS σ ops rs (add_ S i) j := by rw [← eD]; exact fun j h => .inl h
    have hI := I.next R hc ho hi hn k1 k2 hD (x := x) (by
      intro d hd hdm
      rw [hs1, get_app, get_put, if_pos ⟨hd, by rw [R.m i (Nat.le_of_lt hlt)]; exact hdm⟩]; exact k3)
    refine ⟨fun _ _ => trivial, ?_⟩
    rw [Oper.semAt_eq _ _ _ (not_defer ha)]
    rcases hrun with hrun | ⟨hrun, rfl⟩
    · rw [hrun]; exact hK V' _ w' hI k2 hD
    · rw [hrun]; exact hK V' _ w' hI k2 hD
  | @extH fid ob ef hh hal hnd hg hf0 hd0 =>
    rw [if_pos (hwants hg)]
    have hps : ∀ id, pnd rs (add_ S i) id ↔ pnd rs S id := fun id => pnd_same (fun id h => by rw [hr] at h; cases h)
    have hheavy : heavy o.op = true → hS σ ops S = (σ i).h := fun h => R.hS hc ho hi hn (.inl h)
    have hd := hd0 (List.length (hS σ ops S))
    have hf : ∀ id, fid = some id → (hS σ ops S).get id = ob ∧ ob.live = true ∧ ob ≠ .dfr := by rw [hheavy hh]; exact hf0
    have hnp : ∀ id, fid = some id → ¬ pnd rs S id := by
      rintro id hid ⟨j, h1, h2⟩
      obtain ⟨x, hx, hxa⟩ := flt_al R h1
      have := Run.bef hc ho hi (F.hv j i x o hx ho hxa hh)
      rw [h2] at this; cases this
    have hlen : List.length (σ 0).h ≤ List.length (hS σ ops S) := R.hlen S
    have hnew : ef.nw ≠ none → ∀ id, ¬ pnd rs S id := by
      rintro hnw id ⟨j, h1, h2⟩
      obtain ⟨x, hx, hxa⟩ := flt_al R h1
      have := Run.bef hc ho hi (F.hv j i x o hx ho hxa hh)
      rw [h2] at this; cases this
    have hnext : hS σ ops (add_ S i) = (hS σ ops S).app fid ef := by
      rw [hadd, if_pos hh, hheavy hh]; exact h_app _ _ _ _
    have hfl' : ∀ id, fid = some id → id < (hS σ ops S).length := fun id e => Hp.get_lt (by rw [(hf id e).1]; exact (hf id e).2.1)
    obtain ⟨x, w', V', hrun, k1, k2, k3⟩ := hd V (nS σ ops rs S) w (HS σ ops rs S) a.eval I.hp hev (fun id e => by unfold HS; rw [if_neg (hnp id e)]; exact (hf id e).1) hnid
    have eD : ef.addD (nS σ ops rs S) (List.length (hS σ ops S)) = nS σ ops rs (add_ S i) := by
      funext j
      unfold nS
      rw [hnext, Hp.D_app]
      simp only [Ef.addD, hps j, eq_iff_iff]
      constructor
      · rintro (h | ⟨h, rfl⟩)
        · exact ⟨.inl h.1, h.2⟩
        · exact ⟨.inr ⟨h, rfl⟩, hnew (by intro e; rw [e] at h; cases h) _⟩
      · rintro ⟨h | h, hp⟩
        · exact .inl ⟨h, hp⟩
        · exact .inr h
    have hH1 : ∀ j, HS σ ops rs S j = if pnd rs S j then .gone else (hS σ ops S).get j := fun _ => rfl
    have hH2 : ∀ j, HS σ ops rs (add_ S i) j = if pnd rs (add_ S i) j then .gone else (hS σ ops (add_ S i)).get j := fun _ => rfl
    have eH : ef.updH (HS σ ops rs S) fid (List.length (hS σ ops S)) = HS σ ops rs (add_ S i) := by
      funext j
      rw [hH2, hnext, Hp.get_app (hS σ ops S) hfl']
      by_cases hp : pnd rs S j
      · rw [if_pos ((hps j).2 hp)]
        have hjl : j ≠ List.length (hS σ ops S) := by
          obtain ⟨q, h1, _⟩ := hp
          have := hfl q j h1
          omega
        have hjf : fid ≠ some j := fun e => hnp j e hp
        simp only [Ef.updH, hH1]
        split
        · rw [if_neg hjl, if_neg hjf, if_pos hp]
        · rw [if_neg hjf, if_pos hp]
      · rw [if_neg (fun h => hp ((hps j).1 h))]
        simp only [Ef.updH, hH1]
        rw [if_neg hp]
    rw [eD, eH] at k1
    rw [eH] at k2
    rw [eD] at k3
    have hD : ∀ j, nS σ ops rs S j → nS σ ops rs (add_ S i) j := by rw [← eD]; exact fun j h => .inl h
    have hI := I.next R hc ho hi hn k1 k2 hD (x := x) (by
      intro d hd hdm
      rw [hs1, get_app, get_put, if_pos ⟨hd, by rw [R.m i (Nat.le_of_lt hlt)]; exact hdm⟩]; exact k3)
    refine ⟨fun _ _ => trivial, ?_⟩
    rw [Oper.semAt_eq _ _ _ hnd]
    rcases hrun with hrun | ⟨hrun, rfl⟩
    · rw [hrun]; exact hK V' _ w' hI k2 hD
    · rw [hrun]; exact hK V' _ w' hI k2 hD
  | skip hg =>
    obtain ⟨j, b, h1, h2⟩ := hg
    have hw : Region.wanted o (yielded ops a.tmps) = false := by
      have := not_yielded (tmps := a.tmps) (b := b) (ops := ops) (j := j) (fun d hd => by
        obtain ⟨v, h3, h4⟩ := h2 d hd
        exact ⟨v, I.grd R hc ho hi hn h1 hd h3, h4⟩)
      simp only [Region.wanted, h1]
      simpa using this
    rw [if_neg (by rw [hw]; simp)]
    refine ⟨fun _ _ => trivial, ?_⟩
    have hps : ∀ id, pnd rs (add_ S i) id ↔ pnd rs S id := fun id => pnd_same (fun id h => by rw [hr] at h; cases h)
    have hnext : hS σ ops (add_ S i) = hS σ ops S := by
      rw [hadd]
      split
      · rename_i hh; rw [h_put]; exact (R.hS hc ho hi hn (.inl hh)).symm
      · rfl
    have e1 : nS σ ops rs (add_ S i) = nS σ ops rs S := by funext j; unfold nS; rw [hnext]; simp [hps]
    have e2 : HS σ ops rs (add_ S i) = HS σ ops rs S := HS_same hnext hps
    refine hK V _ w (I.next R hc ho hi hn (by rw [e1, e2]; exact I.hp) (by rw [e2]; exact Step.refl _ _ _ _) (by rw [e1]; exact fun _ h => h) ?_) (by rw [e2]; exact Step.refl _ _ _ _) (by rw [e1]; exact fun _ h => h)
    intro d hd hdm
    rw [hs1, get_put, if_pos ⟨hd, by rw [R.m i (Nat.le_of_lt hlt)]; exact hdm⟩]; exact .c _
  | @call f args at_ r hop hg hcall hokf hoka =>
    rw [if_pos (hwants hg)]
    have hps : ∀ id, pnd rs (add_ S i) id ↔ pnd rs S id := fun id => pnd_same (fun id h => by rw [hr] at h; cases h)
    have hnext : hS σ ops (add_ S i) = hS σ ops S := by
      rw [hadd, if_neg (by rw [hop]; simp [heavy])]
    have e1 : nS σ ops rs (add_ S i) = nS σ ops rs S := by funext j; unfold nS; rw [hnext]; simp [hps]
    have e2 : HS σ ops rs (add_ S i) = HS σ ops rs S := HS_same hnext hps
    have hargs : RVs V (nS σ ops rs S) w (args.toList.map (σ i).ev) (args.map a.eval) := by
      refine ⟨by simp, ?_⟩
      intro k d v h1 h2
      simp only [List.getElem?_map, Array.getElem?_map, Option.map_eq_some_iff] at h1 h2
      obtain ⟨x, hx, rfl⟩ := h1
      obtain ⟨y, hy, rfl⟩ := h2
      have : x = y := by
        have hx2 : args[k]? = some x := by simpa using hx
        rw [hx2] at hy; exact Option.some.inj hy
      subst this
      refine hev x ?_
      rw [hop]
      have : x ∈ args := by
        have hx2 : args[k]? = some x := by simpa using hx
        exact Array.mem_of_getElem? hx2
      simp [Op.operands, Call.operands, this]
    have hfv : RV V (nS σ ops rs S) w ((σ i).ev f) (a.eval f) := by
      refine hev f ?_; rw [hop]; simp [Op.operands, Call.operands]
    have hfin : ∀ v w', (∃ V', RelF G V' w' (nS σ ops rs S) (HS σ ops rs S) ∧ Step V w (nS σ ops rs S) (HS σ ops rs S) V' w' (HS σ ops rs S) ∧ RV V' (nS σ ops rs S) w' r v) → K (a.put o.dst v) w' := by
      rintro v w' ⟨V', k1, k2, k4⟩
      refine hK V' _ w' (I.next R hc ho hi hn (by rw [e1, e2]; exact k1) (by rw [e2]; exact k2) (by rw [e1]; exact fun _ h => h) ?_) (by rw [e2]; exact k2) (by rw [e1]; exact fun _ h => h)
      intro d hd hdm
      rw [hs1, get_put, if_pos ⟨hd, by rw [R.m i (Nat.le_of_lt hlt)]; exact hdm⟩, e1]; exact k4
    refine ⟨fun _ _ => trivial, ?_⟩
    rw [Oper.semAt_eq _ _ _ (by rw [hop]; simp)]
    rcases VCall.at_ hcall hokf hoka I.hp hfv hargs with ⟨g, caps, h1, h2, h3⟩ | ⟨lp, fn, tmps, assign, body, h1, h2, h3⟩
    · have hrun : (execOp a.eval o).run P w = .ok (.enter g (args.map a.eval ++ caps)) w := by
        simp [execOp, hop, resolve, h1, Deferred.ofValue, invoke, h2]
      rw [hrun]
      refine ⟨by simp, (callsIn_any (h3)).mono ?_⟩
      rintro e w' ⟨v, rfl, hq⟩
      exact hfin v w' hq
    · have hrun : (execOp a.eval o).run P w = .ok (.round lp fn tmps assign body) w := by
        simp [execOp, hop, resolve, h1, Deferred.ofValue, invoke, h2]
      rw [hrun]
      refine ⟨by simp, (roundIn_any h3).mono ?_⟩
      rintro e w' ⟨v, rfl, hq⟩
      exact hfin v w' hq
  | @ext r hhv hnd hg hd =>
    rw [if_pos (hwants hg)]
    have hps : ∀ id, pnd rs (add_ S i) id ↔ pnd rs S id := fun id => pnd_same (fun id h => by rw [hr] at h; cases h)
    have hnext : hS σ ops (add_ S i) = hS σ ops S := by rw [hadd, if_neg (by rw [hhv]; simp)]
    have e1 : nS σ ops rs (add_ S i) = nS σ ops rs S := by funext j; unfold nS; rw [hnext]; simp [hps]
    have e2 : HS σ ops rs (add_ S i) = HS σ ops rs S := HS_same hnext hps
    obtain ⟨x, w', V', hrun, k1, k2, k3⟩ := hd _ V (nS σ ops rs S) w (HS σ ops rs S) a.eval I.hp hev (by intro _ h; cases h) hnid
    have eD : (⟨r, none, none⟩ : Ef).addD (nS σ ops rs S) (List.length (hS σ ops S)) = nS σ ops rs S := by funext j; simp [Ef.addD]
    have eH : (⟨r, none, none⟩ : Ef).updH (HS σ ops rs S) none (List.length (hS σ ops S)) = HS σ ops rs S := by funext j; simp [Ef.updH]
    rw [eD, eH] at k1
    rw [eH] at k2
    rw [eD] at k3
    have hI := I.next R hc ho hi hn (by rw [e1, e2]; exact k1) (by rw [e2]; exact k2) (by rw [e1]; exact fun _ h => h) (x := x) (by
      intro d hd hdm
      rw [hs1, get_put, if_pos ⟨hd, by rw [R.m i (Nat.le_of_lt hlt)]; exact hdm⟩, e1]; exact k3)
    refine ⟨fun _ _ => trivial, ?_⟩
    rw [Oper.semAt_eq _ _ _ hnd]
    rcases hrun with hrun | ⟨hrun, rfl⟩
    · rw [hrun]; exact hK V' _ w' hI (by rw [e2]; exact k2) (by rw [e1]; exact fun _ h => h)
    · rw [hrun]; exact hK V' _ w' hI (by rw [e2]; exact k2) (by rw [e1]; exact fun _ h => h)
  | @flt t d id hop hd hz hg hblk =>
    rw [if_pos (hwants hg)]
    obtain ⟨eS, eI⟩ := flt_heap R F hc ho hn hr
    have hnh : heavy o.op = false := by rw [hop]; rfl
    have hnext : hS σ ops (add_ S i) = hS σ ops S := by rw [hadd, if_neg (by rw [hnh]; simp)]
    have hpid : pnd rs S id := ⟨i, hr, hn⟩
    have hps : ∀ j, pnd rs (add_ S i) j ↔ pnd rs S j ∧ j ≠ id := by
      intro j
      constructor
      · rintro ⟨q, h1, h2⟩
        refine ⟨pnd_add ⟨q, h1, h2⟩, ?_⟩
        rintro rfl
        have := F.one _ _ _ h1 hr
        subst this
        simp [add_] at h2
      · rintro ⟨⟨q, h1, h2⟩, hne⟩
        refine ⟨q, h1, ?_⟩
        have : q ≠ i := by rintro rfl; rw [hr] at h1; cases h1; exact hne rfl
        simp [add_, h2, this]
    have hidl : (hS σ ops S).D id := by rw [eS]; exact hfl i id hr
    have hni : ¬ nS σ ops rs S id := fun h => h.2 hpid
    obtain ⟨x, w', V', hrun, k1, k2, k3⟩ := Does_alloc (G := G) (P := P) (tdOf_ok P) hop hd hz (ev := (σ i).ev) (fid := none) (ob := .gone) (nid := id) V (nS σ ops rs S) w (HS σ ops rs S) a.eval I.hp hev (by intro _ h; cases h) hni
    have eD : (⟨.ptr id 0, none, some (.blk (d.zero.map .c))⟩ : Ef).addD (nS σ ops rs S) id = nS σ ops rs (add_ S i) := by
      funext j
      unfold nS
      rw [hnext]
      simp only [Ef.addD, hps j, eq_iff_iff, Option.isSome_some, true_and]
      constructor
      · rintro (h | rfl)
        · exact ⟨h.1, fun h' => h.2 h'.1⟩
        · exact ⟨hidl, fun h' => h'.2 rfl⟩
      · rintro ⟨h1, h2⟩
        by_cases e : j = id
        · exact .inr e
        · exact .inl ⟨h1, fun h => h2 ⟨h, e⟩⟩
    have hH1 : ∀ j, HS σ ops rs S j = if pnd rs S j then .gone else (hS σ ops S).get j := fun _ => rfl
    have hH2 : ∀ j, HS σ ops rs (add_ S i) j = if pnd rs (add_ S i) j then .gone else (hS σ ops (add_ S i)).get j := fun _ => rfl
    have eH : (⟨.ptr id 0, none, some (.blk (d.zero.map .c))⟩ : Ef).updH (HS σ ops rs S) none id = HS σ ops rs (add_ S i) := by
      funext j
      rw [hH2, hnext]
      simp only [Ef.updH, hH1]
      by_cases e : j = id
      · subst e
        rw [if_pos rfl, if_neg (fun h => ((hps j).1 h).2 rfl), eS, ← eI, hblk]
      · rw [if_neg e, if_neg (by simp)]
        by_cases hp : pnd rs S j
        · rw [if_pos hp, if_pos ((hps j).2 ⟨hp, e⟩)]
        · rw [if_neg hp, if_neg (fun h => hp ((hps j).1 h).1)]
    rw [eD, eH] at k1
    rw [eH] at k2
    rw [eD] at k3
    have hD : ∀ j, nS σ ops rs S j → nS σ ops rs (add_ S i) j := by rw [← eD]; exact fun j h => .inl h
    have hI := I.next R hc ho hi hn k1 k2 hD (x := x) (by
      intro d hd hdm
      rw [hs1, get_put, if_pos ⟨hd, by rw [R.m i (Nat.le_of_lt hlt)]; exact hdm⟩]; exact k3)
    refine ⟨fun _ _ => trivial, ?_⟩
    rw [Oper.semAt_eq _ _ _ (by rw [hop]; simp)]
    rcases hrun with hrun | ⟨hrun, rfl⟩
    · rw [hrun]; exact hK V' _ w' hI k2 hD
    · rw [hrun]; exact hK V' _ w' hI k2 hD
end Go.Vm.Flt
/- Drawn regions in which new variables are laid at any time: the rule. -/
namespace Go.Vm.Flt
open Go Go.RowKit Go.Vm
variable {P : Program} {G : List (Nat × Obj)} {ro : Option Nat} {ops : Array Oper} {rs : List Rcd} {σ : Nat → St}

theorem none_ready (R : Run P G ops rs σ) {listed : Array Bool} (hl : listed.size = ops.size) (hr : Region.ready .any ops listed = []) : ∀ i, i < ops.size → setOf listed i = true := by
  intro i
  induction i using Nat.strongRecOn with
  | _ i ih =>
    intro hi
    cases h : setOf listed i with
    | true => rfl
    | false =>
      have : i ∈ Region.ready .any ops listed := (ready_iff hl).2 ⟨ops[i], Array.getElem?_eq_getElem hi, h, fun e he hb => by
        have := R.ed i _ (Array.getElem?_eq_getElem hi) e he hb
        exact ih e.on this (by omega)⟩
      rw [hr] at this; cases this

theorem setOf_set_ {listed : Array Bool} {i : Nat} (hi : i < listed.size) : setOf (listed.setIfInBounds i true) = add_ (setOf listed) i := Vm.setOf_set hi

theorem draw_go (R : Run P G ops rs σ) (F : Flo ops rs) (hfl : ∀ (i id : Nat), rs[i]? = some (.flt id) → id < List.length (σ 0).h) (hd0 : (σ 0).d = []) {s0 : St} {n : Nat} {V0 : View} {w0 : World} {Q : Exit → St → Prop} (hQ : Q .normal (σ ops.size)) : ∀ (fuel : Nat) (listed : Array Bool), listed.size = ops.size → left_ listed ≤ fuel → Closed ops (setOf listed) →
    ∀ (V : View) (a : Act) (w : World), DInv G ops rs σ (setOf listed) V a w → Step V0 w0 s0.h.D s0.h.get V w (HS σ ops rs (setOf listed)) → (∀ j, s0.h.D j → nS σ ops rs (setOf listed) j) →
    wpAnyIn (fence ro) n P .any ops (Post G V0 w0 s0 Q) fuel listed a w := by
  intro fuel
  have done : ∀ (listed : Array Bool), listed.size = ops.size → ∀ (V : View) (a : Act) (w : World), DInv G ops rs σ (setOf listed) V a w → Step V0 w0 s0.h.D s0.h.get V w (HS σ ops rs (setOf listed)) → (∀ j, s0.h.D j → nS σ ops rs (setOf listed) j) →
      Region.ready .any ops listed = [] → Post G V0 w0 s0 Q .normal a w := by
    intro listed hl V a w I hs hD hr
    have hall := none_ready R hl hr
    have e1 : hS σ ops (setOf listed) = (σ ops.size).h := lst_all (f := fun k => (σ k).h) hall (fun j hj hp => R.hp hj hp)
    have e2 : ∀ t, Tm σ ops (setOf listed) t = (σ ops.size).get t := fun t => lst_all (f := fun k => (σ k).get t) hall (fun j hj hp => R.get hj hp)
    have hnp : ∀ id, ¬ pnd rs (setOf listed) id := by
      rintro id ⟨i, h1, h2⟩
      have hi : i < ops.size := by rw [← R.len]; exact (List.getElem?_eq_some_iff.1 h1).1
      rw [hall i hi] at h2; cases h2
    have e3 : nS σ ops rs (setOf listed) = (σ ops.size).h.D := by
      funext j; unfold nS; rw [e1]; simp [hnp]
    have e4 : HS σ ops rs (setOf listed) = (σ ops.size).h.get := by
      funext j
      show (open Classical in if pnd rs (setOf listed) j then Ob.gone else (hS σ ops (setOf listed)).get j) = _
      rw [if_neg (hnp j), e1]
    rw [e4] at hs
    rw [e3] at hD
    have hp := I.hp
    rw [e3, e4] at hp
    refine ⟨V, σ ops.size, ⟨?_, ?_, hp, ?_, ?_⟩, hs, hD, hQ⟩
    · rw [I.sz, R.m _ (Nat.le_refl _)]
    · intro t; have := I.tm t; rw [e3, e2] at this; exact this
    · rw [I.df, R.d _ (Nat.le_refl _), hd0]; rfl
    · intro id hid
      rw [R.d _ (Nat.le_refl _), hd0] at hid
      cases hid
  induction fuel with
  | zero =>
    intro listed hl hf hc V a w I hs hD
    have hr : Region.ready .any ops listed = [] := by
      cases hr : Region.ready .any ops listed with
      | nil => rfl
      | cons i l =>
        have : i ∈ Region.ready .any ops listed := by rw [hr]; simp
        obtain ⟨o, ho, h1, _⟩ := (ready_iff hl).1 this
        have hi := (Array.getElem?_eq_some_iff.1 ho).1
        have := left_set (by omega : i < listed.size) h1
        omega
    exact ⟨hr, done listed hl V a w I hs hD hr⟩
  | succ fuel ih =>
    intro listed hl hf hc V a w I hs hD
    refine ⟨done listed hl V a w I hs hD, ?_⟩
    intro i hi
    obtain ⟨o, ho, h1, h2⟩ := (ready_iff hl).1 hi
    have hlt := (Array.getElem?_eq_some_iff.1 ho).1
    refine draw_step R F hfl hc ho h2 h1 I ?_
    intro V' a' w' I' hs' hD'
    rw [← setOf_set_ (by omega)] at I' hs' hD'
    refine ih (listed.setIfInBounds i true) (by rw [Array.size_setIfInBounds]; exact hl) (by have := left_set (by omega : i < listed.size) h1; omega) ?_ V' a' w' I' (hs.trans hs' hD) (fun j hj => hD' j (hD j hj))
    rw [setOf_set_ (by omega)]
    intro k x hx hk e he hb
    have hk' : setOf listed k = true ∨ k = i := by simpa [add_] using hk
    have : setOf listed e.on = true := by
      rcases hk' with hk' | rfl
      · exact hc k x hx hk' e he hb
      · rw [ho] at hx; cases hx; exact h2 e he hb
    simp [add_, this]


def fids : List Rcd → List Nat
  | [] => []
  | .flt id :: l => id :: fids l
  | .act _ _ :: l => fids l
  | .skip :: l => fids l
  | .call :: l => fids l
theorem fids_mem : ∀ {rs : List Rcd} {id : Nat}, id ∈ fids rs ↔ ∃ i : Nat, rs[i]? = some (.flt id)
  | [], id => by simp [fids]
  | r :: rs, id => by
    have ih := fids_mem (rs := rs) (id := id)
    constructor
    · intro h
      have : r = .flt id ∨ id ∈ fids rs := by
        cases r <;> simp only [fids, List.mem_cons] at h
        case flt a => rcases h with rfl | h; exact .inl rfl; exact .inr h
        all_goals exact .inr h
      rcases this with rfl | h
      · exact ⟨0, rfl⟩
      · obtain ⟨i, hi⟩ := ih.1 h; exact ⟨i + 1, hi⟩
    · rintro ⟨i, hi⟩
      cases i with
      | zero => simp at hi; subst hi; simp [fids]
      | succ i =>
        have := ih.2 ⟨i, by simpa using hi⟩
        cases r <;> simp only [fids, List.mem_cons]
        case flt a => exact .inr this
        all_goals exact this
theorem fids_one : ∀ {rs : List Rcd}, (fids rs).Nodup → ∀ (i j id : Nat), rs[i]? = some (.flt id) → rs[j]? = some (.flt id) → i = j
  | [], _, i, j, id, h, _ => by simp at h
  | r :: rs, hn, i, j, id, h1, h2 => by
    have hn' : (fids rs).Nodup := by cases r <;> simp only [fids, List.nodup_cons] at hn; all_goals first | exact hn | exact hn.2
    have hz : ∀ k : Nat, r = .flt id → rs[k]? = some (.flt id) → False := by
      rintro k rfl hk
      simp only [fids, List.nodup_cons] at hn
      exact hn.1 (fids_mem.2 ⟨k, hk⟩)
    cases i <;> cases j
    · rfl
    · simp at h1; exact (hz _ h1 (by simpa using h2)).elim
    · simp at h2; exact (hz _ h2 (by simpa using h1)).elim
    · rename_i i j
      have := fids_one hn' i j id (by simpa using h1) (by simpa using h2)
      omega

def chkF (ops : Array Oper) : Bool := (List.range ops.size).all fun k => match ops[k]? with
  | some b => !heavy b.op || (List.range ops.size).all fun i => match ops[i]? with
    | some a => !isAl a.op || ((befs ops.toList []).getD k 0).testBit i
    | none => true
  | none => true

theorem W_drawF {id : Nat} {Q : Exit → St → Prop} {s s' : St} (fl : List Ob) (hm : P.follows .mixedOrders = true) (hsd : s.d = []) (hd : DR P G ops ops.toList { s with h := s.h ++ fl } rs s') (hc : chk ops = true) (hcF : chkF ops = true)
    (hi : idsApart rs (dps ops)) (hf : fids rs = List.range' (List.length s.h) fl.length) (hQ : Q .normal s') : W P G ro (.region id ops true) Q s := by
  obtain ⟨hlen, σ, h0, h1, hts⟩ := hd.states
  rw [Array.length_toList] at hlen h1
  have R : Run P G ops rs σ := by
    obtain ⟨c1, c2⟩ := chk1_spec hc
    refine ⟨hlen, fun i o r ho hr => hts i o r (by simpa using ho) hr, fun i a ha e he hb => ?_, fun i k a b hik ha hb => ?_, fun i k a b hik ha hb ht => ?_⟩
    · have := c1 i a (by simpa using ha) e he hb; omega
    · have := c2 i k a b hik (by simpa using ha) (by simpa using hb); rwa [Nat.zero_add, Nat.zero_add] at this
    · have := dps1_spec hi i k a b hik (by simpa using ha) (by simpa using hb) (by rw [Nat.zero_add, Nat.zero_add]; exact ht)
      rwa [Nat.zero_add, Nat.zero_add] at this
  have hmem : ∀ id, (∃ i : Nat, rs[i]? = some (.flt id)) ↔ List.length s.h ≤ id ∧ id < List.length s.h + fl.length := by
    intro id; rw [← fids_mem, hf, List.mem_range'_1]
  have F : Flo ops rs := by
    refine ⟨fids_one (by rw [hf]; exact List.nodup_range'), ?_⟩
    intro i k a b ha hb h1 h2
    have hk := List.all_eq_true.1 hcF k (by simp; exact (Array.getElem?_eq_some_iff.1 hb).1)
    simp only [hb, h2, Bool.not_true, Bool.false_or] at hk
    have hi' := List.all_eq_true.1 hk i (by simp; exact (Array.getElem?_eq_some_iff.1 ha).1)
    simpa only [ha, h1, Bool.not_true, Bool.false_or] using hi'
  subst h1
  have hs0 : (σ 0).h = s.h ++ fl := by rw [h0]
  have hfl : ∀ (i id : Nat), rs[i]? = some (.flt id) → id < List.length (σ 0).h := by
    intro i id h
    have := (hmem id).1 ⟨i, h⟩
    rw [hs0, List.length_append]; exact this.2
  intro V a w hr n
  obtain ⟨hr', hs'⟩ := drew hr
  refine wpIn_region_any hm ?_
  have hset : setOf (Array.replicate ops.size false) = fun _ => false := by
    funext j; unfold setOf
    rw [Array.getD_eq_getD_getElem?, Array.getElem?_replicate]; split <;> rfl
  have hz : ∀ p : Nat → Bool, lst (fun j => false && p j) ops.size = 0 := by
    intro p
    cases h : lst (fun j => false && p j) ops.size with
    | zero => rfl
    | succ k => have := (lst_is _ _ _ h).1; simp at this
  have e1 : hS σ ops (setOf (Array.replicate ops.size false)) = s.h ++ fl := by rw [hset]; unfold hS; rw [hz]; exact hs0
  have hp0 : ∀ id, pnd rs (setOf (Array.replicate ops.size false)) id ↔ List.length s.h ≤ id ∧ id < List.length s.h + fl.length := by
    intro id; rw [← hmem, hset]; exact ⟨fun ⟨i, h, _⟩ => ⟨i, h⟩, fun ⟨i, h⟩ => ⟨i, h, rfl⟩⟩
  have e2 : nS σ ops rs (setOf (Array.replicate ops.size false)) = s.h.D := by
    funext j
    unfold nS
    rw [e1, hp0]
    simp only [Hp.D, List.length_append, eq_iff_iff]
    omega
  have e3 : HS σ ops rs (setOf (Array.replicate ops.size false)) = s.h.get := by
    funext j
    show (open Classical in if pnd rs (setOf (Array.replicate ops.size false)) j then Ob.gone else (hS σ ops (setOf (Array.replicate ops.size false))).get j) = _
    rw [e1]
    by_cases h : pnd rs (setOf (Array.replicate ops.size false)) j
    · rw [if_pos h]
      have := (hp0 j).1 h
      unfold Hp.get; rw [List.getElem?_eq_none (by omega)]; rfl
    · rw [if_neg h]
      rw [hp0] at h
      rcases Nat.lt_or_ge j (List.length s.h) with hj | hj
      · exact get_append_l _ hj
      · unfold Hp.get; rw [List.getElem?_eq_none (by rw [List.length_append]; omega), List.getElem?_eq_none (by omega)]
  have hg0 : ∀ t, (σ 0).get t = s.get t := by intro t; rw [h0]; rfl
  refine draw_go R F hfl (by rw [h0]; exact hsd) (s0 := s) hQ ops.size _ (by simp) ?_ ?_ V a _ ⟨?_, ?_, ?_, ?_⟩ ?_ ?_
  · unfold left_; exact Nat.le_trans (List.length_filter_le _ _) (by simp)
  · rw [hset]; intro k o _ h; cases h
  · rw [h0]; exact hr'.sz
  · intro t
    have : Tm σ ops (setOf (Array.replicate ops.size false)) t = (σ 0).get t := by rw [hset]; unfold Tm; rw [hz]
    rw [e2, this, hg0]; exact hr'.tm t
  · rw [e2, e3]; exact hr'.hp
  · rw [hr'.df, hsd]; rfl
  · rw [e3]; exact hs'
  · rw [e2]; exact fun _ h => h

/-- The run of a drawn region, in the text's order. -/
def drun (T : Nat → Option TD) (ops : Array Oper) : List Oper → St → List Oper × List Rcd × St
  | [], s => ([], [], s)
  | o :: l, s =>
    match o.guard with
    | none => match vact T o.op s.ev s.h, isAl o.op with
      | some (fid, ef), false => match drun T ops l (s.app o.dst fid ef) with
        | (l', rs, s') => (l', .act fid (List.length s.h) :: rs, s')
      | _, _ => (o :: l, [], s)
    | some (j, b) => match gv b (s.get (gdst ops j)), gdst ops j == 1000000 with
      | some true, false => match vact T o.op s.ev s.h, isAl o.op with
          | some (fid, ef), false => match drun T ops l (s.app o.dst fid ef) with
            | (l', rs, s') => (l', .act fid (List.length s.h) :: rs, s')
          | _, _ => (o :: l, [], s)
      | some false, _ => match drun T ops l (s.put o.dst (.c undef)) with
          | (l', rs, s') => (l', .skip :: rs, s')
      | _, _ => (o :: l, [], s)

theorem DR_go : ∀ {l : List Oper} {s s1 s' : St} {l' : List Oper} {rs rs' : List Rcd}, drun (tdOf P) ops l s = (l', rs, s1) → DR P G ops l' s1 rs' s' → DR P G ops l s (rs ++ rs') s'
  | [], s, s1, s', l', rs, rs', h, hd => by
    simp only [drun, Prod.mk.injEq] at h
    obtain ⟨rfl, rfl, rfl⟩ := h
    exact hd
  | o :: l, s, s1, s', l', rs, rs', h, hd => by
    simp only [drun] at h
    split at h
    · rename_i hg
      split at h
      · rename_i fid ef ha hal
        generalize hq : drun (tdOf P) ops l (s.app o.dst fid ef) = q at h
        obtain ⟨l2, rs2, s2⟩ := q
        simp only [Prod.mk.injEq] at h
        obtain ⟨rfl, rfl, rfl⟩ := h
        exact .cons (.act ha hal (.inl hg)) (DR_go hq hd)
      · simp only [Prod.mk.injEq] at h
        obtain ⟨rfl, rfl, rfl⟩ := h
        exact hd
    · rename_i j b hg
      split at h
      · rename_i hgv hj
        have hd1 := gdst_some (j := j) (ops := ops) (by simpa using hj)
        split at h
        · rename_i fid ef ha hal
          generalize hq : drun (tdOf P) ops l (s.app o.dst fid ef) = q at h
          obtain ⟨l2, rs2, s2⟩ := q
          simp only [Prod.mk.injEq] at h
          obtain ⟨rfl, rfl, rfl⟩ := h
          exact .cons (.act ha hal (.inr ⟨j, b, _, hg, hd1, gv_true hgv⟩)) (DR_go hq hd)
        · simp only [Prod.mk.injEq] at h
          obtain ⟨rfl, rfl, rfl⟩ := h
          exact hd
      · rename_i hgv
        generalize hq : drun (tdOf P) ops l (s.put o.dst (.c undef)) = q at h
        obtain ⟨l2, rs2, s2⟩ := q
        simp only [Prod.mk.injEq] at h
        obtain ⟨rfl, rfl, rfl⟩ := h
        exact .cons (.skip ⟨j, b, hg, fun d hd => by rw [← gdst_of hd]; exact gv_false hgv⟩) (DR_go hq hd)
      · simp only [Prod.mk.injEq] at h
        obtain ⟨rfl, rfl, rfl⟩ := h
        exact hd

theorem DR_end {l : List Oper} {s s1 : St} {rs : List Rcd} (h : drun (tdOf P) ops l s = ([], rs, s1)) : DR P G ops l s rs s1 := by
  have := DR_go (G := G) (rs' := []) (s' := s1) h .nil
  rwa [List.append_nil] at this

theorem DR_pure {o : Oper} {l : List Oper} {s s1 s' : St} {rs : List Rcd} {f : Operand} {args : Array Operand} {at_ : Array TypeId} {fv r : Val} {avs : List Val}
    (hc : VCall P G fv avs [] (fun r' h' => r' = r ∧ h' = [])) (hok : Ok (fun _ => False) fv) (hoka : ∀ a, a ∈ avs → Ok (fun _ => False) a) (ho : o.op = .call { callee := .value f, args := args, argTypes := at_ }) (hg : Wants ops s o)
    (hf : s.ev f = fv) (ha : args.toList.map s.ev = avs) (hs : s.put o.dst r = s1) (h : DR P G ops l s1 rs s') : DR P G ops (o :: l) s (.call :: rs) s' := by
  subst hf; subst ha; subst hs
  exact .cons (.call ho hg hc hok hoka) h
theorem DR_flt {o : Oper} {l : List Oper} {s s1 s' : St} {rs : List Rcd} {t : TypeId} {d : TD} (id : Nat) (ho : o.op = .alloc t) (ht : tdOf P t = some d) (hz : d.zero.all oneC = true) (hg : Wants ops s o) (hb : s.h.get id = .blk (d.zero.map .c))
    (hs : s.put o.dst (.ptr id 0) = s1) (h : DR P G ops l s1 rs s') : DR P G ops (o :: l) s (.flt id :: rs) s' := by
  subst hs
  exact .cons (.flt ho ht hz hg hb) h
end Go.Vm.Flt
/- Drawn regions in which new variables are laid at any time: the words of the walk. -/
namespace Go.Vm.Flt
open Go Go.RowKit Go.Vm
variable {P : Program} {G : List (Nat × Obj)} {ro : Option Nat} {ops : Array Oper}

def cv : Vm.Rcd → Rcd
  | .act a n => .act a n
  | .skip => .skip
  | .call => .call

theorem DR_k' : ∀ {l : List Oper} {s s1 s' : St} {rs : List Vm.Rcd} {rs' : List Rcd} {l2 : List Oper}, Vm.drun (tdOf P) ops l s = ([], rs, s1) → l.all (fun o => !isAl o.op) = true → DR P G ops l2 s1 rs' s' → DR P G ops (l ++ l2) s (rs.map cv ++ rs') s'
  | [], s, s1, s', rs, rs', l2, h, ha, hd => by
    simp only [Vm.drun, Prod.mk.injEq, true_and] at h
    obtain ⟨rfl, rfl⟩ := h
    exact hd
  | o :: l, s, s1, s', rs, rs', l2, h, hal, hd => by
    simp only [List.all_cons, Bool.and_eq_true, Bool.not_eq_true'] at hal
    simp only [Vm.drun] at h
    split at h
    · rename_i hg
      split at h
      · rename_i fid ef ha
        generalize hq : Vm.drun (tdOf P) ops l (s.app o.dst fid ef) = q at h
        obtain ⟨l3, rs2, s2⟩ := q
        simp only [Prod.mk.injEq] at h
        obtain ⟨rfl, rfl, rfl⟩ := h
        exact .cons (.act ha hal.1 (.inl hg)) (DR_k' hq hal.2 hd)
      · simp at h
    · rename_i j b hg
      split at h
      · rename_i hgv hj
        have hd1 := gdst_some (j := j) (ops := ops) (by simpa using hj)
        split at h
        · rename_i fid ef ha
          generalize hq : Vm.drun (tdOf P) ops l (s.app o.dst fid ef) = q at h
          obtain ⟨l3, rs2, s2⟩ := q
          simp only [Prod.mk.injEq] at h
          obtain ⟨rfl, rfl, rfl⟩ := h
          exact .cons (.act ha hal.1 (.inr ⟨j, b, _, hg, hd1, gv_true hgv⟩)) (DR_k' hq hal.2 hd)
        · simp at h
      · rename_i hgv
        generalize hq : Vm.drun (tdOf P) ops l (s.put o.dst (.c undef)) = q at h
        obtain ⟨l3, rs2, s2⟩ := q
        simp only [Prod.mk.injEq] at h
        obtain ⟨rfl, rfl, rfl⟩ := h
        exact .cons (.skip ⟨j, b, hg, fun d hd => by rw [← gdst_of hd]; exact gv_false hgv⟩) (DR_k' hq hal.2 hd)
      · simp at h

theorem DR_k (k : Nat) {l : List Oper} {s s1 s' : St} {rs : List Vm.Rcd} {rs' : List Rcd} (h : Vm.drun (tdOf P) ops (l.take k) s = ([], rs, s1)) (ha : (l.take k).all (fun o => !isAl o.op) = true) (hd : DR P G ops (l.drop k) s1 rs' s') : DR P G ops l s (rs.map cv ++ rs') s' := by
  have e : l = l.take k ++ l.drop k := (List.take_append_drop k l).symm
  rw [e]; exact DR_k' h ha hd
theorem DR_e {l : List Oper} {s s1 : St} {rs : List Vm.Rcd} (h : Vm.drun (tdOf P) ops l s = ([], rs, s1)) (ha : l.all (fun o => !isAl o.op) = true) : DR P G ops l s (rs.map cv) s1 := by
  have := DR_k' (G := G) h ha (l2 := []) (rs' := []) .nil
  rwa [List.append_nil, List.append_nil] at this

theorem W_drawL {id : Nat} {Q : Exit → St → Prop} {m : Nat} {t : List (Nat × Val)} {h ext : Hp} {s' : St} {l : List Oper} {rs : List Rcd} (fl : List Ob) (hm : P.follows .mixedOrders = true) (hd : DR P G l.toArray l ⟨m, t, h ++ (ext ++ fl), []⟩ rs s') (hc : chk l.toArray = true) (hcF : chkF l.toArray = true)
    (hi : idsApart rs (dps l.toArray)) (hf : fids rs = List.range' (List.length h + ext.length) fl.length) (hQ : Q .normal s') : W P G ro (.region id l.toArray true) Q ⟨m, t, h ++ ext, []⟩ :=
  W_drawF fl hm rfl (by rw [List.append_assoc]; exact hd) hc hcF hi (by rw [List.length_append]; exact hf) hQ
theorem DR_ext {o : Oper} {l : List Oper} {s s1 s' : St} {rs : List Rcd} {r : Val} (hd : ∀ nid, Does P G o s.ev none .gone nid ⟨r, none, none⟩) (hh : heavy o.op = false) (hnd : ∀ c, o.op ≠ .defer c) (hg : Wants ops s o)
    (hs : s.put o.dst r = s1) (h : DR P G ops l s1 rs s') : DR P G ops (o :: l) s (.call :: rs) s' := by
  subst hs
  exact .cons (.ext hh hnd hg hd) h
end Go.Vm.Flt
namespace Go.Vm
open Go Go.RowKit
variable {P : Program} {G : List (Nat × Obj)} {ro : Option Nat}

theorem Does_slice_rp {T : Nat → Option TD} (hT : TabOK P T) {o : Oper} {t : TypeId} {x : Operand} (ho : o.op = .slice t x none none none) {d de : TD} {e : TypeId} {len : Nat} (ht : T t = some d) (he : isArray d = some (len, e)) (hde : T e = some de)
    (h1 : de.size = 1) {ev : Operand → Val} {cs : List Val} (hx : ev x = .rp cs) (hl : cs.length = len) (hpos : len ≠ 0) (hone : ∀ c, c ∈ cs → ∃ v, c = .c v ∧ oneC v = true) {fid : Option Nat} {ob : Ob} {nid : Nat} : Does P G o ev fid ob nid ⟨.sl 1 (cs.map fun c => [c]), none, none⟩ :=
  Does.quiet fun V D w H ρ _ hv _ => by
    have e1 := hv x (by simp [ho, Op.operands]); rw [hx] at e1
    have hun := hT.under ht w
    rw [isArray_spec he] at hun
    generalize hq : ρ x = v at e1
    cases e1
    rename_i k off ar T' fr hk hh hle hp
    have hbd := run_sliceBounds (P := P) false len len (lo := none) (hi := none) (l := 0) (h := len) (.inl ⟨rfl, rfl⟩) (.inl ⟨rfl, rfl⟩) (Int.le_refl _) (by omega) (Int.le_refl _) w
    refine ⟨.slice (some ⟨k, off, none⟩) len len, ?_, ?_⟩
    · have : len ≠ 0 := hpos
      simp only [Int.toNat_zero, Int.toNat_natCast] at hbd
      simp [execOp, ho, hq, Instr.sliceAt, Instr.sureAddr, hun, hbd, hT.size hde, h1, add_none]
    · have hlen : len = (cs.map fun c => [c]).length := by simp [hl]
      have := RV.sl (V := V) (n := D) (w := w) (xs := cs.map fun c => [c]) (k := k) (off := off) (cap := len) (sz := 1) hk hh (by simp [hl]) (by simpa [hl] using hle)
        (by simp) (by
          intro j v h3 h4 h5
          simp at h4
          have hjl : j - off < cs.length := by omega
          obtain ⟨u, hu, h6⟩ := hone cs[j - off] (List.getElem_mem hjl)
          have h7 := hp (j - off) cs[j - off] v (List.getElem?_eq_getElem hjl) (by rw [show off + (j - off) = j by omega]; exact h5)
          rw [hu] at h7
          rw [h7.c_inv]; exact h6) (by
          intro i x j dd v h3 h4 h5
          rw [List.getElem?_map, Option.map_eq_some_iff] at h3
          obtain ⟨c, hc, rfl⟩ := h3
          cases j with
          | zero => simp at h4 h5; subst h4; exact hp i c v hc h5
          | succ j => simp at h4)
      rwa [← hlen] at this

/-- A variable that is only read from here on. -/
theorem W_share {c : Code} {Q : Exit → St → Prop} {m k id : Nat} {t : List (Nat × Val)} {h h' : Hp} {cs : List Val} (hg : h.get id = .blk cs) (hs : List.set h id .gone = h') (hw : W P G ro c Q ⟨m, (k, .rp cs) :: t, h', []⟩) :
    W P G ro c Q ⟨m, (k, .ptr id 0) :: t, h, []⟩ := by
  subst hs
  refine W_weak (s' := ⟨m, (k, .rp cs) :: t, List.set h id .gone, []⟩) (fun V a w hr => ?_) hw
  have hlive : (h.get id).live = true := by rw [hg]; rfl
  have hid := Hp.get_lt hlive
  have hobj := hr.hp.obj id hid
  have hobj' : RO V h.D w id (.blk cs) := by rw [← hg]; exact hobj
  obtain ⟨b, ar, T, h1, h2, h3, h4⟩ := hobj'
  obtain ⟨k1, k2⟩ := hr.hp.share (id := id) (b := b) hlive h1
  have k1' : RelF G (V.share b) w h.D (Hp.get (List.set h id .gone)) := by rw [get_set_at _ hid]; exact k1
  have k2' : Step V w h.D h.get (V.share b) w (Hp.get (List.set h id .gone)) := by rw [get_set_at _ hid]; exact k2
  refine ⟨V.share b, ⟨hr.sz, fun i => ?_, by rw [D_set]; exact k1', by rw [show a.defers = [] from hr.df]; rfl, fun id hid => by cases hid⟩, k2', fun i hi => by show Hp.D (List.set h id .gone) i; rw [D_set]; exact hi⟩
  show RV (V.share b) (Hp.D (List.set h id .gone)) w (lk ((k, .rp cs) :: t) i) _
  rw [D_set]
  have h5 : RV V h.D w (lk ((k, .ptr id 0) :: t) i) (a.tmps.getD i undef) := hr.tm i
  by_cases ei : i = k
  · simp only [lk, ei, if_true] at h5 ⊢
    generalize a.tmps.getD k undef = x at h5
    cases h5
    rename_i b' hn hb'
    rw [h1] at hb'; cases hb'
    exact .rp (V := V.share b) (.inr rfl) h2 (by rw [h3.1]; omega) (fun j d v e1 e2 => RV.share (h3.2 j d v e1 (by simpa using e2)))
  · simp only [lk, ei, if_false] at h5 ⊢
    exact RV.share h5
end Go.Vm
/- Calls that turn the heap. -/
namespace Go.Vm
open Go Go.RowKit
variable {P : Program} {G : List (Nat × Obj)}

theorem VCall.hok {fv : Val} {args : List Val} {h : Hp} {Q : Val → Hp → Prop} (hc : VCall P G fv args h Q) : VCall P G fv args h (fun r h' => Q r h' ∧ HOk h' ∧ List.length h ≤ List.length h') := by
  intro V w fx ax h1 h2 h3
  refine (hc V w fx ax h1 h2 h3).mono ?_
  rintro v w' ⟨V', r, h', k1, k2, k3, k4, q⟩
  refine ⟨V', r, h', k1, k2, k3, k4, q, k1.hok, ?_⟩
  rcases Nat.eq_zero_or_pos (List.length h) with h0 | h0
  · omega
  · have : List.length h - 1 < List.length h' := k3 (List.length h - 1) (by show _ < _; omega)
    omega

/-- The end of a function that hands its whole heap over. -/
theorem Fin_all {T : Nat → Option TD} {fn : Func} {h : Hp} {Q : Val → Hp → Prop} {e : Exit} {s : St} {r0 : Val} (r : Val) (he : e = .normal ∨ e = .ret) (hd : s.d = []) (hr : vres T s fn.results = some r0) (hl : List.length h ≤ List.length s.h) (hk : HOk s.h)
    (hrf : rf (List.length s.h) s.h r0 = r) (hok : Ok (fun i => i < List.length s.h) r) (hq : Q r s.h) : Fin T fn h Q e s := by
  have e0 : s.h.gones s.d = s.h := by rw [hd]; rfl
  have e1 : { s with h := s.h.gones s.d } = s := by rw [e0]
  refine ⟨he, by rw [hd]; simp, r0, s.h, ?_, hl, Nat.le_refl _, ?_, ?_, ?_⟩
  · rw [e1]; exact hr
  · intro i hi
    rw [e0]; exact .inl ⟨rfl, hk i hi⟩
  · rw [e0, hrf]; exact hok
  · rw [e0, hrf]; exact hq
end Go.Vm
namespace Go.Vm
open Go Go.RowKit
variable {P : Program} {G : List (Nat × Obj)}
theorem VCall_hk {fv : Val} {args : List Val} {h : Hp} {Q : Val → Hp → Prop} (hc : HOk h → VCall P G fv args h Q) : VCall P G fv args h Q := fun V w fx ax h1 => hc h1.hok V w fx ax h1

theorem HOk_append {h e : Hp} (hk : HOk h) (he : ∀ o, o ∈ e → OkO (fun i => i < List.length (h ++ e)) o) : HOk (h ++ e) := by
  intro i hi
  rcases Nat.lt_or_ge i (List.length h) with hl | hl
  · rw [get_append_l _ hl]
    exact (hk i hl).mono (fun j hj => by show j < _; rw [List.length_append]; omega)
  · have hj : i - List.length h < e.length := by rw [List.length_append] at hi; omega
    have : Hp.get (h ++ e) i = e[i - List.length h] := by
      unfold Hp.get
      rw [List.getElem?_append_right hl, List.getElem?_eq_getElem hj]; rfl
    rw [this]
    exact he _ (List.getElem_mem hj)

theorem REnd_ext {L : Nat} {o : LoopState → Option Code → Ob} {n0 : Nat} {Q : Val → Hp → Prop} {e : Exit} {s : St} {b : Bool} {st : LoopState} {pe : Option Code} {h' ext : Hp} (hr : rEnd e = some (b, st, pe)) (hg : s.h.get L = o .busy none)
    (hs : List.set s.h L (o st pe) = h' ++ ext) (hn : n0 ≤ List.length h') (hk : HOk h') (hq : Q (.c (.bool b)) h') : REnd L o n0 Q e s := by
  refine ⟨b, st, pe, h', hr, hg, hn, ?_, ?_, hq⟩
  · have : List.length (List.set s.h L (o st pe)) = List.length (h' ++ ext) := by rw [hs]
    rw [List.length_set, List.length_append] at this; omega
  · intro i hi
    rw [hs, get_append_l _ hi]
    exact .inl ⟨rfl, hk i hi⟩
end Go.Vm
namespace Go.Vm
open Go Go.RowKit
variable {P : Program} {G : List (Nat × Obj)}
theorem VCall_yldO {h : Hp} {L : Nat} {t t' : List (Nat × Val)} {m : Nat} {fn : FuncId} {ps : Array Tmp} {assign body : Code} {args : List Val} {Q : Val → Hp → Prop} {o : LoopState → Option Code → Ob} (ho : o = fun st pe => .lp (lk t) m fn ps assign body st pe)
    (hL : h.get L = o .ready none) (hn : args.length = ps.size) (ht : rArgs m ps.toList args t = t')
    (hA : ∀ ro, W P G ro assign (then_ (fun s1 => s1.d = [] ∧ s1.h.get L = o .ready none ∧
      W P G ro body (REnd L o (List.length h) Q) { s1 with h := List.set s1.h L (o .busy none) }) (fun _ _ => False)) ⟨m, t', h, []⟩) :
    VCall P G (.yld L) args h Q := by
  subst ho
  exact VCall_yld hL hn ht hA

theorem W_rangeL {g : Operand} {ps : Array Tmp} {assign body : Code} {Q : Exit → St → Prop} {m : Nat} {t : List (Nat × Val)} {h ext : Hp} {f : FuncId} {cs : List Val} (n : Nat) (hn : List.length ext = n) (hg : (St.mk m t (h ++ ext) []).ev g = .fn f cs)
    (hc : ∀ fn (o : LoopState → Option Code → Ob), (o = fun st pe => .lp (lk t) m fn ps assign body st pe) → VCall P G (.fn f cs) [.yld (List.length h + (n + 1))] (h ++ (ext ++ [.dfr, o .ready none])) (fun _ h' => Hp.get h' (List.length h + n) = .dfr ∧
      ∃ st pe, Hp.get h' (List.length h + (n + 1)) = o st pe ∧ st ≠ .busy ∧ (∀ c, pe = some c → W P G none c Q ⟨m, t, List.set h' (List.length h + (n + 1)) .gone, [List.length h + n]⟩) ∧
        (pe = none → Q .normal ⟨m, t, List.set h' (List.length h + (n + 1)) .gone, [List.length h + n]⟩))) :
    W P G none (.rangeFunc g ps assign body) Q ⟨m, t, h ++ ext, []⟩ := by
  refine W_range hg (fun fn => ?_)
  have e : List.length (h ++ ext) = List.length h + n := by rw [List.length_append, hn]
  have e1 : List.length (h ++ ext) + 1 = List.length h + (n + 1) := by omega
  have := hc fn (fun st pe => .lp (lk t) m fn ps assign body st pe) rfl
  show VCall P G (.fn f cs) [.yld (List.length (h ++ ext) + 1)] ((h ++ ext) ++ _) _
  rw [e1, List.append_assoc]
  refine this.mono ?_
  rintro r h' ⟨k1, st, pe, k2, k3, k4, k5⟩
  refine ⟨?_, st, pe, k2, k3, ?_, ?_⟩
  · intro id hid
    have : id = List.length (h ++ ext) := by
      rcases List.mem_cons.1 hid with h0 | h0
      · exact h0
      · cases h0
    subst this
    rw [e]; exact k1
  · intro c hcc
    have := k4 c hcc
    show W P G none c Q ⟨m, t, _, [List.length (h ++ ext)]⟩
    rw [e]; exact this
  · intro hcc
    have := k5 hcc
    show Q .normal ⟨m, t, _, [List.length (h ++ ext)]⟩
    rw [e]; exact this
end Go.Vm
/- strings.Builder and strings, over values without addresses. -/
namespace Go.Vm
open Go Go.RowKit
variable {P : Program} {G : List (Nat × Obj)}

theorem Flt.DR_extH {ops : Array Oper} {o : Oper} {l : List Oper} {s s1 s' : St} {rs : List Flt.Rcd} {fid : Option Nat} {ob : Ob} {ef : Ef} (hd : ∀ nid, Does P G o s.ev fid ob nid ef) (hh : Flt.heavy o.op = true) (hal : Flt.isAl o.op = false) (hnd : ∀ c, o.op ≠ .defer c) (hg : Wants ops s o)
    (hf : ∀ id, fid = some id → s.h.get id = ob ∧ ob.live = true ∧ ob ≠ .dfr) (hs : s.app o.dst fid ef = s1) (h : Flt.DR P G ops l s1 rs s') : Flt.DR P G ops (o :: l) s (.act fid (List.length s.h) :: rs) s' := by
  subst hs
  exact .cons (.extH hh hal hnd hg hf hd) h

/-- A new variable of several cells, as a row of one element. -/
theorem Does_alloc_arr {T : Nat → Option TD} (hT : TabOK P T) {o : Oper} {t : TypeId} (ho : o.op = .alloc t) {d : TD} (ht : T t = some d) (h1 : d.zero.all oneC = true) (hz : d.zero.length = d.size) {ev : Operand → Val}
    {fid : Option Nat} {ob : Ob} {nid : Nat} : Does P G o ev fid ob nid ⟨.ep nid d.size 0 0, none, some (.arr t d.size [d.zero.map .c])⟩ :=
  Does_new 1 fun V D w H ρ hr _ _ => by
    obtain ⟨z, hz1, hzl⟩ := hT.zeroV ht w
    have hsz : z.cells.size = d.size := by rw [← Array.length_toList, hzl, hz]
    have hone : ∀ (i : Nat) (v : Value), z.cells[i]? = some v → oneC v = true := by
      intro i v hv
      refine List.all_eq_true.1 h1 v ?_
      rw [← hzl]; exact List.mem_of_getElem? (i := i) (by simpa using hv)
    refine ⟨.pointer (some ⟨w.heap.size, 0, none⟩), .cells z.cells t, by simp [execOp, ho, Instr.alloc, hz1, newVar, newRow], ?_⟩
    intro hn
    refine ⟨.inr ⟨w.heap.size, z.cells, by simp [View.bind], heap_new w _, by simp [View.bind, hsz], by simp [View.bind], ⟨by simp [hsz], by simp [hz], fun j v _ _ h => hone j v h, ?_⟩⟩, ?_⟩
    · intro i x j e v h2 h3 h4
      cases i with
      | zero =>
        simp only [List.getElem?_cons_zero, Option.some.injEq] at h2; subst h2
        rw [← hzl, List.getElem?_map] at h3
        simp at h4
        simp [h4] at h3
        subst h3; exact .c _
      | succ i => simp at h2
    · have := RV.ep (V := V.bind nid (some w.heap.size) 1) (n := fun i => D i ∨ i = nid) (w := w.alloc (.cells z.cells t)) (id := nid) (sz := d.size) (i := 0) (j := 0) (b := w.heap.size) (.inr rfl) (by simp [View.bind])
      simpa using this

/-- A pointer held against nil. -/
theorem Does_eql_nil {T : Nat → Option TD} (hT : TabOK P T) {o : Oper} {t yt e : TypeId} {x y : Operand} (ho : o.op = .binOp .eql t x y yt) {d : TD} (ht : T t = some d) (hd : d.desc = .pointer e) {ev : Operand → Val} (hx : ev x = .c (.pointer none)) (hy : ev y = .c (.pointer none))
    {fid : Option Nat} {ob : Ob} {nid : Nat} : Does P G o ev fid ob nid ⟨.c (.bool true), none, none⟩ :=
  Does.quiet fun V D w H ρ _ hv _ => ⟨_, by
    have h1 := hv x (by simp [ho, Op.operands]); rw [hx] at h1
    have h2 := hv y (by simp [ho, Op.operands]); rw [hy] at h2
    have hu := hT.under ht w
    rw [hd] at hu
    have h : ∀ k : Nat, (Op.equalIn (k + 1) t (.pointer none) (.pointer none)).run P w = .ok true w := fun k => by
      simp [Op.equalIn, hu]
    simp only [execOp, ho, h1.c_inv, h2.c_inv, eqGuard, binOp]
    simp [Op.equal, Op.maxDepth, h 9999], .c _⟩

theorem Does_eql_ep {T : Nat → Option TD} (hT : TabOK P T) {o : Oper} {t yt e : TypeId} {x y : Operand} (ho : o.op = .binOp .eql t x y yt) {d : TD} (ht : T t = some d) (hd : d.desc = .pointer e) {ev : Operand → Val} {id sz i j : Nat} (hx : ev x = .ep id sz i j) (hy : ev y = .c (.pointer none))
    {fid : Option Nat} {ob : Ob} {nid : Nat} : Does P G o ev fid ob nid ⟨.c (.bool false), none, none⟩ :=
  Does.quiet fun V D w H ρ _ hv _ => ⟨_, by
    have h1 := hv x (by simp [ho, Op.operands]); rw [hx] at h1
    have h2 := hv y (by simp [ho, Op.operands]); rw [hy] at h2
    have hu := hT.under ht w
    rw [hd] at hu
    generalize hq : ρ x = v at h1
    cases h1
    have h : ∀ (k : Nat) (a : Addr), (Op.equalIn (k + 1) t (.pointer (some a)) (.pointer none)).run P w = .ok false w := fun k a => by
      simp [Op.equalIn, hu]
    simp only [execOp, ho, hq, h2.c_inv, eqGuard, binOp]
    simp [Op.equal, Op.maxDepth, h 9999], .c _⟩

/-- A pointer held against itself. -/
theorem Does_neq_self {T : Nat → Option TD} (hT : TabOK P T) {o : Oper} {t yt e : TypeId} {x y : Operand} (ho : o.op = .binOp .neq t x y yt) {d de : TD} (ht : T t = some d) (hd : d.desc = .pointer e) (hde : T e = some de) {ev : Operand → Val} {id sz i j : Nat} (hx : ev x = .ep id sz i j) (hy : ev y = .ep id sz i j)
    {fid : Option Nat} {ob : Ob} {nid : Nat} : Does P G o ev fid ob nid ⟨.c (.bool false), none, none⟩ :=
  Does.quiet fun V D w H ρ _ hv _ => ⟨_, by
    have h1 := hv x (by simp [ho, Op.operands]); rw [hx] at h1
    have h2 := hv y (by simp [ho, Op.operands]); rw [hy] at h2
    have hu := hT.u ht
    rw [hd] at hu
    obtain ⟨j', z, hj, _⟩ := info_of hT hde
    generalize hq : ρ x = v at h1
    generalize hq2 : ρ y = v2 at h2
    cases h1
    rename_i b hi hb
    cases h2
    rename_i b2 hi2 hb2
    rw [hb] at hb2; cases hb2
    have := Lib.run_neq_ptr_same (P := P) w ⟨b, i * sz + j, none⟩ hu hj
    simp [execOp, ho, hq, hq2, eqGuard, this], .c _⟩

theorem liesAt_row {e : TypeId} (hc : P.cellsOf e ≠ 0) (count : Nat) (hn : 1 ≤ count) : liesAt P P.depth e count 0 e 1 = true := by
  have hd : P.depth = (2 * (P.types.size + Made.depth) + 1) + 1 := rfl
  rw [hd]
  simp only [liesAt, Bool.or_eq_true]
  left
  rw [hd]
  simp [rowAt, hc, hn, sameLayout]

/-- The block of a row. -/
theorem arr_block {V : View} {D : Nat → Prop} {w : World} {H : Nat → Ob} (hr : RelF G V w D H) {id b e sz : Nat} {xs : List (List Val)} (hH : H id = .arr e sz xs) (hi : D id) (hb : V.at_ id = some b) :
    ∃ ar, w.heap[b]? = some (.cells ar e (0, 0)) ∧ ar.size = V.cap id * sz ∧ xs.length ≤ V.cap id ∧ REs V D w sz 0 xs ar := by
  have hobj := hr.obj id hi
  rw [hH] at hobj
  rcases hobj with ⟨_, e0⟩ | ⟨b', ar, e1, e2, e3, e4, e5⟩
  · rw [hb] at e0; cases e0
  · rw [hb] at e1; cases e1
    exact ⟨ar, e2, e3, e4, e5⟩

theorem Does_to_unsafe {T : Nat → Option TD} (hT : TabOK P T) {o : Oper} {t u e : TypeId} {x : Operand} (ho : o.op = .convert t u x) {d du de : TD} (ht : T t = some d) (hd : d.desc = .pointer e) (hu : T u = some du) (hdu : du.desc = .unsafePointer) (hde : T e = some de) (hz : de.size ≠ 0)
    {ev : Operand → Val} {id sz i j et : Nat} {xs : List (List Val)} (hx : ev x = .ep id sz i j) (hin : i * sz + j < xs.length * sz) {nid : Nat} : Does P G o ev (some id) (.arr et sz xs) nid ⟨.ep id sz i j, none, none⟩ :=
  Does.quiet fun V D w H ρ hr hv hf => by
    have h1 := hv x (by simp [ho, Op.operands]); rw [hx] at h1
    have hx' := h1
    have hut := hT.u ht
    rw [hd] at hut
    have huu := hT.u hu
    rw [hdu] at huu
    obtain ⟨j', z, hj, hjs, _⟩ := info_of hT hde
    generalize hq : ρ x = v at h1 hx'
    cases h1
    rename_i b hi hb
    obtain ⟨ar, e2, e3, e4, e5⟩ := arr_block hr (hf id rfl) hi hb
    have hle : xs.length * sz ≤ V.cap id * sz := Nat.mul_le_mul_right _ e4
    refine ⟨_, ?_, hx'⟩
    have := Lib.run_to_unsafe (P := P) w (src := t) (dst := u) (t := e) (e := et) (cells := ar.size) ⟨b, i * sz + j, none⟩ hut huu hj (by rw [hjs]; exact hz) (by simp [World.shape?, e2]) (by show i * sz + j < ar.size; omega)
    simp [execOp, ho, hq, this]

theorem Does_from_unsafe {T : Nat → Option TD} (hT : TabOK P T) {o : Oper} {t u e : TypeId} {x : Operand} (ho : o.op = .convert t u x) {d du de : TD} (ht : T t = some d) (hd : d.desc = .unsafePointer) (hu : T u = some du) (hdu : du.desc = .pointer e) (hde : T e = some de) (hc : P.cellsOf e = de.size) (hz : de.size ≠ 0)
    {ev : Operand → Val} {id : Nat} {xs : List (List Val)} (hx : ev x = .ep id de.size 0 0) (hl : 0 < xs.length) {nid : Nat} : Does P G o ev (some id) (.arr e de.size xs) nid ⟨.ep id de.size 0 0, none, none⟩ :=
  Does.quiet fun V D w H ρ hr hv hf => by
    have h1 := hv x (by simp [ho, Op.operands]); rw [hx] at h1
    have hx' := h1
    have hut := hT.u ht
    rw [hd] at hut
    have huu := hT.u hu
    rw [hdu] at huu
    obtain ⟨j', z, hj, hjs, _⟩ := info_of hT hde
    generalize hq : ρ x = v at h1 hx'
    generalize hsz : de.size = sz at *
    generalize h00 : (0 : Nat) = q at h1
    cases h1
    rename_i b hi hb
    subst h00
    obtain ⟨ar, e2, e3, e4, e5⟩ := arr_block hr (hf id rfl) hi hb
    refine ⟨_, ?_, hx'⟩
    have hdiv : ar.size / P.cellsOf e = V.cap id := by rw [hc, e3]; exact Nat.mul_div_cancel _ (by omega)
    have := Lib.run_from_unsafe (P := P) w (src := t) (dst := u) (u := e) (e := e) (cells := ar.size) ⟨b, 0 * sz + 0, none⟩ hut huu hj (by simp [World.shape?, e2]) (by
      rw [hdiv]
      simp only [Nat.zero_mul, Nat.zero_add]
      exact liesAt_row (by rw [hc]; exact hz) _ (by omega))
    simp only [Nat.zero_mul, Nat.add_zero] at this hq
    simp [execOp, ho, hq, this]

/-- A call of a word of the library that gives its argument back. -/
theorem Does_extern {o : Oper} {f : FuncId} {x : Operand} {ts : Array TypeId} {fn : Func} {en : Array Value → Sem Value} (ho : o.op = .call { callee := .value (.func f), args := #[x], argTypes := ts }) (hf : P.funcs[f]? = some fn) (hname : (fn.name == "runtime.NumGoroutine") = false)
    (hb : fn.body.isNone = true) (hn : Extern.findNext fn = none) (he : Extern.find fn = some en) (hid : ∀ v w, (en #[v]).run P w = .ok v w) {ev : Operand → Val} (hev : ev (.func f) = .fn f []) {fid : Option Nat} {ob : Ob} {nid : Nat} : Does P G o ev fid ob nid ⟨ev x, none, none⟩ :=
  Does.quiet fun V D w H ρ _ hv _ => ⟨ρ x, by
    have := run_callFunc_extern hf hname hb hn he (#[ρ x] ++ #[]) w
    simp only [Array.append_empty] at this
    rw [hid] at this
    have h1 := hv (.func f) (by simp [ho, Op.operands, Call.operands]); rw [hev] at h1
    generalize hq : ρ (.func f) = fx at h1
    cases h1
    rename_i vs hl hp
    have e1 : vs = #[] := by
      apply Array.eq_empty_of_size_eq_zero; simpa using hl.symm
    subst e1
    simp [execOp, ho, hq, resolve, Deferred.ofValue, invoke, this], hv x (by simp [ho, Op.operands, Call.operands])⟩

/-! ### Strings -/
theorem Does_len_str {T : Nat → Option TD} (hT : TabOK P T) {o : Oper} {t : TypeId} {x : Operand} (ho : o.op = .call { callee := .builtin .len, args := #[x], argTypes := #[t] }) {d : TD} (ht : T t = some d) (hd : d.desc = .string)
    {ev : Operand → Val} {s : ByteArray} (hx : ev x = .c (.string s)) {fid : Option Nat} {ob : Ob} {nid : Nat} : Does P G o ev fid ob nid ⟨.c (.int .i64 s.size), none, none⟩ :=
  Does.quiet fun V D w H ρ _ hv _ => by
    have e1 := hv x (by simp [ho, Op.operands, Call.operands]); rw [hx] at e1
    have hu := hT.under ht w
    rw [hd] at hu
    refine ⟨.int .i64 s.size, ?_, .c _⟩
    simp [execOp, ho, resolve, invoke, builtin, Builtin.len_, e1.c_inv, hu, goInt]

theorem Does_cat {o : Oper} {t yt : TypeId} {x y : Operand} (ho : o.op = .binOp .add t x y yt) {ev : Operand → Val} {a b : ByteArray} (hx : ev x = .c (.string a)) (hy : ev y = .c (.string b)) (hl : a.size + b.size ≤ 9223372036854775807)
    {fid : Option Nat} {ob : Ob} {nid : Nat} : Does P G o ev fid ob nid ⟨.c (.string (a ++ b)), none, none⟩ :=
  Does.quiet fun V D w H ρ _ hv _ => ⟨_, by
    have h1 := hv x (by simp [ho, Op.operands]); rw [hx] at h1
    have h2 := hv y (by simp [ho, Op.operands]); rw [hy] at h2
    have hmax : IntKind.i64.max = 9223372036854775807 := rfl
    have hn : ¬ ((9223372036854775807 : Int) < (a.size : Int) + (b.size : Int)) := by omega
    simp [execOp, ho, h1.c_inv, h2.c_inv, eqGuard, binOp, Op.stringOp, hmax, hn], .c _⟩

def byteV (l : List UInt8) : List (List Val) := l.map fun b => [.c (.int .u8 b.toNat)]
theorem byteV_len (l : List UInt8) : (byteV l).length = l.length := by simp [byteV]
theorem byteV_append (a b : List UInt8) : byteV (a ++ b) = byteV a ++ byteV b := by simp [byteV]

theorem bytes_read {V : View} {D : Nat → Prop} {w : World} (l : List UInt8) : ∀ (i : Nat) (x : List Val) (j : Nat) (d : Val) (u : Value), (byteV l)[i]? = some x → x[j]? = some d → (Lib.byteCells l)[i * 1 + j]? = some u → RV V D w d u := by
  intro i x j d u h1 h2 h3
  simp only [byteV, List.getElem?_map, Option.map_eq_some_iff] at h1
  obtain ⟨c, hc, rfl⟩ := h1
  cases j with
  | zero =>
    simp only [List.getElem?_cons_zero, Option.some.injEq] at h2; subst h2
    simp [Lib.byteCells, hc] at h3
    subst h3; exact .c _
  | succ j => simp at h2

theorem bytes_one (l : List UInt8) : ∀ u, u ∈ Lib.byteCells l → oneC u = true := by
  intro u hu
  simp only [Lib.byteCells, List.mem_map] at hu
  obtain ⟨b, _, rfl⟩ := hu
  rfl

theorem Does_append_nil_str {T : Nat → Option TD} (hT : TabOK P T) {o : Oper} {t u : TypeId} {s x : Operand} (ho : o.op = .call { callee := .builtin .append, args := #[s, x], argTypes := #[t, u] }) {d du de : TD} {e : TypeId}
    (ht : T t = some d) (he : isSlice d = some e) (hu : T u = some du) (hdu : du.desc = .string) (hde : T e = some de) (hz : de.zero.length = de.size) (h1s : de.size = 1) {ev : Operand → Val} (hs : ev s = .c (.slice none 0 0)) {b : ByteArray} (hx : ev x = .c (.string b))
    (h0 : 0 < b.size) (hb : b.size * de.bytes ≤ 140737488355328) (hm : b.size ≤ 140737488355328) {fid : Option Nat} {ob : Ob} {nid : Nat} : Does P G o ev fid ob nid ⟨.os nid b.size, none, some (.arr e de.size (byteV b.data.toList))⟩ := by
  intro V D w H ρ hr hv hf hn
  have h1 := hv s (by simp [ho, Op.operands, Call.operands]); rw [hs] at h1
  have h2 := hv x (by simp [ho, Op.operands, Call.operands]); rw [hx] at h2
  obtain ⟨i, z, hi, his, hib, hiz, hzl⟩ := info_of hT hde
  have hut := hT.u ht
  rw [isSlice_spec he] at hut
  have huu := hT.u hu
  rw [hdu] at huu
  have hzs : z.cells.size = de.size := by rw [← Array.length_toList, hzl, hz]
  have hbl : b.data.toList.length = b.size := by rw [Array.length_toList]; rfl
  rw [addD_new rfl, updH_new rfl rfl]
  have hrun := run_append_nil_string (P := P) w t u o.type e i z hut huu hi hiz b h0 (by omega) (by rw [hib]; omega)
  have hge : b.size ≤ grownCap w b.size 0 e := grownCap_ge w b.size 0 e
  obtain ⟨k1, k2⟩ := grown_new (G := G) (e := e) (xs := []) (ys := byteV b.data.toList) (sz := de.size) (olds := []) (news := Lib.byteCells b.data.toList) (rest := (Builtin.zeroCells z.cells (grownCap w b.size 0 e - b.size)).toList) (cap := grownCap w b.size 0 e) (nid := nid) hr hn (by simp) (by rw [h1s]; simp [byteV]) (by simp) (by rw [h1s, byteV_len, Lib.byteCells_length]; omega) (by simp) (bytes_one _) (by simp) (by rw [h1s]; exact bytes_read _) (by rw [byteV_len]; simpa [hbl] using hge)
    (ar := b.data.map (fun b => Value.int .u8 b.toNat) ++ Builtin.zeroCells z.cells (grownCap w b.size 0 e - b.size)) (by simp [Lib.byteCells]) (by
      rw [Array.size_append, size_zero, hzs, Array.size_map, h1s]
      have : b.data.size = b.size := rfl
      omega)
  refine ⟨.slice (some ⟨w.heap.size, 0, none⟩) b.size (grownCap w b.size 0 e), _, _, .inl ?_, k1, k2, os_new (.inr rfl)⟩
  simp [execOp, ho, resolve, invoke, builtin, h1.c_inv, h2.c_inv, hrun]

theorem Does_append_str {T : Nat → Option TD} (hT : TabOK P T) {o : Oper} {t u : TypeId} {s x : Operand} (ho : o.op = .call { callee := .builtin .append, args := #[s, x], argTypes := #[t, u] }) {d du de : TD} {e : TypeId}
    (ht : T t = some d) (he : isSlice d = some e) (hu : T u = some du) (hdu : du.desc = .string) (hde : T e = some de) (hz : de.zero.length = de.size) (h1s : de.size = 1) {ev : Operand → Val} {id : Nat} {xs : List (List Val)} (hs : ev s = .os id xs.length) (hpos : 0 < xs.length) {sb : ByteArray} (hx : ev x = .c (.string sb))
    (hb : (xs.length + sb.size) * de.bytes ≤ 140737488355328) (hm : xs.length + sb.size ≤ 140737488355328) {nid : Nat} :
    Does P G o ev (some id) (.arr e de.size xs) nid ⟨.os nid (xs.length + sb.size), some .gone, some (.arr e de.size (xs ++ byteV sb.data.toList))⟩ := by
  intro V D w H ρ hr hv hf hn
  have h1 := hv s (by simp [ho, Op.operands, Call.operands]); rw [hs] at h1
  have h2 := hv x (by simp [ho, Op.operands, Call.operands]); rw [hx] at h2
  have hH := hf id rfl
  obtain ⟨i, z, hi, his, hib, hiz, hzl⟩ := info_of hT hde
  have hut := hT.u ht
  rw [isSlice_spec he] at hut
  have huu := hT.u hu
  rw [hdu] at huu
  have hzs : z.cells.size = de.size := by rw [← Array.length_toList, hzl, hz]
  have hbl : sb.data.toList.length = sb.size := by rw [Array.length_toList]; rfl
  have hln : (Lib.byteCells sb.data.toList).length = sb.size := by rw [Lib.byteCells_length, hbl]
  have hyl : (byteV sb.data.toList).length = sb.size := by rw [byteV_len, hbl]
  rw [addD_new rfl, updH_both]
  have hlive : (H id).live = true := by rw [hH]; rfl
  generalize hsv : ρ s = sv at h1
  obtain ⟨q, hq⟩ : ∃ q, q = xs.length := ⟨_, rfl⟩
  rw [← hq] at h1
  cases h1
  case osNil hi hb0 => omega
  case os b hi2 hb0 =>
    subst hq
    obtain ⟨ar, e2, e3, e4, e5⟩ := arr_block hr hH hi2 hb0
    have hfit := e5.1
    rw [Nat.zero_add] at hfit
    have hlo : (ar.toList.take (xs.length * de.size)).length = xs.length * de.size := by simp; omega
    have hold : ∀ j u, (ar.toList.take (xs.length * de.size))[j]? = some u → j < xs.length * de.size ∧ ar[j]? = some u := by
      intro j u hj
      rw [List.getElem?_take] at hj
      split at hj
      · exact ⟨‹_›, by simpa using hj⟩
      · cases hj
    have ho1 : ∀ u, u ∈ ar.toList.take (xs.length * de.size) → oneC u = true := by
      intro u hu'
      obtain ⟨j, hj⟩ := List.getElem?_of_mem hu'
      obtain ⟨h3, h4⟩ := hold j u hj
      exact e5.2.2.1 j u (Nat.zero_le _) (by omega) h4
    have hor : ∀ (i : Nat) (x : List Val) (j : Nat) (d : Val) (u : Value), xs[i]? = some x → x[j]? = some d → (ar.toList.take (xs.length * de.size))[i * de.size + j]? = some u → RV V D w d u := by
      intro i x j d u h3 h4 h5
      exact e5.2.2.2 i x j d u h3 h4 (by rw [Nat.zero_add]; exact (hold _ u h5).2)
    have hys : ∀ x, x ∈ byteV sb.data.toList → x.length = de.size := by rw [h1s]; simp [byteV]
    by_cases hroom : xs.length + sb.size ≤ V.cap id
    · have hfit2 : xs.length + sb.size ≤ ar.size := by rw [e3, h1s]; omega
      have hrun := Lib.run_append_room_string (P := P) w t u o.type e i hut huu hi (by rw [his]; exact h1s) b xs.length (V.cap id) ar e2 sb hroom hfit2
      have hnb : ¬ V.sh b := hr.apart id b hlive hb0
      have honly : Only w (w.setRow b (ar.toList.take xs.length ++ Lib.strCells sb ++ ar.toList.drop (xs.length + sb.size)).toArray) b := only_setRow (ar := ar) (T := e) (fr := (0, 0))
      obtain ⟨k1, k2⟩ := hr.moved hn hlive hb0 honly (c := V.cap id) (o := .arr e de.size (xs ++ byteV sb.data.toList)) (by
        refine .inr ⟨b, _, by simp [View.bind], setRow_heap w b ar _ e (0, 0) e2, ?_, by simp [View.bind, hyl]; exact hroom, ?_⟩
        · have := Lib.strCells_length sb
          simp [View.bind, this, h1s]; rw [h1s] at e3; omega
        · refine REs_append e5.2.1 hys (olds := ar.toList.take (xs.length * de.size)) (news := Lib.byteCells sb.data.toList) (rest := ar.toList.drop (xs.length + sb.size)) (by rw [h1s, Nat.mul_one]; rfl) hlo (by rw [hln, hyl, h1s, Nat.mul_one]) ho1 (bytes_one _) ?_ ?_
          · intro i x j d u h3 h4 h5
            exact RV.bind hn ((hor i x j d u h3 h4 h5).only honly hnb)
          · intro i x j d u h3 h4 h5
            rw [h1s] at h5
            exact bytes_read _ i x j d u h3 h4 h5)
      exact ⟨_, _, _, .inl (by simp [execOp, ho, resolve, invoke, builtin, hsv, h2.c_inv, hrun] <;> rfl), k1, k2, os_new (.inr rfl)⟩
    · have hcells : ∀ j v, (ar.toList.take (xs.length * de.size))[j]? = some v → w.cell? ((⟨b, 0, none⟩ : Addr).add j) = some v := by
        intro j v hj
        rw [add_none, cell_of e2, Nat.zero_add]; exact (hold j v hj).2
      have hrun := Lib.run_append_grow_string (P := P) w t u o.type e i z hut huu hi hiz ⟨b, 0, none⟩ xs.length (V.cap id) (ar.toList.take (xs.length * de.size)) (by rw [his]; exact hlo) hcells sb (by omega) (by omega)
        (growslice_fits (by omega) (by rw [hib]; exact hb))
      have hge : xs.length + sb.size ≤ grownCap w (xs.length + sb.size) (V.cap id) e := grownCap_ge w _ _ e
      obtain ⟨kk1, kk2⟩ := hr.kill id
      obtain ⟨k1, k2⟩ := grown_new (G := G) (e := e) (xs := xs) (ys := byteV sb.data.toList) (sz := de.size) (olds := ar.toList.take (xs.length * de.size)) (news := Lib.byteCells sb.data.toList) (rest := (Builtin.zeroCells z.cells (grownCap w (xs.length + sb.size) (V.cap id) e - (xs.length + sb.size))).toList)
        (cap := grownCap w (xs.length + sb.size) (V.cap id) e) (nid := nid) kk1 hn e5.2.1 hys hlo (by rw [hln, hyl, h1s, Nat.mul_one]) ho1 (bytes_one _) hor (by rw [h1s]; exact bytes_read _) (by rw [hyl]; exact hge)
        (ar := (ar.toList.take (xs.length * de.size)).toArray ++ (Lib.strCells sb).toArray ++ Builtin.zeroCells z.cells (grownCap w (xs.length + sb.size) (V.cap id) e - (xs.length + sb.size))) (by simp [Lib.strCells_eq]) (by
          have := Lib.strCells_length sb
          rw [Array.size_append, Array.size_append, size_zero, hzs]; simp only [List.size_toArray, this, hlo]; rw [h1s]; omega)
      exact ⟨_, _, _, .inl (by simp [execOp, ho, resolve, invoke, builtin, hsv, h2.c_inv, hrun] <;> rfl), k1, kk2.trans k2 (fun _ h => h), os_new (.inr rfl)⟩

/-- The address of an own row. -/
theorem Does_sliceData {o : Oper} {x : Operand} {ts : Array TypeId} (ho : o.op = .call { callee := .builtin .unsafeSliceData, args := #[x], argTypes := ts }) {ev : Operand → Val} {id e sz : Nat} {xs : List (List Val)} (hx : ev x = .os id xs.length) (hpos : 0 < xs.length) {nid : Nat} :
    Does P G o ev (some id) (.arr e sz xs) nid ⟨.ptr id 0, none, none⟩ :=
  Does.quiet fun V D w H ρ hr hv hf => by
    have h1 := hv x (by simp [ho, Op.operands, Call.operands]); rw [hx] at h1
    generalize hq : ρ x = v at h1
    obtain ⟨q, hq2⟩ : ∃ q, q = xs.length := ⟨_, rfl⟩
    rw [← hq2] at h1
    cases h1
    case osNil => omega
    case os b hi hb =>
      obtain ⟨ar, e2, e3, e4, e5⟩ := arr_block hr (hf id rfl) hi hb
      refine ⟨_, ?_, .ptr hi hb⟩
      have := Lib.run_unsafeSliceData_row (P := P) w ts o.type ⟨b, 0, none⟩ q (V.cap id) (by omega)
      simp [execOp, ho, resolve, invoke, builtin, hq, this] <;> rfl

/-- The string of an own row of bytes: the row is frozen, and nobody's. -/
theorem Does_unsafeString {T : Nat → Option TD} (hT : TabOK P T) {o : Oper} {pt it e : TypeId} {x y : Operand} (ho : o.op = .call { callee := .builtin .unsafeString, args := #[x, y], argTypes := #[pt, it] }) {d : TD} (ht : T pt = some d) (hd : d.desc = .pointer e) (hc : P.cellsOf e = 1) {ev : Operand → Val} {id : Nat}
    {l : List UInt8} (hx : ev x = .ptr id 0) (hy : ev y = .c (.int .i64 l.length)) (h0 : l ≠ []) (h63 : l.length ≤ 9223372036854775807) {nid : Nat} :
    Does P G o ev (some id) (.arr e 1 (byteV l)) nid ⟨.c (.string ⟨l.toArray⟩), some .gone, none⟩ := by
  intro V D w H ρ hr hv hf hn
  have h1 := hv x (by simp [ho, Op.operands, Call.operands]); rw [hx] at h1
  have h2 := hv y (by simp [ho, Op.operands, Call.operands]); rw [hy] at h2
  have hH := hf id rfl
  have hut := hT.u ht
  rw [hd] at hut
  have hlive : (H id).live = true := by rw [hH]; rfl
  rw [addD_old rfl, updH_up rfl rfl]
  generalize hq : ρ x = v at h1
  cases h1
  rename_i b hi hb
  obtain ⟨ar, e2, e3, e4, e5⟩ := arr_block hr hH hi hb
  rw [byteV_len] at e4
  have hfit := e5.1
  rw [byteV_len] at hfit
  have hcell : ∀ j x, l[j]? = some x → w.cell? ((⟨b, 0, none⟩ : Addr).add j) = some (.int .u8 x.toNat) := by
    intro j x hj
    rw [add_none, cell_of e2, Nat.zero_add]
    have hlt : j < l.length := (List.getElem?_eq_some_iff.1 hj).1
    have hja : j < ar.size := by omega
    have := e5.2.2.2 j [.c (.int .u8 x.toNat)] 0 (.c (.int .u8 x.toNat)) ar[j] (by simp [byteV, hj]) rfl (by simp [hja])
    rw [Array.getElem?_eq_getElem hja, this.c_inv]
  have hrun := Lib.run_unsafeString_row (P := P) w pt it o.type e hut hc b ar.size (by simp [World.shape?, e2]) l h0 (by omega) h63 hcell
  have hl : l.length ≠ 0 := by simpa using h0
  have honly : Only w (w.freeze ⟨b, 0, none⟩ l.length) b := by
    unfold World.freeze
    rw [if_neg hl]
    exact ⟨by simp, rfl, rfl, rfl, fun k hk => by simp [Array.getElem?_modify, Ne.symm hk]⟩
  obtain ⟨k1, k2⟩ := hr.put hlive hb honly (o := .gone) trivial
  exact ⟨_, _, _, .inl (by simp [execOp, ho, resolve, invoke, builtin, hq, h2.c_inv, hrun] <;> rfl), k1, k2, .c _⟩
end Go.Vm
/- From a row's reading of its arguments to values without addresses, and from a contract to a call. -/
namespace Go.Vm
open Go Go.RowKit
variable {P : Program} {H : Type} {enc : TypeId × Value → H} {w : World}

theorem rowAt_off {fits : TypeId → Bool} {d e count off n : Nat} (h : rowAt P fits d e count off n = true) : off ≤ count * P.cellsOf e := by
  cases d with
  | zero => simp [rowAt] at h
  | succ d =>
    simp only [rowAt] at h
    split at h
    · cases h
    · rename_i hs
      simp only [Bool.or_eq_true, Bool.and_eq_true, beq_iff_eq, decide_eq_true_eq] at h
      have hdm := Nat.div_add_mod off (P.cellsOf e)
      have hpos : 0 < P.cellsOf e := Nat.pos_of_ne_zero hs
      rcases h with ⟨⟨h1, h2⟩, _⟩ | ⟨h1, _⟩
      · rw [h1, Nat.add_zero] at hdm
        rw [← hdm, Nat.mul_comm]
        exact Nat.mul_le_mul_right _ (by omega)
      · have h3 := Nat.mod_lt off hpos
        have : (off / P.cellsOf e + 1) * P.cellsOf e ≤ count * P.cellsOf e := Nat.mul_le_mul_right _ h1
        rw [Nat.add_mul, Nat.mul_comm] at this
        omega

theorem liesAt_off : ∀ {d e count off u n : Nat}, liesAt P d e count off u n = true → off ≤ count * P.cellsOf e
  | 0, _, _, _, _, _, h => by simp [liesAt] at h
  | d + 1, e, count, off, u, n, h => by
    simp only [liesAt, Bool.or_eq_true] at h
    rcases h with h | h
    · exact rowAt_off h
    · split at h
      · exact liesAt_off h
      · cases h

/-- Where a slice that was handed in lies. -/
def Lies (w : World) (v : Value) : Prop := ∀ a n c, v = .slice (some a) n c → a.spot = none ∧ ∃ ar T fr, w.heap[a.block]? = some (.cells ar T fr) ∧ a.off ≤ ar.size

theorem lies_of_ok {r : Reach} {base : Nat} {t e : TypeId} {v : Value} (ht : P.underlying t = some (.slice e)) (h : Cell.okWide P w r base t v) : Lies w v := by
  rintro a n c rfl
  simp only [Cell.okWide, ht, Cell.ok, World.has] at h
  obtain ⟨_, _, _, h1, row, cells, h2, h3⟩ := h
  refine ⟨h1, ?_⟩
  unfold World.shape? at h2
  split at h2
  · rename_i cs T fr hh
    simp only [Option.some.injEq, Prod.mk.injEq] at h2
    obtain ⟨rfl, rfl⟩ := h2
    refine ⟨cs, T, fr, hh, ?_⟩
    have := liesAt_off h3
    exact Nat.le_trans this (Nat.div_mul_le_self _ _)
  · cases h2

/-- The view in which whatever lies is shared. -/
def V0 (w : World) : View := ⟨fun _ => none, fun _ => 0, fun k => k < w.heap.size⟩
abbrev D0 : Nat → Prop := Hp.D []

theorem rel0 {G : List (Nat × Obj)} (hG : ∀ g o, (g, o) ∈ G → w.heap[g]? = some o) : RelF G (V0 w) w (Hp.D []) (Hp.get []) := by
  have hg : ∀ i, Hp.get [] i = .gone := fun i => rfl
  have hd : ∀ i, ¬ Hp.D [] i := fun i h => by simp [Hp.D] at h
  refine ⟨fun id h => (hd id h).elim, fun id _ => hg id, ?_, ?_, ?_, fun k h => h, fun g o h => ⟨hG g o h, ?_⟩⟩
  · intro i j b h; rw [hg] at h; cases h
  · intro i b h; rw [hg] at h; cases h
  · intro i b h; rw [hg] at h; cases h
  · show g < w.heap.size
    have := hG g o h
    exact (Array.getElem?_eq_some_iff.1 this).1

/-- How values of a type open: what they are, as one of α. -/
def Opn (enc : TypeId × Value → H) (P : Program) (w : World) (t : TypeId) {α : Type} (f : α → List Val) (Good : α → Prop) : Prop :=
  ∀ (fuel : Nat) (cs : List Value) (y : DataW H × List MemPlace), DataW.trod enc P w 0 (fun _ => true) true fuel t cs = some y → (y.1.weights P t).all (· ≤ reachBytes) = true → (∀ v, v ∈ cs → Lies w v) →
    ∃ a, Good a ∧ (f a).length = cs.length ∧ (∀ v, v ∈ cs → oneC v = true) ∧ ∀ (i : Nat) (d : Val) (v : Value), (f a)[i]? = some d → cs[i]? = some v → RV (V0 w) D0 w d v

theorem wf_i64 {n : Int} (h : (Lit.int .i64 n).wf = true) : -9223372036854775808 ≤ n ∧ n ≤ 9223372036854775807 := by
  simp only [Lit.wf, Bool.and_eq_true, decide_eq_true_eq] at h
  exact h

theorem opn_int {t : TypeId} (ht : P.underlying t = some (.int .i64)) : Opn enc P w t (fun n : Int => [.c (.int .i64 n)]) (fun n => -9223372036854775808 ≤ n ∧ n ≤ 9223372036854775807) := by
  intro fuel cs y h _ _
  obtain ⟨n, rfl, _, hw⟩ := DataW.trod_int ht h
  refine ⟨n, wf_i64 hw, rfl, by simp [oneC], ?_⟩
  intro i d v h1 h2
  cases i with
  | zero => simp at h1 h2; subst h1; subst h2; exact .c _
  | succ i => simp at h1

theorem cells_get {base n : Nat} {a : Addr} {cs : List Value} (h : w.cells? base a n = some cs) : cs.length = n ∧ ∀ i, i < n → w.cell? (a.add i) = cs[i]? := by
  unfold World.cells? at h
  split at h
  · have hl : cs.length = n := by have := Lib.mapM_length h; simpa using this
    refine ⟨hl, fun i hi => ?_⟩
    obtain ⟨b, hb, hf⟩ := Lib.mapM_at h i i (by simp [hi])
    rw [hf, hb]
  · cases h

theorem add_add {a : Addr} (hs : a.spot = none) (i j : Nat) : (a.add i).add j = ⟨a.block, a.off + i + j, none⟩ := by
  obtain ⟨b, o, s⟩ := a
  subst hs
  rw [add_none, add_none]

theorem weights_all {e : TypeId} : ∀ {ds : List (DataW H)}, (DataW.weightsAll P e ds).all (· ≤ reachBytes) = true → ∀ {d : DataW H}, d ∈ ds → (d.weights P e).all (· ≤ reachBytes) = true
  | [], _, _, hd => by cases hd
  | x :: ds, h, d, hd => by
    simp only [DataW.weightsAll, List.all_append, Bool.and_eq_true] at h
    rcases List.mem_cons.1 hd with rfl | hd
    · exact h.1
    · exact weights_all h.2 hd

/-- A slice opens by how its elements open. `hin`: what is asked of the elements' own cells. -/
theorem opn_slice {t e : TypeId} {α : Type} {f : α → List Val} {Good : α → Prop} (sz : Nat) (ht : P.underlying t = some (.slice e)) (hc : P.cellsOf e = sz) (he : Opn enc P w e f Good) (hin : ∀ (b : Nat) (ar : Array Value) (T : TypeId) (fr : Nat × Nat), w.heap[b]? = some (.cells ar T fr) →
    ∀ (fuel : Nat) (cs : List Value) (y : DataW H × List MemPlace), DataW.trod enc P w 0 (fun _ => true) true fuel e cs = some y → (∀ v, v ∈ cs → v ∈ ar) → ∀ v, v ∈ cs → Lies w v) :
    Opn enc P w t (fun xs : List α => [.sl sz (xs.map f)]) (fun xs => (∀ x, x ∈ xs → Good x) ∧ xs.length * P.bytesOf e ≤ reachBytes) := by
  intro fuel cs y h hwt hl
  rcases DataW.trod_slice ht h with ⟨rfl, rfl⟩ | ⟨a, len, cap, elems, rest, n, rfl, rfl, rfl, _, hle, hm, hel, hat, _, _⟩
  · refine ⟨[], ⟨by simp, by simp⟩, rfl, by simp [oneC], ?_⟩
    intro i d v h1 h2
    cases i with
    | zero => simp at h1 h2; subst h1; subst h2; exact .slNil
    | succ i => simp at h1
  · obtain ⟨hs, ar, T, fr, hh, hoff⟩ := hl (.slice (some a) len cap) (by simp) a len cap rfl
    simp only [DataW.weights, ht, List.all_cons, List.all_append, Bool.and_eq_true, decide_eq_true_eq, List.length_map] at hwt
    obtain ⟨hw1, hw2, _⟩ := hwt
    have key : ∀ i, i < len → ∃ (x : α) (cs : List Value), Good x ∧ (f x).length = sz ∧ cs.length = sz ∧ (∀ v, v ∈ cs → oneC v = true) ∧ (∀ j, j < sz → ar[a.off + i * sz + j]? = cs[j]?) ∧
        ∀ (j : Nat) (d : Val) (v : Value), (f x)[j]? = some d → cs[j]? = some v → RV (V0 w) D0 w d v := by
      intro i hi
      have h1 := hat i hi
      rw [List.getElem?_eq_getElem (by omega)] at h1
      obtain ⟨cs, h2, h3⟩ := Option.bind_eq_some_iff.1 h1
      obtain ⟨h4, h5⟩ := cells_get h2
      rw [hc] at h4 h5
      have h6 : ∀ j, j < sz → ar[a.off + i * sz + j]? = cs[j]? := by
        intro j hj
        have := h5 j hj
        rw [add_add hs, cell_of hh] at this
        exact this
      obtain ⟨x, g1, g2, g3, g4⟩ := he n cs _ h3 (weights_all hw2 (List.mem_map.2 ⟨_, List.getElem_mem (by omega), rfl⟩)) (hin a.block ar T fr hh n cs _ h3 (fun v hv => by
        obtain ⟨j, hj, rfl⟩ := List.getElem_of_mem hv
        have := h6 j (by omega)
        rw [List.getElem?_eq_getElem hj] at this
        exact Array.mem_of_getElem? this))
      exact ⟨x, cs, g1, by omega, h4, g3, h6, g4⟩
    have hbound : a.off + len * sz ≤ ar.size := by
      rcases Nat.eq_zero_or_pos len with h0 | h0
      · subst h0; simpa using hoff
      · rcases Nat.eq_zero_or_pos sz with hz | hz
        · rw [hz]; simpa using hoff
        · obtain ⟨x, cs, _, _, g3, _, g5, _⟩ := key (len - 1) (by omega)
          have h7 := g5 (sz - 1) (by omega)
          rw [List.getElem?_eq_getElem (by omega)] at h7
          have h8 := (Array.getElem?_eq_some_iff.1 h7).1
          have : (len - 1) * sz + sz = len * sz := by
            rw [← Nat.succ_mul, Nat.succ_eq_add_one, Nat.sub_add_cancel h0]
          omega
    have key2 : ∃ xs : List α, xs.length = len ∧ ∀ (i : Nat) (x : α), xs[i]? = some x → Good x ∧ (f x).length = sz ∧ ∃ cs : List Value, cs.length = sz ∧ (∀ v, v ∈ cs → oneC v = true) ∧ (∀ j, j < sz → ar[a.off + i * sz + j]? = cs[j]?) ∧
        ∀ (j : Nat) (d : Val) (v : Value), (f x)[j]? = some d → cs[j]? = some v → RV (V0 w) D0 w d v := by
      refine ⟨List.ofFn (fun i : _root_.Fin len => Classical.choose (key i.1 i.2)), by simp, ?_⟩
      intro i x hx
      have hi : i < len := by have := (List.getElem?_eq_some_iff.1 hx).1; simpa using this
      have hxe : x = Classical.choose (key i hi) := by
        rw [List.getElem?_eq_getElem (by simpa using hi)] at hx
        simpa using hx.symm
      obtain ⟨cs, g1, g2, g3, g4, g5, g6⟩ := Classical.choose_spec (key i hi)
      rw [hxe]
      exact ⟨g1, g2, cs, g3, g4, g5, g6⟩
    obtain ⟨xs, hxl, hx⟩ := key2
    refine ⟨xs, ⟨fun x hxm => by obtain ⟨i, hi⟩ := List.getElem?_of_mem hxm; exact (hx i x hi).1, Nat.le_trans (Nat.mul_le_mul_right _ (by omega)) hw1⟩, rfl, by simp [oneC], ?_⟩
    intro i d v h1 h2
    cases i with
    | succ i => simp at h1
    | zero =>
      simp at h1 h2; subst h1; subst h2
      obtain ⟨b, off, sp⟩ := a
      simp only at hs hh hoff hbound; subst hs
      have hlen : (xs.map f).length = len := by simp [hxl]
      have := RV.sl (V := V0 w) (n := D0) (w := w) (xs := xs.map f) (k := b) (off := off) (cap := cap) (ar := ar) (T := T) (fr := fr) (sz := sz) (by show b < w.heap.size; exact (Array.getElem?_eq_some_iff.1 hh).1) hh (by omega) (by rw [hlen]; exact hbound)
        (by
          intro x hxm
          rw [List.mem_map] at hxm
          obtain ⟨z, hz, rfl⟩ := hxm
          obtain ⟨i, hi⟩ := List.getElem?_of_mem hz
          exact (hx i z hi).2.1)
        (by
          intro j v h3 h4 h5
          rw [hlen] at h4
          have hzp : 0 < sz := by
            rcases Nat.eq_zero_or_pos sz with hz | hz
            · rw [hz] at h4; omega
            · exact hz
          have hq : (j - off) / sz < len := by rw [Nat.div_lt_iff_lt_mul hzp]; omega
          have hdm := Nat.div_add_mod (j - off) sz
          have hmd := Nat.mod_lt (j - off) hzp
          obtain ⟨_, _, cs, g1, g2, g3, _⟩ := hx ((j - off) / sz) (xs[(j - off) / sz]'(by omega)) (List.getElem?_eq_getElem (by omega))
          have h6 := g3 ((j - off) % sz) hmd
          rw [show off + (j - off) / sz * sz + (j - off) % sz = j by rw [Nat.mul_comm]; omega, h5] at h6
          exact g2 v (List.mem_of_getElem? h6.symm))
        (by
          intro i x j d v h3 h4 h5
          rw [List.getElem?_map, Option.map_eq_some_iff] at h3
          obtain ⟨z, hz, rfl⟩ := h3
          obtain ⟨_, g0, cs, g1, g2, g3, g4⟩ := hx i z hz
          have hj : j < sz := by have := (List.getElem?_eq_some_iff.1 h4).1; omega
          exact g4 j d v h4 (by rw [← g3 j hj]; exact h5))
      rw [hlen] at this
      exact this
end Go.Vm
/- A contract as a call. -/
namespace Go.Vm
open Go Go.RowKit
variable {P : Program} {w : World}

theorem call_of_vcall {G : List (Nat × Obj)} {f : FuncId} {ds : List Val} {args : Array Value} {Q : Val → Hp → Prop} (hG : ∀ g o, (g, o) ∈ G → w.heap[g]? = some o) (hc : VCall P G (.fn f []) ds [] Q) (ha : RVs (V0 w) D0 w ds args) :
    Calls P f args w (fun e w' => ∃ v, e = .returned v ∧ Below w.heap.size w w' ∧ ∃ V' r h', RV V' (Hp.D h') w' r v ∧ Q r h') := by
  have hi := hc (V0 w) w (.func (.func f) #[] #[]) args (rel0 hG) (.fn rfl (by intro i d v h1; simp at h1)) ha
  rcases hi with ⟨g, caps, h1, h2, h3⟩ | ⟨l, fn, tmps, assign, body, h1, _⟩
  · simp only [Value.func.injEq, Fn.func.injEq] at h1
    obtain ⟨rfl, _, rfl⟩ := h1
    rw [Array.append_empty] at h3
    refine h3.mono ?_
    rintro e w' ⟨v, rfl, V', r, h', k1, k2, k3, k4, q⟩
    refine ⟨v, rfl, ⟨k2.os, k2.tape, k2.output, k2.size, fun k hk => k2.keep k hk (fun i hl => by cases hl)⟩, V', r, h', k4, q⟩
  · simp only [Value.func.injEq] at h1
    cases h1.1

/-- Arguments, one behind the other. -/
theorem rvs_nil {V : View} {D : Nat → Prop} : RVs V D w [] #[] := ⟨rfl, by intro i d v h; simp at h⟩
theorem rvs_cons {V : View} {D : Nat → Prop} {d : Val} {v : Value} {ds : List Val} {vs : List Value} (h : RV V D w d v) (hs : RVs V D w ds vs.toArray) : RVs V D w (d :: ds) (v :: vs).toArray := by
  refine ⟨by have := hs.1; simp at this ⊢; omega, ?_⟩
  intro i d' v' h1 h2
  cases i with
  | zero => simp at h1 h2; subst h1; subst h2; exact h
  | succ i => exact hs.2 i d' v' (by simpa using h1) (by simpa using h2)

/-- A value of one cell. -/
theorem opn_one {H : Type} {enc : TypeId × Value → H} {t : TypeId} {α : Type} {f : α → List Val} {Good : α → Prop} (ho : Opn enc P w t f Good) (hf : ∀ a, (f a).length = 1) {v : Value} {d : DataW H} {ps : List MemPlace} (hv : v.cells.toList = [v]) (h : DataW.Trod enc P w 0 (fun _ => true) true t v d ps)
    (hw : (d.weights P t).all (· ≤ reachBytes) = true) (hl : Lies w v) : ∃ a, Good a ∧ ∀ d, (f a)[0]? = some d → RV (V0 w) D0 w d v := by
  obtain ⟨fuel, h⟩ := h
  rw [hv] at h
  obtain ⟨a, g1, g2, g3, g4⟩ := ho fuel [v] _ h hw (by simpa using hl)
  exact ⟨a, g1, fun d hd => g4 0 d v hd rfl⟩

theorem weights_each {H : Type} {ts : List TypeId} {ds : List (DataW H)} (h : (DataW.weightsEach P ts ds).all (· ≤ reachBytes) = true) {j : Nat} {t : TypeId} {d : DataW H} (ht : ts[j]? = some t) (hd : ds[j]? = some d) : (d.weights P t).all (· ≤ reachBytes) = true :=
  List.all_eq_true.2 fun n hn => List.all_eq_true.1 h n (DataW.weights_mem_each ht hd n hn)
theorem cells_slice {r : Reach} {base t e : Nat} {v : Value} (h : Value.okWide P w r base t v) (ht : P.underlying t = some (.slice e)) : v.cells.toList = [v] := by
  obtain ⟨a, len, cap, rfl⟩ := WideShapes.okWide_slice ht h
  rfl
theorem lies_arg {r : Reach} {base t e : Nat} {v : Value} (h : Value.okWide P w r base t v) (ht : P.underlying t = some (.slice e)) : Lies w v := by
  refine lies_of_ok ht (r := r) (base := base) ?_
  simp only [Value.okWide, ht] at h
  exact h
end Go.Vm
/- Rules for runs of whole stretches. -/
namespace Go.Vm
open Go Go.RowKit
variable {P : Program} {G : List (Nat × Obj)} {ro : Option Nat} {ops : Array Oper}

theorem q : True := trivial
theorem tf : True := trivial
theorem en : True := trivial
theorem dn : True := trivial
theorem c1 : True := trivial
theorem c2 : True := trivial
theorem c3 : True := trivial
theorem c4 : True := trivial
theorem c5 : True := trivial
theorem c6 : True := trivial
theorem c7 : True := trivial
theorem c8 : True := trivial
theorem c9 : True := trivial
theorem d1 : True := trivial
theorem d2 : True := trivial
theorem d3 : True := trivial
abbrev I (n : Int) : Val := .c (.int .i64 n)
abbrev B (b : Bool) : Val := .c (.bool b)
abbrev S1 (xs : List Int) : Val := .sl 1 (xs.map fun n => [I n])

theorem cr0 (n : Int) (h1 : -9223372036854775808 ≤ n) (h2 : n ≤ 9223372036854775807) : IntKind.i64.wrap n = n := wrap64 h1 (by omega)
theorem cr1 (a b : Int) (h : a ≤ b) : (a ≤ b) = True := eq_true h
theorem cr2 (a b : Int) (h : b < a) : (a ≤ b) = False := eq_false (by omega)
theorem cr3 (a b : Int) (h : a < b) : (a < b) = True := eq_true h
theorem cr4 (a b : Int) (h : b ≤ a) : (a < b) = False := eq_false (by omega)
theorem cr5 (a b : Nat) (h : a ≤ b) : (a ≤ b) = True := eq_true h
theorem cr6 {α β : Type} [Inhabited α] (f : α → β) (xs : List α) (k : Nat) (h : k < xs.length) : (xs.map f)[k]? = some (f xs[k]!) := by simp [h]
theorem cr7 (k : Nat) : ((k : Int) - 1).toNat = k - 1 := by omega
def lenm (id : Nat) : Ob → Act2
  | .mpo es => some (some id, ⟨.c (.int .i64 es.length), none, none⟩)
  | _ => none
theorem aLenH_map {d : TD} (hd : isMapT d = true) (h : Hp) (id : Nat) : aLenH (some d) h (.mp id) = lenm id (h.get id) := by
  simp only [aLenH]; generalize h.get id = o; cases o <;> simp [lenm, hd]
theorem cr : (∀ (k : Nat), ((k : Int) - 1).toNat = k - 1) ∧ (decide True = true) ∧ (decide False = false) ∧
    (∀ (T : Nat → Option TD) (ops : Array Oper) (l : List Oper) (o : Oper) (s : St), vcont T ops l o s none = (o :: l, s)) ∧ (∀ (T : Nat → Option TD) (ops : Array Oper) (l : List Oper) (o : Oper) (s : St), dcont T ops l o s none = (o :: l, [], s)) ∧
    (∀ (op : BinOp) (a b : List Val), aBin op (.agg a) (.agg b) = none) ∧ (∀ (T : Nat → Option TD) (ev : Operand → Val) (h : Hp) (t : TypeId) (r : Option Operand), vact T (.makeMap t r) ev h = none) ∧
    (∀ (T : Nat → Option TD) (ev : Operand → Val) (h : Hp) (t : TypeId) (m k x : Operand), vact T (.mapUpdate t m k x) ev h = none) ∧ (∀ (T : Nat → Option TD) (ev : Operand → Val) (h : Hp) (t : TypeId) (x k : Operand) (b : Bool), vact T (.lookup t x k b) ev h = none) ∧
    (∀ (id : Nat) (es : List (Value × Val)), lenm id (.mpo es) = some (some id, ⟨.c (.int .i64 es.length), none, none⟩)) :=
  ⟨cr7, rfl, rfl, fun _ _ _ _ _ => rfl, fun _ _ _ _ _ => rfl, fun _ _ _ => rfl, fun _ _ _ _ _ => rfl, fun _ _ _ _ _ _ _ => rfl, fun _ _ _ _ _ _ _ => rfl, fun _ _ => rfl⟩
structure Hid (B : Prop) : Prop where
  out : B
structure OkM (s : St) : Prop where
  le : s.m ≤ 1000000
/-- Where a run stands. -/
structure WLR (P : Program) (G : List (Nat × Obj)) (ro : Option Nat) (ops : Array Oper) (K : St → Prop) (r : List Oper × St) : Prop where
  run : OkM r.2 → WL P G ro ops r.1 K r.2
theorem m_vrun (T : Nat → Option TD) : ∀ (l : List Oper) (s : St), (vrun T ops l s).2.m = s.m
  | [], s => rfl
  | o :: l, s => by
    simp only [vrun]
    split
    · split
      · rw [m_vrun T l]; exact m_app _ _ _ _
      · rfl
    · split
      · split
        · rw [m_vrun T l]; exact m_app _ _ _ _
        · rfl
      · rw [m_vrun T l]; exact m_put _ _ _
      · rfl
theorem WL_R {l : List Oper} {K : St → Prop} {s : St} (h : WLR P G ro ops K (vrun (tdOf P) ops l s)) (hm : OkM s) : WL P G ro ops l K s := WL_run l s hm.le (h.run ⟨by rw [m_vrun]; exact hm.le⟩)
theorem W_regR {id : Nat} {Q : Exit → St → Prop} {s : St} (hm : OkM s) (h : WLR P G ro ops (Q .normal) (vrun (tdOf P) ops ops.toList s)) : W P G ro (.region id ops false) Q s := W_region (WL_R h hm)
theorem WLR_simp {K : St → Prop} {r r' : List Oper × St} (hr : r = r') (h : WLR P G ro ops K r') : WLR P G ro ops K r := hr ▸ h
theorem WLR_nil {K : St → Prop} {s : St} (h : K s) : WLR P G ro ops K ([], s) := ⟨fun _ => WL_nil h⟩
theorem WLR_call {o : Oper} {l : List Oper} {K : St → Prop} {s : St} (h : WL P G ro ops (o :: l) K s) : WLR P G ro ops K (o :: l, s) := ⟨fun _ => h⟩
theorem WLR_guard {T : Nat → Option TD} {o : Oper} {l : List Oper} {K : St → Prop} {s : St} {b x : Bool} (h1 : x = true → WLR P G ro ops K (vguard T ops l o s (gv b (.c (.bool true))))) (h0 : x = false → WLR P G ro ops K (vguard T ops l o s (gv b (.c (.bool false))))) :
    WLR P G ro ops K (vguard T ops l o s (gv b (.c (.bool x)))) := by
  cases x
  · exact h0 rfl
  · exact h1 rfl
theorem WL_pureR {o : Oper} {l : List Oper} {K : St → Prop} {s s' : St} {f : Operand} {args : Array Operand} {at_ : Array TypeId} {fv r : Val} {avs : List Val}
    (ho : o.op = .call { callee := .value f, args := args, argTypes := at_ }) (hg : Wants ops s o) (hf : s.ev f = fv) (ha : args.toList.map s.ev = avs) (hc : VCall P G fv avs s.h (fun r' h' => r' = r ∧ h' = s.h)) (hd : s.d = []) (hs : s.put o.dst r = s')
    (hm : OkM s') (h : WLR P G ro ops K (vrun (tdOf P) ops l s')) : WL P G ro ops (o :: l) K s := WL_pure hc ho hg hf ha hd hs (WL_R h hm)
theorem WL_q {o : Oper} {l : List Oper} {K : St → Prop} {s s' : St} {r : Val} (hd : Does P G o s.ev none .gone s.h.length ⟨r, none, none⟩) (hnd : ∀ c, o.op ≠ .defer c) (hg : Wants ops s o) (hs : s.put o.dst r = s') (hm : OkM s')
    (h : WLR P G ro ops K (vrun (tdOf P) ops l s')) : WL P G ro ops (o :: l) K s := by
  refine WL_op hd hnd hg (by intro id e; cases e) ?_
  have e : s.app o.dst none ⟨r, none, none⟩ = s' := by
    rw [← hs]
    cases o.dst with
    | none => rfl
    | some d => simp only [St.app, St.put, Hp.app]; split <;> rfl
  rw [e]; exact WL_R h hm
theorem WL_mkmap {o : Oper} {l : List Oper} {K : St → Prop} {s s' : St} {t : TypeId} (ho : o.op = .makeMap t none) (hg : Wants ops s o) (hs : s.app o.dst none ⟨.mp (List.length s.h), none, some (.mpo [])⟩ = s') (hm : OkM s')
    (h : WLR P G ro ops K (vrun (tdOf P) ops l s')) : WL P G ro ops (o :: l) K s := by
  refine WL_op (fid := none) (ob := .gone) (Does_makeMap ho) (by rw [ho]; intro c hc; cases hc) hg (by intro id e; cases e) ?_
  rw [hs]; exact WL_R h hm
theorem WL_mapU {o : Oper} {l : List Oper} {K : St → Prop} {s s' : St} {id : Nat} {es es' : List (Value × Val)} (hD : Does P G o s.ev (some id) (.mpo es) (List.length s.h) ⟨.any, some (.mpo es'), none⟩) (hnd : ∀ c, o.op ≠ .defer c) (hg : Wants ops s o) (hh : s.h.get id = .mpo es)
    (hs : s.app o.dst (some id) ⟨.any, some (.mpo es'), none⟩ = s') (hm : OkM s') (h : WLR P G ro ops K (vrun (tdOf P) ops l s')) : WL P G ro ops (o :: l) K s := by
  refine WL_op hD hnd hg (by rintro _ ⟨⟩; exact ⟨hh, rfl, by simp⟩) ?_
  rw [hs]; exact WL_R h hm
theorem W_condB {B1 B2 : Prop} {c : Operand} {x y : Code} {Q : Exit → St → Prop} {s : St} {b : Bool} (hc : s.ev c = .c (.bool b)) (kt : b = true → Hid B1 → W P G ro x Q s) (kf : b = false → Hid B2 → W P G ro y Q s) : Hid ((b = true → B1) ∧ (b = false → B2)) → W P G ro (.cond c x y) Q s :=
  fun B => W_cond hc (fun h => kt h ⟨B.out.1 h⟩) (fun h => kf h ⟨B.out.2 h⟩)
theorem WLR_guardB {B1 B2 : Prop} {T : Nat → Option TD} {o : Oper} {l : List Oper} {K : St → Prop} {s : St} {b x : Bool} (kt : x = true → Hid B1 → WLR P G ro ops K (vguard T ops l o s (gv b (.c (.bool true))))) (kf : x = false → Hid B2 → WLR P G ro ops K (vguard T ops l o s (gv b (.c (.bool false))))) :
    Hid ((x = true → B1) ∧ (x = false → B2)) → WLR P G ro ops K (vguard T ops l o s (gv b (.c (.bool x)))) :=
  fun B => WLR_guard (fun h => kt h ⟨B.out.1 h⟩) (fun h => kf h ⟨B.out.2 h⟩)

theorem WLR_id {K : St → Prop} {r : List Oper × St} (h : WLR P G ro ops K r) : WLR P G ro ops K r := h
theorem WL_id {o : Oper} {l : List Oper} {K : St → Prop} {s : St} (h : WL P G ro ops (o :: l) K s) : WL P G ro ops (o :: l) K s := h
theorem W_cid {c : Operand} {x y : Code} {Q : Exit → St → Prop} {s : St} (h : W P G ro (.cond c x y) Q s) : W P G ro (.cond c x y) Q s := h
theorem W_did {id : Nat} {Q : Exit → St → Prop} {s : St} (h : W P G ro (.region id ops true) Q s) : W P G ro (.region id ops true) Q s := h
theorem Fin_id {T : Nat → Option TD} {fn : Func} {h : Hp} {Q : Val → Hp → Prop} {e : Exit} {s : St} (k : Fin T fn h Q e s) : Fin T fn h Q e s := k
theorem DR_id {l : List Oper} {s s' : St} {rs : List Rcd} {o : Oper} (h : DR P G ops (o :: l) s rs s') : DR P G ops (o :: l) s rs s' := h
/-! Loops -/
def keepT (t : List (Nat × Val)) : List Nat → List (Nat × Val)
  | [] => []
  | k :: ks => (k, lk t k) :: keepT t ks
theorem keepT_eq (t : List (Nat × Val)) : ∀ ks : List Nat, keepT t ks = ks.map fun k => (k, lk t k)
  | [] => rfl
  | k :: ks => by rw [keepT, keepT_eq t ks]; rfl
def St.kp (s : St) (ks : List Nat) : St := ⟨s.m, keepT s.t ks, s.h, s.d⟩
theorem kp_eq (s : St) (ks : List Nat) : s.kp ks = s.keep ks := by unfold St.kp; rw [keepT_eq]; rfl
theorem W_loopH {c : Code} {Q : Exit → St → Prop} {m : Nat} {t : List (Nat × Val)} {h : Hp} {α : Type} (ks : List Nat) (ch : α → List (Nat × Val)) (H : α → Hp) (p : α → Prop) (μ : α → Nat) (a0 : α) (hp : p a0) {T : α → List (Nat × Val)}
    (round : ∀ a, p a → W P G ro c (then_ (fun s2 => ∃ a', s2.kp ks = ⟨m, T a', H a', []⟩ ∧ p a' ∧ μ a' < μ a) Q) ⟨m, T a, H a, []⟩)
    (hT : ∀ a, keepT (ch a ++ t) ks = T a := by intro a; simp only [keepT, List.cons_append, List.nil_append, lk, Nat.reduceEqDiff, if_true, if_false, reduceCtorEq]; rfl) (h0 : St.kp ⟨m, t, h, []⟩ ks = ⟨m, T a0, H a0, []⟩ := by simp only [St.kp, keepT, lk, Nat.reduceEqDiff, if_true, if_false, reduceCtorEq]; rfl) : W P G ro (.loop c) Q ⟨m, t, h, []⟩ := by
  clear hT
  rw [kp_eq] at h0
  simp only [kp_eq] at round
  refine W_keep ks ?_
  rw [h0]
  let I : St → Nat → Prop := fun s n => ∃ a, s.keep ks = ⟨m, T a, H a, []⟩ ∧ p a ∧ μ a = n
  let M : St → Nat := fun s => open Classical in if h : ∃ n, I s n then Classical.choose (least_of h) else 0
  have hM : ∀ s n, I s n → I s (M s) ∧ M s ≤ n := by
    intro s n hn
    have h : ∃ n, I s n := ⟨n, hn⟩
    have e : M s = Classical.choose (least_of h) := dif_pos h
    have := Classical.choose_spec (least_of h)
    rw [e]
    exact ⟨this.1, this.2 n hn⟩
  have hk0 : St.keep ⟨m, T a0, H a0, []⟩ ks = ⟨m, T a0, H a0, []⟩ := by
    rw [← h0]
    show (⟨m, ks.map fun k => (k, lk (ks.map fun k => (k, lk t k)) k), h, []⟩ : St) = ⟨m, ks.map fun k => (k, lk t k), h, []⟩
    congr 1
    refine List.map_congr_left fun k hk => ?_
    rw [lk_map, if_pos hk]
  refine W_loop (fun s => ∃ n, I s n) M ⟨μ a0, a0, hk0, hp, rfl⟩ ?_
  rintro s1 ⟨n, hn⟩
  obtain ⟨⟨a, ha, hpa, hm⟩, _⟩ := hM s1 n hn
  refine W_keep ks ?_
  rw [ha]
  refine W.mono (round a hpa) ?_
  rintro e s2 q
  cases e with
  | normal =>
    obtain ⟨a', ha', hpa', hlt⟩ := q
    have := (hM s2 (μ a') ⟨a', ha', hpa', rfl⟩).2
    exact ⟨⟨μ a', a', ha', hpa', rfl⟩, by omega⟩
  | exit id => exact q
  | goto l => exact q
  | ret => exact q
  | panic ch => exact q
  | outgrown => exact q
theorem W_loopK {c : Code} {Q : Exit → St → Prop} {m : Nat} {t : List (Nat × Val)} {h : Hp} {α : Type} (ks : List Nat) (ch : α → List (Nat × Val)) (p : α → Prop) (μ : α → Nat) (a0 : α) (hp : p a0) {T : α → List (Nat × Val)}
    (round : ∀ a, p a → W P G ro c (then_ (fun s2 => ∃ a', s2.kp ks = ⟨m, T a', h, []⟩ ∧ p a' ∧ μ a' < μ a) Q) ⟨m, T a, h, []⟩)
    (hT : ∀ a, keepT (ch a ++ t) ks = T a := by intro a; simp only [keepT, List.cons_append, List.nil_append, lk, Nat.reduceEqDiff, if_true, if_false, reduceCtorEq]; rfl) (h0 : St.kp ⟨m, t, h, []⟩ ks = ⟨m, T a0, h, []⟩ := by simp only [St.kp, keepT, lk, Nat.reduceEqDiff, if_true, if_false, reduceCtorEq]; rfl) : W P G ro (.loop c) Q ⟨m, t, h, []⟩ :=
  W_loopH ks ch (fun _ => h) p μ a0 hp round hT h0
/-- The end of a round. -/
theorem LE {α : Type} {s2 : St} {ks : List Nat} {S : α → St} {p : α → Prop} {μ : α → Nat} {a : α} (a' : α) (hp : p a') (hμ : μ a' < μ a) (hk : s2.kp ks = S a' := by simp only [St.kp, keepT, lk, Nat.reduceEqDiff, if_true, if_false, reduceCtorEq]; rfl) : ∃ a', s2.kp ks = S a' ∧ p a' ∧ μ a' < μ a :=
  ⟨a', hk, hp, hμ⟩

/-! Drawn regions -/
theorem DR_pureR {o : Oper} {l : List Oper} {s s1 s' : St} {rs : List Rcd} {f : Operand} {args : Array Operand} {at_ : Array TypeId} {fv r : Val} {avs : List Val}
    (ho : o.op = .call { callee := .value f, args := args, argTypes := at_ }) (hg : Wants ops s o) (hf : s.ev f = fv) (ha : args.toList.map s.ev = avs) (hc : VCall P G fv avs s.h (fun r' h' => r' = r ∧ h' = s.h)) (hs : s.put o.dst r = s1)
    (h : DR P G ops l s1 rs s') : DR P G ops (o :: l) s (.call :: rs) s' := DR_pure hc ho hg hf ha hs h
theorem DR_goP {o : Oper} {l : List Oper} {s s1 s' : St} {l' : List Oper} {rs rs' : List Rcd} (hr : drun (tdOf P) ops (o :: l) s = (l', rs, s1)) (hl : l'.length ≤ l.length) (h : DR P G ops l' s1 rs' s') : DR P G ops (o :: l) s (rs ++ rs') s' := DR_go hr h
/-- What a drawn region's run first stops at: no more than a hint. -/
def PRR (P : Program) (G : List (Nat × Obj)) (_ : Array Oper) (_ : List Oper × St) (_ : Bool) : Prop := P = P ∧ G = G
theorem PRR_simp {r r' : List Oper × St} {x : Bool} (hr : r = r') (h : PRR P G ops r' x) : PRR P G ops r x := ⟨rfl, rfl⟩
theorem PRR_call {o : Oper} {l : List Oper} {s s' : St} {f : Operand} {args : Array Operand} {at_ : Array TypeId} {fv r : Val} {avs : List Val} {x : Bool}
    (ho : o.op = .call { callee := .value f, args := args, argTypes := at_ }) (hg : Wants ops s o) (hf : s.ev f = fv) (ha : args.toList.map s.ev = avs) (hc : VCall P G fv avs s.h (fun r' h' => r' = r ∧ h' = s.h)) (hs : s.put o.dst r = s')
    (h : PRR P G ops (vrun (tdOf P) ops l s') x) : PRR P G ops (o :: l, s) x := ⟨rfl, rfl⟩
theorem PRR_guard {T : Nat → Option TD} {o : Oper} {l : List Oper} {s : St} {b x : Bool} : PRR P G ops (vguard T ops l o s (gv b (.c (.bool x)))) x := ⟨rfl, rfl⟩
theorem W_probe {id : Nat} {Q : Exit → St → Prop} {s : St} {x : Bool} (_ : PRR P G ops (vrun (tdOf P) ops ops.toList s) x) (h1 : x = true → W P G ro (.region id ops true) Q s) (h0 : x = false → W P G ro (.region id ops true) Q s) : W P G ro (.region id ops true) Q s := by
  cases x
  · exact h0 rfl
  · exact h1 rfl
theorem W_probeB {B1 B2 : Prop} {id : Nat} {Q : Exit → St → Prop} {s : St} {x : Bool} (hp : PRR P G ops (vrun (tdOf P) ops ops.toList s) x) (kt : x = true → Hid B1 → W P G ro (.region id ops true) Q s) (kf : x = false → Hid B2 → W P G ro (.region id ops true) Q s) :
    Hid ((x = true → B1) ∧ (x = false → B2)) → W P G ro (.region id ops true) Q s := fun B => W_probe hp (fun h => kt h ⟨B.out.1 h⟩) (fun h => kf h ⟨B.out.2 h⟩)
theorem W_drawR {id : Nat} {Q : Exit → St → Prop} {s s' : St} {rs : List Rcd} (hd : DR P G ops ops.toList s rs s') (hm : P.follows .mixedOrders = true) (hc : chk ops = true) (hi : idsApart rs (dps ops)) (hQ : Q .normal s') : W P G ro (.region id ops true) Q s := W_draw hm hd hc hi hQ

/-- A drawn region's run, with what is to be shown at its end. -/
def DK (P : Program) (G : List (Nat × Obj)) (ops : Array Oper) (l : List Oper) (s : St) (acc : List Rcd) (K : List Rcd → St → Prop) : Prop := ∃ rs s', DR P G ops l s rs s' ∧ K (acc ++ rs) s'
theorem DK_pureR {o : Oper} {l : List Oper} {s s1 : St} {acc : List Rcd} {K : List Rcd → St → Prop} {f : Operand} {args : Array Operand} {at_ : Array TypeId} {fv r : Val} {avs : List Val}
    (ho : o.op = .call { callee := .value f, args := args, argTypes := at_ }) (hg : Wants ops s o) (hf : s.ev f = fv) (ha : args.toList.map s.ev = avs) (hc : VCall P G fv avs s.h (fun r' h' => r' = r ∧ h' = s.h)) (hs : s.put o.dst r = s1)
    (h : DK P G ops l s1 (acc ++ [.call]) K) : DK P G ops (o :: l) s acc K := by
  obtain ⟨rs, s', h1, h2⟩ := h
  exact ⟨.call :: rs, s', DR_pureR ho hg hf ha hc hs h1, by simpa using h2⟩
theorem DK_goP {o : Oper} {l : List Oper} {s s1 : St} {acc : List Rcd} {K : List Rcd → St → Prop} {l' : List Oper} {rs : List Rcd} (hr : drun (tdOf P) ops (o :: l) s = (l', rs, s1)) (hl : l'.length ≤ l.length) (h : DK P G ops l' s1 (acc ++ rs) K) : DK P G ops (o :: l) s acc K := by
  obtain ⟨rs', s', h1, h2⟩ := h
  exact ⟨rs ++ rs', s', DR_goP hr hl h1, by simpa using h2⟩
theorem DK_end {l : List Oper} {s s1 : St} {acc : List Rcd} {K : List Rcd → St → Prop} {rs : List Rcd} (h : drun (tdOf P) ops l s = ([], rs, s1)) (hK : K (acc ++ rs) s1) : DK P G ops l s acc K := ⟨rs, s1, DR_end h, hK⟩
theorem W_drawK {id : Nat} {Q : Exit → St → Prop} {s : St} (hm : P.follows .mixedOrders = true) (hc : chk ops = true) (h : DK P G ops ops.toList s [] (fun rs s' => idsApart rs (dps ops) ∧ Q .normal s')) : W P G ro (.region id ops true) Q s := by
  obtain ⟨rs, s', h1, h2, h3⟩ := h
  exact W_drawR h1 hm hc h2 h3

theorem FinO {T : Nat → Option TD} {fn : Func} {h ext : Hp} {Q : Val → Hp → Prop} {e : Exit} {s : St} {r0 r : Val} (he : e = .normal ∨ e = .ret) (hd : s.d = []) (hr : vres T s fn.results = some r0) (hh : s.h = h ++ ext)
    (hrf : rf (List.length h) (h ++ ext) r0 = r) (hwf : HOk h) (hok : Ok (fun i => i < List.length h) r) (hq : Q r h) : Fin T fn h Q e s := Fin_pure ext r he hd hr hh hrf hwf hok hq

theorem VF {f : FuncId} {fn : Func} {c : Code} {caps args : List Val} {h : Hp} {Q : Val → Hp → Prop} {n : Nat} {t : List (Nat × Val)} (hf : P.funcs[f]? = some fn) (hn : fn.ntmps = n)
    (hw : HOk h → (∀ a, a ∈ args → Ok (fun i => i < List.length h) a) → (∀ a, a ∈ caps → Ok (fun i => i < List.length h) a) → W P G none c (Fin (tdOf P) fn h Q) ⟨n, t, h ++ [], []⟩)
    (hb : fn.body = some c := by rfl) (hnm : (fn.name == "runtime.NumGoroutine") = false := by rfl) (hm : args.length + caps.length ≤ n := by simp) (ht : ents 0 (args ++ caps) = t := by simp only [ents, List.cons_append, List.nil_append, List.append_nil, Nat.reduceAdd] <;> rfl) : VCall P G (.fn f caps) args h Q :=
  VCall_fn' (tdOf_ok _) hf hb hnm n hn hm ht hw
end Go.Vm
/- Rules that run whole stretches of a function by themselves: what they do stands in their default arguments. -/
namespace Go.Vm
open Go Go.RowKit
variable {P : Program} {G : List (Nat × Obj)} {ro : Option Nat} {ops : Array Oper}
theorem AUTO {A B : Prop} (b : B) (f : Hid B → A := by (repeat' (first | (intro b; (with_reducible first | refine n1 ?_ | refine n2 ?_ | refine n3 ?_ | refine n4 ?_ | refine n5 ?_ | refine n6 ?_ | refine W_seq ?_ | refine W_block ?_ | refine W_skip ?_ | refine W_exit ?_ | refine W_ret ?_ | refine WLR_nil ?_ | refine WLR_call ?_ | refine n7 rfl ?_); revert b) | (intro b; (with_reducible refine W_regR ⟨Nat.le_of_ble_eq_true rfl⟩ ?_); revert b) | (intro b; (with_reducible refine WLR_id ?_); refine WLR_simp (by (first | (simp only [ev0, ev1, ev2, ev3, ev4, cr, tf, en, q, Nat.reduceLT, Nat.reduceLeDiff, Nat.reduceEqDiff, Nat.reduceAdd, Nat.reduceMul, Nat.reduceBEq, reduceCtorEq, Bool.not_true, Bool.not_false, Int.reduceNeg, Int.reduceAdd, Int.reduceSub]; (try simp (disch := omega) only [cr0, cr1, cr2, cr3, cr4, cr5, cr6, decide_true, decide_false])) | simp (disch := omega) only [cr0, cr1, cr2, cr3, cr4, cr5, cr6, decide_true, decide_false]); rfl) ?_; revert b) | ((with_reducible refine' WLR_guardB ?_ ?_) <;> (try (intro hb; have hb1 := hb; (try simp only [Bool.not_eq_true', Bool.not_eq_false'] at hb1); (try simp only [hb1]); have q := And.intro hb1 q; have hb2 := hb1; (try simp only [decide_eq_true_eq, decide_eq_false_iff_not, bne_iff_ne, beq_iff_eq, ne_eq, beq_eq_false_iff_ne, bne_eq_false_iff_eq, dn] at hb2)))) | (intro b; (with_reducible refine WL_id ?_); refine WL_pureR rfl (by first | exact .inl rfl | exact Wants_at rfl rfl (by first | (simp only [ev0, ev4, Nat.reduceEqDiff, en, q]; done) | (simp only [ev0, ev4, Nat.reduceEqDiff, en, q]; rfl))) (by simp only [ev0, ev4, Nat.reduceEqDiff, en, q]; rfl) (by simp only [ev0, ev4, Nat.reduceEqDiff, en, q]; rfl) (by first | (apply c1 <;> (first | assumption | omega | ((simp (disch := omega) only [ev0, ev1, ev2, ev3, ev4, cr, tf, en, q, Nat.reduceLT, Nat.reduceLeDiff, Nat.reduceEqDiff, Nat.reduceAdd, Nat.reduceMul, Nat.reduceBEq, reduceCtorEq, Bool.not_true, Bool.not_false, Int.reduceNeg, Int.reduceAdd, Int.reduceSub, cr0, cr1, cr2, cr3, cr4, cr5, cr6]) <;> first | done | assumption | omega | rfl) | ((intro _ _; first | (apply c1) | (apply c2) | (apply c3) | (apply c4)) <;> first | assumption | omega | ((simp (disch := omega) only [ev0, ev1, ev2, ev3, ev4, cr, tf, en, q, Nat.reduceLT, Nat.reduceLeDiff, Nat.reduceEqDiff, Nat.reduceAdd, Nat.reduceMul, Nat.reduceBEq, reduceCtorEq, Bool.not_true, Bool.not_false, Int.reduceNeg, Int.reduceAdd, Int.reduceSub, cr0, cr1, cr2, cr3, cr4, cr5, cr6]) <;> first | done | assumption | rfl)))) | (apply c2 <;> (first | assumption | omega | ((simp (disch := omega) only [ev0, ev1, ev2, ev3, ev4, cr, tf, en, q, Nat.reduceLT, Nat.reduceLeDiff, Nat.reduceEqDiff, Nat.reduceAdd, Nat.reduceMul, Nat.reduceBEq, reduceCtorEq, Bool.not_true, Bool.not_false, Int.reduceNeg, Int.reduceAdd, Int.reduceSub, cr0, cr1, cr2, cr3, cr4, cr5, cr6]) <;> first | done | assumption | omega | rfl) | ((intro _ _; first | (apply c1) | (apply c2) | (apply c3) | (apply c4)) <;> first | assumption | omega | ((simp (disch := omega) only [ev0, ev1, ev2, ev3, ev4, cr, tf, en, q, Nat.reduceLT, Nat.reduceLeDiff, Nat.reduceEqDiff, Nat.reduceAdd, Nat.reduceMul, Nat.reduceBEq, reduceCtorEq, Bool.not_true, Bool.not_false, Int.reduceNeg, Int.reduceAdd, Int.reduceSub, cr0, cr1, cr2, cr3, cr4, cr5, cr6]) <;> first | done | assumption | rfl)))) | (apply c3 <;> (first | assumption | omega | ((simp (disch := omega) only [ev0, ev1, ev2, ev3, ev4, cr, tf, en, q, Nat.reduceLT, Nat.reduceLeDiff, Nat.reduceEqDiff, Nat.reduceAdd, Nat.reduceMul, Nat.reduceBEq, reduceCtorEq, Bool.not_true, Bool.not_false, Int.reduceNeg, Int.reduceAdd, Int.reduceSub, cr0, cr1, cr2, cr3, cr4, cr5, cr6]) <;> first | done | assumption | omega | rfl) | ((intro _ _; first | (apply c1) | (apply c2) | (apply c3) | (apply c4)) <;> first | assumption | omega | ((simp (disch := omega) only [ev0, ev1, ev2, ev3, ev4, cr, tf, en, q, Nat.reduceLT, Nat.reduceLeDiff, Nat.reduceEqDiff, Nat.reduceAdd, Nat.reduceMul, Nat.reduceBEq, reduceCtorEq, Bool.not_true, Bool.not_false, Int.reduceNeg, Int.reduceAdd, Int.reduceSub, cr0, cr1, cr2, cr3, cr4, cr5, cr6]) <;> first | done | assumption | rfl)))) | (apply c4 <;> (first | assumption | omega | ((simp (disch := omega) only [ev0, ev1, ev2, ev3, ev4, cr, tf, en, q, Nat.reduceLT, Nat.reduceLeDiff, Nat.reduceEqDiff, Nat.reduceAdd, Nat.reduceMul, Nat.reduceBEq, reduceCtorEq, Bool.not_true, Bool.not_false, Int.reduceNeg, Int.reduceAdd, Int.reduceSub, cr0, cr1, cr2, cr3, cr4, cr5, cr6]) <;> first | done | assumption | omega | rfl) | ((intro _ _; first | (apply c1) | (apply c2) | (apply c3) | (apply c4)) <;> first | assumption | omega | ((simp (disch := omega) only [ev0, ev1, ev2, ev3, ev4, cr, tf, en, q, Nat.reduceLT, Nat.reduceLeDiff, Nat.reduceEqDiff, Nat.reduceAdd, Nat.reduceMul, Nat.reduceBEq, reduceCtorEq, Bool.not_true, Bool.not_false, Int.reduceNeg, Int.reduceAdd, Int.reduceSub, cr0, cr1, cr2, cr3, cr4, cr5, cr6]) <;> first | done | assumption | rfl)))) | (apply c5 <;> (first | assumption | omega | ((simp (disch := omega) only [ev0, ev1, ev2, ev3, ev4, cr, tf, en, q, Nat.reduceLT, Nat.reduceLeDiff, Nat.reduceEqDiff, Nat.reduceAdd, Nat.reduceMul, Nat.reduceBEq, reduceCtorEq, Bool.not_true, Bool.not_false, Int.reduceNeg, Int.reduceAdd, Int.reduceSub, cr0, cr1, cr2, cr3, cr4, cr5, cr6]) <;> first | done | assumption | omega | rfl) | ((intro _ _; first | (apply c1) | (apply c2) | (apply c3) | (apply c4)) <;> first | assumption | omega | ((simp (disch := omega) only [ev0, ev1, ev2, ev3, ev4, cr, tf, en, q, Nat.reduceLT, Nat.reduceLeDiff, Nat.reduceEqDiff, Nat.reduceAdd, Nat.reduceMul, Nat.reduceBEq, reduceCtorEq, Bool.not_true, Bool.not_false, Int.reduceNeg, Int.reduceAdd, Int.reduceSub, cr0, cr1, cr2, cr3, cr4, cr5, cr6]) <;> first | done | assumption | rfl)))) | (apply c6 <;> (first | assumption | omega | ((simp (disch := omega) only [ev0, ev1, ev2, ev3, ev4, cr, tf, en, q, Nat.reduceLT, Nat.reduceLeDiff, Nat.reduceEqDiff, Nat.reduceAdd, Nat.reduceMul, Nat.reduceBEq, reduceCtorEq, Bool.not_true, Bool.not_false, Int.reduceNeg, Int.reduceAdd, Int.reduceSub, cr0, cr1, cr2, cr3, cr4, cr5, cr6]) <;> first | done | assumption | omega | rfl) | ((intro _ _; first | (apply c1) | (apply c2) | (apply c3) | (apply c4)) <;> first | assumption | omega | ((simp (disch := omega) only [ev0, ev1, ev2, ev3, ev4, cr, tf, en, q, Nat.reduceLT, Nat.reduceLeDiff, Nat.reduceEqDiff, Nat.reduceAdd, Nat.reduceMul, Nat.reduceBEq, reduceCtorEq, Bool.not_true, Bool.not_false, Int.reduceNeg, Int.reduceAdd, Int.reduceSub, cr0, cr1, cr2, cr3, cr4, cr5, cr6]) <;> first | done | assumption | rfl)))) | (apply c7 <;> (first | assumption | omega | ((simp (disch := omega) only [ev0, ev1, ev2, ev3, ev4, cr, tf, en, q, Nat.reduceLT, Nat.reduceLeDiff, Nat.reduceEqDiff, Nat.reduceAdd, Nat.reduceMul, Nat.reduceBEq, reduceCtorEq, Bool.not_true, Bool.not_false, Int.reduceNeg, Int.reduceAdd, Int.reduceSub, cr0, cr1, cr2, cr3, cr4, cr5, cr6]) <;> first | done | assumption | omega | rfl) | ((intro _ _; first | (apply c1) | (apply c2) | (apply c3) | (apply c4)) <;> first | assumption | omega | ((simp (disch := omega) only [ev0, ev1, ev2, ev3, ev4, cr, tf, en, q, Nat.reduceLT, Nat.reduceLeDiff, Nat.reduceEqDiff, Nat.reduceAdd, Nat.reduceMul, Nat.reduceBEq, reduceCtorEq, Bool.not_true, Bool.not_false, Int.reduceNeg, Int.reduceAdd, Int.reduceSub, cr0, cr1, cr2, cr3, cr4, cr5, cr6]) <;> first | done | assumption | rfl)))) | (apply c8 <;> (first | assumption | omega | ((simp (disch := omega) only [ev0, ev1, ev2, ev3, ev4, cr, tf, en, q, Nat.reduceLT, Nat.reduceLeDiff, Nat.reduceEqDiff, Nat.reduceAdd, Nat.reduceMul, Nat.reduceBEq, reduceCtorEq, Bool.not_true, Bool.not_false, Int.reduceNeg, Int.reduceAdd, Int.reduceSub, cr0, cr1, cr2, cr3, cr4, cr5, cr6]) <;> first | done | assumption | omega | rfl) | ((intro _ _; first | (apply c1) | (apply c2) | (apply c3) | (apply c4)) <;> first | assumption | omega | ((simp (disch := omega) only [ev0, ev1, ev2, ev3, ev4, cr, tf, en, q, Nat.reduceLT, Nat.reduceLeDiff, Nat.reduceEqDiff, Nat.reduceAdd, Nat.reduceMul, Nat.reduceBEq, reduceCtorEq, Bool.not_true, Bool.not_false, Int.reduceNeg, Int.reduceAdd, Int.reduceSub, cr0, cr1, cr2, cr3, cr4, cr5, cr6]) <;> first | done | assumption | rfl)))) | (apply c9 <;> (first | assumption | omega | ((simp (disch := omega) only [ev0, ev1, ev2, ev3, ev4, cr, tf, en, q, Nat.reduceLT, Nat.reduceLeDiff, Nat.reduceEqDiff, Nat.reduceAdd, Nat.reduceMul, Nat.reduceBEq, reduceCtorEq, Bool.not_true, Bool.not_false, Int.reduceNeg, Int.reduceAdd, Int.reduceSub, cr0, cr1, cr2, cr3, cr4, cr5, cr6]) <;> first | done | assumption | omega | rfl) | ((intro _ _; first | (apply c1) | (apply c2) | (apply c3) | (apply c4)) <;> first | assumption | omega | ((simp (disch := omega) only [ev0, ev1, ev2, ev3, ev4, cr, tf, en, q, Nat.reduceLT, Nat.reduceLeDiff, Nat.reduceEqDiff, Nat.reduceAdd, Nat.reduceMul, Nat.reduceBEq, reduceCtorEq, Bool.not_true, Bool.not_false, Int.reduceNeg, Int.reduceAdd, Int.reduceSub, cr0, cr1, cr2, cr3, cr4, cr5, cr6]) <;> first | done | assumption | rfl))))) rfl (by simp only [ev0, ev4, Nat.reduceEqDiff, en, q]; rfl) ⟨Nat.le_of_ble_eq_true rfl⟩ ?_; revert b) | (intro b; (with_reducible refine WL_id ?_); refine WL_q (by first | exact d1 rfl _ _ (by simp only [ev0, ev4, Nat.reduceEqDiff, en, q]; rfl) (by simp only [ev0, ev4, Nat.reduceEqDiff, en, q]; rfl) | exact d2 rfl _ _ (by simp only [ev0, ev4, Nat.reduceEqDiff, en, q]; rfl) (by simp only [ev0, ev4, Nat.reduceEqDiff, en, q]; rfl) | exact d3 rfl _ _ (by simp only [ev0, ev4, Nat.reduceEqDiff, en, q]; rfl) (by simp only [ev0, ev4, Nat.reduceEqDiff, en, q]; rfl)) (by intro c hc; cases hc) (by first | exact .inl rfl | exact Wants_at rfl rfl (by first | (simp only [ev0, ev4, Nat.reduceEqDiff, en, q]; done) | (simp only [ev0, ev4, Nat.reduceEqDiff, en, q]; rfl))) (by simp only [ev0, ev4, Nat.reduceEqDiff, en, q]; rfl) ⟨Nat.le_of_ble_eq_true rfl⟩ ?_; revert b) | (intro b; (with_reducible refine WL_id ?_); refine WL_mkmap rfl (by first | exact .inl rfl | exact Wants_at rfl rfl (by first | (simp only [ev0, ev4, Nat.reduceEqDiff, en, q]; done) | (simp only [ev0, ev4, Nat.reduceEqDiff, en, q]; rfl))) (by simp only [ev0, ev3, ev4, Nat.reduceLT, Nat.reduceAdd, en, q]; rfl) ⟨Nat.le_of_ble_eq_true rfl⟩ ?_; revert b) | (intro b; (with_reducible refine W_cid ?_); (first | refine W_true (by first | (simp only [ev0, ev4, Nat.reduceEqDiff, en, q]; done) | (simp only [ev0, ev4, Nat.reduceEqDiff, en, q]; with_reducible rfl)) ?_ | refine W_false (by first | (simp only [ev0, ev4, Nat.reduceEqDiff, en, q]; done) | (simp only [ev0, ev4, Nat.reduceEqDiff, en, q]; with_reducible rfl)) ?_); revert b) | (intro b; (with_reducible refine W_cid ?_); revert b; (refine' W_condB (by simp only [ev0, ev4, Nat.reduceEqDiff, en, q]; rfl) ?_ ?_) <;> (try (intro hb; have hb1 := hb; (try simp only [Bool.not_eq_true', Bool.not_eq_false'] at hb1); (try simp only [hb1]); have q := And.intro hb1 q; have hb2 := hb1; (try simp only [decide_eq_true_eq, decide_eq_false_iff_not, bne_iff_ne, beq_iff_eq, ne_eq, beq_eq_false_iff_ne, bne_eq_false_iff_eq, dn] at hb2)))) | (intro b; (with_reducible refine W_did ?_); refine W_drawK (by kernel_rfl) (by kernel_rfl) ?_; (repeat (first | (refine DK_pureR rfl (by first | exact .inl rfl | exact Wants_at rfl rfl (by first | (simp only [ev0, ev4, Nat.reduceEqDiff, en, q]; done) | (simp only [ev0, ev4, Nat.reduceEqDiff, en, q]; rfl))) (by simp only [ev0, ev4, Nat.reduceEqDiff, en, q]; rfl) (by simp only [ev0, ev4, Nat.reduceEqDiff, en, q]; rfl) (by first | (apply c1 <;> (first | assumption | omega | ((simp (disch := omega) only [ev0, ev1, ev2, ev3, ev4, cr, tf, en, q, Nat.reduceLT, Nat.reduceLeDiff, Nat.reduceEqDiff, Nat.reduceAdd, Nat.reduceMul, Nat.reduceBEq, reduceCtorEq, Bool.not_true, Bool.not_false, Int.reduceNeg, Int.reduceAdd, Int.reduceSub, cr0, cr1, cr2, cr3, cr4, cr5, cr6]) <;> first | done | assumption | omega | rfl) | ((intro _ _; first | (apply c1) | (apply c2) | (apply c3) | (apply c4)) <;> first | assumption | omega | ((simp (disch := omega) only [ev0, ev1, ev2, ev3, ev4, cr, tf, en, q, Nat.reduceLT, Nat.reduceLeDiff, Nat.reduceEqDiff, Nat.reduceAdd, Nat.reduceMul, Nat.reduceBEq, reduceCtorEq, Bool.not_true, Bool.not_false, Int.reduceNeg, Int.reduceAdd, Int.reduceSub, cr0, cr1, cr2, cr3, cr4, cr5, cr6]) <;> first | done | assumption | rfl)))) | (apply c2 <;> (first | assumption | omega | ((simp (disch := omega) only [ev0, ev1, ev2, ev3, ev4, cr, tf, en, q, Nat.reduceLT, Nat.reduceLeDiff, Nat.reduceEqDiff, Nat.reduceAdd, Nat.reduceMul, Nat.reduceBEq, reduceCtorEq, Bool.not_true, Bool.not_false, Int.reduceNeg, Int.reduceAdd, Int.reduceSub, cr0, cr1, cr2, cr3, cr4, cr5, cr6]) <;> first | done | assumption | omega | rfl) | ((intro _ _; first | (apply c1) | (apply c2) | (apply c3) | (apply c4)) <;> first | assumption | omega | ((simp (disch := omega) only [ev0, ev1, ev2, ev3, ev4, cr, tf, en, q, Nat.reduceLT, Nat.reduceLeDiff, Nat.reduceEqDiff, Nat.reduceAdd, Nat.reduceMul, Nat.reduceBEq, reduceCtorEq, Bool.not_true, Bool.not_false, Int.reduceNeg, Int.reduceAdd, Int.reduceSub, cr0, cr1, cr2, cr3, cr4, cr5, cr6]) <;> first | done | assumption | rfl)))) | (apply c3 <;> (first | assumption | omega | ((simp (disch := omega) only [ev0, ev1, ev2, ev3, ev4, cr, tf, en, q, Nat.reduceLT, Nat.reduceLeDiff, Nat.reduceEqDiff, Nat.reduceAdd, Nat.reduceMul, Nat.reduceBEq, reduceCtorEq, Bool.not_true, Bool.not_false, Int.reduceNeg, Int.reduceAdd, Int.reduceSub, cr0, cr1, cr2, cr3, cr4, cr5, cr6]) <;> first | done | assumption | omega | rfl) | ((intro _ _; first | (apply c1) | (apply c2) | (apply c3) | (apply c4)) <;> first | assumption | omega | ((simp (disch := omega) only [ev0, ev1, ev2, ev3, ev4, cr, tf, en, q, Nat.reduceLT, Nat.reduceLeDiff, Nat.reduceEqDiff, Nat.reduceAdd, Nat.reduceMul, Nat.reduceBEq, reduceCtorEq, Bool.not_true, Bool.not_false, Int.reduceNeg, Int.reduceAdd, Int.reduceSub, cr0, cr1, cr2, cr3, cr4, cr5, cr6]) <;> first | done | assumption | rfl)))) | (apply c4 <;> (first | assumption | omega | ((simp (disch := omega) only [ev0, ev1, ev2, ev3, ev4, cr, tf, en, q, Nat.reduceLT, Nat.reduceLeDiff, Nat.reduceEqDiff, Nat.reduceAdd, Nat.reduceMul, Nat.reduceBEq, reduceCtorEq, Bool.not_true, Bool.not_false, Int.reduceNeg, Int.reduceAdd, Int.reduceSub, cr0, cr1, cr2, cr3, cr4, cr5, cr6]) <;> first | done | assumption | omega | rfl) | ((intro _ _; first | (apply c1) | (apply c2) | (apply c3) | (apply c4)) <;> first | assumption | omega | ((simp (disch := omega) only [ev0, ev1, ev2, ev3, ev4, cr, tf, en, q, Nat.reduceLT, Nat.reduceLeDiff, Nat.reduceEqDiff, Nat.reduceAdd, Nat.reduceMul, Nat.reduceBEq, reduceCtorEq, Bool.not_true, Bool.not_false, Int.reduceNeg, Int.reduceAdd, Int.reduceSub, cr0, cr1, cr2, cr3, cr4, cr5, cr6]) <;> first | done | assumption | rfl)))) | (apply c5 <;> (first | assumption | omega | ((simp (disch := omega) only [ev0, ev1, ev2, ev3, ev4, cr, tf, en, q, Nat.reduceLT, Nat.reduceLeDiff, Nat.reduceEqDiff, Nat.reduceAdd, Nat.reduceMul, Nat.reduceBEq, reduceCtorEq, Bool.not_true, Bool.not_false, Int.reduceNeg, Int.reduceAdd, Int.reduceSub, cr0, cr1, cr2, cr3, cr4, cr5, cr6]) <;> first | done | assumption | omega | rfl) | ((intro _ _; first | (apply c1) | (apply c2) | (apply c3) | (apply c4)) <;> first | assumption | omega | ((simp (disch := omega) only [ev0, ev1, ev2, ev3, ev4, cr, tf, en, q, Nat.reduceLT, Nat.reduceLeDiff, Nat.reduceEqDiff, Nat.reduceAdd, Nat.reduceMul, Nat.reduceBEq, reduceCtorEq, Bool.not_true, Bool.not_false, Int.reduceNeg, Int.reduceAdd, Int.reduceSub, cr0, cr1, cr2, cr3, cr4, cr5, cr6]) <;> first | done | assumption | rfl)))) | (apply c6 <;> (first | assumption | omega | ((simp (disch := omega) only [ev0, ev1, ev2, ev3, ev4, cr, tf, en, q, Nat.reduceLT, Nat.reduceLeDiff, Nat.reduceEqDiff, Nat.reduceAdd, Nat.reduceMul, Nat.reduceBEq, reduceCtorEq, Bool.not_true, Bool.not_false, Int.reduceNeg, Int.reduceAdd, Int.reduceSub, cr0, cr1, cr2, cr3, cr4, cr5, cr6]) <;> first | done | assumption | omega | rfl) | ((intro _ _; first | (apply c1) | (apply c2) | (apply c3) | (apply c4)) <;> first | assumption | omega | ((simp (disch := omega) only [ev0, ev1, ev2, ev3, ev4, cr, tf, en, q, Nat.reduceLT, Nat.reduceLeDiff, Nat.reduceEqDiff, Nat.reduceAdd, Nat.reduceMul, Nat.reduceBEq, reduceCtorEq, Bool.not_true, Bool.not_false, Int.reduceNeg, Int.reduceAdd, Int.reduceSub, cr0, cr1, cr2, cr3, cr4, cr5, cr6]) <;> first | done | assumption | rfl)))) | (apply c7 <;> (first | assumption | omega | ((simp (disch := omega) only [ev0, ev1, ev2, ev3, ev4, cr, tf, en, q, Nat.reduceLT, Nat.reduceLeDiff, Nat.reduceEqDiff, Nat.reduceAdd, Nat.reduceMul, Nat.reduceBEq, reduceCtorEq, Bool.not_true, Bool.not_false, Int.reduceNeg, Int.reduceAdd, Int.reduceSub, cr0, cr1, cr2, cr3, cr4, cr5, cr6]) <;> first | done | assumption | omega | rfl) | ((intro _ _; first | (apply c1) | (apply c2) | (apply c3) | (apply c4)) <;> first | assumption | omega | ((simp (disch := omega) only [ev0, ev1, ev2, ev3, ev4, cr, tf, en, q, Nat.reduceLT, Nat.reduceLeDiff, Nat.reduceEqDiff, Nat.reduceAdd, Nat.reduceMul, Nat.reduceBEq, reduceCtorEq, Bool.not_true, Bool.not_false, Int.reduceNeg, Int.reduceAdd, Int.reduceSub, cr0, cr1, cr2, cr3, cr4, cr5, cr6]) <;> first | done | assumption | rfl)))) | (apply c8 <;> (first | assumption | omega | ((simp (disch := omega) only [ev0, ev1, ev2, ev3, ev4, cr, tf, en, q, Nat.reduceLT, Nat.reduceLeDiff, Nat.reduceEqDiff, Nat.reduceAdd, Nat.reduceMul, Nat.reduceBEq, reduceCtorEq, Bool.not_true, Bool.not_false, Int.reduceNeg, Int.reduceAdd, Int.reduceSub, cr0, cr1, cr2, cr3, cr4, cr5, cr6]) <;> first | done | assumption | omega | rfl) | ((intro _ _; first | (apply c1) | (apply c2) | (apply c3) | (apply c4)) <;> first | assumption | omega | ((simp (disch := omega) only [ev0, ev1, ev2, ev3, ev4, cr, tf, en, q, Nat.reduceLT, Nat.reduceLeDiff, Nat.reduceEqDiff, Nat.reduceAdd, Nat.reduceMul, Nat.reduceBEq, reduceCtorEq, Bool.not_true, Bool.not_false, Int.reduceNeg, Int.reduceAdd, Int.reduceSub, cr0, cr1, cr2, cr3, cr4, cr5, cr6]) <;> first | done | assumption | rfl)))) | (apply c9 <;> (first | assumption | omega | ((simp (disch := omega) only [ev0, ev1, ev2, ev3, ev4, cr, tf, en, q, Nat.reduceLT, Nat.reduceLeDiff, Nat.reduceEqDiff, Nat.reduceAdd, Nat.reduceMul, Nat.reduceBEq, reduceCtorEq, Bool.not_true, Bool.not_false, Int.reduceNeg, Int.reduceAdd, Int.reduceSub, cr0, cr1, cr2, cr3, cr4, cr5, cr6]) <;> first | done | assumption | omega | rfl) | ((intro _ _; first | (apply c1) | (apply c2) | (apply c3) | (apply c4)) <;> first | assumption | omega | ((simp (disch := omega) only [ev0, ev1, ev2, ev3, ev4, cr, tf, en, q, Nat.reduceLT, Nat.reduceLeDiff, Nat.reduceEqDiff, Nat.reduceAdd, Nat.reduceMul, Nat.reduceBEq, reduceCtorEq, Bool.not_true, Bool.not_false, Int.reduceNeg, Int.reduceAdd, Int.reduceSub, cr0, cr1, cr2, cr3, cr4, cr5, cr6]) <;> first | done | assumption | rfl))))) (by simp only [ev0, ev4, Nat.reduceEqDiff, en, q]; rfl) ?_) | (refine DK_goP (by simp only [ev0, ev1, ev2, ev3, ev4, cr, tf, en, q, Nat.reduceLT, Nat.reduceLeDiff, Nat.reduceEqDiff, Nat.reduceAdd, Nat.reduceMul, Nat.reduceBEq, reduceCtorEq, Bool.not_true, Bool.not_false, Int.reduceNeg, Int.reduceAdd, Int.reduceSub]; (repeat (simp (disch := omega) only [cr0, cr1, cr2, cr3, cr4, cr5, cr6, decide_true, decide_false]; (try simp only [ev0, ev1, ev2, ev3, ev4, cr, tf, en, q, Nat.reduceLT, Nat.reduceLeDiff, Nat.reduceEqDiff, Nat.reduceAdd, Nat.reduceMul, Nat.reduceBEq, reduceCtorEq, Bool.not_true, Bool.not_false, Int.reduceNeg, Int.reduceAdd, Int.reduceSub]))); rfl) (Nat.le_of_ble_eq_true rfl) ?_))); refine DK_end (by simp only [ev0, ev1, ev2, ev3, ev4, cr, tf, en, q, Nat.reduceLT, Nat.reduceLeDiff, Nat.reduceEqDiff, Nat.reduceAdd, Nat.reduceMul, Nat.reduceBEq, reduceCtorEq, Bool.not_true, Bool.not_false, Int.reduceNeg, Int.reduceAdd, Int.reduceSub]; (repeat (simp (disch := omega) only [cr0, cr1, cr2, cr3, cr4, cr5, cr6, decide_true, decide_false]; (try simp only [ev0, ev1, ev2, ev3, ev4, cr, tf, en, q, Nat.reduceLT, Nat.reduceLeDiff, Nat.reduceEqDiff, Nat.reduceAdd, Nat.reduceMul, Nat.reduceBEq, reduceCtorEq, Bool.not_true, Bool.not_false, Int.reduceNeg, Int.reduceAdd, Int.reduceSub]))); rfl) ⟨by first | exact trivial | kernel_rfl, ?_⟩; revert b) | (intro b; (with_reducible refine W_did ?_); revert b; (refine' W_probeB (by (repeat (first | (refine PRR_simp (by simp only [ev0, ev1, ev2, ev3, ev4, cr, tf, en, q, Nat.reduceLT, Nat.reduceLeDiff, Nat.reduceEqDiff, Nat.reduceAdd, Nat.reduceMul, Nat.reduceBEq, reduceCtorEq, Bool.not_true, Bool.not_false, Int.reduceNeg, Int.reduceAdd, Int.reduceSub]; (repeat (simp (disch := omega) only [cr0, cr1, cr2, cr3, cr4, cr5, cr6, decide_true, decide_false]; (try simp only [ev0, ev1, ev2, ev3, ev4, cr, tf, en, q, Nat.reduceLT, Nat.reduceLeDiff, Nat.reduceEqDiff, Nat.reduceAdd, Nat.reduceMul, Nat.reduceBEq, reduceCtorEq, Bool.not_true, Bool.not_false, Int.reduceNeg, Int.reduceAdd, Int.reduceSub]))); rfl) ?_) | (refine PRR_call rfl (by first | exact .inl rfl | exact Wants_at rfl rfl (by first | (simp only [ev0, ev4, Nat.reduceEqDiff, en, q]; done) | (simp only [ev0, ev4, Nat.reduceEqDiff, en, q]; rfl))) (by simp only [ev0, ev4, Nat.reduceEqDiff, en, q]; rfl) (by simp only [ev0, ev4, Nat.reduceEqDiff, en, q]; rfl) (by first | (apply c1 <;> (first | assumption | omega | ((simp (disch := omega) only [ev0, ev1, ev2, ev3, ev4, cr, tf, en, q, Nat.reduceLT, Nat.reduceLeDiff, Nat.reduceEqDiff, Nat.reduceAdd, Nat.reduceMul, Nat.reduceBEq, reduceCtorEq, Bool.not_true, Bool.not_false, Int.reduceNeg, Int.reduceAdd, Int.reduceSub, cr0, cr1, cr2, cr3, cr4, cr5, cr6]) <;> first | done | assumption | omega | rfl) | ((intro _ _; first | (apply c1) | (apply c2) | (apply c3) | (apply c4)) <;> first | assumption | omega | ((simp (disch := omega) only [ev0, ev1, ev2, ev3, ev4, cr, tf, en, q, Nat.reduceLT, Nat.reduceLeDiff, Nat.reduceEqDiff, Nat.reduceAdd, Nat.reduceMul, Nat.reduceBEq, reduceCtorEq, Bool.not_true, Bool.not_false, Int.reduceNeg, Int.reduceAdd, Int.reduceSub, cr0, cr1, cr2, cr3, cr4, cr5, cr6]) <;> first | done | assumption | rfl)))) | (apply c2 <;> (first | assumption | omega | ((simp (disch := omega) only [ev0, ev1, ev2, ev3, ev4, cr, tf, en, q, Nat.reduceLT, Nat.reduceLeDiff, Nat.reduceEqDiff, Nat.reduceAdd, Nat.reduceMul, Nat.reduceBEq, reduceCtorEq, Bool.not_true, Bool.not_false, Int.reduceNeg, Int.reduceAdd, Int.reduceSub, cr0, cr1, cr2, cr3, cr4, cr5, cr6]) <;> first | done | assumption | omega | rfl) | ((intro _ _; first | (apply c1) | (apply c2) | (apply c3) | (apply c4)) <;> first | assumption | omega | ((simp (disch := omega) only [ev0, ev1, ev2, ev3, ev4, cr, tf, en, q, Nat.reduceLT, Nat.reduceLeDiff, Nat.reduceEqDiff, Nat.reduceAdd, Nat.reduceMul, Nat.reduceBEq, reduceCtorEq, Bool.not_true, Bool.not_false, Int.reduceNeg, Int.reduceAdd, Int.reduceSub, cr0, cr1, cr2, cr3, cr4, cr5, cr6]) <;> first | done | assumption | rfl)))) | (apply c3 <;> (first | assumption | omega | ((simp (disch := omega) only [ev0, ev1, ev2, ev3, ev4, cr, tf, en, q, Nat.reduceLT, Nat.reduceLeDiff, Nat.reduceEqDiff, Nat.reduceAdd, Nat.reduceMul, Nat.reduceBEq, reduceCtorEq, Bool.not_true, Bool.not_false, Int.reduceNeg, Int.reduceAdd, Int.reduceSub, cr0, cr1, cr2, cr3, cr4, cr5, cr6]) <;> first | done | assumption | omega | rfl) | ((intro _ _; first | (apply c1) | (apply c2) | (apply c3) | (apply c4)) <;> first | assumption | omega | ((simp (disch := omega) only [ev0, ev1, ev2, ev3, ev4, cr, tf, en, q, Nat.reduceLT, Nat.reduceLeDiff, Nat.reduceEqDiff, Nat.reduceAdd, Nat.reduceMul, Nat.reduceBEq, reduceCtorEq, Bool.not_true, Bool.not_false, Int.reduceNeg, Int.reduceAdd, Int.reduceSub, cr0, cr1, cr2, cr3, cr4, cr5, cr6]) <;> first | done | assumption | rfl)))) | (apply c4 <;> (first | assumption | omega | ((simp (disch := omega) only [ev0, ev1, ev2, ev3, ev4, cr, tf, en, q, Nat.reduceLT, Nat.reduceLeDiff, Nat.reduceEqDiff, Nat.reduceAdd, Nat.reduceMul, Nat.reduceBEq, reduceCtorEq, Bool.not_true, Bool.not_false, Int.reduceNeg, Int.reduceAdd, Int.reduceSub, cr0, cr1, cr2, cr3, cr4, cr5, cr6]) <;> first | done | assumption | omega | rfl) | ((intro _ _; first | (apply c1) | (apply c2) | (apply c3) | (apply c4)) <;> first | assumption | omega | ((simp (disch := omega) only [ev0, ev1, ev2, ev3, ev4, cr, tf, en, q, Nat.reduceLT, Nat.reduceLeDiff, Nat.reduceEqDiff, Nat.reduceAdd, Nat.reduceMul, Nat.reduceBEq, reduceCtorEq, Bool.not_true, Bool.not_false, Int.reduceNeg, Int.reduceAdd, Int.reduceSub, cr0, cr1, cr2, cr3, cr4, cr5, cr6]) <;> first | done | assumption | rfl)))) | (apply c5 <;> (first | assumption | omega | ((simp (disch := omega) only [ev0, ev1, ev2, ev3, ev4, cr, tf, en, q, Nat.reduceLT, Nat.reduceLeDiff, Nat.reduceEqDiff, Nat.reduceAdd, Nat.reduceMul, Nat.reduceBEq, reduceCtorEq, Bool.not_true, Bool.not_false, Int.reduceNeg, Int.reduceAdd, Int.reduceSub, cr0, cr1, cr2, cr3, cr4, cr5, cr6]) <;> first | done | assumption | omega | rfl) | ((intro _ _; first | (apply c1) | (apply c2) | (apply c3) | (apply c4)) <;> first | assumption | omega | ((simp (disch := omega) only [ev0, ev1, ev2, ev3, ev4, cr, tf, en, q, Nat.reduceLT, Nat.reduceLeDiff, Nat.reduceEqDiff, Nat.reduceAdd, Nat.reduceMul, Nat.reduceBEq, reduceCtorEq, Bool.not_true, Bool.not_false, Int.reduceNeg, Int.reduceAdd, Int.reduceSub, cr0, cr1, cr2, cr3, cr4, cr5, cr6]) <;> first | done | assumption | rfl)))) | (apply c6 <;> (first | assumption | omega | ((simp (disch := omega) only [ev0, ev1, ev2, ev3, ev4, cr, tf, en, q, Nat.reduceLT, Nat.reduceLeDiff, Nat.reduceEqDiff, Nat.reduceAdd, Nat.reduceMul, Nat.reduceBEq, reduceCtorEq, Bool.not_true, Bool.not_false, Int.reduceNeg, Int.reduceAdd, Int.reduceSub, cr0, cr1, cr2, cr3, cr4, cr5, cr6]) <;> first | done | assumption | omega | rfl) | ((intro _ _; first | (apply c1) | (apply c2) | (apply c3) | (apply c4)) <;> first | assumption | omega | ((simp (disch := omega) only [ev0, ev1, ev2, ev3, ev4, cr, tf, en, q, Nat.reduceLT, Nat.reduceLeDiff, Nat.reduceEqDiff, Nat.reduceAdd, Nat.reduceMul, Nat.reduceBEq, reduceCtorEq, Bool.not_true, Bool.not_false, Int.reduceNeg, Int.reduceAdd, Int.reduceSub, cr0, cr1, cr2, cr3, cr4, cr5, cr6]) <;> first | done | assumption | rfl)))) | (apply c7 <;> (first | assumption | omega | ((simp (disch := omega) only [ev0, ev1, ev2, ev3, ev4, cr, tf, en, q, Nat.reduceLT, Nat.reduceLeDiff, Nat.reduceEqDiff, Nat.reduceAdd, Nat.reduceMul, Nat.reduceBEq, reduceCtorEq, Bool.not_true, Bool.not_false, Int.reduceNeg, Int.reduceAdd, Int.reduceSub, cr0, cr1, cr2, cr3, cr4, cr5, cr6]) <;> first | done | assumption | omega | rfl) | ((intro _ _; first | (apply c1) | (apply c2) | (apply c3) | (apply c4)) <;> first | assumption | omega | ((simp (disch := omega) only [ev0, ev1, ev2, ev3, ev4, cr, tf, en, q, Nat.reduceLT, Nat.reduceLeDiff, Nat.reduceEqDiff, Nat.reduceAdd, Nat.reduceMul, Nat.reduceBEq, reduceCtorEq, Bool.not_true, Bool.not_false, Int.reduceNeg, Int.reduceAdd, Int.reduceSub, cr0, cr1, cr2, cr3, cr4, cr5, cr6]) <;> first | done | assumption | rfl)))) | (apply c8 <;> (first | assumption | omega | ((simp (disch := omega) only [ev0, ev1, ev2, ev3, ev4, cr, tf, en, q, Nat.reduceLT, Nat.reduceLeDiff, Nat.reduceEqDiff, Nat.reduceAdd, Nat.reduceMul, Nat.reduceBEq, reduceCtorEq, Bool.not_true, Bool.not_false, Int.reduceNeg, Int.reduceAdd, Int.reduceSub, cr0, cr1, cr2, cr3, cr4, cr5, cr6]) <;> first | done | assumption | omega | rfl) | ((intro _ _; first | (apply c1) | (apply c2) | (apply c3) | (apply c4)) <;> first | assumption | omega | ((simp (disch := omega) only [ev0, ev1, ev2, ev3, ev4, cr, tf, en, q, Nat.reduceLT, Nat.reduceLeDiff, Nat.reduceEqDiff, Nat.reduceAdd, Nat.reduceMul, Nat.reduceBEq, reduceCtorEq, Bool.not_true, Bool.not_false, Int.reduceNeg, Int.reduceAdd, Int.reduceSub, cr0, cr1, cr2, cr3, cr4, cr5, cr6]) <;> first | done | assumption | rfl)))) | (apply c9 <;> (first | assumption | omega | ((simp (disch := omega) only [ev0, ev1, ev2, ev3, ev4, cr, tf, en, q, Nat.reduceLT, Nat.reduceLeDiff, Nat.reduceEqDiff, Nat.reduceAdd, Nat.reduceMul, Nat.reduceBEq, reduceCtorEq, Bool.not_true, Bool.not_false, Int.reduceNeg, Int.reduceAdd, Int.reduceSub, cr0, cr1, cr2, cr3, cr4, cr5, cr6]) <;> first | done | assumption | omega | rfl) | ((intro _ _; first | (apply c1) | (apply c2) | (apply c3) | (apply c4)) <;> first | assumption | omega | ((simp (disch := omega) only [ev0, ev1, ev2, ev3, ev4, cr, tf, en, q, Nat.reduceLT, Nat.reduceLeDiff, Nat.reduceEqDiff, Nat.reduceAdd, Nat.reduceMul, Nat.reduceBEq, reduceCtorEq, Bool.not_true, Bool.not_false, Int.reduceNeg, Int.reduceAdd, Int.reduceSub, cr0, cr1, cr2, cr3, cr4, cr5, cr6]) <;> first | done | assumption | rfl))))) (by simp only [ev0, ev4, Nat.reduceEqDiff, en, q]; rfl) ?_))); with_reducible exact PRR_guard) ?_ ?_) <;> (try (intro hb; have hb1 := hb; (try simp only [Bool.not_eq_true', Bool.not_eq_false'] at hb1); (try simp only [hb1]); have q := And.intro hb1 q; have hb2 := hb1; (try simp only [decide_eq_true_eq, decide_eq_false_iff_not, bne_iff_ne, beq_iff_eq, ne_eq, beq_eq_false_iff_ne, bne_eq_false_iff_eq, dn] at hb2)))) | (intro b; (with_reducible refine Fin_id ?_); refine FinO (by first | exact .inl rfl | exact .inr rfl) rfl (by (simp only [vres, vresL, vres1, one_, vload_eq, Option.map_some, ev0, ev3, ev4, Nat.reduceEqDiff, Nat.reduceAdd, Nat.reduceLeDiff, tf, en, q]); rfl) rfl (by (simp only [one_, rf_c, rf_any, rf_sl, rf_ptr, rf_fn, rf_agg, rf_tup, rf, List.map_cons, List.map_nil, en, q]); rfl) hk (by simp [en, q]) ?_; revert b))); all_goals (try exact fun b => b.out)) : A := f ⟨b⟩
end Go.Vm
