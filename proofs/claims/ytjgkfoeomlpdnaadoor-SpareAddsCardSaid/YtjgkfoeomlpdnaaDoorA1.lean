/- A part of the proof: a calculus over values without addresses, and what the functions of the program compute in it. -/
import Derived.RangeFuncRecord
import Derived.RangeFuncLeaves
import Derived.OrdersIn
import Derived.WalkKit
import Derived.Laws.AppendOwn
import Derived.Laws.CopyRow
import Derived.ChangeKeysEq
import Derived.Laws.Entries
import Derived.Below
import Derived.MapKept
/- Values without addresses, a heap of named objects, and what they say of the model's world. -/
namespace Go.Vm
open Go

inductive Val where
  | c (v : Value)
  | ptr (id off : Nat)
  | ep (id sz i j : Nat)
  | rp (cs : List Val)
  | os (id len : Nat)
  | sl (sz : Nat) (xs : List (List Val))
  | fn (f : FuncId) (cs : List Val)
  | yld (id : Nat)
  | mp (id : Nat)
  | agg (cs : List Val)
  | tup (vs : List Val)
  | any

inductive Ob where
  | gone
  | blk (cs : List Val)
  | arr (e sz : Nat) (xs : List (List Val))
  | dfr
  | mpo (es : List (Value × Val))
  | lp (snap : Nat → Val) (m : Nat) (fn : FuncId) (ps : Array Tmp) (assign body : Code) (st : LoopState) (pend : Option Code)

def Ob.live : Ob → Bool
  | .gone => false
  | _ => true

def oneC : Value → Bool
  | .agg _ | .tuple _ => false
  | _ => true

structure View where
  at_ : Nat → Option Nat
  cap : Nat → Nat
  sh : Nat → Prop

/-- What a value without addresses says of a value of the model. -/
inductive RV (V : View) (n : Nat → Prop) (w : World) : Val → Value → Prop
  | any (x : Value) : RV V n w .any x
  | c (x : Value) : RV V n w (.c x) x
  | ptr {id b off : Nat} : n id → V.at_ id = some b → RV V n w (.ptr id off) (.pointer (some ⟨b, off, none⟩))
  | ep {id sz i j b : Nat} : n id → V.at_ id = some b → RV V n w (.ep id sz i j) (.pointer (some ⟨b, i * sz + j, none⟩))
  | rp {cs : List Val} {k off : Nat} {ar : Array Value} {T : TypeId} {fr : Nat × Nat} : V.sh k → w.heap[k]? = some (.cells ar T fr) → off + cs.length ≤ ar.size →
      (∀ (j : Nat) (d : Val) (v : Value), cs[j]? = some d → ar[off + j]? = some v → RV V n w d v) → RV V n w (.rp cs) (.pointer (some ⟨k, off, none⟩))
  | os {id b len : Nat} : n id → V.at_ id = some b → RV V n w (.os id len) (.slice (some ⟨b, 0, none⟩) len (V.cap id))
  | osNil {id : Nat} : n id → V.at_ id = none → RV V n w (.os id 0) (.slice none 0 0)
  | slNil {sz : Nat} : RV V n w (.sl sz []) (.slice none 0 0)
  | sl {xs : List (List Val)} {k off cap : Nat} {ar : Array Value} {T : TypeId} {fr : Nat × Nat} {sz : Nat} :
      V.sh k → w.heap[k]? = some (.cells ar T fr) → xs.length ≤ cap → off + xs.length * sz ≤ ar.size →
      (∀ x, x ∈ xs → x.length = sz) → (∀ (j : Nat) (v : Value), off ≤ j → j < off + xs.length * sz → ar[j]? = some v → oneC v = true) →
      (∀ (i : Nat) (x : List Val) (j : Nat) (d : Val) (v : Value), xs[i]? = some x → x[j]? = some d → ar[off + i * sz + j]? = some v → RV V n w d v) →
      RV V n w (.sl sz xs) (.slice (some ⟨k, off, none⟩) xs.length cap)
  | fn {f : FuncId} {cs : List Val} {vs : Array Value} : cs.length = vs.size →
      (∀ (i : Nat) (d : Val) (v : Value), cs[i]? = some d → vs[i]? = some v → RV V n w d v) → RV V n w (.fn f cs) (.func (.func f) #[] vs)
  | yld {id b : Nat} : n id → V.at_ id = some b → RV V n w (.yld id) (.func (.yield b) #[] #[])
  | mp {id b : Nat} : n id → V.at_ id = some b → RV V n w (.mp id) (.map (some b))
  | agg {cs : List Val} {vs : Array Value} : cs.length = vs.size →
      (∀ (i : Nat) (d : Val) (v : Value), cs[i]? = some d → vs[i]? = some v → RV V n w d v) → RV V n w (.agg cs) (.agg vs)
  | tup {cs : List Val} {vs : Array Value} : cs.length = vs.size →
      (∀ (i : Nat) (d : Val) (v : Value), cs[i]? = some d → vs[i]? = some v → RV V n w d v) → RV V n w (.tup cs) (.tuple vs)

theorem RV.mono {V V' : View} {n n' : Nat → Prop} {w w' : World} (hn : ∀ id, n id → n' id) (ha : ∀ id, n id → V'.at_ id = V.at_ id) (hc : ∀ id, n id → V'.cap id = V.cap id)
    (hs : ∀ k, V.sh k → V'.sh k) (hw : ∀ k, V.sh k → w'.heap[k]? = w.heap[k]?) {d : Val} {v : Value} (h : RV V n w d v) : RV V' n' w' d v := by
  induction h with
  | any x => exact .any x
  | c x => exact .c x
  | ptr hi hb => exact .ptr (hn _ hi) ((ha _ hi).trans hb)
  | ep hi hb => exact .ep (hn _ hi) ((ha _ hi).trans hb)
  | rp hk hh h1 _ ih => exact .rp (hs _ hk) ((hw _ hk).trans hh) h1 ih
  | os hi hb => rw [← hc _ hi]; exact .os (hn _ hi) ((ha _ hi).trans hb)
  | osNil hi hb => exact .osNil (hn _ hi) ((ha _ hi).trans hb)
  | slNil => exact .slNil
  | sl hk hh h1 h2 h3 h4 _ ih => exact .sl (hs _ hk) ((hw _ hk).trans hh) h1 h2 h3 h4 ih
  | fn h1 _ ih => exact .fn h1 ih
  | yld hi hb => exact .yld (hn _ hi) ((ha _ hi).trans hb)
  | mp hi hb => exact .mp (hn _ hi) ((ha _ hi).trans hb)
  | agg h1 _ ih => exact .agg h1 ih
  | tup h1 _ ih => exact .tup h1 ih

/-- The cells of a block, one by one. -/
def RCs (V : View) (n : Nat → Prop) (w : World) (cs : List Val) (ar : Array Value) : Prop :=
  cs.length = ar.size ∧ ∀ (i : Nat) (d : Val) (v : Value), cs[i]? = some d → ar[i]? = some v → RV V n w d v

/-- The elements of a row, from a place on. -/
def REs (V : View) (n : Nat → Prop) (w : World) (sz off : Nat) (xs : List (List Val)) (ar : Array Value) : Prop :=
  off + xs.length * sz ≤ ar.size ∧ (∀ x, x ∈ xs → x.length = sz) ∧ (∀ (j : Nat) (v : Value), off ≤ j → j < off + xs.length * sz → ar[j]? = some v → oneC v = true) ∧
  ∀ (i : Nat) (x : List Val) (j : Nat) (d : Val) (v : Value), xs[i]? = some x → x[j]? = some d → ar[off + i * sz + j]? = some v → RV V n w d v

/-- What an object says of the world. -/
def RO (V : View) (n : Nat → Prop) (w : World) (id : Nat) : Ob → Prop
  | .gone => True
  | .blk cs => ∃ b ar T, V.at_ id = some b ∧ w.heap[b]? = some (.cells ar T (0, 0)) ∧ RCs V n w cs ar ∧ (∀ (i : Nat) (v : Value), ar[i]? = some v → oneC v = true)
  | .arr e sz xs => (xs = [] ∧ V.at_ id = none) ∨ ∃ b ar, V.at_ id = some b ∧ w.heap[b]? = some (.cells ar e (0, 0)) ∧ ar.size = V.cap id * sz ∧ xs.length ≤ V.cap id ∧ REs V n w sz 0 xs ar
  | .dfr => ∃ b, V.at_ id = some b ∧ w.heap[b]? = some (.deferred (some []))
  | .mpo es => ∃ b ens ck, V.at_ id = some b ∧ w.heap[b]? = some (.map ens ck) ∧ ens.size = es.length ∧ ∀ (i : Nat) (k : Value) (d : Val) (e : MapEntry), es[i]? = some (k, d) → ens[i]? = some e → e.key = k ∧ RV V n w d e.val
  | .lp snap m fn ps assign body st pend => ∃ b D tm, V.at_ id = some b ∧
      w.heap[b]? = some (.loop { state := st, pending := pend, fn, tmps := tm, params := ps, assign, body, defers := D }) ∧ tm.size = m ∧ ∀ i, RV V n w (snap i) (tm.getD i undef)

theorem RCs.mono {V V' : View} {n n' : Nat → Prop} {w w' : World} (hn : ∀ id, n id → n' id) (ha : ∀ id, n id → V'.at_ id = V.at_ id) (hc : ∀ id, n id → V'.cap id = V.cap id)
    (hs : ∀ k, V.sh k → V'.sh k) (hw : ∀ k, V.sh k → w'.heap[k]? = w.heap[k]?) {cs : List Val} {ar : Array Value} (h : RCs V n w cs ar) : RCs V' n' w' cs ar :=
  ⟨h.1, fun i d v h1 h2 => (h.2 i d v h1 h2).mono hn ha hc hs hw⟩

theorem REs.mono {V V' : View} {n n' : Nat → Prop} {w w' : World} (hn : ∀ id, n id → n' id) (ha : ∀ id, n id → V'.at_ id = V.at_ id) (hc : ∀ id, n id → V'.cap id = V.cap id)
    (hs : ∀ k, V.sh k → V'.sh k) (hw : ∀ k, V.sh k → w'.heap[k]? = w.heap[k]?) {sz off : Nat} {xs : List (List Val)} {ar : Array Value} (h : REs V n w sz off xs ar) : REs V' n' w' sz off xs ar :=
  ⟨h.1, h.2.1, h.2.2.1, fun i x j d v h1 h2 h3 => (h.2.2.2 i x j d v h1 h2 h3).mono hn ha hc hs hw⟩

theorem RO.mono {V V' : View} {n n' : Nat → Prop} {w w' : World} (hn : ∀ id, n id → n' id) (ha : ∀ id, n id → V'.at_ id = V.at_ id) (hc : ∀ id, n id → V'.cap id = V.cap id)
    (hs : ∀ k, V.sh k → V'.sh k) (hw : ∀ k, V.sh k → w'.heap[k]? = w.heap[k]?) {id : Nat} (hid : n id) {o : Ob} (h : RO V n w id o) (hb : o.live = true → ∀ b, V.at_ id = some b → w'.heap[b]? = w.heap[b]?) : RO V' n' w' id o := by
  cases o with
  | gone => trivial
  | blk cs =>
    obtain ⟨b, ar, T, h1, h2, h3, h4⟩ := h
    exact ⟨b, ar, T, (ha _ hid).trans h1, (hb rfl b h1).trans h2, h3.mono hn ha hc hs hw, h4⟩
  | arr e sz xs =>
    rcases h with ⟨h1, h2⟩ | ⟨b, ar, h1, h2, h3, h4, h5⟩
    · exact .inl ⟨h1, (ha _ hid).trans h2⟩
    · exact .inr ⟨b, ar, (ha _ hid).trans h1, (hb rfl b h1).trans h2, by rw [hc _ hid]; exact h3, by rw [hc _ hid]; exact h4, h5.mono hn ha hc hs hw⟩
  | dfr =>
    obtain ⟨b, h1, h2⟩ := h
    exact ⟨b, (ha _ hid).trans h1, (hb rfl b h1).trans h2⟩
  | mpo es =>
    obtain ⟨b, ens, ck, h1, h2, h3, h4⟩ := h
    exact ⟨b, ens, ck, (ha _ hid).trans h1, (hb rfl b h1).trans h2, h3, fun i k d e e1 e2 => ⟨(h4 i k d e e1 e2).1, (h4 i k d e e1 e2).2.mono hn ha hc hs hw⟩⟩
  | lp snap m fn ps assign body st pend =>
    obtain ⟨b, D, tm, h1, h2, h3, h4⟩ := h
    exact ⟨b, D, tm, (ha _ hid).trans h1, (hb rfl b h1).trans h2, h3, fun i => (h4 i).mono hn ha hc hs hw⟩

/-- A heap of objects; beyond its length nothing lives. -/
abbrev Hp := List Ob
def Hp.get (h : Hp) (i : Nat) : Ob := (h[i]?).getD .gone

structure RelF (G : List (Nat × Obj)) (V : View) (w : World) (n : Nat → Prop) (H : Nat → Ob) : Prop where
  obj : ∀ id, n id → RO V n w id (H id)
  dead : ∀ id, ¬ n id → H id = .gone
  inj : ∀ i j b, (H i).live = true → (H j).live = true → V.at_ i = some b → V.at_ j = some b → i = j
  apart : ∀ i b, (H i).live = true → V.at_ i = some b → ¬ V.sh b
  lt : ∀ i b, (H i).live = true → V.at_ i = some b → b < w.heap.size
  shlt : ∀ k, V.sh k → k < w.heap.size
  gl : ∀ g o, (g, o) ∈ G → w.heap[g]? = some o ∧ V.sh g

theorem RelF.dom {G : List (Nat × Obj)} {V : View} {w : World} {n : Nat → Prop} {H : Nat → Ob} (h : RelF G V w n H) {i : Nat} (hl : (H i).live = true) : n i := by
  by_cases hi : n i
  · exact hi
  · rw [h.dead i hi] at hl; simp [Ob.live] at hl

/-- A stretch of a run: the view grows, and whatever block is no live object's lies as it lay. -/
structure Step (V : View) (w : World) (n : Nat → Prop) (H : Nat → Ob) (V' : View) (w' : World) (H' : Nat → Ob) : Prop where
  at_ : ∀ id, n id → V'.at_ id = V.at_ id
  cap : ∀ id, n id → V'.cap id = V.cap id
  sh : ∀ k, V.sh k → V'.sh k
  shn : ∀ k, V'.sh k → k < w.heap.size → V.sh k ∨ ∃ i, (H i).live = true ∧ V.at_ i = some k
  size : w.heap.size ≤ w'.heap.size
  os : w'.os = w.os
  tape : w'.tape = w.tape
  output : w'.output = w.output
  keep : ∀ k, k < w.heap.size → (∀ i, (H i).live = true → V.at_ i ≠ some k) → w'.heap[k]? = w.heap[k]?
  fresh : ∀ i b, (H' i).live = true → V'.at_ i = some b → b < w.heap.size → ∃ j, (H j).live = true ∧ V.at_ j = some b

theorem Step.refl (V : View) (w : World) (n : Nat → Prop) (H : Nat → Ob) : Step V w n H V w H :=
  ⟨fun _ _ => rfl, fun _ _ => rfl, fun _ h => h, fun _ h _ => .inl h, Nat.le_refl _, rfl, rfl, rfl, fun _ _ _ => rfl, fun i b h1 h2 _ => ⟨i, h1, h2⟩⟩

theorem Step.trans {V V1 V2 : View} {w w1 w2 : World} {n n1 : Nat → Prop} {H H1 H2 : Nat → Ob} (h : Step V w n H V1 w1 H1) (k : Step V1 w1 n1 H1 V2 w2 H2) (hn : ∀ i, n i → n1 i) : Step V w n H V2 w2 H2 where
  at_ := fun id hi => (k.at_ id (hn _ hi)).trans (h.at_ id hi)
  cap := fun id hi => (k.cap id (hn _ hi)).trans (h.cap id hi)
  sh := fun b hb => k.sh b (h.sh b hb)
  shn := fun b hb hlt => by
    rcases k.shn b hb (Nat.lt_of_lt_of_le hlt h.size) with h1 | ⟨i, hi, e⟩
    · exact h.shn b h1 hlt
    · exact .inr (h.fresh i b hi e hlt)
  size := Nat.le_trans h.size k.size
  os := k.os.trans h.os
  tape := k.tape.trans h.tape
  output := k.output.trans h.output
  keep := fun b hb hno => (k.keep b (Nat.lt_of_lt_of_le hb h.size) (fun i hi e => by
    obtain ⟨j, hj, ej⟩ := h.fresh i b hi e hb
    exact hno j hj ej)).trans (h.keep b hb hno)
  fresh := fun i b hi e hb => by
    obtain ⟨j, hj, ej⟩ := k.fresh i b hi e (Nat.lt_of_lt_of_le hb h.size)
    exact h.fresh j b hj ej hb

/-- What a stretch of a run leaves of a value's reading. -/
theorem RV.step {G : List (Nat × Obj)} {V V' : View} {n n' : Nat → Prop} {w w' : World} {H H' : Nat → Ob} (hs : Step V w n H V' w' H') (hr : RelF G V w n H) (hn : ∀ i, n i → n' i) {d : Val} {v : Value} (h : RV V n w d v) : RV V' n' w' d v :=
  h.mono hn hs.at_ hs.cap hs.sh (fun k hk => hs.keep k (hr.shlt k hk) (fun i hi e => hr.apart i k hi e hk))

theorem RelF.gl_step {G : List (Nat × Obj)} {V V' : View} {n : Nat → Prop} {w w' : World} {H H' : Nat → Ob} (hs : Step V w n H V' w' H') (hr : RelF G V w n H) : ∀ g o, (g, o) ∈ G → w'.heap[g]? = some o ∧ V'.sh g :=
  fun g o hg => ⟨(hs.keep g (hr.shlt g (hr.gl g o hg).2) (fun i hi e => hr.apart i g hi e (hr.gl g o hg).2)).trans (hr.gl g o hg).1, hs.sh g (hr.gl g o hg).2⟩

end Go.Vm
/- The state of a function's run over values without addresses, and the rules of its statements. -/
namespace Go.Vm
open Go

structure St where
  m : Nat
  t : List (Nat × Val)
  h : Hp
  d : List Nat

def Hp.D (h : Hp) : Nat → Prop := fun i => i < h.length

def lk : List (Nat × Val) → Nat → Val
  | [], _ => .any
  | (k, v) :: l, i => if i = k then v else lk l i

def St.get (s : St) (i : Nat) : Val := lk s.t i
def St.ev (s : St) : Operand → Val
  | .tmp t => s.get t
  | .const v => .c v
  | .global _ => .any
  | .func f => .fn f []
def St.put (s : St) (dst : Option Tmp) (v : Val) : St :=
  match dst with
  | some d => if d < s.m then { s with t := (d, v) :: s.t } else s
  | none => s

def mark (V : View) (id : Nat) : Deferred := { target := .collected ((V.at_ id).getD 0), args := #[] }

structure Rel (G : List (Nat × Obj)) (V : View) (s : St) (a : Act) (w : World) : Prop where
  sz : a.tmps.size = s.m
  tm : ∀ i, RV V s.h.D w (s.get i) (a.tmps.getD i undef)
  hp : RelF G V w s.h.D s.h.get
  df : a.defers = s.d.map (mark V)
  dl : ∀ id, id ∈ s.d → s.h.get id = .dfr

def fence (ro : Option Nat) : Fence := { Fence.wide with round := ro }
theorem fence_none : fence none = Fence.wide := rfl
@[simp] theorem fence_fn (ro : Option Nat) (f : FuncId) : (fence ro).fn f = True := rfl
@[simp] theorem fence_depth (ro : Option Nat) : (fence ro).depth = none := rfl
@[simp] theorem fence_round (ro : Option Nat) : (fence ro).round = ro := rfl

abbrev StepS (V : View) (w : World) (s : St) (V' : View) (w' : World) (s' : St) : Prop := Step V w s.h.D s.h.get V' w' s'.h.get

/-- What a statement may end in, over values without addresses. -/
def Post (G : List (Nat × Obj)) (V : View) (w : World) (s : St) (Q : Exit → St → Prop) : Exit → Act → World → Prop := fun e a' w' =>
  ∃ V' s', Rel G V' s' a' w' ∧ StepS V w s V' w' s' ∧ (∀ i, s.h.D i → s'.h.D i) ∧ Q e s'

def W (P : Program) (G : List (Nat × Obj)) (ro : Option Nat) (c : Code) (Q : Exit → St → Prop) (s : St) : Prop :=
  ∀ (V : View) (a : Act) (w : World), Rel G V s a w → ∀ n, c.wpIn (fence ro) n P (Post G V w s Q) a w

section rules
variable {P : Program} {G : List (Nat × Obj)} {ro : Option Nat} {Q : Exit → St → Prop} {s : St}

theorem Post.self {V : View} {w : World} {e : Exit} {a : Act} (h : Rel G V s a w) (q : Q e s) : Post G V w s Q e a w :=
  ⟨V, s, h, Step.refl _ _ _ _, fun _ h => h, q⟩

theorem Post.trans {V V1 : View} {w w1 : World} {s1 : St} {Q1 : Exit → St → Prop} (h : StepS V w s V1 w1 s1) (hn : (∀ i, s.h.D i → s1.h.D i)) {e : Exit} {a : Act} {w2 : World}
    (k : Post G V1 w1 s1 Q1 e a w2) (hq : ∀ e s, Q1 e s → Q e s) : Post G V w s Q e a w2 := by
  obtain ⟨V2, s2, hr, hs, hl, q⟩ := k
  exact ⟨V2, s2, hr, h.trans hs hn, fun i hi => hl i (hn i hi), hq _ _ q⟩

theorem W.mono {c : Code} {Q' : Exit → St → Prop} (h : W P G ro c Q s) (hq : ∀ e s, Q e s → Q' e s) : W P G ro c Q' s :=
  fun V a w hr n => wpIn_mono (h V a w hr n) (fun e a w ⟨V', s', h1, h2, h3, q⟩ => ⟨V', s', h1, h2, h3, hq _ _ q⟩)

theorem W_skip (h : Q .normal s) : W P G ro .skip Q s := fun _ _ _ hr _ => wpIn_skip (Post.self hr h)
theorem W_exit {id : Nat} (h : Q (.exit id) s) : W P G ro (.exit id) Q s := fun _ _ _ hr _ => wpIn_exit (Post.self hr h)
theorem W_ret (h : Q .ret s) : W P G ro .ret Q s := fun _ _ _ hr _ => wpIn_ret (Post.self hr h)

def then_ (K : St → Prop) (Q : Exit → St → Prop) : Exit → St → Prop
  | .normal, s => K s
  | e, s => Q e s
def inBlock_ (id : Nat) (Q : Exit → St → Prop) : Exit → St → Prop
  | .exit id', s => if id' = id then Q .normal s else Q (.exit id') s
  | e, s => Q e s

theorem W_seq {x y : Code} (h : W P G ro x (then_ (W P G ro y Q) Q) s) : W P G ro (.seq x y) Q s := by
  intro V a w hr n
  refine wpIn_seq (wpIn_mono (h V a w hr n) ?_)
  rintro e a1 w1 ⟨V1, s1, h1, h2, h3, q⟩
  cases e with
  | normal => exact wpIn_mono (q V1 a1 w1 h1 n) (fun e a2 w2 k => k.trans h2 h3 (fun _ _ h => h))
  | exit id => exact ⟨V1, s1, h1, h2, h3, q⟩
  | goto l => exact ⟨V1, s1, h1, h2, h3, q⟩
  | ret => exact ⟨V1, s1, h1, h2, h3, q⟩
  | panic ch => exact ⟨V1, s1, h1, h2, h3, q⟩
  | outgrown => exact ⟨V1, s1, h1, h2, h3, q⟩

theorem W_block {id : Nat} {c : Code} (h : W P G ro c (inBlock_ id Q) s) : W P G ro (.block id c) Q s := by
  intro V a w hr n
  refine wpIn_block (wpIn_mono (h V a w hr n) ?_)
  rintro e a1 w1 ⟨V1, s1, h1, h2, h3, q⟩
  cases e with
  | exit id' =>
    by_cases hid : id' = id
    · simp only [inBlock_, hid, if_true] at q
      simp only [Exit.inBlock, hid, if_true]
      exact ⟨V1, s1, h1, h2, h3, q⟩
    · simp only [inBlock_, hid, if_false] at q
      simp only [Exit.inBlock, hid, if_false]
      exact ⟨V1, s1, h1, h2, h3, q⟩
  | normal => exact ⟨V1, s1, h1, h2, h3, q⟩
  | goto l => exact ⟨V1, s1, h1, h2, h3, q⟩
  | ret => exact ⟨V1, s1, h1, h2, h3, q⟩
  | panic ch => exact ⟨V1, s1, h1, h2, h3, q⟩
  | outgrown => exact ⟨V1, s1, h1, h2, h3, q⟩

theorem RV.c_inv {V : View} {n : Nat → Prop} {w : World} {x v : Value} (h : RV V n w (.c x) v) : v = x := by cases h; rfl

/-- The value of an operand. -/
theorem Rel.ev {V : View} {a : Act} {w : World} (h : Rel G V s a w) (x : Operand) : RV V s.h.D w (s.ev x) (a.eval x) := by
  cases x with
  | tmp t => exact h.tm t
  | const v => exact .c v
  | global g => exact .any _
  | func f => exact .fn rfl (by intro i d v h1; simp at h1)

theorem W_cond {c : Operand} {x y : Code} {b : Bool} (hc : s.ev c = .c (.bool b)) (ht : b = true → W P G ro x Q s) (hf : b = false → W P G ro y Q s) : W P G ro (.cond c x y) Q s := by
  intro V a w hr n
  have he := hr.ev c
  rw [hc] at he
  exact wpIn_cond_split he.c_inv (fun h => ht h V a w hr n) (fun h => hf h V a w hr n)

theorem least_of {p : Nat → Prop} (h : ∃ k, p k) : ∃ k, p k ∧ ∀ j, p j → k ≤ j := by
  obtain ⟨k, hk⟩ := h
  induction k using Nat.strongRecOn with
  | _ k ih =>
    by_cases hj : ∃ j, j < k ∧ p j
    · obtain ⟨j, hj1, hj2⟩ := hj
      exact ih j hj1 hj2
    · exact ⟨k, hk, fun j hj' => Nat.le_of_not_lt fun hlt => hj ⟨j, hlt, hj'⟩⟩

/-- A loop: what holds at each round's head, and a measure. -/
theorem W_loop {c : Code} (I : St → Prop) (μ : St → Nat) (h0 : I s)
    (round : ∀ s1, I s1 → W P G ro c (then_ (fun s2 => I s2 ∧ μ s2 < μ s1) Q) s1) : W P G ro (.loop c) Q s := by
  intro V a w hr n
  let G : Act → World → Nat → Prop := fun a1 w1 k => ∃ V1 s1, I s1 ∧ μ s1 = k ∧ Rel G V1 s1 a1 w1 ∧ StepS V w s V1 w1 s1 ∧ (∀ i, s.h.D i → s1.h.D i)
  let M : Act → World → Nat := fun a1 w1 => open Classical in if h : ∃ k, G a1 w1 k then Classical.choose (least_of h) else 0
  have hM : ∀ a1 w1 k, G a1 w1 k → G a1 w1 (M a1 w1) ∧ M a1 w1 ≤ k := by
    intro a1 w1 k hk
    have h : ∃ k, G a1 w1 k := ⟨k, hk⟩
    have e : M a1 w1 = Classical.choose (least_of h) := dif_pos h
    have := Classical.choose_spec (least_of h)
    rw [e]
    exact ⟨this.1, this.2 k hk⟩
  refine wpIn_loop (fun a1 w1 => ∃ k, G a1 w1 k) M ⟨μ s, V, s, h0, rfl, hr, Step.refl _ _ _ _, fun _ h => h⟩ ?_
  rintro a1 w1 ⟨k, hk⟩
  obtain ⟨⟨V1, s1, hI, hμ, hr1, hs1, hn1⟩, _⟩ := hM a1 w1 k hk
  refine wpIn_mono (round s1 hI V1 a1 w1 hr1 n) ?_
  rintro e a2 w2 ⟨V2, s2, hr2, hs2, hn2, q⟩
  have hs : StepS V w s V2 w2 s2 := hs1.trans hs2 hn1
  have hn := fun (i : Nat) (hi : s.h.D i) => hn2 i (hn1 i hi)
  cases e with
  | normal =>
    obtain ⟨hI2, hlt⟩ := q
    have hG : G a2 w2 (μ s2) := ⟨V2, s2, hI2, rfl, hr2, hs, hn⟩
    exact ⟨⟨_, hG⟩, Nat.lt_of_le_of_lt (hM a2 w2 _ hG).2 (by rw [← hμ]; exact hlt)⟩
  | exit id => exact ⟨V2, s2, hr2, hs, hn, q⟩
  | goto l => exact ⟨V2, s2, hr2, hs, hn, q⟩
  | ret => exact ⟨V2, s2, hr2, hs, hn, q⟩
  | panic ch => exact ⟨V2, s2, hr2, hs, hn, q⟩
  | outgrown => exact ⟨V2, s2, hr2, hs, hn, q⟩
end rules
end Go.Vm
/- What the operations do, over values without addresses. -/
namespace Go.Vm
open Go Go.RowKit

structure TD where
  desc : TypeDesc
  size : Nat
  bytes : Nat
  zero : List Value

def TD.row (d : TD) : Bool :=
  match d.desc with
  | .struct _ | .array _ _ => true
  | _ => false

def TabOK (P : Program) (T : Nat → Option TD) : Prop := ∀ t d, T t = some d →
  P.underlying t = some d.desc ∧ ∃ i z, P.info? t = some i ∧ i.size = d.size ∧ i.bytes = d.bytes ∧ i.zero = some z ∧ z.cells.toList = d.zero

structure Ef where
  r : Val
  up : Option Ob := none
  nw : Option Ob := none

def Ef.addD (ef : Ef) (D : Nat → Prop) (nid : Nat) : Nat → Prop := fun i => D i ∨ (ef.nw.isSome = true ∧ i = nid)
def Ef.updH (ef : Ef) (H : Nat → Ob) (fid : Option Nat) (nid : Nat) : Nat → Ob := fun i =>
  match ef.nw with
  | some o => if i = nid then o else if fid = some i then ef.up.getD (H i) else H i
  | none => if fid = some i then ef.up.getD (H i) else H i

/-- An operation, whatever lies beside what it touches. -/
def Does (P : Program) (G : List (Nat × Obj)) (o : Oper) (ev : Operand → Val) (fid : Option Nat) (ob : Ob) (nid : Nat) (ef : Ef) : Prop :=
  ∀ (V : View) (D : Nat → Prop) (w : World) (H : Nat → Ob) (ρ : Operand → Value), RelF G V w D H → (∀ x, x ∈ o.op.operands → RV V D w (ev x) (ρ x)) →
    (∀ id, fid = some id → H id = ob) → ¬ D nid →
    ∃ x w' V', ((execOp ρ o).run P w = .ok (.value x) w' ∨ ((execOp ρ o).run P w = .ok .skip w' ∧ x = undef)) ∧
      RelF G V' w' (ef.addD D nid) (ef.updH H fid nid) ∧ Step V w D H V' w' (ef.updH H fid nid) ∧ RV V' (ef.addD D nid) w' ef.r x

theorem Does.quiet {P : Program} {G : List (Nat × Obj)} {o : Oper} {ev : Operand → Val} {fid : Option Nat} {ob : Ob} {nid : Nat} {r : Val}
    (h : ∀ (V : View) (D : Nat → Prop) (w : World) (H : Nat → Ob) (ρ : Operand → Value), RelF G V w D H → (∀ x, x ∈ o.op.operands → RV V D w (ev x) (ρ x)) →
      (∀ id, fid = some id → H id = ob) → ∃ x, (execOp ρ o).run P w = .ok (.value x) w ∧ RV V D w r x) : Does P G o ev fid ob nid ⟨r, none, none⟩ := by
  intro V D w H ρ hr hx hf hn
  obtain ⟨x, h1, h2⟩ := h V D w H ρ hr hx hf
  have hD : (⟨r, none, none⟩ : Ef).addD D nid = D := by funext i; simp [Ef.addD]
  have hH : (⟨r, none, none⟩ : Ef).updH H fid nid = H := by funext i; simp [Ef.updH]
  rw [hD, hH]
  exact ⟨x, w, V, .inl h1, hr, Step.refl _ _ _ _, h2⟩

def vcells : Val → Option (List Val)
  | .agg cs => some cs
  | .tup _ => none
  | .any => none
  | .c v => if oneC v then some [.c v] else none
  | v => some [v]

/-- Are these cells of one cell each? -/
def one1 : Val → Bool
  | .c v => oneC v
  | .agg _ | .tup _ | .any => false
  | _ => true

theorem one1_spec {V : View} {D : Nat → Prop} {w : World} {d : Val} {v : Value} (h : RV V D w d v) (h1 : one1 d = true) : oneC v = true := by
  cases h <;> first | rfl | (simp [one1] at h1; done) | exact h1

/-! ### Values -/
variable {P : Program} {G : List (Nat × Obj)}

theorem run_v {o : Op} (x : Sem Value) (w : World) {v : Value} (h : x.run P w = .ok v w) : (do pure (Next.value (← x)) : Sem Next).run P w = .ok (.value v) w := by
  simp [h]

theorem Does_move {o : Oper} {x : Operand} (ho : o.op = .move x) {ev : Operand → Val} {fid : Option Nat} {ob : Ob} {nid : Nat} : Does P G o ev fid ob nid ⟨ev x, none, none⟩ :=
  Does.quiet fun V D w H ρ _ hx _ => ⟨ρ x, by simp [execOp, ho], hx x (by simp [ho, Op.operands])⟩

theorem Does_assign {o : Oper} {x : Operand} (ho : o.op = .assign x) {ev : Operand → Val} {fid : Option Nat} {ob : Ob} {nid : Nat} : Does P G o ev fid ob nid ⟨ev x, none, none⟩ :=
  Does.quiet fun V D w H ρ _ hx _ => ⟨ρ x, by simp [execOp, ho], hx x (by simp [ho, Op.operands])⟩

theorem Does_pick {o : Oper} {c x y : Operand} (ho : o.op = .pick c x y) {ev : Operand → Val} {b : Bool} (hc : ev c = .c (.bool b)) {fid : Option Nat} {ob : Ob} {nid : Nat} :
    Does P G o ev fid ob nid ⟨if b then ev x else ev y, none, none⟩ :=
  Does.quiet fun V D w H ρ _ hx _ => ⟨if b then ρ x else ρ y, by
    have := hx c (by simp [ho, Op.operands]); rw [hc] at this; have := this.c_inv
    simp only [execOp, ho, this, asBool]; cases b <;> simp, by
    cases b
    · exact hx y (by simp [ho, Op.operands])
    · exact hx x (by simp [ho, Op.operands])⟩

def vbin : BinOp → Value → Value → Option Value
  | .shl, .int k a, .int _ b => if 0 ≤ b then some (.int k (k.wrap (a * 2 ^ min b.toNat k.bits))) else none
  | .shr, .int k a, .int _ b => if 0 ≤ b then some (.int k (a.fdiv (2 ^ min b.toNat k.bits))) else none
  | .add, .int k a, .int k' b => if k = k' then some (.int k (k.wrap (a + b))) else none
  | .sub, .int k a, .int k' b => if k = k' then some (.int k (k.wrap (a - b))) else none
  | .mul, .int k a, .int k' b => if k = k' then some (.int k (k.wrap (a * b))) else none
  | .quo, .int k a, .int k' b => if k = k' ∧ b ≠ 0 then some (.int k (k.wrap (a.tdiv b))) else none
  | .rem, .int k a, .int k' b => if k = k' ∧ b ≠ 0 then some (.int k (a.tmod b)) else none
  | .and, .int k a, .int k' b => if k = k' then some (.int k (k.wrap (BitVec.ofInt k.bits a &&& BitVec.ofInt k.bits b).toNat)) else none
  | .or, .int k a, .int k' b => if k = k' then some (.int k (k.wrap (BitVec.ofInt k.bits a ||| BitVec.ofInt k.bits b).toNat)) else none
  | .xor, .int k a, .int k' b => if k = k' then some (.int k (k.wrap (BitVec.ofInt k.bits a ^^^ BitVec.ofInt k.bits b).toNat)) else none
  | .andNot, .int k a, .int k' b => if k = k' then some (.int k (k.wrap (BitVec.ofInt k.bits a &&& ~~~BitVec.ofInt k.bits b).toNat)) else none
  | .eql, .int k a, .int k' b => if k = k' then some (.bool (a == b)) else none
  | .neq, .int k a, .int k' b => if k = k' then some (.bool (a != b)) else none
  | .lss, .int k a, .int k' b => if k = k' then some (.bool (decide (a < b))) else none
  | .leq, .int k a, .int k' b => if k = k' then some (.bool (decide (a ≤ b))) else none
  | .gtr, .int k a, .int k' b => if k = k' then some (.bool (decide (a > b))) else none
  | .geq, .int k a, .int k' b => if k = k' then some (.bool (decide (a ≥ b))) else none
  | _, _, _ => none

theorem run_vbin {op : BinOp} {t : TypeId} {x y : Operand} {a b r : Value} (h : vbin op a b = some r) (w : World) :
    (do eqGuard op t x y a b; binOp op t a b : Sem Value).run P w = .ok r w := by
  cases a <;> cases b <;> (try (cases op <;> simp [vbin] at h; done)) <;> (try (cases op <;> cases h; done))
  rename_i k a k' b
  cases op <;> simp [vbin] at h <;> (try obtain ⟨h0, h⟩ := h) <;> (try obtain ⟨rfl, h0⟩ := h0) <;> (try subst h0) <;> (try subst h) <;>
    simp [eqGuard, binOp, Op.intArith, Op.intCmp, Op.intBits, Op.intDiv, Op.shift] <;> (try simp_all) <;> (first | rfl | (intro h1; omega))

theorem Does_bin {o : Oper} {op : BinOp} {t yt : TypeId} {x y : Operand} (ho : o.op = .binOp op t x y yt) {ev : Operand → Val} {a b r : Value} (hx : ev x = .c a) (hy : ev y = .c b) (hr : vbin op a b = some r)
    {fid : Option Nat} {ob : Ob} {nid : Nat} : Does P G o ev fid ob nid ⟨.c r, none, none⟩ :=
  Does.quiet fun V D w H ρ _ hv _ => ⟨r, by
    have h1 := hv x (by simp [ho, Op.operands]); rw [hx] at h1
    have h2 := hv y (by simp [ho, Op.operands]); rw [hy] at h2
    simp only [execOp, ho, h1.c_inv, h2.c_inv]
    rw [Sem.run_bind, run_vbin hr]; simp, .c r⟩

def vun : UnOp → Value → Option Value
  | .not, .bool b => some (.bool !b)
  | .neg, .int k n => some (.int k (k.wrap (0 - n)))
  | _, _ => none

theorem Does_un {o : Oper} {op : UnOp} {t : TypeId} {x : Operand} (ho : o.op = .unOp op t x) {ev : Operand → Val} {a r : Value} (hx : ev x = .c a) (hr : vun op a = some r)
    {fid : Option Nat} {ob : Ob} {nid : Nat} : Does P G o ev fid ob nid ⟨.c r, none, none⟩ :=
  Does.quiet fun V D w H ρ _ hv _ => ⟨r, by
    have h1 := hv x (by simp [ho, Op.operands]); rw [hx] at h1
    simp only [execOp, ho, h1.c_inv]
    cases op <;> cases a <;> simp [vun] at hr <;> subst hr <;> simp [Op.unary, Op.intArith], .c r⟩

theorem Does_nilCheck {o : Oper} {x : Operand} (ho : o.op = .nilCheck x) {ev : Operand → Val} (hx : (match ev x with | .ptr .. | .ep .. | .rp .. | .fn .. | .yld .. => true | _ => false) = true)
    {fid : Option Nat} {ob : Ob} {nid : Nat} : Does P G o ev fid ob nid ⟨ev x, none, none⟩ :=
  Does.quiet fun V D w H ρ _ hv _ => ⟨ρ x, by
    have h1 := hv x (by simp [ho, Op.operands])
    simp only [execOp, ho]
    generalize ev x = e at h1 hx
    generalize ρ x = v at h1
    cases h1 <;> simp at hx <;> rfl, hv x (by simp [ho, Op.operands])⟩

theorem Does_extract {o : Oper} {x : Operand} {i : Nat} (ho : o.op = .extract x i) {ev : Operand → Val} {vs : List Val} {r : Val} (hx : ev x = .tup vs) (hr : vs[i]? = some r)
    {fid : Option Nat} {ob : Ob} {nid : Nat} : Does P G o ev fid ob nid ⟨r, none, none⟩ :=
  Does.quiet fun V D w H ρ _ hv _ => by
    have h1 := hv x (by simp [ho, Op.operands]); rw [hx] at h1
    cases hq : ρ x <;> rw [hq] at h1 <;> cases h1
    rename_i ws hl hp
    have hi : i < ws.size := by
      have : i < vs.length := (List.getElem?_eq_some_iff.1 hr).1
      omega
    exact ⟨ws[i], by simp [execOp, ho, hq, Instr.extract, hi], hp i r _ hr (by simp [hi])⟩

theorem Does_makeFunc {o : Oper} {f : FuncId} {caps : Array Operand} (ho : o.op = .makeFunc (.func f) #[] caps) {ev : Operand → Val}
    {fid : Option Nat} {ob : Ob} {nid : Nat} : Does P G o ev fid ob nid ⟨.fn f (caps.toList.map ev), none, none⟩ :=
  Does.quiet fun V D w H ρ _ hv _ => ⟨.func (.func f) #[] (caps.map ρ), by simp [execOp, ho, Instr.makeFunc], .fn (by simp) (by
    intro i d v h1 h2
    simp only [List.getElem?_map, Array.getElem?_map, Option.map_eq_some_iff] at h1 h2
    obtain ⟨c, hc, rfl⟩ := h1
    obtain ⟨c', hc', rfl⟩ := h2
    have : c = c' := by
      have hc2 : caps[i]? = some c := by simpa using hc
      rw [hc2] at hc'; exact Option.some.inj hc'
    subst this
    exact hv c (by simp only [ho, Op.operands]; exact Array.mem_append.2 (.inr (Array.mem_of_getElem? hc'))))⟩

/-! ### Addresses -/
theorem TabOK.u {T : Nat → Option TD} (hT : TabOK P T) {t : Nat} {d : TD} (h : T t = some d) : P.underlying t = some d.desc := (hT t d h).1
theorem TabOK.size {T : Nat → Option TD} (hT : TabOK P T) {t : Nat} {d : TD} (h : T t = some d) (w : World) : (sizeOf t).run P w = .ok d.size w := by
  obtain ⟨_, i, z, h1, h2, _⟩ := hT t d h
  simp [sizeOf, typeInfo, h1, h2]
theorem TabOK.bytes {T : Nat → Option TD} (hT : TabOK P T) {t : Nat} {d : TD} (h : T t = some d) (w : World) : ∃ i, (typeInfo t).run P w = .ok i w ∧ i.bytes = d.bytes ∧ i.size = d.size := by
  obtain ⟨_, i, z, h1, h2, h3, _⟩ := hT t d h
  exact ⟨i, by simp [typeInfo, h1], h3, h2⟩
theorem TabOK.zeroV {T : Nat → Option TD} (hT : TabOK P T) {t : Nat} {d : TD} (h : T t = some d) (w : World) : ∃ z, (zeroValue t).run P w = .ok z w ∧ z.cells.toList = d.zero := by
  obtain ⟨_, i, z, h1, h2, h3, h4, h5⟩ := hT t d h
  exact ⟨z, by simp [zeroValue, typeInfo, h1, h4], h5⟩
theorem TabOK.under {T : Nat → Option TD} (hT : TabOK P T) {t : Nat} {d : TD} (h : T t = some d) (w : World) : (underlying t).run P w = .ok d.desc w := run_underlying (hT.u h) w
theorem TabOK.agg {T : Nat → Option TD} (hT : TabOK P T) {t : Nat} {d : TD} (h : T t = some d) (w : World) : (isAgg t).run P w = .ok d.row w := by
  unfold isAgg
  rw [Sem.run_bind, hT.under h w]
  simp only [Result.andThen_ok, TD.row]
  cases d.desc <;> rfl

/-- The offset of a field. -/
def TD.off (d : TD) (f : Nat) : Option (Nat × TypeId) :=
  match d.desc with
  | .struct fs => (fs[f]?).map fun x => (x.offset, x.type)
  | _ => none

def paddr : Val → Nat → Option Val
  | .ptr id off, k => some (.ptr id (off + k))
  | .ep id sz i j, k => some (.ep id sz i (j + k))
  | .rp cs, k => if k ≤ cs.length then some (.rp (cs.drop k)) else none
  | _, _ => none

theorem add_none (b o k : Nat) : (⟨b, o, none⟩ : Addr).add k = ⟨b, o + k, none⟩ := by unfold Addr.add; split <;> simp_all

theorem paddr_spec {V : View} {D : Nat → Prop} {w : World} {x r : Val} {v : Value} {k : Nat} (h : RV V D w x v) (hr : paddr x k = some r) :
    ∃ b o, v = .pointer (some ⟨b, o, none⟩) ∧ RV V D w r (.pointer (some ⟨b, o + k, none⟩)) := by
  cases h <;> simp only [paddr] at hr <;> (try (cases hr; done))
  case ptr hi hb => cases hr; exact ⟨_, _, rfl, .ptr hi hb⟩
  case ep hi hb => cases hr; refine ⟨_, _, rfl, ?_⟩; rw [Nat.add_assoc]; exact .ep hi hb
  case rp hs hw hl hp =>
    split at hr
    · cases hr
      refine ⟨_, _, rfl, .rp hs hw (by simp; omega) ?_⟩
      intro j d v h1 h2
      rw [List.getElem?_drop] at h1
      exact hp (k + j) d v h1 (by rw [← h2]; congr 1; omega)
    · cases hr

theorem Does_fieldAddr {T : Nat → Option TD} (hT : TabOK P T) {o : Oper} {t : TypeId} {x : Operand} {f : Nat} (ho : o.op = .fieldAddr t x f) {d df : TD} (ht : T t = some d) {off : Nat} {ft : TypeId}
    (hf : d.off f = some (off, ft)) (hft : T ft = some df) (hz : df.size ≠ 0) {ev : Operand → Val} {r : Val} (hr : paddr (ev x) off = some r) {fid : Option Nat} {ob : Ob} {nid : Nat} : Does P G o ev fid ob nid ⟨r, none, none⟩ :=
  Does.quiet fun V D w H ρ _ hv _ => by
    have h1 := hv x (by simp [ho, Op.operands])
    obtain ⟨b, o', hq, h2⟩ := paddr_spec h1 hr
    refine ⟨_, ?_, h2⟩
    have hu := hT.under ht w
    unfold TD.off at hf
    cases hd : d.desc <;> rw [hd] at hf <;> simp at hf
    rename_i fs
    obtain ⟨fx, hfx, rfl, rfl⟩ := hf
    rw [hd] at hu
    simp [execOp, ho, hq, Instr.fieldAt, Instr.sureAddr, hu, hfx, fieldPlace, hT.size hft, hz, add_none]

/-! ### Loads -/
theorem cell_of {w : World} {b o : Nat} {ar : Array Value} {T : TypeId} {fr : Nat × Nat} (h : w.heap[b]? = some (.cells ar T fr)) : w.cell? ⟨b, o, none⟩ = ar[o]? := by
  simp [World.cell?, h]

theorem run_loadVar_at {T : Nat → Option TD} (hT : TabOK P T) {t : TypeId} {d : TD} (ht : T t = some d) {w : World} {b o : Nat} {ar : Array Value} {T' : TypeId} {fr : Nat × Nat}
    (h : w.heap[b]? = some (.cells ar T' fr)) : (d.row = true → o + d.size ≤ ar.size → (loadVar t ⟨b, o, none⟩).run P w = .ok (.agg ((ar.toList.drop o).take d.size).toArray) w) ∧
      (d.row = false → ∀ v, ar[o]? = some v → (loadVar t ⟨b, o, none⟩).run P w = .ok v w) := by
  constructor
  · intro hr hl
    have hlen : ((ar.toList.drop o).take d.size).length = d.size := by simp; omega
    have := run_loadCells_list (P := P) (w := w) ⟨b, o, none⟩ ((ar.toList.drop o).take d.size) (by
      intro j v hj
      rw [add_none, cell_of h]
      rw [List.getElem?_take] at hj
      split at hj
      · rw [List.getElem?_drop] at hj; simpa using hj
      · cases hj)
    rw [hlen] at this
    simp [loadVar, hT.agg ht, hr, hT.size ht, this]
  · intro hr v hv
    simp [loadVar, hT.agg ht, hr, cell_of h, hv]

def vload (d : TD) (cs : List Val) (o : Nat) : Option Val :=
  if d.row = true then (if o + d.size ≤ cs.length then some (.agg ((cs.drop o).take d.size)) else none) else cs[o]?

/-- A load out of cells that are told of. -/
theorem run_vload {T : Nat → Option TD} (hT : TabOK P T) {t : TypeId} {d : TD} (ht : T t = some d) {V : View} {D : Nat → Prop} {w : World} {b : Nat} {ar : Array Value} {T' : TypeId} {fr : Nat × Nat}
    (h : w.heap[b]? = some (.cells ar T' fr)) {cs : List Val} {base o : Nat} (hl : base + cs.length ≤ ar.size)
    (hp : ∀ (j : Nat) (e : Val) (v : Value), cs[j]? = some e → ar[base + j]? = some v → RV V D w e v) {r : Val} (hr : vload d cs o = some r) :
    ∃ v, (loadVar t ⟨b, base + o, none⟩).run P w = .ok v w ∧ RV V D w r v := by
  have h0 := run_loadVar_at hT ht (o := base + o) h
  unfold vload at hr
  split at hr
  · rename_i hrow
    split at hr
    · rename_i hle
      cases hr
      refine ⟨_, h0.1 hrow (by omega), .agg (by simp; omega) ?_⟩
      intro i e v h1 h2
      rw [List.getElem?_take] at h1
      split at h1
      · rename_i hi
        rw [List.getElem?_drop] at h1
        simp [hi] at h2
        exact hp (o + i) e v h1 (by rw [← h2]; congr 1; omega)
      · cases h1
    · cases hr
  · rename_i hrow
    have hi : o < cs.length := (List.getElem?_eq_some_iff.1 hr).1
    have hlt : base + o < ar.size := by omega
    have hv : ar[base + o]? = some ar[base + o] := by simp [hlt]
    exact ⟨_, h0.2 (by simpa using hrow) _ hv, hp o r _ hr hv⟩

theorem Does_load_blk {T : Nat → Option TD} (hT : TabOK P T) {o : Oper} {t : TypeId} {x : Operand} (ho : o.op = .load t x) {d : TD} (ht : T t = some d) {ev : Operand → Val} {id off : Nat} (hx : ev x = .ptr id off)
    {cs : List Val} {r : Val} (hr : vload d cs off = some r) {nid : Nat} : Does P G o ev (some id) (.blk cs) nid ⟨r, none, none⟩ :=
  Does.quiet fun V D w H ρ hrel hv hf => by
    have h1 := hv x (by simp [ho, Op.operands]); rw [hx] at h1
    have hH := hf id rfl
    generalize hq : ρ x = v at h1
    cases h1
    rename_i b hi hb
    have hobj := hrel.obj id hi
    rw [hH] at hobj
    obtain ⟨b', ar, T', e1, e2, e3, e4⟩ := hobj
    rw [hb] at e1; cases e1
    obtain ⟨u, hu, hru⟩ := run_vload hT ht (base := 0) e2 (by have := e3.1; omega) (fun j e v h1 h2 => e3.2 j e v h1 (by simpa using h2)) hr
    rw [Nat.zero_add] at hu
    exact ⟨u, by simp [execOp, ho, hq, Instr.loadAt, Instr.sureAddr, hu], hru⟩

theorem Does_load_rp {T : Nat → Option TD} (hT : TabOK P T) {o : Oper} {t : TypeId} {x : Operand} (ho : o.op = .load t x) {d : TD} (ht : T t = some d) {ev : Operand → Val} {cs : List Val} (hx : ev x = .rp cs)
    {r : Val} (hr : vload d cs 0 = some r) {fid : Option Nat} {ob : Ob} {nid : Nat} : Does P G o ev fid ob nid ⟨r, none, none⟩ :=
  Does.quiet fun V D w H ρ hrel hv hf => by
    have h1 := hv x (by simp [ho, Op.operands]); rw [hx] at h1
    generalize hq : ρ x = v at h1
    cases h1
    rename_i hs hw hl hp
    obtain ⟨u, hu, hru⟩ := run_vload hT ht hw hl hp hr
    rw [Nat.add_zero] at hu
    exact ⟨u, by simp [execOp, ho, hq, Instr.loadAt, Instr.sureAddr, hu], hru⟩

theorem Does_load_ep {T : Nat → Option TD} (hT : TabOK P T) {o : Oper} {t : TypeId} {x : Operand} (ho : o.op = .load t x) {d : TD} (ht : T t = some d) {ev : Operand → Val} {id sz i j : Nat} (hx : ev x = .ep id sz i j)
    {e : Nat} {xs : List (List Val)} {el : List Val} (hel : xs[i]? = some el) {r : Val} (hr : vload d el j = some r) {nid : Nat} : Does P G o ev (some id) (.arr e sz xs) nid ⟨r, none, none⟩ :=
  Does.quiet fun V D w H ρ hrel hv hf => by
    have h1 := hv x (by simp [ho, Op.operands]); rw [hx] at h1
    have hH := hf id rfl
    generalize hq : ρ x = v at h1
    cases h1
    rename_i b hi hb
    have hobj := hrel.obj id hi
    rw [hH] at hobj
    have hlt : i < xs.length := (List.getElem?_eq_some_iff.1 hel).1
    rcases hobj with ⟨e0, _⟩ | ⟨b', ar, e1, e2, e3, e4, e5⟩
    · rw [e0] at hlt; simp at hlt
    rw [hb] at e1; cases e1
    have hsz : el.length = sz := e5.2.1 el (List.mem_of_getElem? hel)
    have hmul : i * sz + sz ≤ xs.length * sz := by
      have : (i + 1) * sz ≤ xs.length * sz := Nat.mul_le_mul_right sz hlt
      rw [Nat.add_mul] at this; omega
    obtain ⟨u, hu, hru⟩ := run_vload hT ht (base := i * sz) (cs := el) (o := j) e2 (by have := e5.1; omega) (fun k e v h1 h2 => e5.2.2.2 i el k e v hel h1 (by simpa using h2)) hr
    exact ⟨u, by simp [execOp, ho, hq, Instr.loadAt, Instr.sureAddr, hu], hru⟩

/-! ### What turns the heap -/
def View.bind (V : View) (nid : Nat) (b : Option Nat) (c : Nat) : View :=
  { at_ := fun i => if i = nid then b else V.at_ i, cap := fun i => if i = nid then c else V.cap i, sh := V.sh }
def View.share (V : View) (b : Nat) : View := { V with sh := fun k => V.sh k ∨ k = b }

/-- One block has turned, nothing else. -/
structure Only (w w' : World) (b : Nat) : Prop where
  size : w'.heap.size = w.heap.size
  os : w'.os = w.os
  tape : w'.tape = w.tape
  output : w'.output = w.output
  same : ∀ k, k ≠ b → w'.heap[k]? = w.heap[k]?

theorem RV.only {V : View} {D : Nat → Prop} {w w' : World} {b : Nat} (h : Only w w' b) (hb : ¬ V.sh b) {d : Val} {v : Value} (hr : RV V D w d v) : RV V D w' d v :=
  hr.mono (fun _ h => h) (fun _ _ => rfl) (fun _ _ => rfl) (fun _ h => h) (fun k hk => h.same k (fun e => hb (e ▸ hk)))

/-- One live object gets other content. -/
theorem RelF.put {V : View} {D : Nat → Prop} {w w' : World} {H : Nat → Ob} (hr : RelF G V w D H) {id b : Nat} (hl : (H id).live = true) (hb : V.at_ id = some b) (hw : Only w w' b) {o : Ob}
    (ho : RO V D w' id o) : RelF G V w' D (fun i => if i = id then o else H i) ∧ Step V w D H V w' (fun i => if i = id then o else H i) := by
  have hnb : ¬ V.sh b := hr.apart id b hl hb
  have hlive : ∀ i, (if i = id then o else H i).live = true → (H i).live = true := by
    intro i h; split at h
    · rename_i e; rw [e]; exact hl
    · exact h
  refine ⟨⟨?_, ?_, ?_, ?_, ?_, ?_, fun g o hg => ⟨(hw.same g (fun e => hnb (e ▸ (hr.gl g o hg).2))).trans (hr.gl g o hg).1, (hr.gl g o hg).2⟩⟩, ⟨fun _ _ => rfl, fun _ _ => rfl, fun _ h => h, fun _ h _ => .inl h, by rw [hw.size]; exact Nat.le_refl _, hw.os, hw.tape, hw.output, ?_, ?_⟩⟩
  · intro i hi
    by_cases e : i = id
    · subst e; simpa using ho
    · simp only [e, if_false]
      refine (hr.obj i hi).mono (fun _ h => h) (fun _ _ => rfl) (fun _ _ => rfl) (fun _ h => h) (fun k hk => hw.same k (fun e => hnb (e ▸ hk))) hi ?_
      intro hli b' hb'
      exact hw.same b' (fun e' => e (hr.inj i id b hli hl (e' ▸ hb') hb))
  · intro i hi
    by_cases e : i = id
    · exact absurd (e ▸ hr.dom hl) hi
    · simp only [e, if_false]; exact hr.dead i hi
  · intro i j b' hi hj; exact hr.inj i j b' (hlive i hi) (hlive j hj)
  · intro i b' hi; exact hr.apart i b' (hlive i hi)
  · intro i b' hi h; rw [hw.size]; exact hr.lt i b' (hlive i hi) h
  · intro k hk; rw [hw.size]; exact hr.shlt k hk
  · intro k hk hno; exact hw.same k (fun e => hno id hl (e ▸ hb))
  · intro i b' hi h _; exact ⟨i, hlive i hi, h⟩

/-- A new object in a new block. -/
theorem RelF.new {V : View} {D : Nat → Prop} {w : World} {H : Nat → Ob} (hr : RelF G V w D H) {nid : Nat} (hn : ¬ D nid) (c : Nat) (ob : Obj) {o : Ob} 
    (ho : RO (V.bind nid (some w.heap.size) c) (fun i => D i ∨ i = nid) (w.alloc ob) nid o) :
    RelF G (V.bind nid (some w.heap.size) c) (w.alloc ob) (fun i => D i ∨ i = nid) (fun i => if i = nid then o else H i) ∧
      Step V w D H (V.bind nid (some w.heap.size) c) (w.alloc ob) (fun i => if i = nid then o else H i) := by
  have hd : (H nid) = .gone := hr.dead nid hn
  have hat : ∀ i, D i → (V.bind nid (some w.heap.size) c).at_ i = V.at_ i := by
    intro i hi; simp only [View.bind]; rw [if_neg (by intro e; exact hn (by rw [← e]; exact hi))]
  have hcap : ∀ i, D i → (V.bind nid (some w.heap.size) c).cap i = V.cap i := by
    intro i hi; simp only [View.bind]; rw [if_neg (by intro e; exact hn (by rw [← e]; exact hi))]
  have hheap : ∀ k, k < w.heap.size → (w.alloc ob).heap[k]? = w.heap[k]? := fun k hk => Below.heap_alloc w ob k hk
  have hlt : ∀ i b, (H i).live = true → V.at_ i = some b → b ≠ w.heap.size := fun i b h1 h2 => Nat.ne_of_lt (hr.lt i b h1 h2)
  have hlive : ∀ i, i ≠ nid → (if i = nid then o else H i).live = true → (H i).live = true ∧ D i := by
    intro i hne h; simp only [hne, if_false] at h; exact ⟨h, hr.dom h⟩
  refine ⟨⟨?_, ?_, ?_, ?_, ?_, ?_, fun g o hg => ⟨(hheap g (hr.shlt g (hr.gl g o hg).2)).trans (hr.gl g o hg).1, (hr.gl g o hg).2⟩⟩, ⟨hat, hcap, fun _ h => h, fun _ h _ => .inl h, by simp, rfl, rfl, rfl, fun k hk _ => hheap k hk, ?_⟩⟩
  · intro i hi
    by_cases e : i = nid
    · subst e; simpa using ho
    · have hDi : D i := hi.resolve_right e
      simp only [e, if_false]
      exact (hr.obj i hDi).mono (fun _ h => .inl h) hat hcap (fun _ h => h) (fun k hk => hheap k (hr.shlt k hk)) hDi (fun hli b hb => hheap b (hr.lt i b hli hb))
  · intro i hi
    have e : i ≠ nid := fun e => hi (.inr e)
    simp only [e, if_false]; exact hr.dead i (fun h => hi (.inl h))
  · intro i j b hi hj h1 h2
    by_cases ei : i = nid <;> by_cases ej : j = nid
    · rw [ei, ej]
    · exfalso
      obtain ⟨lj, dj⟩ := hlive j ej hj
      rw [hat j dj] at h2
      simp only [View.bind, ei, if_true] at h1; cases h1
      exact hlt j _ lj h2 rfl
    · exfalso
      obtain ⟨li, di⟩ := hlive i ei hi
      rw [hat i di] at h1
      simp only [View.bind, ej, if_true] at h2; cases h2
      exact hlt i _ li h1 rfl
    · obtain ⟨li, di⟩ := hlive i ei hi
      obtain ⟨lj, dj⟩ := hlive j ej hj
      rw [hat i di] at h1; rw [hat j dj] at h2
      exact hr.inj i j b li lj h1 h2
  · intro i b hi h1 hs
    by_cases ei : i = nid
    · simp only [View.bind, ei, if_true] at h1; cases h1
      exact Nat.lt_irrefl _ (hr.shlt _ hs)
    · obtain ⟨li, di⟩ := hlive i ei hi
      rw [hat i di] at h1
      exact hr.apart i b li h1 hs
  · intro i b hi h1
    by_cases ei : i = nid
    · simp only [View.bind, ei, if_true] at h1; cases h1; simp
    · obtain ⟨li, di⟩ := hlive i ei hi
      rw [hat i di] at h1
      have := hr.lt i b li h1
      simp; omega
  · intro k hk; have := hr.shlt k hk; simp; omega
  · intro i b hi h1 hb
    by_cases ei : i = nid
    · simp only [View.bind, ei, if_true] at h1; cases h1
      exact absurd hb (Nat.lt_irrefl _)
    · obtain ⟨li, di⟩ := hlive i ei hi
      rw [hat i di] at h1
      exact ⟨i, li, h1⟩

theorem RV.D_mono {V : View} {D D' : Nat → Prop} {w : World} (h : ∀ i, D i → D' i) {d : Val} {v : Value} (hr : RV V D w d v) : RV V D' w d v :=
  hr.mono h (fun _ _ => rfl) (fun _ _ => rfl) (fun _ h => h) (fun _ _ => rfl)

/-- Old readings beside a new block. -/
theorem RV.new {V : View} {D : Nat → Prop} {w : World} {H : Nat → Ob} (hr : RelF G V w D H) {nid : Nat} (hn : ¬ D nid) {b : Option Nat} {c : Nat} {ob : Obj} {d : Val} {v : Value} (h : RV V D w d v) :
    RV (V.bind nid b c) (fun i => D i ∨ i = nid) (w.alloc ob) d v :=
  RV.mono (V := V) (V' := V.bind nid b c) (n' := fun i => D i ∨ i = nid) (fun _ h => Or.inl h) (by intro i hi; simp only [View.bind]; rw [if_neg (by intro e; exact hn (by rw [← e]; exact hi))])
    (by intro i hi; simp only [View.bind]; rw [if_neg (by intro e; exact hn (by rw [← e]; exact hi))]) (fun _ h => h) (fun k hk => Below.heap_alloc w ob k (hr.shlt k hk)) h

theorem heap_new (w : World) (o : Obj) : (w.alloc o).heap[w.heap.size]? = some o := by unfold World.alloc; simp

theorem addD_new {ef : Ef} {o : Ob} (h : ef.nw = some o) (D : Nat → Prop) (nid : Nat) : ef.addD D nid = fun i => D i ∨ i = nid := by
  funext i; simp [Ef.addD, h]
theorem updH_new {ef : Ef} {o : Ob} (h : ef.nw = some o) (hu : ef.up = none) (H : Nat → Ob) (fid : Option Nat) (nid : Nat) : ef.updH H fid nid = fun i => if i = nid then o else H i := by
  funext i; simp [Ef.updH, h, hu]
theorem addD_old {ef : Ef} (h : ef.nw = none) (D : Nat → Prop) (nid : Nat) : ef.addD D nid = D := by
  funext i; simp [Ef.addD, h]
theorem updH_up {ef : Ef} {o : Ob} (h : ef.nw = none) (hu : ef.up = some o) (H : Nat → Ob) (id nid : Nat) : ef.updH H (some id) nid = fun i => if i = id then o else H i := by
  funext i; simp only [Ef.updH, h, hu, Option.some.injEq, Option.getD_some]
  by_cases e : i = id
  · simp [e]
  · simp [e, Ne.symm e]

theorem vcells_spec {V : View} {D : Nat → Prop} {w : World} {x : Val} {v : Value} {cs : List Val} (h : RV V D w x v) (hc : vcells x = some cs) : RCs V D w cs v.cells := by
  cases h <;> simp only [vcells] at hc <;> (try (cases hc; done))
  case agg hl hp => cases hc; exact ⟨hl, hp⟩
  case c =>
    split at hc
    · cases hc
      rename_i ho
      refine ⟨?_, ?_⟩
      · cases v <;> simp_all [Value.cells, oneC]
      · intro i d u h1 h2
        have : v.cells = #[v] := by cases v <;> simp_all [Value.cells, oneC]
        rw [this] at h2
        cases i with
        | zero => simp at h1 h2; subst h1; subst h2; exact .c _
        | succ i => simp at h1
    · cases hc
  all_goals
    cases hc
    refine ⟨rfl, ?_⟩
    intro i d u h1 h2
    cases i with
    | zero =>
      simp [Value.cells] at h1 h2; subst h1; subst h2
      first | exact .ptr ‹_› ‹_› | exact .ep ‹_› ‹_› | exact .rp ‹_› ‹_› ‹_› ‹_› | exact .os ‹_› ‹_› | exact .osNil ‹_› ‹_› | exact .slNil | exact .sl ‹_› ‹_› ‹_› ‹_› ‹_› ‹_› ‹_› | exact .fn ‹_› ‹_› | exact .yld ‹_› ‹_› | exact .mp ‹_› ‹_›
    | succ i => simp at h1

theorem one_all {V : View} {D : Nat → Prop} {w : World} {cs : List Val} {ar : Array Value} (h : RCs V D w cs ar) (h1 : cs.all one1 = true) : ∀ (i : Nat) (v : Value), ar[i]? = some v → oneC v = true := by
  intro i v hv
  have hi : i < ar.size := (Array.getElem?_eq_some_iff.1 hv).1
  have hl : i < cs.length := by rw [h.1]; exact hi
  have hc : cs[i]? = some cs[i] := List.getElem?_eq_getElem hl
  exact one1_spec (h.2 i _ v hc hv) (List.all_eq_true.1 h1 _ (List.getElem_mem _))

theorem Does_new {o : Oper} {ev : Operand → Val} {fid : Option Nat} {ob : Ob} {nid : Nat} {r : Val} {nb : Ob} (c : Nat)
    (h : ∀ (V : View) (D : Nat → Prop) (w : World) (H : Nat → Ob) (ρ : Operand → Value), RelF G V w D H → (∀ x, x ∈ o.op.operands → RV V D w (ev x) (ρ x)) →
      (∀ id, fid = some id → H id = ob) → ∃ x bo, (execOp ρ o).run P w = .ok (.value x) (w.alloc bo) ∧
        (¬ D nid → RO (V.bind nid (some w.heap.size) c) (fun i => D i ∨ i = nid) (w.alloc bo) nid nb ∧ RV (V.bind nid (some w.heap.size) c) (fun i => D i ∨ i = nid) (w.alloc bo) r x)) :
    Does P G o ev fid ob nid ⟨r, none, some nb⟩ := by
  intro V D w H ρ hr hv hf hn
  obtain ⟨x, bo, h1, h2⟩ := h V D w H ρ hr hv hf
  obtain ⟨h3, h4⟩ := h2 hn
  obtain ⟨k1, k2⟩ := hr.new hn c bo h3
  rw [addD_new rfl, updH_new rfl rfl]
  exact ⟨x, _, _, .inl h1, k1, k2, h4⟩

theorem Does_alloc {T : Nat → Option TD} (hT : TabOK P T) {o : Oper} {t : TypeId} (ho : o.op = .alloc t) {d : TD} (ht : T t = some d) (h1 : d.zero.all oneC = true) {ev : Operand → Val}
    {fid : Option Nat} {ob : Ob} {nid : Nat} : Does P G o ev fid ob nid ⟨.ptr nid 0, none, some (.blk (d.zero.map .c))⟩ :=
  Does_new 0 fun V D w H ρ hr _ _ => by
    obtain ⟨z, hz, hzl⟩ := hT.zeroV ht w
    refine ⟨.pointer (some ⟨w.heap.size, 0, none⟩), .cells z.cells t, by simp [execOp, ho, Instr.alloc, hz, newVar, newRow], ?_⟩
    intro hn
    refine ⟨⟨w.heap.size, z.cells, t, by simp [View.bind], heap_new w _, ⟨by rw [← hzl]; simp, ?_⟩, ?_⟩, .ptr (.inr rfl) (by simp [View.bind])⟩
    · intro i e v hi hv
      rw [← hzl, List.getElem?_map] at hi
      simp [hv] at hi
      subst hi; exact .c _
    · intro i v hv
      refine List.all_eq_true.1 h1 v ?_
      rw [← hzl]; exact List.mem_of_getElem? (i := i) (by simpa using hv)

theorem Does_box {o : Oper} {t : TypeId} {x : Operand} (ho : o.op = .box t x) {ev : Operand → Val} {cs : List Val} (hc : vcells (ev x) = some cs) (h1 : cs.all one1 = true)
    {fid : Option Nat} {ob : Ob} {nid : Nat} : Does P G o ev fid ob nid ⟨.ptr nid 0, none, some (.blk cs)⟩ :=
  Does_new 0 fun V D w H ρ hr hv _ => by
    have hx := hv x (by simp [ho, Op.operands])
    have hcs := vcells_spec hx hc
    refine ⟨.pointer (some ⟨w.heap.size, 0, none⟩), .cells (ρ x).cells t, by simp [execOp, ho, Instr.box, newVar, newRow], ?_⟩
    intro hn
    refine ⟨⟨w.heap.size, (ρ x).cells, t, by simp [View.bind], heap_new w _, ⟨hcs.1, fun i e v hi hv => (hcs.2 i e v hi hv).new hr hn⟩, one_all hcs h1⟩, .ptr (.inr rfl) (by simp [View.bind])⟩

end Go.Vm
/- Operations that write, grow and index, over values without addresses. -/
namespace Go.Vm
open Go Go.RowKit
variable {P : Program} {G : List (Nat × Obj)}

def splice (cs : List Val) (o : Nat) (es : List Val) : List Val := cs.take o ++ es ++ cs.drop (o + es.length)

theorem only_setRow {w : World} {b : Nat} {ar cs : Array Value} {T : TypeId} {fr : Nat × Nat} : Only w (w.setRow b cs) b :=
  ⟨by simp [World.setRow], rfl, rfl, rfl, fun k hk => setRow_other w b k cs hk⟩

theorem get_splice (cs es : List Val) (o i : Nat) (h : o + es.length ≤ cs.length) : (splice cs o es)[i]? = if i < o then cs[i]? else if i < o + es.length then es[i - o]? else cs[i]? := by
  unfold splice
  rw [List.append_assoc, List.getElem?_append, List.length_take, Nat.min_eq_left (by omega)]
  split
  · rw [List.getElem?_take]; simp [*]
  · rw [List.getElem?_append]
    split
    · rw [if_pos (by omega)]
    · rw [if_neg (by omega), List.getElem?_drop]; congr 1; omega

theorem get_spliceV (cs es : List Value) (o i : Nat) (h : o + es.length ≤ cs.length) : (cs.take o ++ es ++ cs.drop (o + es.length))[i]? = if i < o then cs[i]? else if i < o + es.length then es[i - o]? else cs[i]? := by
  rw [List.append_assoc, List.getElem?_append, List.length_take, Nat.min_eq_left (by omega)]
  split
  · rw [List.getElem?_take]; simp [*]
  · rw [List.getElem?_append]
    split
    · rw [if_pos (by omega)]
    · rw [if_neg (by omega), List.getElem?_drop]; congr 1; omega

theorem length_splice (cs es : List Val) (o : Nat) (h : o + es.length ≤ cs.length) : (splice cs o es).length = cs.length := by
  simp [splice]; omega

theorem oneC_one {v : Value} (h : oneC v = true) : v.oneCell' = true := by cases v <;> simp_all [oneC, Value.oneCell']

/-- What a store does to a block, cell by cell. -/
theorem run_store_at {T : Nat → Option TD} (hT : TabOK P T) {t : TypeId} {d : TD} (ht : T t = some d) {w : World} {b o : Nat} {ar : Array Value} {T' : TypeId} (h : w.heap[b]? = some (.cells ar T' (0, 0)))
    {v : Value} (hs : v.cells.size = d.size) (h1 : ∀ u, u ∈ v.cells → oneC u = true) (hl : o + v.cells.size ≤ ar.size) :
    ∃ w' ar', (storeVar t ⟨b, o, none⟩ v).run P w = .ok () w' ∧ Only w w' b ∧ w'.heap[b]? = some (.cells ar' T' (0, 0)) ∧ ar'.size = ar.size ∧
      ∀ i, ar'[i]? = if i < o then ar[i]? else if i < o + v.cells.size then v.cells[i - o]? else ar[i]? := by
  have hst := run_storeCells_at (P := P) b o T' v.cells.toList 0 ar w h (by simpa using hl) (fun u hu => oneC_one (h1 u (by simpa using hu)))
  refine ⟨w.setRow b (ar.toList.take (o + 0) ++ v.cells.toList ++ ar.toList.drop (o + 0 + v.cells.toList.length)).toArray, (ar.toList.take (o + 0) ++ v.cells.toList ++ ar.toList.drop (o + 0 + v.cells.toList.length)).toArray, ?_, only_setRow (ar := ar) (T := T') (fr := (0, 0)), setRow_heap w b ar _ T' (0, 0) h, ?_, ?_⟩
  · simp only [storeVar, Sem.run_bind, hT.size ht, Result.andThen_ok, hs, ne_eq, not_true_eq_false, if_false]
    exact hst
  · simp; omega
  · intro i
    have := get_spliceV ar.toList v.cells.toList o i (by simpa using hl)
    simp only [Nat.add_zero]
    rw [List.getElem?_toArray, this]
    simp

theorem Does_store_blk {T : Nat → Option TD} (hT : TabOK P T) {o : Oper} {t : TypeId} {x y : Operand} (ho : o.op = .store t x y) {d : TD} (ht : T t = some d) {ev : Operand → Val} {id off : Nat} (hx : ev x = .ptr id off)
    {es : List Val} (hy : vcells (ev y) = some es) (h1 : es.all one1 = true) (hs : es.length = d.size) {cs : List Val} (hl : off + es.length ≤ cs.length) {nid : Nat} :
    Does P G o ev (some id) (.blk cs) nid ⟨.any, some (.blk (splice cs off es)), none⟩ := by
  intro V D w H ρ hrel hv hf hn
  have hX := hv x (by simp [ho, Op.operands]); rw [hx] at hX
  have hY := hv y (by simp [ho, Op.operands])
  have hH := hf id rfl
  have hE := vcells_spec hY hy
  generalize hq : ρ x = vx at hX
  cases hX
  rename_i b hi hb
  have hobj := hrel.obj id hi
  rw [hH] at hobj
  obtain ⟨b', ar, T', e1, e2, e3, e4⟩ := hobj
  rw [hb] at e1; cases e1
  obtain ⟨w', ar', r1, r2, r3, r4, r5⟩ := run_store_at hT ht (o := off) (v := ρ y) e2 (by rw [← hE.1]; exact hs) (fun u hu => by
    obtain ⟨i, hi, hiu⟩ := Array.getElem_of_mem hu
    exact one_all hE h1 i u (by rw [Array.getElem?_eq_getElem hi, hiu])) (by rw [← hE.1, ← e3.1]; exact hl)
  have hnb : ¬ V.sh b := hrel.apart id b (by rw [hH]; rfl) hb
  have hRO : RO V D w' id (.blk (splice cs off es)) := by
    refine ⟨b, ar', T', hb, r3, ⟨by rw [length_splice _ _ _ hl, e3.1, r4], ?_⟩, ?_⟩
    · intro i e v hi hv
      rw [get_splice _ _ _ _ hl] at hi
      rw [r5, ← hE.1] at hv
      by_cases c1 : i < off
      · simp only [c1, if_true] at hi hv; exact (e3.2 i e v hi hv).only r2 hnb
      · by_cases c2 : i < off + es.length
        · simp only [c1, c2, if_true, if_false] at hi hv; exact (hE.2 _ e v hi hv).only r2 hnb
        · simp only [c1, c2, if_false] at hi hv; exact (e3.2 i e v hi hv).only r2 hnb
    · intro i v hv
      rw [r5] at hv
      split at hv
      · exact e4 i v hv
      · split at hv
        · exact one_all hE h1 _ v hv
        · exact e4 i v hv
  obtain ⟨k1, k2⟩ := hrel.put (id := id) (b := b) (by rw [hH]; rfl) hb r2 hRO
  rw [addD_old rfl, updH_up rfl rfl]
  exact ⟨undef, w', V, .inr ⟨by simp [execOp, ho, hq, Instr.storeAt, Instr.sureAddr, r1], rfl⟩, k1, k2, .any _⟩

theorem Does_store_ep {T : Nat → Option TD} (hT : TabOK P T) {o : Oper} {t : TypeId} {x y : Operand} (ho : o.op = .store t x y) {d : TD} (ht : T t = some d) {ev : Operand → Val} {id sz i j : Nat} (hx : ev x = .ep id sz i j)
    {es : List Val} (hy : vcells (ev y) = some es) (h1 : es.all one1 = true) (hs : es.length = d.size) {e : Nat} {xs : List (List Val)} {el : List Val} (hel : xs[i]? = some el) (hl : j + es.length ≤ el.length) {nid : Nat} :
    Does P G o ev (some id) (.arr e sz xs) nid ⟨.any, some (.arr e sz (xs.set i (splice el j es))), none⟩ := by
  intro V D w H ρ hrel hv hf hn
  have hX := hv x (by simp [ho, Op.operands]); rw [hx] at hX
  have hY := hv y (by simp [ho, Op.operands])
  have hH := hf id rfl
  have hE := vcells_spec hY hy
  generalize hq : ρ x = vx at hX
  cases hX
  rename_i b hi hb
  have hobj := hrel.obj id hi
  rw [hH] at hobj
  have hlt : i < xs.length := (List.getElem?_eq_some_iff.1 hel).1
  rcases hobj with ⟨e0, _⟩ | ⟨b', ar, e1, e2, e3, e4, e5⟩
  · rw [e0] at hlt; simp at hlt
  rw [hb] at e1; cases e1
  have hsz : el.length = sz := e5.2.1 el (List.mem_of_getElem? hel)
  have hmul : i * sz + sz ≤ xs.length * sz := by
    have : (i + 1) * sz ≤ xs.length * sz := Nat.mul_le_mul_right sz hlt
    rw [Nat.add_mul] at this; omega
  have hfit := e5.1
  obtain ⟨w', ar', r1, r2, r3, r4, r5⟩ := run_store_at hT ht (o := i * sz + j) (v := ρ y) e2 (by rw [← hE.1]; exact hs) (fun u hu => by
    obtain ⟨i, hi, hiu⟩ := Array.getElem_of_mem hu
    exact one_all hE h1 i u (by rw [Array.getElem?_eq_getElem hi, hiu])) (by rw [← hE.1]; omega)
  have hnb : ¬ V.sh b := hrel.apart id b (by rw [hH]; rfl) hb
  have hRO : RO V D w' id (.arr e sz (xs.set i (splice el j es))) := by
    refine .inr ⟨b, ar', hb, r3, by rw [r4]; exact e3, by simpa using e4, ⟨by simpa [r4] using e5.1, ?_, ?_, ?_⟩⟩
    · intro x hx'
      rcases List.mem_or_eq_of_mem_set hx' with h | h
      · exact e5.2.1 x h
      · rw [h, length_splice _ _ _ hl]; exact hsz
    · intro k v h0 hk hv
      rw [List.length_set] at hk
      rw [r5] at hv
      split at hv
      · exact e5.2.2.1 k v h0 hk hv
      · split at hv
        · exact one_all hE h1 _ v hv
        · exact e5.2.2.1 k v h0 hk hv
    · intro a z k e v ha hz hv
      rw [Nat.zero_add] at hv
      rw [r5, ← hE.1] at hv
      have hkl : k < z.length := (List.getElem?_eq_some_iff.1 hz).1
      by_cases ea : a = i
      · subst ea
        rw [List.getElem?_set_self hlt] at ha; cases ha
        rw [length_splice _ _ _ hl] at hkl
        rw [get_splice _ _ _ _ hl] at hz
        by_cases c1 : k < j
        · rw [if_pos c1] at hz; rw [if_pos (by omega)] at hv; exact (e5.2.2.2 a el k e v hel hz (by simpa using hv)).only r2 hnb
        · by_cases c2 : k < j + es.length
          · rw [if_neg c1, if_pos c2] at hz; rw [if_neg (by omega), if_pos (by omega)] at hv
            exact (hE.2 _ e v hz (by rw [← hv]; congr 1; omega)).only r2 hnb
          · rw [if_neg c1, if_neg c2] at hz; rw [if_neg (by omega), if_neg (by omega)] at hv
            exact (e5.2.2.2 a el k e v hel hz (by simpa using hv)).only r2 hnb
      · rw [List.getElem?_set_ne (Ne.symm ea)] at ha
        have hzs : z.length = sz := e5.2.1 z (List.mem_of_getElem? ha)
        have hne : ¬ (¬ a * sz + k < i * sz + j ∧ a * sz + k < i * sz + j + es.length) := by
          rintro ⟨h3, h4⟩
          rcases Nat.lt_or_gt_of_ne ea with h | h
          · have : (a + 1) * sz ≤ i * sz := Nat.mul_le_mul_right sz h
            rw [Nat.add_mul] at this; omega
          · have : (i + 1) * sz ≤ a * sz := Nat.mul_le_mul_right sz h
            rw [Nat.add_mul] at this; omega
        have : ar[a * sz + k]? = some v := by
          split at hv
          · exact hv
          · rename_i h3
            split at hv
            · rename_i h4; exact absurd ⟨h3, h4⟩ hne
            · exact hv
        exact (e5.2.2.2 a z k e v ha hz (by simpa using this)).only r2 hnb
  obtain ⟨k1, k2⟩ := hrel.put (id := id) (b := b) (by rw [hH]; rfl) hb r2 hRO
  rw [addD_old rfl, updH_up rfl rfl]
  exact ⟨undef, w', V, .inr ⟨by simp [execOp, ho, hq, Instr.storeAt, Instr.sureAddr, r1], rfl⟩, k1, k2, .any _⟩

/-! ### Growing -/
theorem RelF.kill {V : View} {D : Nat → Prop} {w : World} {H : Nat → Ob} (hr : RelF G V w D H) (id : Nat) : RelF G V w D (fun i => if i = id then .gone else H i) ∧
    Step V w D H V w (fun i => if i = id then .gone else H i) := by
  have hl : ∀ i, (if i = id then Ob.gone else H i).live = true → (H i).live = true := by
    intro i h; split at h
    · simp [Ob.live] at h
    · exact h
  refine ⟨⟨?_, ?_, ?_, ?_, ?_, hr.shlt, hr.gl⟩, ⟨fun _ _ => rfl, fun _ _ => rfl, fun _ h => h, fun _ h _ => .inl h, Nat.le_refl _, rfl, rfl, rfl, fun _ _ _ => rfl, fun i b h1 h2 _ => ⟨i, hl i h1, h2⟩⟩⟩
  · intro i hi
    by_cases e : i = id
    · simp only [e, if_true]; trivial
    · simp only [e, if_false]; exact hr.obj i hi
  · intro i hi
    by_cases e : i = id
    · simp only [e, if_true]
    · simp only [e, if_false]; exact hr.dead i hi
  · intro i j b hi hj; exact hr.inj i j b (hl i hi) (hl j hj)
  · intro i b hi; exact hr.apart i b (hl i hi)
  · intro i b hi; exact hr.lt i b (hl i hi)

/-- A new object in a block that is nobody's, or in none. -/
theorem RelF.bind {V : View} {D : Nat → Prop} {w : World} {H : Nat → Ob} (hr : RelF G V w D H) {nid : Nat} (hn : ¬ D nid) (b : Option Nat) (c : Nat) {o : Ob}
    (hb : ∀ k, b = some k → k < w.heap.size ∧ ¬ V.sh k ∧ ∀ i, (H i).live = true → V.at_ i ≠ some k)
    (ho : RO (V.bind nid b c) (fun i => D i ∨ i = nid) w nid o) : RelF G (V.bind nid b c) w (fun i => D i ∨ i = nid) (fun i => if i = nid then o else H i) := by
  have hat : ∀ i, D i → (V.bind nid b c).at_ i = V.at_ i := by
    intro i hi; simp only [View.bind]; rw [if_neg (by intro e; exact hn (by rw [← e]; exact hi))]
  have hcap : ∀ i, D i → (V.bind nid b c).cap i = V.cap i := by
    intro i hi; simp only [View.bind]; rw [if_neg (by intro e; exact hn (by rw [← e]; exact hi))]
  have hlive : ∀ i, i ≠ nid → (if i = nid then o else H i).live = true → (H i).live = true ∧ D i := by
    intro i hne h; simp only [hne, if_false] at h; exact ⟨h, hr.dom h⟩
  have hnid : (V.bind nid b c).at_ nid = b := by simp [View.bind]
  refine ⟨?_, ?_, ?_, ?_, ?_, hr.shlt, hr.gl⟩
  · intro i hi
    by_cases e : i = nid
    · subst e; simpa using ho
    · have hDi : D i := hi.resolve_right e
      simp only [e, if_false]
      exact (hr.obj i hDi).mono (fun _ h => .inl h) hat hcap (fun _ h => h) (fun k hk => rfl) hDi (fun hli b hb => rfl)
  · intro i hi
    have e : i ≠ nid := fun e => hi (.inr e)
    simp only [e, if_false]; exact hr.dead i (fun h => hi (.inl h))
  · intro i j k hi hj h1 h2
    by_cases ei : i = nid <;> by_cases ej : j = nid
    · rw [ei, ej]
    · exfalso
      obtain ⟨lj, dj⟩ := hlive j ej hj
      rw [hat j dj] at h2
      rw [ei, hnid] at h1
      exact (hb k h1).2.2 j lj h2
    · exfalso
      obtain ⟨li, di⟩ := hlive i ei hi
      rw [hat i di] at h1
      rw [ej, hnid] at h2
      exact (hb k h2).2.2 i li h1
    · obtain ⟨li, di⟩ := hlive i ei hi
      obtain ⟨lj, dj⟩ := hlive j ej hj
      rw [hat i di] at h1; rw [hat j dj] at h2
      exact hr.inj i j k li lj h1 h2
  · intro i k hi h1 hs
    by_cases ei : i = nid
    · rw [ei, hnid] at h1; exact (hb k h1).2.1 hs
    · obtain ⟨li, di⟩ := hlive i ei hi
      rw [hat i di] at h1
      exact hr.apart i k li h1 hs
  · intro i k hi h1
    by_cases ei : i = nid
    · rw [ei, hnid] at h1; exact (hb k h1).1
    · obtain ⟨li, di⟩ := hlive i ei hi
      rw [hat i di] at h1
      exact hr.lt i k li h1

theorem RV.bind {V : View} {D : Nat → Prop} {w : World} {nid : Nat} (hn : ¬ D nid) {b : Option Nat} {c : Nat} {d : Val} {v : Value} (h : RV V D w d v) :
    RV (V.bind nid b c) (fun i => D i ∨ i = nid) w d v :=
  RV.mono (V := V) (V' := V.bind nid b c) (n' := fun i => D i ∨ i = nid) (fun _ h => Or.inl h) (by intro i hi; simp only [View.bind]; rw [if_neg (by intro e; exact hn (by rw [← e]; exact hi))])
    (by intro i hi; simp only [View.bind]; rw [if_neg (by intro e; exact hn (by rw [← e]; exact hi))]) (fun _ h => h) (fun k hk => rfl) h

/-- The cells behind a slice that is read. -/
theorem RV.sl_cells {V : View} {D : Nat → Prop} {w : World} {ys : List (List Val)} {v : Value} {sz : Nat} (h : RV V D w (.sl sz ys) v) :
    (ys = [] ∧ v = .slice none 0 0) ∨ ∃ (a : Addr) (cap : Nat) (news : List Value), v = .slice (some a) ys.length cap ∧ news.length = ys.length * sz ∧ (∀ j u, news[j]? = some u → w.cell? (a.add j) = some u) ∧
      (∀ u, u ∈ news → oneC u = true) ∧ (∀ (i : Nat) (x : List Val) (j : Nat) (d : Val) (u : Value), ys[i]? = some x → x[j]? = some d → news[i * sz + j]? = some u → RV V D w d u) := by
  cases h
  case slNil => exact .inl ⟨rfl, rfl⟩
  case sl hk hh hc hf hl h1 hp =>
    rename_i k off cap ar T fr
    right
    have hg : ∀ j u, ((ar.toList.drop off).take (ys.length * sz))[j]? = some u → j < ys.length * sz ∧ ar[off + j]? = some u := by
      intro j u hj
      rw [List.getElem?_take] at hj
      split at hj
      · rename_i h; rw [List.getElem?_drop] at hj; exact ⟨h, by simpa using hj⟩
      · cases hj
    refine ⟨_, _, (ar.toList.drop off).take (ys.length * sz), rfl, by simp; omega, ?_, ?_, ?_⟩
    · intro j u hj
      rw [add_none, cell_of hh]; exact (hg j u hj).2
    · intro u hu
      obtain ⟨j, hj⟩ := List.getElem?_of_mem hu
      obtain ⟨h3, h4⟩ := hg j u hj
      exact h1 (off + j) u (by omega) (by omega) h4
    · intro i x j d u h3 h4 h5
      have := (hg _ u h5).2
      exact hp i x j d u h3 h4 (by rw [← this]; congr 1; omega)

theorem RV.sl_size {V : View} {D : Nat → Prop} {w : World} {ys : List (List Val)} {v : Value} {sz : Nat} (h : RV V D w (.sl sz ys) v) : ∀ x, x ∈ ys → x.length = sz := by
  cases h
  · simp
  · assumption

theorem RV.sl_len {V : View} {D : Nat → Prop} {w : World} {ys : List (List Val)} {v : Value} {sz : Nat} (h : RV V D w (.sl sz ys) v) : ∃ a cap, v = .slice a ys.length cap ∧ ys.length ≤ cap := by
  cases h
  · exact ⟨none, 0, rfl, Nat.le_refl _⟩
  · exact ⟨_, _, rfl, ‹_›⟩

/-- Rows behind one another, cell by cell. -/
theorem REs_append {V : View} {D : Nat → Prop} {w : World} {sz : Nat} {xs ys : List (List Val)} {ar : Array Value} {olds news rest : List Value} (hsz : ∀ x, x ∈ xs → x.length = sz) (hsz' : ∀ x, x ∈ ys → x.length = sz)
    (ha : ar.toList = olds ++ news ++ rest) (hlo : olds.length = xs.length * sz) (hln : news.length = ys.length * sz) (ho1 : ∀ u, u ∈ olds → oneC u = true) (hn1 : ∀ u, u ∈ news → oneC u = true)
    (ho : ∀ (i : Nat) (x : List Val) (j : Nat) (d : Val) (u : Value), xs[i]? = some x → x[j]? = some d → olds[i * sz + j]? = some u → RV V D w d u)
    (hn : ∀ (i : Nat) (x : List Val) (j : Nat) (d : Val) (u : Value), ys[i]? = some x → x[j]? = some d → news[i * sz + j]? = some u → RV V D w d u) : REs V D w sz 0 (xs ++ ys) ar := by
  have hlen : (xs ++ ys).length * sz = olds.length + news.length := by rw [List.length_append, Nat.add_mul, hlo, hln]
  have hget : ∀ j, ar[j]? = if j < olds.length then olds[j]? else if j < olds.length + news.length then news[j - olds.length]? else rest[j - olds.length - news.length]? := by
    intro j
    rw [← Array.getElem?_toList, ha, List.append_assoc, List.getElem?_append]
    split
    · rfl
    · rw [List.getElem?_append]
      split
      · rw [if_pos (by omega)]
      · rw [if_neg (by omega)]
  refine ⟨?_, ?_, ?_, ?_⟩
  · have : ar.size = olds.length + news.length + rest.length := by rw [← Array.length_toList, ha]; simp; omega
    omega
  · intro x hx
    rcases List.mem_append.1 hx with h | h
    · exact hsz x h
    · exact hsz' x h
  · intro j v _ hj hv
    rw [hget] at hv
    split at hv
    · exact ho1 v (List.mem_of_getElem? hv)
    · rw [if_pos (by omega)] at hv; exact hn1 v (List.mem_of_getElem? hv)
  · intro i x j d v hx hd hv
    rw [Nat.zero_add, hget] at hv
    rw [List.getElem?_append] at hx
    have hjl : j < x.length := (List.getElem?_eq_some_iff.1 hd).1
    by_cases hi : i < xs.length
    · rw [if_pos hi] at hx
      have hxl := hsz x (List.mem_of_getElem? hx)
      have : i * sz + sz ≤ xs.length * sz := by
        have : (i + 1) * sz ≤ xs.length * sz := Nat.mul_le_mul_right sz hi
        rw [Nat.add_mul] at this; omega
      rw [if_pos (by omega)] at hv
      exact ho i x j d v hx hd hv
    · rw [if_neg hi] at hx
      have hxl := hsz' x (List.mem_of_getElem? hx)
      have hk : i - xs.length < ys.length := (List.getElem?_eq_some_iff.1 hx).1
      have h2 : (i - xs.length) * sz + sz ≤ ys.length * sz := by
        have : (i - xs.length + 1) * sz ≤ ys.length * sz := Nat.mul_le_mul_right sz hk
        rw [Nat.add_mul] at this; omega
      have h3 : i * sz = xs.length * sz + (i - xs.length) * sz := by rw [← Nat.add_mul]; congr 1; omega
      rw [if_neg (by omega), if_pos (by omega)] at hv
      exact hn _ x j d v hx hd (by rw [← hv]; congr 1; omega)

end Go.Vm
/- append, make, and the words that only look. -/
namespace Go.Vm
open Go Go.RowKit
variable {P : Program} {G : List (Nat × Obj)}

def isSlice (d : TD) : Option TypeId :=
  match d.desc with
  | .slice e => some e
  | _ => none

theorem isSlice_spec {d : TD} {e : TypeId} (h : isSlice d = some e) : d.desc = .slice e := by
  unfold isSlice at h
  split at h
  · cases h; assumption
  · cases h

theorem run_append_op {o : Oper} {t : TypeId} {s x : Operand} (ho : o.op = .call { callee := .builtin .append, args := #[s, x], argTypes := #[t, t] }) {ρ : Operand → Value} {w w' : World} {v : Value}
    (h : (Builtin.append_ #[t, t] o.type #[ρ s, ρ x]).run P w = .ok v w') : (execOp ρ o).run P w = .ok (.value v) w' := by
  simp [execOp, ho, resolve, invoke, builtin, h]

/-- Nothing is appended: the slice stays. -/
theorem run_append_none {T : Nat → Option TD} (hT : TabOK P T) {t e : TypeId} {d de : TD} (ht : T t = some d) (he : isSlice d = some e) (hde : T e = some de) {ty : TypeId} {w : World} {a : Option Addr} {n cap : Nat} (hn : n ≤ cap) {v : Value}
    (hv : v = .slice none 0 0 ∨ ∃ b c, v = .slice (some b) 0 c) : (Builtin.append_ #[t, t] ty #[.slice a n cap, v]).run P w = .ok (.slice a n cap) w := by
  have hu := hT.under ht w
  rw [isSlice_spec he] at hu
  rcases hv with rfl | ⟨b, c, rfl⟩
  · simp [Builtin.append_, hu, hT.size hde, Builtin.lenOf, hn, Builtin.firstCells]
    cases a <;> simp [storeCells]
  · simp [Builtin.append_, hu, hT.size hde, Builtin.lenOf, hn, Builtin.firstCells, loadCells, loadCellsFrom]
    cases a <;> simp [storeCells]

theorem info_of {T : Nat → Option TD} (hT : TabOK P T) {t : Nat} {d : TD} (h : T t = some d) : ∃ i z, P.info? t = some i ∧ i.size = d.size ∧ i.bytes = d.bytes ∧ i.zero = some z ∧ z.cells.toList = d.zero := (hT t d h).2

/-- Growing into a new block. -/
theorem grown_new {V : View} {D : Nat → Prop} {w : World} {H : Nat → Ob} (hr : RelF G V w D H) {nid : Nat} (hn : ¬ D nid) {e sz : Nat} {xs ys : List (List Val)} {olds news rest : List Value} {cap : Nat}
    (hsz : ∀ x, x ∈ xs → x.length = sz) (hsz' : ∀ x, x ∈ ys → x.length = sz)
    (hlo : olds.length = xs.length * sz) (hln : news.length = ys.length * sz) (ho1 : ∀ u, u ∈ olds → oneC u = true) (hn1 : ∀ u, u ∈ news → oneC u = true)
    (ho : ∀ (i : Nat) (x : List Val) (j : Nat) (d : Val) (u : Value), xs[i]? = some x → x[j]? = some d → olds[i * sz + j]? = some u → RV V D w d u)
    (hw : ∀ (i : Nat) (x : List Val) (j : Nat) (d : Val) (u : Value), ys[i]? = some x → x[j]? = some d → news[i * sz + j]? = some u → RV V D w d u)
    (hc : xs.length + ys.length ≤ cap) {ar : Array Value} (har : ar.toList = olds ++ news ++ rest) (hcs : ar.size = cap * sz) :
    RelF G (V.bind nid (some w.heap.size) cap) (w.drew.alloc (.cells ar e)) (fun i => D i ∨ i = nid) (fun i => if i = nid then .arr e sz (xs ++ ys) else H i) ∧
      Step V w D H (V.bind nid (some w.heap.size) cap) (w.drew.alloc (.cells ar e)) (fun i => if i = nid then .arr e sz (xs ++ ys) else H i) := by
  have hrd : RelF G V w.drew D H := ⟨fun i hi => (hr.obj i hi).mono (w := w) (w' := w.drew) (fun _ h => h) (fun _ _ => rfl) (fun _ _ => rfl) (fun _ h => h) (fun _ _ => rfl) hi (fun _ _ _ => rfl), hr.dead, hr.inj, hr.apart, hr.lt, hr.shlt, hr.gl⟩
  have hRO : RO (V.bind nid (some w.drew.heap.size) cap) (fun i => D i ∨ i = nid) (w.drew.alloc (.cells ar e)) nid (.arr e sz (xs ++ ys)) := by
    refine .inr ⟨w.drew.heap.size, ar, by simp [View.bind], heap_new _ _, by simp [View.bind]; exact hcs, by simp [View.bind]; exact hc, ?_⟩
    refine REs_append hsz hsz' har hlo hln ho1 hn1 ?_ ?_
    · intro i x j d u h1 h2 h3
      exact RV.new hrd hn ((ho i x j d u h1 h2 h3).mono (w := w) (w' := w.drew) (fun _ h => h) (fun _ _ => rfl) (fun _ _ => rfl) (fun _ h => h) (fun _ _ => rfl))
    · intro i x j d u h1 h2 h3
      exact RV.new hrd hn ((hw i x j d u h1 h2 h3).mono (w := w) (w' := w.drew) (fun _ h => h) (fun _ _ => rfl) (fun _ _ => rfl) (fun _ h => h) (fun _ _ => rfl))
  obtain ⟨k1, k2⟩ := hrd.new hn cap (.cells ar e) hRO
  refine ⟨k1, ⟨k2.at_, k2.cap, k2.sh, k2.shn, k2.size, k2.os, k2.tape, k2.output, k2.keep, k2.fresh⟩⟩

theorem os_new {V : View} {D : Nat → Prop} {w : World} {nid b c len : Nat} (hd : D nid) : RV (V.bind nid (some b) c) D w (.os nid len) (.slice (some ⟨b, 0, none⟩) len c) := by
  have h := RV.os (V := V.bind nid (some b) c) (n := D) (w := w) (id := nid) (b := b) (len := len) hd (by simp [View.bind])
  have : (V.bind nid (some b) c).cap nid = c := by simp [View.bind]
  rwa [this] at h

theorem size_zero (z : Array Value) (n : Nat) : (Builtin.zeroCells z n).size = n * z.size := by simp [Builtin.zeroCells]

theorem Does_append_nil {T : Nat → Option TD} (hT : TabOK P T) {o : Oper} {t : TypeId} {s x : Operand} (ho : o.op = .call { callee := .builtin .append, args := #[s, x], argTypes := #[t, t] }) {d de : TD} {e : TypeId}
    (ht : T t = some d) (he : isSlice d = some e) (hde : T e = some de) (hz : de.zero.length = de.size) {ev : Operand → Val} (hs : ev s = .c (.slice none 0 0)) {ys : List (List Val)} (hx : ev x = .sl de.size ys)
    (hb : ys.length * de.bytes ≤ 140737488355328) (hm : ys.length ≤ 140737488355328) {fid : Option Nat} {ob : Ob} {nid : Nat} : Does P G o ev fid ob nid ⟨.os nid ys.length, none, some (.arr e de.size ys)⟩ := by
  intro V D w H ρ hr hv hf hn
  have h1 := hv s (by simp [ho, Op.operands, Call.operands]); rw [hs] at h1
  have h2 := hv x (by simp [ho, Op.operands, Call.operands]); rw [hx] at h2
  have hsz := h2.sl_size
  have hs' := h1.c_inv
  obtain ⟨i, z, hi, his, hib, hiz, hzl⟩ := info_of hT hde
  have hu := hT.u ht
  rw [isSlice_spec he] at hu
  have hzs : z.cells.size = de.size := by rw [← Array.length_toList, hzl, hz]
  rw [addD_new rfl, updH_new rfl rfl]
  rcases h2.sl_cells with ⟨rfl, hxv⟩ | ⟨a, cap, news, hxv, hln, hcell, hn1, hw⟩
  · refine ⟨.slice none 0 0, w, V.bind nid none 0, .inl (run_append_op ho (by rw [hs', hxv]; exact run_append_none hT ht he hde (Nat.le_refl _) (.inl rfl))), ?_, ?_, .osNil (.inr rfl) (by simp [View.bind])⟩
    · exact hr.bind hn none 0 (by simp) (.inl ⟨rfl, by simp [View.bind]⟩)
    · refine ⟨?_, ?_, fun _ h => h, fun _ h _ => .inl h, Nat.le_refl _, rfl, rfl, rfl, fun _ _ _ => rfl, ?_⟩
      · intro i hi; simp only [View.bind]; rw [if_neg (by intro e; exact hn (by rw [← e]; exact hi))]
      · intro i hi; simp only [View.bind]; rw [if_neg (by intro e; exact hn (by rw [← e]; exact hi))]
      · intro i b hi hb hlt
        by_cases e : i = nid
        · simp [View.bind, e] at hb
        · simp only [View.bind, e, if_false] at hi hb; exact ⟨i, hi, hb⟩
  · by_cases hy : ys.length = 0
    · have : ys = [] := List.eq_nil_of_length_eq_zero hy
      subst this
      refine ⟨.slice none 0 0, w, V.bind nid none 0, .inl (run_append_op ho (by rw [hs', hxv]; exact run_append_none hT ht he hde (Nat.le_refl _) (.inr ⟨_, _, rfl⟩))), ?_, ?_, .osNil (.inr rfl) (by simp [View.bind])⟩
      · exact hr.bind hn none 0 (by simp) (.inl ⟨rfl, by simp [View.bind]⟩)
      · refine ⟨?_, ?_, fun _ h => h, fun _ h _ => .inl h, Nat.le_refl _, rfl, rfl, rfl, fun _ _ _ => rfl, ?_⟩
        · intro i hi; simp only [View.bind]; rw [if_neg (by intro e; exact hn (by rw [← e]; exact hi))]
        · intro i hi; simp only [View.bind]; rw [if_neg (by intro e; exact hn (by rw [← e]; exact hi))]
        · intro i b hi hb hlt
          by_cases e : i = nid
          · simp [View.bind, e] at hb
          · simp only [View.bind, e, if_false] at hi hb; exact ⟨i, hi, hb⟩
    · have hrun := run_append_nil (P := P) w t o.type e i z hu hi hiz a ys.length cap news (by rw [his]; exact hln) hcell (by omega) (by omega) (by rw [hib]; omega)
      have hge : ys.length ≤ grownCap w ys.length 0 e := grownCap_ge w ys.length 0 e
      obtain ⟨k1, k2⟩ := grown_new (G := G) (e := e) (xs := []) (ys := ys) (sz := de.size) (olds := []) (news := news) (rest := (Builtin.zeroCells z.cells (grownCap w ys.length 0 e - ys.length)).toList) (cap := grownCap w ys.length 0 e) (nid := nid) hr hn (by simp) hsz (by simp) hln (by simp) hn1 (by simp) hw (by simpa using hge)
        (ar := news.toArray ++ Builtin.zeroCells z.cells (grownCap w ys.length 0 e - ys.length)) (by simp) (by
          rw [Array.size_append, size_zero, hzs]; simp only [List.size_toArray, hln]; rw [← Nat.add_mul]; congr 1; omega)
      refine ⟨.slice (some ⟨w.heap.size, 0, none⟩) ys.length (grownCap w ys.length 0 e), _, _, .inl (run_append_op ho (by rw [hs', hxv]; exact hrun)), k1, k2, ?_⟩
      exact os_new (.inr rfl)

/-- An object goes on under a new name, in its block, whose content may have turned. -/
theorem RelF.moved {V : View} {D : Nat → Prop} {w w' : World} {H : Nat → Ob} (hr : RelF G V w D H) {nid : Nat} (hn : ¬ D nid) {id b : Nat} (hl : (H id).live = true) (hb : V.at_ id = some b) (hw : Only w w' b) {c : Nat} {o : Ob}
    (ho : RO (V.bind nid (some b) c) (fun i => D i ∨ i = nid) w' nid o) : RelF G (V.bind nid (some b) c) w' (fun i => D i ∨ i = nid) (fun i => if i = nid then o else if i = id then .gone else H i) ∧
      Step V w D H (V.bind nid (some b) c) w' (fun i => if i = nid then o else if i = id then .gone else H i) := by
  obtain ⟨k1, k2⟩ := hr.put hl hb hw (o := .gone) trivial
  have hlive : ∀ i, (if i = id then Ob.gone else H i).live = true → (H i).live = true ∧ i ≠ id := by
    intro i h; split at h
    · simp [Ob.live] at h
    · exact ⟨h, ‹_›⟩
  refine ⟨k1.bind hn (some b) c ?_ ho, ⟨?_, ?_, fun _ h => h, fun _ h _ => .inl h, k2.size, k2.os, k2.tape, k2.output, k2.keep, ?_⟩⟩
  · intro k hk; cases hk
    refine ⟨by rw [hw.size]; exact hr.lt id b hl hb, hr.apart id b hl hb, ?_⟩
    intro i hi hbi
    obtain ⟨h1, h2⟩ := hlive i hi
    exact h2 (hr.inj i id b h1 hl hbi hb)
  · intro i hi; simp only [View.bind]; rw [if_neg (by intro e; exact hn (by rw [← e]; exact hi))]
  · intro i hi; simp only [View.bind]; rw [if_neg (by intro e; exact hn (by rw [← e]; exact hi))]
  · intro i k hi hk hlt
    by_cases e : i = nid
    · simp only [View.bind, e, if_true] at hk; cases hk
      exact ⟨id, hl, hb⟩
    · simp only [View.bind, e, if_false] at hi hk
      exact ⟨i, (hlive i hi).1, hk⟩

theorem updH_both {r : Val} {o : Ob} (H : Nat → Ob) (id nid : Nat) : (⟨r, some .gone, some o⟩ : Ef).updH H (some id) nid = fun i => if i = nid then o else if i = id then .gone else H i := by
  funext i; simp only [Ef.updH, Option.some.injEq, Option.getD_some]
  by_cases e : i = id
  · simp [e]
  · simp [e, Ne.symm e]

theorem Only.rfl' {w : World} {b : Nat} : Only w w b := ⟨rfl, rfl, rfl, rfl, fun _ _ => rfl⟩

theorem nil_moved {V : View} {D : Nat → Prop} {w : World} {H : Nat → Ob} (hr : RelF G V w D H) {nid : Nat} (hn : ¬ D nid) (id : Nat) {e sz : Nat} :
    RelF G (V.bind nid none 0) w (fun i => D i ∨ i = nid) (fun i => if i = nid then .arr e sz [] else if i = id then .gone else H i) ∧
      Step V w D H (V.bind nid none 0) w (fun i => if i = nid then .arr e sz [] else if i = id then .gone else H i) := by
  obtain ⟨k1, k2⟩ := hr.kill id
  refine ⟨k1.bind hn none 0 (by simp) (.inl ⟨rfl, by simp [View.bind]⟩), ⟨?_, ?_, fun _ h => h, fun _ h _ => .inl h, Nat.le_refl _, rfl, rfl, rfl, fun _ _ _ => rfl, ?_⟩⟩
  · intro i hi; simp only [View.bind]; rw [if_neg (by intro e; exact hn (by rw [← e]; exact hi))]
  · intro i hi; simp only [View.bind]; rw [if_neg (by intro e; exact hn (by rw [← e]; exact hi))]
  · intro i k hi hk hlt
    by_cases e : i = nid
    · simp [View.bind, e] at hk
    · simp only [View.bind, e, if_false] at hi hk
      exact k2.fresh i k hi hk hlt

theorem Does_append_os {T : Nat → Option TD} (hT : TabOK P T) {o : Oper} {t : TypeId} {s x : Operand} (ho : o.op = .call { callee := .builtin .append, args := #[s, x], argTypes := #[t, t] }) {d de : TD} {e : TypeId}
    (ht : T t = some d) (he : isSlice d = some e) (hde : T e = some de) (hz : de.zero.length = de.size) {ev : Operand → Val} {id : Nat} {xs : List (List Val)} (hs : ev s = .os id xs.length) {ys : List (List Val)} (hx : ev x = .sl de.size ys)
    (hb : (xs.length + ys.length) * de.bytes ≤ 140737488355328) (hm : xs.length + ys.length ≤ 140737488355328) {nid : Nat} :
    Does P G o ev (some id) (.arr e de.size xs) nid ⟨.os nid (xs.length + ys.length), some .gone, some (.arr e de.size (xs ++ ys))⟩ := by
  intro V D w H ρ hr hv hf hn
  have h1 := hv s (by simp [ho, Op.operands, Call.operands]); rw [hs] at h1
  have h2 := hv x (by simp [ho, Op.operands, Call.operands]); rw [hx] at h2
  have hsz := h2.sl_size
  have hH := hf id rfl
  obtain ⟨i, z, hi, his, hib, hiz, hzl⟩ := info_of hT hde
  have hu := hT.u ht
  rw [isSlice_spec he] at hu
  have hzs : z.cells.size = de.size := by rw [← Array.length_toList, hzl, hz]
  rw [addD_new rfl, updH_both]
  have hlive : (H id).live = true := by rw [hH]; rfl
  generalize hsv : ρ s = sv at h1
  obtain ⟨q, hq⟩ : ∃ q, q = xs.length := ⟨_, rfl⟩
  rw [← hq] at h1
  cases h1
  case osNil hi hb0 =>
    have hxs : xs = [] := List.eq_nil_of_length_eq_zero hq.symm
    subst hxs
    simp only [List.length_nil, Nat.zero_add, List.nil_append] at *
    rcases h2.sl_cells with ⟨rfl, hxv⟩ | ⟨a, cap, news, hxv, hln, hcell, hn1, hw⟩
    · obtain ⟨k1, k2⟩ := nil_moved hr hn id (e := e) (sz := de.size)
      exact ⟨.slice none 0 0, w, _, .inl (run_append_op ho (by rw [hsv, hxv]; exact run_append_none hT ht he hde (Nat.le_refl _) (.inl rfl))), k1, k2, .osNil (.inr rfl) (by simp [View.bind])⟩
    · by_cases hy : ys.length = 0
      · have : ys = [] := List.eq_nil_of_length_eq_zero hy
        subst this
        obtain ⟨k1, k2⟩ := nil_moved hr hn id (e := e) (sz := de.size)
        exact ⟨.slice none 0 0, w, _, .inl (run_append_op ho (by rw [hsv, hxv]; exact run_append_none hT ht he hde (Nat.le_refl _) (.inr ⟨_, _, rfl⟩))), k1, k2, .osNil (.inr rfl) (by simp [View.bind])⟩
      · have hrun := run_append_nil (P := P) w t o.type e i z hu ‹_› hiz a ys.length cap news (by rw [his]; exact hln) hcell (by omega) (by omega) (by rw [hib]; omega)
        have hge : ys.length ≤ grownCap w ys.length 0 e := grownCap_ge w ys.length 0 e
        obtain ⟨kk1, kk2⟩ := hr.kill id
        obtain ⟨k1, k2⟩ := grown_new (G := G) (e := e) (xs := []) (ys := ys) (sz := de.size) (olds := []) (news := news) (rest := (Builtin.zeroCells z.cells (grownCap w ys.length 0 e - ys.length)).toList) (cap := grownCap w ys.length 0 e) (nid := nid) kk1 hn (by simp) hsz (by simp) hln (by simp) hn1 (by simp) hw (by simpa using hge)
          (ar := news.toArray ++ Builtin.zeroCells z.cells (grownCap w ys.length 0 e - ys.length)) (by simp) (by
            rw [Array.size_append, size_zero, hzs]; simp only [List.size_toArray, hln]; rw [← Nat.add_mul]; congr 1; omega)
        exact ⟨.slice (some ⟨w.heap.size, 0, none⟩) ys.length (grownCap w ys.length 0 e), _, _, .inl (run_append_op ho (by rw [hsv, hxv]; exact hrun)), k1, kk2.trans k2 (fun _ h => h), os_new (.inr rfl)⟩
  case os b hi hb0 =>
    subst hq
    have hobj := hr.obj id hi
    rw [hH] at hobj
    rcases hobj with ⟨_, e0⟩ | ⟨b', ar, e1, e2, e3, e4, e5⟩
    · rw [hb0] at e0; cases e0
    rw [hb0] at e1; cases e1
    have hfit := e5.1
    rw [Nat.zero_add] at hfit
    have hlo : (ar.toList.take (xs.length * de.size)).length = xs.length * de.size := by simp; omega
    have hold : ∀ j u, (ar.toList.take (xs.length * de.size))[j]? = some u → j < xs.length * de.size ∧ ar[j]? = some u := by
      intro j u hj
      rw [List.getElem?_take] at hj
      split at hj
      · exact ⟨‹_›, by simpa using hj⟩
      · cases hj
    have ho1 : ∀ u, u ∈ ar.toList.take (xs.length * de.size) → oneC u = true := by
      intro u hu'
      obtain ⟨j, hj⟩ := List.getElem?_of_mem hu'
      obtain ⟨h3, h4⟩ := hold j u hj
      exact e5.2.2.1 j u (Nat.zero_le _) (by omega) h4
    have hor : ∀ (i : Nat) (x : List Val) (j : Nat) (d : Val) (u : Value), xs[i]? = some x → x[j]? = some d → (ar.toList.take (xs.length * de.size))[i * de.size + j]? = some u → RV V D w d u := by
      intro i x j d u h3 h4 h5
      exact e5.2.2.2 i x j d u h3 h4 (by rw [Nat.zero_add]; exact (hold _ u h5).2)
    have stay : (Builtin.append_ #[t, t] o.type #[ρ s, ρ x]).run P w = .ok (ρ s) w → ys = [] →
        ∃ x w' V', ((execOp ρ o).run P w = .ok (.value x) w' ∨ ((execOp ρ o).run P w = .ok .skip w' ∧ x = undef)) ∧
          RelF G V' w' (fun i => D i ∨ i = nid) (fun i => if i = nid then .arr e de.size (xs ++ ys) else if i = id then .gone else H i) ∧
          Step V w D H V' w' (fun i => if i = nid then .arr e de.size (xs ++ ys) else if i = id then .gone else H i) ∧ RV V' (fun i => D i ∨ i = nid) w' (.os nid (xs.length + ys.length)) x := by
      intro hrun hy
      subst hy
      simp only [List.append_nil, List.length_nil, Nat.add_zero] at *
      obtain ⟨k1, k2⟩ := hr.moved hn hlive hb0 Only.rfl' (c := V.cap id) (o := .arr e de.size xs) (.inr ⟨b, ar, by simp [View.bind], e2, by simp [View.bind]; exact e3, by simp [View.bind]; exact e4,
        ⟨e5.1, e5.2.1, e5.2.2.1, fun i x j d u h3 h4 h5 => RV.bind hn (e5.2.2.2 i x j d u h3 h4 h5)⟩⟩)
      exact ⟨_, w, _, .inl (run_append_op ho hrun), k1, k2, by rw [hsv]; exact os_new (.inr rfl)⟩
    rcases h2.sl_cells with ⟨rfl, hxv⟩ | ⟨a, cap, news, hxv, hln, hcell, hn1, hw⟩
    · exact stay (by rw [hsv, hxv]; exact run_append_none hT ht he hde e4 (.inl rfl)) rfl
    · by_cases hy : ys.length = 0
      · have : ys = [] := List.eq_nil_of_length_eq_zero hy
        exact stay (by rw [hsv, hxv, hy]; exact run_append_none hT ht he hde e4 (.inr ⟨_, _, rfl⟩)) this
      · by_cases hroom : xs.length + ys.length ≤ V.cap id
        · have hfit2 : xs.length * de.size + news.length ≤ ar.size := by
            rw [hln, e3, ← Nat.add_mul]; exact Nat.mul_le_mul_right _ hroom
          have hrun := run_append_room (P := P) w t o.type e i hu ‹_› b xs.length (V.cap id) ar e2 a ys.length cap news (by rw [his]; exact hln) hcell (fun u hu => oneC_one (hn1 u hu)) hroom (by rw [his]; exact hfit2)
          rw [his] at hrun
          have hnb : ¬ V.sh b := hr.apart id b hlive hb0
          have honly : Only w (w.setRow b (ar.toList.take (xs.length * de.size) ++ news ++ ar.toList.drop (xs.length * de.size + news.length)).toArray) b := only_setRow (ar := ar) (T := e) (fr := (0, 0))
          obtain ⟨k1, k2⟩ := hr.moved hn hlive hb0 honly (c := V.cap id) (o := .arr e de.size (xs ++ ys)) (by
            refine .inr ⟨b, _, by simp [View.bind], setRow_heap w b ar _ e (0, 0) e2, ?_, by simp [View.bind]; exact hroom, ?_⟩
            · simp [View.bind]; omega
            · refine REs_append e5.2.1 hsz (olds := ar.toList.take (xs.length * de.size)) (news := news) (by simp; rfl) hlo hln ho1 hn1 ?_ ?_
              · intro i x j d u h3 h4 h5
                exact RV.bind hn ((hor i x j d u h3 h4 h5).only honly hnb)
              · intro i x j d u h3 h4 h5
                exact RV.bind hn ((hw i x j d u h3 h4 h5).only honly hnb))
          exact ⟨_, _, _, .inl (run_append_op ho (by rw [hsv, hxv]; exact hrun)), k1, k2, os_new (.inr rfl)⟩
        · have hcells : ∀ j v, (ar.toList.take (xs.length * de.size))[j]? = some v → w.cell? ((⟨b, 0, none⟩ : Addr).add j) = some v := by
            intro j v hj
            rw [add_none, cell_of e2, Nat.zero_add]; exact (hold j v hj).2
          have hrun := run_append_grow (P := P) w t o.type e i z hu ‹_› hiz ⟨b, 0, none⟩ xs.length (V.cap id) (ar.toList.take (xs.length * de.size)) (by rw [his]; exact hlo) hcells a ys.length cap news (by rw [his]; exact hln) hcell (by omega) (by omega)
            (growslice_fits (by omega) (by rw [hib]; exact hb))
          have hge : xs.length + ys.length ≤ grownCap w (xs.length + ys.length) (V.cap id) e := grownCap_ge w _ _ e
          obtain ⟨kk1, kk2⟩ := hr.kill id
          obtain ⟨k1, k2⟩ := grown_new (G := G) (e := e) (xs := xs) (ys := ys) (sz := de.size) (olds := ar.toList.take (xs.length * de.size)) (news := news) (rest := (Builtin.zeroCells z.cells (grownCap w (xs.length + ys.length) (V.cap id) e - (xs.length + ys.length))).toList)
            (cap := grownCap w (xs.length + ys.length) (V.cap id) e) (nid := nid) kk1 hn e5.2.1 hsz hlo hln ho1 hn1 hor hw hge
            (ar := (ar.toList.take (xs.length * de.size)).toArray ++ news.toArray ++ Builtin.zeroCells z.cells (grownCap w (xs.length + ys.length) (V.cap id) e - (xs.length + ys.length))) (by simp) (by
              rw [Array.size_append, Array.size_append, size_zero, hzs]; simp only [List.size_toArray, hln, hlo]; rw [← Nat.add_mul, ← Nat.add_mul]; congr 1; omega)
          exact ⟨_, _, _, .inl (run_append_op ho (by rw [hsv, hxv]; exact hrun)), k1, kk2.trans k2 (fun _ h => h), os_new (.inr rfl)⟩

end Go.Vm
/- Words that only look: indices, slices, lengths, conversions; what is built. -/
namespace Go.Vm
open Go Go.RowKit
variable {P : Program} {G : List (Nat × Obj)}

theorem Does_index_sl {T : Nat → Option TD} (hT : TabOK P T) {o : Oper} {t : TypeId} {x y : Operand} (ho : o.op = .indexAddr t x y) {d de : TD} {e : TypeId} (ht : T t = some d) (he : isSlice d = some e) (hde : T e = some de)
    {ev : Operand → Val} {xs : List (List Val)} (hx : ev x = .sl de.size xs) {k : IntKind} {n : Int} (hy : ev y = .c (.int k n)) (h0 : 0 ≤ n) {el : List Val} (hel : xs[n.toNat]? = some el)
    {fid : Option Nat} {ob : Ob} {nid : Nat} : Does P G o ev fid ob nid ⟨.rp el, none, none⟩ :=
  Does.quiet fun V D w H ρ _ hv _ => by
    have h1 := hv x (by simp [ho, Op.operands]); rw [hx] at h1
    have h2 := hv y (by simp [ho, Op.operands]); rw [hy] at h2
    have hu := hT.under ht w
    rw [isSlice_spec he] at hu
    have hlt : n.toNat < xs.length := (List.getElem?_eq_some_iff.1 hel).1
    generalize hq : ρ x = v at h1
    cases h1
    · simp at hlt
    rename_i kb off cap ar T' fr hs hw hc hf hl hone hp
    have hsz := hl el (List.mem_of_getElem? hel)
    have hmul : n.toNat * de.size + de.size ≤ xs.length * de.size := by
      have : (n.toNat + 1) * de.size ≤ xs.length * de.size := Nat.mul_le_mul_right _ hlt
      rw [Nat.add_mul] at this; omega
    refine ⟨.pointer (some ⟨kb, off + n.toNat * de.size, none⟩), ?_, .rp hs hw (by omega) (fun j d v h3 h4 => hp n.toNat el j d v hel h3 h4)⟩
    have hlt' : n < (xs.length : Int) := by omega
    simp [execOp, ho, hq, h2.c_inv, Instr.indexAt, asIntOf, hu, h0, hlt', hT.size hde, add_none]

theorem Does_index_os {T : Nat → Option TD} (hT : TabOK P T) {o : Oper} {t : TypeId} {x y : Operand} (ho : o.op = .indexAddr t x y) {d de : TD} {e : TypeId} (ht : T t = some d) (he : isSlice d = some e) (hde : T e = some de)
    {ev : Operand → Val} {id len : Nat} (hx : ev x = .os id len) {k : IntKind} {n : Int} (hy : ev y = .c (.int k n)) (h0 : 0 ≤ n) (hn : n < (len : Int))
    {fid : Option Nat} {ob : Ob} {nid : Nat} : Does P G o ev fid ob nid ⟨.ep id de.size n.toNat 0, none, none⟩ :=
  Does.quiet fun V D w H ρ _ hv _ => by
    have h1 := hv x (by simp [ho, Op.operands]); rw [hx] at h1
    have h2 := hv y (by simp [ho, Op.operands]); rw [hy] at h2
    have hu := hT.under ht w
    rw [isSlice_spec he] at hu
    generalize hq : ρ x = v at h1
    cases h1
    · rename_i b hi hb
      refine ⟨.pointer (some ⟨b, n.toNat * de.size + 0, none⟩), ?_, .ep hi hb⟩
      simp [execOp, ho, hq, h2.c_inv, Instr.indexAt, asIntOf, hu, h0, hn, hT.size hde, add_none]
    · omega

theorem RV.sl_inv {V : View} {D : Nat → Prop} {w : World} {xs : List (List Val)} {v : Value} {sz : Nat} (h : RV V D w (.sl sz xs) v) : (xs = [] ∧ v = .slice none 0 0) ∨ ∃ k off cap ar T fr, v = .slice (some ⟨k, off, none⟩) xs.length cap ∧
    V.sh k ∧ w.heap[k]? = some (.cells ar T fr) ∧ xs.length ≤ cap ∧ off + xs.length * sz ≤ ar.size ∧ (∀ x, x ∈ xs → x.length = sz) ∧ (∀ (j : Nat) (v : Value), off ≤ j → j < off + xs.length * sz → ar[j]? = some v → oneC v = true) ∧
      (∀ (i : Nat) (x : List Val) (j : Nat) (d : Val) (v : Value), xs[i]? = some x → x[j]? = some d → ar[off + i * sz + j]? = some v → RV V D w d v) := by
  cases h with
  | slNil => exact .inl ⟨rfl, rfl⟩
  | sl h1 h2 h3 h4 h5 h6 h7 => exact .inr ⟨_, _, _, _, _, _, rfl, h1, h2, h3, h4, h5, h6, h7⟩

def isArray (d : TD) : Option (Nat × TypeId) :=
  match d.desc with
  | .array n e => some (n, e)
  | _ => none
theorem isArray_spec {d : TD} {n : Nat} {e : TypeId} (h : isArray d = some (n, e)) : d.desc = .array n e := by
  unfold isArray at h
  split at h
  · cases h; assumption
  · cases h

theorem Does_index_arr {T : Nat → Option TD} (hT : TabOK P T) {o : Oper} {t : TypeId} {x y : Operand} (ho : o.op = .indexAddr t x y) {d de : TD} {e : TypeId} {len : Nat} (ht : T t = some d) (he : isArray d = some (len, e)) (hde : T e = some de)
    {ev : Operand → Val} {k : IntKind} {n : Int} (hy : ev y = .c (.int k n)) (h0 : 0 ≤ n) (hn : n < (len : Int)) {r : Val} (hx : paddr (ev x) (n.toNat * de.size) = some r)
    {fid : Option Nat} {ob : Ob} {nid : Nat} : Does P G o ev fid ob nid ⟨r, none, none⟩ :=
  Does.quiet fun V D w H ρ _ hv _ => by
    have h1 := hv x (by simp [ho, Op.operands])
    have h2 := hv y (by simp [ho, Op.operands]); rw [hy] at h2
    have hu := hT.under ht w
    rw [isArray_spec he] at hu
    obtain ⟨b, o', hq, hr⟩ := paddr_spec h1 hx
    refine ⟨_, ?_, hr⟩
    simp [execOp, ho, hq, h2.c_inv, Instr.indexAt, Instr.sureAddr, asIntOf, hu, h0, hn, hT.size hde, add_none]

theorem run_sliceBounds (isS : Bool) (len cap : Nat) {lo hi : Option Value} {l h : Int} (hl : (lo = none ∧ l = 0) ∨ ∃ k, lo = some (.int k l)) (hh : (hi = none ∧ h = (len : Int)) ∨ ∃ k, hi = some (.int k h))
    (h0 : 0 ≤ l) (h1 : l ≤ h) (h2 : h ≤ (cap : Int)) (w : World) : (Instr.sliceBounds isS len cap lo hi none).run P w = .ok (l.toNat, h.toNat, cap) w := by
  have a1 : 0 ≤ h := by omega
  have a3 : l ≤ max h 0 := by omega
  rcases hl with ⟨rfl, rfl⟩ | ⟨k, rfl⟩ <;> rcases hh with ⟨rfl, rfl⟩ | ⟨k', rfl⟩ <;> simp_all [Instr.sliceBounds, Instr.sliceBound, asIntOf]

def optI (ev : Operand → Val) : Option Operand → Int → Int → Prop
  | none, l, z => l = z
  | some y, l, _ => ∃ k, ev y = .c (.int k l)

theorem opt_arg {V : View} {D : Nat → Prop} {w : World} {ev : Operand → Val} {ρ : Operand → Value} {lo : Option Operand} {l z : Int} (hl : optI ev lo l z)
    (hv : ∀ y, lo = some y → RV V D w (ev y) (ρ y)) : (lo.map ρ = none ∧ l = z) ∨ ∃ k, lo.map ρ = some (.int k l) := by
  cases lo with
  | none => exact .inl ⟨rfl, hl⟩
  | some y =>
    obtain ⟨k, hk⟩ := hl
    have := hv y rfl; rw [hk] at this
    exact .inr ⟨k, by rw [← this.c_inv]; rfl⟩

theorem Does_slice_sl {T : Nat → Option TD} (hT : TabOK P T) {o : Oper} {t : TypeId} {x : Operand} {lo hi : Option Operand} (ho : o.op = .slice t x lo hi none) {d de : TD} {e : TypeId} (ht : T t = some d) (he : isSlice d = some e) (hde : T e = some de)
    {ev : Operand → Val} {xs : List (List Val)} (hx : ev x = .sl de.size xs) {l h : Int} (hl : optI ev lo l 0) (hh : optI ev hi h (xs.length : Int))
    (h0 : 0 ≤ l) (h1 : l ≤ h) (h2 : h ≤ (xs.length : Int)) {fid : Option Nat} {ob : Ob} {nid : Nat} : Does P G o ev fid ob nid ⟨.sl de.size ((xs.take h.toNat).drop l.toNat), none, none⟩ :=
  Does.quiet fun V D w H ρ _ hv _ => by
    have e1 := hv x (by simp [ho, Op.operands]); rw [hx] at e1
    have hu := hT.under ht w
    rw [isSlice_spec he] at hu
    obtain ⟨a, cap, hval, hcap⟩ := e1.sl_len
    have hb := run_sliceBounds (P := P) true xs.length cap (opt_arg hl (fun y hy => hv y (by simp [ho, Op.operands, hy]))) (opt_arg hh (fun y hy => hv y (by simp [ho, Op.operands, hy]))) h0 h1 (by omega) w
    refine ⟨.slice (if cap = l.toNat then a else a.map (·.add (l.toNat * de.size))) (h.toNat - l.toNat) (cap - l.toNat), ?_, ?_⟩
    · simp [execOp, ho, hval, Instr.sliceAt, Instr.slice, hu, hT.size hde, hb]
    · have hlen : ((xs.take h.toNat).drop l.toNat).length = h.toNat - l.toNat := by simp; omega
      rcases e1.sl_inv with ⟨rfl, hnil⟩ | ⟨kb, off, cap', ar, T', fr, hv', hs, hw, hc, hf, hl', hone, hp⟩
      · rw [hval] at hnil; cases hnil
        simp only [Option.map_none, ite_self, List.take_nil, List.drop_nil, Nat.zero_sub]
        have : h.toNat - l.toNat = 0 := by simp at h2; omega
        rw [this]; exact .slNil
      · rw [hval] at hv'; cases hv'
        by_cases hm : cap = l.toNat
        · rw [if_pos hm]
          have hz : (xs.take h.toNat).drop l.toNat = [] := List.eq_nil_of_length_eq_zero (by rw [hlen]; omega)
          rw [hz, show h.toNat - l.toNat = ([] : List (List Val)).length by simp; omega]
          exact .sl hs hw (by simp) (by simp; omega) (by simp) (by intro j v h3 h4; simp at h4; omega) (by simp)
        · rw [if_neg hm]
          simp only [Option.map_some, add_none]
          have hbd : (l.toNat : Nat) * de.size + (h.toNat - l.toNat) * de.size = h.toNat * de.size := by rw [← Nat.add_mul]; congr 1; omega
          by_cases hxs : xs = []
          · subst hxs
            have : l.toNat = 0 ∧ h.toNat = 0 := by simp at h2; omega
            rw [this.1, this.2]
            simp only [Nat.zero_mul, Nat.add_zero, Nat.sub_zero]
            exact .sl hs hw (by simp) hf hl' hone (by simp)
          · have hle : h.toNat * de.size ≤ xs.length * de.size := Nat.mul_le_mul_right _ (by omega)
            rw [← hlen]
            refine .sl (sz := de.size) hs hw (by rw [hlen]; omega) (by rw [hlen]; omega) (fun y hy => hl' y (List.mem_of_mem_take (List.mem_of_mem_drop hy))) ?_ ?_
            · intro j v h3 h4 h5
              rw [hlen] at h4
              exact hone j v (by omega) (by omega) h5
            · intro i y j dd v h3 h4 h5
              rw [List.getElem?_drop, List.getElem?_take] at h3
              split at h3
              · refine hp (l.toNat + i) y j dd v h3 h4 ?_
                rw [← h5]; congr 1; rw [Nat.add_mul]; omega
              · cases h3

/-! ### len, conversions, parts -/
def vlen : Val → Option Nat
  | .sl _ xs => some xs.length
  | .os _ n => some n
  | .c (.slice none 0 0) => some 0
  | _ => none

theorem Does_len {T : Nat → Option TD} (hT : TabOK P T) {o : Oper} {t : TypeId} {x : Operand} (ho : o.op = .call { callee := .builtin .len, args := #[x], argTypes := #[t] }) {d : TD} {e : TypeId} (ht : T t = some d) (he : isSlice d = some e)
    {ev : Operand → Val} {n : Nat} (hx : vlen (ev x) = some n) {fid : Option Nat} {ob : Ob} {nid : Nat} : Does P G o ev fid ob nid ⟨.c (.int .i64 n), none, none⟩ :=
  Does.quiet fun V D w H ρ _ hv _ => by
    have h1 := hv x (by simp [ho, Op.operands, Call.operands])
    have hu := hT.under ht w
    rw [isSlice_spec he] at hu
    refine ⟨.int .i64 n, ?_, .c _⟩
    have : ∃ a cap, ρ x = .slice a n cap := by
      generalize ev x = e at h1 hx
      generalize ρ x = v at h1
      cases h1 <;> simp only [vlen] at hx <;> (try (cases hx; done))
      case c =>
        split at hx
        · rename_i heq; cases heq
        · rename_i heq; cases heq
        · rename_i heq; cases heq; cases hx; exact ⟨_, _, rfl⟩
        · cases hx
      all_goals (cases hx; exact ⟨_, _, rfl⟩)
    obtain ⟨a, cap, hq⟩ := this
    simp [execOp, ho, resolve, invoke, builtin, hq, Builtin.len_, hu, goInt]

theorem Does_conv {T : Nat → Option TD} (hT : TabOK P T) {o : Oper} {t u : TypeId} {x : Operand} (ho : o.op = .convert t u x) {d du : TD} {k k' : IntKind} (ht : T t = some d) (hu : T u = some du) (hd : d.desc = .int k) (hdu : du.desc = .int k')
    {ev : Operand → Val} {q : IntKind} {n : Int} (hx : ev x = .c (.int q n)) {fid : Option Nat} {ob : Ob} {nid : Nat} : Does P G o ev fid ob nid ⟨.c (.int k' (k'.wrap n)), none, none⟩ :=
  Does.quiet fun V D w H ρ _ hv _ => by
    have h1 := hv x (by simp [ho, Op.operands]); rw [hx] at h1
    have h2 := hT.under ht w
    have h3 := hT.under hu w
    rw [hd] at h2; rw [hdu] at h3
    exact ⟨_, by simp [execOp, ho, h1.c_inv, convert, h2, h3, Conv.intToInt], .c _⟩

theorem part_spec {T : Nat → Option TD} (hT : TabOK P T) {t : TypeId} {d : TD} (ht : T t = some d) {V : View} {D : Nat → Prop} {w : World} {cs : List Val} {ar : Array Value} (hc : RCs V D w cs ar) {off : Nat} {r : Val} (hr : vload d cs off = some r) :
    ∃ v, (part t ar off).run P w = .ok v w ∧ RV V D w r v := by
  unfold vload at hr
  split at hr
  · rename_i hrow
    split at hr
    · rename_i hle
      cases hr
      have hsz := hc.1
      refine ⟨.agg (ar.extract off (off + d.size)), by simp [part, hT.agg ht, hrow, hT.size ht], .agg (by simp; omega) ?_⟩
      intro i e v h1 h2
      rw [List.getElem?_take] at h1
      split at h1
      · rename_i hi
        rw [List.getElem?_drop] at h1
        rw [Array.getElem?_extract] at h2
        split at h2
        · exact hc.2 (off + i) e v h1 h2
        · cases h2
      · cases h1
    · cases hr
  · rename_i hrow
    have hi : off < cs.length := (List.getElem?_eq_some_iff.1 hr).1
    have hlt : off < ar.size := by rw [← hc.1]; exact hi
    exact ⟨ar[off], by simp [part, hT.agg ht, hrow, hlt], hc.2 off r _ hr (by simp [hlt])⟩

theorem Does_field {T : Nat → Option TD} (hT : TabOK P T) {o : Oper} {t : TypeId} {x : Operand} {f : Nat} (ho : o.op = .field t x f) {d df : TD} (ht : T t = some d) {off : Nat} {ft : TypeId}
    (hf : d.off f = some (off, ft)) (hft : T ft = some df) {ev : Operand → Val} {cs : List Val} (hx : ev x = .agg cs) {r : Val} (hr : vload df cs off = some r) {fid : Option Nat} {ob : Ob} {nid : Nat} : Does P G o ev fid ob nid ⟨r, none, none⟩ :=
  Does.quiet fun V D w H ρ _ hv _ => by
    have h1 := hv x (by simp [ho, Op.operands]); rw [hx] at h1
    generalize hq : ρ x = v at h1
    cases h1
    rename_i vs hl hp
    obtain ⟨u, hu, hru⟩ := part_spec hT hft ⟨hl, hp⟩ hr
    refine ⟨u, ?_, hru⟩
    have hun := hT.under ht w
    unfold TD.off at hf
    cases hd : d.desc <;> rw [hd] at hf <;> simp at hf
    rename_i fs
    obtain ⟨fx, hfx, rfl, rfl⟩ := hf
    rw [hd] at hun
    simp [execOp, ho, hq, Instr.field, hun, hfx, asAgg, hu]

theorem Does_index_agg {T : Nat → Option TD} (hT : TabOK P T) {o : Oper} {t : TypeId} {x y : Operand} (ho : o.op = .index t x y) {d de : TD} {e : TypeId} {len : Nat} (ht : T t = some d) (he : isArray d = some (len, e)) (hde : T e = some de)
    {ev : Operand → Val} {cs : List Val} (hx : ev x = .agg cs) {k : IntKind} {n : Int} (hy : ev y = .c (.int k n)) (h0 : 0 ≤ n) (hn : n < (len : Int)) {r : Val} (hr : vload de cs (n.toNat * de.size) = some r)
    {fid : Option Nat} {ob : Ob} {nid : Nat} : Does P G o ev fid ob nid ⟨r, none, none⟩ :=
  Does.quiet fun V D w H ρ _ hv _ => by
    have h1 := hv x (by simp [ho, Op.operands]); rw [hx] at h1
    have h2 := hv y (by simp [ho, Op.operands]); rw [hy] at h2
    generalize hq : ρ x = v at h1
    cases h1
    rename_i vs hl hp
    obtain ⟨u, hu, hru⟩ := part_spec hT hde ⟨hl, hp⟩ hr
    refine ⟨u, ?_, hru⟩
    have hun := hT.under ht w
    rw [isArray_spec he] at hun
    simp [execOp, ho, hq, h2.c_inv, Instr.index, asIntOf, hun, h0, hn, hT.size hde, hu]

/-! ### What is built -/
/-- Parts laid into cells. -/
def vfill (place : Nat → Option (Nat × Nat)) : List Val → List (Nat × Val) → Option (List Val)
  | cs, [] => some cs
  | cs, (i, v) :: r =>
    match place i, vcells v with
    | some (off, size), some es => if es.length = size ∧ off + es.length ≤ cs.length then vfill place (splice cs off es) r else none
    | _, _ => none

theorem foldl_set (off : Nat) : ∀ (vs : List Value) (j : Nat) (ar : Array Value) (i : Nat), off + j + vs.length ≤ ar.size →
    ((vs.zipIdx j).foldl (fun cs (c, k) => cs.setIfInBounds (off + k) c) ar)[i]? = if i < off + j then ar[i]? else if i < off + j + vs.length then vs[i - off - j]? else ar[i]?
  | [], j, ar, i, _ => by
    simp only [List.zipIdx_nil, List.foldl_nil, List.length_nil, Nat.add_zero]
    split <;> rfl
  | v :: vs, j, ar, i, h => by
    rw [List.zipIdx_cons, List.foldl_cons, foldl_set off vs (j + 1) _ i (by simp at h ⊢; omega)]
    simp only [List.length_cons] at h ⊢
    by_cases h1 : i < off + j
    · rw [if_pos (by omega), if_pos h1, Array.getElem?_setIfInBounds_ne (by omega)]
    · rw [if_neg h1]
      by_cases h2 : i = off + j
      · subst h2
        rw [if_pos (by omega), if_pos (by omega), Array.getElem?_setIfInBounds_self_of_lt (by omega)]
        rw [show off + j - off - j = 0 by omega]; rfl
      · rw [if_neg (by omega)]
        by_cases h3 : i < off + (j + 1) + vs.length
        · rw [if_pos h3, if_pos (by omega)]
          rw [show i - off - j = (i - off - (j + 1)) + 1 by omega, List.getElem?_cons_succ]
        · rw [if_neg h3, if_neg (by omega), Array.getElem?_setIfInBounds_ne (by omega)]

theorem size_foldl_set (off : Nat) : ∀ (vs : List (Value × Nat)) (ar : Array Value), (vs.foldl (fun cs (c, k) => cs.setIfInBounds (off + k) c) ar).size = ar.size
  | [], ar => rfl
  | v :: vs, ar => by rw [List.foldl_cons, size_foldl_set off vs]; simp

theorem fill_spec {V : View} {D : Nat → Prop} {w : World} (place : Nat → Option (Nat × Nat)) : ∀ (ps : List (Nat × Val)) (qs : List (Nat × Value)) (cs rs : List Val) (ar : Array Value), RCs V D w cs ar → ps.length = qs.length →
    (∀ (i : Nat) (p : Nat × Val) (q : Nat × Value), ps[i]? = some p → qs[i]? = some q → p.1 = q.1 ∧ RV V D w p.2 q.2) → vfill place cs ps = some rs → ∃ br, Instr.fill place ar qs = some br ∧ RCs V D w rs br
  | [], [], cs, rs, ar, hc, _, _, hr => by cases hr; exact ⟨ar, rfl, hc⟩
  | (i, v) :: ps, (j, u) :: qs, cs, rs, ar, hc, hl, hp, hr => by
    obtain ⟨hij, hvu⟩ := hp 0 _ _ rfl rfl
    simp only at hij hvu
    subst hij
    simp only [vfill] at hr
    split at hr
    · rename_i off size es e1 e2
      split at hr
      · rename_i hcond
        have hE := vcells_spec hvu e2
        have hsz : off + u.cells.size ≤ ar.size := by rw [← hE.1, ← hc.1]; exact hcond.2
        simp only [Instr.fill, e1]
        have h1 : ¬ (u.cells.size ≠ size || off + u.cells.size > ar.size) = true := by
          simp; exact ⟨by rw [← hE.1]; exact hcond.1, hsz⟩
        rw [if_neg h1]
        refine fill_spec place ps qs _ rs _ ⟨?_, ?_⟩ (by simpa using hl) (fun k p q h3 h4 => hp (k + 1) p q (by simpa using h3) (by simpa using h4)) hr
        · rw [length_splice _ _ _ hcond.2, hc.1, ← Array.foldl_toList, Array.toList_zipIdx, size_foldl_set]
        · intro k e x h3 h4
          rw [← Array.foldl_toList, Array.toList_zipIdx, foldl_set off _ 0 _ k (by simpa using hsz)] at h4
          rw [get_splice _ _ _ _ hcond.2] at h3
          simp only [Nat.add_zero, Array.length_toList, ← hE.1, Nat.sub_zero] at h4
          by_cases c1 : k < off
          · simp only [c1, if_true] at h3 h4; exact hc.2 k e x h3 h4
          · by_cases c2 : k < off + es.length
            · simp only [c1, c2, if_true, if_false] at h3 h4; exact hE.2 _ e x h3 (by simpa using h4)
            · simp only [c1, c2, if_false] at h3 h4; exact hc.2 k e x h3 h4
      · cases hr
    · cases hr

end Go.Vm
/- Structs, arrays and slices that are built; make; a slice of an array. -/
namespace Go.Vm
open Go Go.RowKit
variable {P : Program} {G : List (Nat × Obj)}

def tsz (T : Nat → Option TD) (t : Nat) : Nat := ((T t).map (·.size)).getD 0

def TD.place (T : Nat → Option TD) (d : TD) : Nat → Option (Nat × Nat) :=
  match d.desc with
  | .struct fs => fun i => (fs[i]?).map fun f => (f.offset, tsz T f.type)
  | .array _ e => fun i => some (i * tsz T e, tsz T e)
  | _ => fun _ => none

def TD.known (T : Nat → Option TD) (d : TD) : Bool :=
  match d.desc with
  | .struct fs => fs.toList.all fun f => (T f.type).isSome
  | .array _ e => (T e).isSome
  | _ => false

theorem TabOK.tsz {T : Nat → Option TD} (hT : TabOK P T) {t : Nat} (h : (T t).isSome = true) (w : World) : (sizeOf t).run P w = .ok (tsz T t) w := by
  cases hd : T t with
  | none => simp [hd] at h
  | some d => rw [hT.size hd]; simp [Vm.tsz, hd]

theorem run_places {T : Nat → Option TD} (hT : TabOK P T) (w : World) : ∀ (fs : List Field), (fs.all fun f => (T f.type).isSome) = true →
    (fs.mapM (fun f => (do pure (f.offset, ← sizeOf f.type) : Sem (Nat × Nat)))).run P w = .ok (fs.map fun f => (f.offset, tsz T f.type)) w
  | [], _ => rfl
  | f :: fs, h => by
    simp only [List.all_cons, Bool.and_eq_true] at h
    have ih := run_places hT w fs h.2
    simp only [List.mapM_cons, Sem.run_bind, Sem.run_pure, Result.andThen_ok, hT.tsz h.1 w]
    rw [ih]
    rfl

theorem Does_build {T : Nat → Option TD} (hT : TabOK P T) {o : Oper} {t : TypeId} {parts : Array (Nat × Operand)} (ho : o.op = .build t parts) {d : TD} (ht : T t = some d) (hk : d.known T = true)
    {ev : Operand → Val} {rs : List Val} (hr : vfill (d.place T) (d.zero.map .c) (parts.toList.map fun p => (p.1, ev p.2)) = some rs) {fid : Option Nat} {ob : Ob} {nid : Nat} : Does P G o ev fid ob nid ⟨.agg rs, none, none⟩ :=
  Does.quiet fun V D w H ρ _ hv _ => by
    obtain ⟨z, hz, hzl⟩ := hT.zeroV ht w
    have hun := hT.under ht w
    have hzc : RCs V D w (d.zero.map .c) z.cells := by
      refine ⟨by rw [← hzl]; simp, ?_⟩
      intro i e v h1 h2
      rw [← hzl, List.getElem?_map] at h1
      simp [h2] at h1; subst h1; exact .c _
    obtain ⟨br, hf, hbr⟩ := fill_spec (V := V) (D := D) (w := w) (d.place T) (parts.toList.map fun p => (p.1, ev p.2)) (parts.map fun p => (p.1, ρ p.2)).toList (d.zero.map .c) rs z.cells hzc (by simp) (by
      intro i p q h1 h2
      simp only [Array.toList_map, List.getElem?_map, Option.map_eq_some_iff] at h1 h2
      obtain ⟨a, ha, rfl⟩ := h1
      obtain ⟨b, hb, rfl⟩ := h2
      rw [ha] at hb; cases hb
      refine ⟨rfl, hv _ ?_⟩
      simp only [ho, Op.operands, List.mem_toArray, List.mem_map]
      exact ⟨a, List.mem_of_getElem? ha, rfl⟩) hr
    refine ⟨.agg br, ?_, .agg hbr.1 hbr.2⟩
    unfold TD.known at hk
    unfold TD.place at hf
    cases hd : d.desc <;> rw [hd] at hk hf hun <;> simp at hk
    · rename_i len e
      simp only [execOp, ho, Instr.build, Sem.run_bind, hz, Result.andThen_ok, hun, hT.tsz hk]
      simp only [Array.toList_map] at hf
      simp [hf]
    · rename_i fs
      have hp := run_places (P := P) hT w fs.toList (by simpa using hk)
      simp only [execOp, ho, Instr.build, Sem.run_bind, hz, Result.andThen_ok, hun]
      rw [Array.mapM_eq_mapM_toList, Sem.run_map, hp]
      simp only [Array.toList_map] at hf
      simp [hf]

/-- Parts of a slice literal, one an element, all of them. -/
def vels (sz : Nat) : Nat → List (Nat × Val) → Option (List (List Val))
  | _, [] => some []
  | k, (i, v) :: r => if i = k then
      match vcells v, vels sz (k + 1) r with
      | some es, some xs => if es.length = sz ∧ es.all one1 = true then some (es :: xs) else none
      | _, _ => none
    else none

theorem fill_els {V : View} {D : Nat → Prop} {w : World} (sz : Nat) : ∀ (ps : List (Nat × Val)) (qs : List (Nat × Value)) (k : Nat) (xs : List (List Val)) (ar : Array Value), ps.length = qs.length →
    (∀ (i : Nat) (p : Nat × Val) (q : Nat × Value), ps[i]? = some p → qs[i]? = some q → p.1 = q.1 ∧ RV V D w p.2 q.2) → vels sz k ps = some xs → k * sz + xs.length * sz ≤ ar.size →
    ∃ br, Instr.fill (fun i => some (i * sz, sz)) ar qs = some br ∧ br.size = ar.size ∧ xs.length = ps.length ∧ (∀ j, j < k * sz → br[j]? = ar[j]?) ∧ REs V D w sz (k * sz) xs br
  | [], [], k, xs, ar, _, _, hr, hl => by
    cases hr
    exact ⟨ar, rfl, rfl, rfl, fun _ _ => rfl, by simpa using hl, by simp, by intro j v h1 h2; simp at h2; omega, by simp⟩
  | (i, v) :: ps, (j, u) :: qs, k, xs, ar, hlen, hp, hr, hl => by
    obtain ⟨hij, hvu⟩ := hp 0 _ _ rfl rfl
    simp only at hij hvu
    subst hij
    simp only [vels] at hr
    split at hr
    · rename_i hik
      subst hik
      split at hr
      · rename_i es xs' e1 e2
        split at hr
        · rename_i hc
          cases hr
          have hE := vcells_spec hvu e1
          have hus : u.cells.size = sz := by rw [← hE.1]; exact hc.1
          simp only [List.length_cons, Nat.add_mul, Nat.one_mul] at hl
          have h1 : ¬ (u.cells.size ≠ sz || i * sz + u.cells.size > ar.size) = true := by
            simp; exact ⟨hus, by omega⟩
          simp only [Instr.fill]
          rw [if_neg h1]
          obtain ⟨br, b1, b2, b3, b4, b5⟩ := fill_els sz ps qs (i + 1) xs' (Array.foldl (fun cs x => match x with | (c, j) => cs.setIfInBounds (i * sz + j) c) ar u.cells.zipIdx) (by simpa using hlen)
            (fun k p q h3 h4 => hp (k + 1) p q (by simpa using h3) (by simpa using h4)) e2 (by
              rw [← Array.foldl_toList, Array.toList_zipIdx, size_foldl_set, Nat.add_mul]; omega)
          have hset : ∀ k, (Array.foldl (fun cs x => match x with | (c, j) => cs.setIfInBounds (i * sz + j) c) ar u.cells.zipIdx)[k]? = if k < i * sz then ar[k]? else if k < i * sz + sz then u.cells[k - i * sz]? else ar[k]? := by
            intro k
            rw [← Array.foldl_toList, Array.toList_zipIdx, foldl_set (i * sz) _ 0 _ k (by simp [hus]; omega)]
            simp [hus]
          have hbr : ∀ k, k < i * sz + sz → br[k]? = if k < i * sz then ar[k]? else u.cells[k - i * sz]? := by
            intro k hk
            rw [b4 k (by rw [Nat.add_mul]; omega), hset]
            split
            · rfl
            · first | rfl | rw [if_pos hk]
          refine ⟨br, b1, by rw [b2, ← Array.foldl_toList, Array.toList_zipIdx, size_foldl_set], by simp [b3], ?_, ?_⟩
          · intro j hj
            rw [hbr j (by omega), if_pos hj]
          · have b51 := b5.1
            rw [Nat.add_mul, Nat.one_mul] at b51
            refine ⟨by simp only [List.length_cons, Nat.add_mul, Nat.one_mul]; omega, ?_, ?_, ?_⟩
            · intro x hx
              rcases List.mem_cons.1 hx with rfl | hx
              · exact hc.1
              · exact b5.2.1 x hx
            · intro j x h3 h4 h5
              simp only [List.length_cons, Nat.add_mul, Nat.one_mul] at h4
              by_cases hj : j < i * sz + sz
              · rw [hbr j hj, if_neg (by omega)] at h5
                exact one_all hE hc.2 _ x h5
              · exact b5.2.2.1 j x (by rw [Nat.add_mul]; omega) (by rw [Nat.add_mul]; omega) h5
            · intro a x j dd y h3 h4 h5
              cases a with
              | zero =>
                simp at h3; subst h3
                have hjl : j < sz := by rw [← hc.1]; exact (List.getElem?_eq_some_iff.1 h4).1
                simp only [Nat.zero_mul, Nat.add_zero] at h5
                rw [hbr _ (by omega), if_neg (by omega)] at h5
                exact hE.2 j dd y h4 (by rw [← h5]; congr 1; omega)
              | succ a =>
                simp at h3
                exact b5.2.2.2 a x j dd y h3 h4 (by rw [← h5]; congr 1; rw [Nat.add_mul, Nat.add_mul]; omega)
        · cases hr
      · cases hr
    · cases hr

/-- A new block that nobody will write. -/
theorem RelF.newSh {V : View} {D : Nat → Prop} {w : World} {H : Nat → Ob} (hr : RelF G V w D H) (ob : Obj) :
    RelF G (V.share w.heap.size) (w.alloc ob) D H ∧ Step V w D H (V.share w.heap.size) (w.alloc ob) H := by
  have hheap : ∀ k, k < w.heap.size → (w.alloc ob).heap[k]? = w.heap[k]? := fun k hk => Below.heap_alloc w ob k hk
  refine ⟨⟨?_, hr.dead, hr.inj, ?_, ?_, ?_, ?_⟩, ⟨fun _ _ => rfl, fun _ _ => rfl, fun _ h => .inl h, ?_, by simp, rfl, rfl, rfl, fun k hk _ => hheap k hk, fun i b h1 h2 _ => ⟨i, h1, h2⟩⟩⟩
  · intro i hi
    by_cases hl : (H i).live = true
    · exact (hr.obj i hi).mono (V := V) (V' := V.share w.heap.size) (fun _ h => h) (fun _ _ => rfl) (fun _ _ => rfl) (fun _ h => .inl h) (fun k hk => hheap k (hr.shlt k hk)) hi (fun _ b hb => hheap b (hr.lt i b hl hb))
    · have : H i = .gone := by cases hh : H i <;> simp [hh, Ob.live] at hl; rfl
      rw [this]; trivial
  · intro i b hi hb hs
    rcases hs with hs | rfl
    · exact hr.apart i b hi hb hs
    · exact Nat.lt_irrefl _ (hr.lt i _ hi hb)
  · intro i b hi hb; have := hr.lt i b hi hb; simp; omega
  · intro k hk
    rcases hk with hk | rfl
    · have := hr.shlt k hk; simp; omega
    · simp
  · intro g o hg
    obtain ⟨h1, h2⟩ := hr.gl g o hg
    exact ⟨(hheap g (hr.shlt g h2)).trans h1, .inl h2⟩
  · intro k hk hlt
    rcases hk with hk | rfl
    · exact .inl hk
    · exact absurd hlt (Nat.lt_irrefl _)

theorem RV.newSh {V : View} {D : Nat → Prop} {w : World} {H : Nat → Ob} (hr : RelF G V w D H) {ob : Obj} {d : Val} {v : Value} (h : RV V D w d v) : RV (V.share w.heap.size) D (w.alloc ob) d v :=
  RV.mono (V := V) (V' := V.share w.heap.size) (fun _ h => h) (fun _ _ => rfl) (fun _ _ => rfl) (fun _ h => Or.inl h) (fun k hk => Below.heap_alloc w ob k (hr.shlt k hk)) h

theorem run_buildSlice {T : Nat → Option TD} (hT : TabOK P T) {t : TypeId} {len : Nat} {d de : TD} {e : TypeId} (ht : T t = some d) (he : isSlice d = some e) (hde : T e = some de) (hz : de.zero.length = de.size)
    (h24 : len * de.size ≤ 2 ^ 24) {V : View} {D : Nat → Prop} {w : World} {ps : List (Nat × Val)} {qs : Array (Nat × Value)} (hl : ps.length = qs.size)
    (hp : ∀ (i : Nat) (p : Nat × Val) (q : Nat × Value), ps[i]? = some p → qs[i]? = some q → p.1 = q.1 ∧ RV V D w p.2 q.2) {xs : List (List Val)} (hx : vels de.size 0 ps = some xs) (hlen : ps.length = len) :
    ∃ br, (Instr.buildSlice t len qs).run P w = .ok (.slice (some ⟨w.heap.size, 0, none⟩) len len) (w.alloc (.cells br e)) ∧ br.size = len * de.size ∧ xs.length = len ∧ REs V D w de.size 0 xs br := by
  have hun := hT.under ht w
  rw [isSlice_spec he] at hun
  obtain ⟨z, hzr, hzl⟩ := hT.zeroV hde w
  have key : ∀ (zc : Array Value), zc.size = len * de.size → ∃ br, Instr.fill (fun i => some (i * de.size, de.size)) zc qs.toList = some br ∧ br.size = len * de.size ∧ xs.length = len ∧ REs V D w de.size 0 xs br := by
    intro zc hzc
    have hxl : xs.length = ps.length := by
      clear hp hl hlen
      revert xs
      generalize 0 = k
      induction ps generalizing k with
      | nil => intro xs hx; cases hx; rfl
      | cons p ps ih =>
        obtain ⟨i, v⟩ := p
        intro xs hx
        simp only [vels] at hx
        split at hx
        · split at hx
          · split at hx
            · cases hx; simp [ih _ ‹_›]
            · cases hx
          · cases hx
        · cases hx
    obtain ⟨br, b1, b2, b3, b4, b5⟩ := fill_els de.size ps qs.toList 0 xs zc (by simpa using hl) (fun i p q h1 h2 => hp i p q h1 (by simpa using h2)) hx (by rw [hzc, hxl, hlen]; omega)
    rw [Nat.zero_mul] at b5
    exact ⟨br, b1, by rw [b2, hzc], by omega, b5⟩
  have h24' : ¬ (len * de.size > 2 ^ 24) := by omega
  by_cases h0 : len * de.size = 0
  · obtain ⟨br, b1, b2, b3, b4⟩ := key #[] (by simp [h0])
    refine ⟨br, ?_, b2, b3, b4⟩
    have hz0 : Array.map (fun (_ : Nat) => (default : Value)) (Array.range 0) = #[] := by simp
    simp [Instr.buildSlice, hun, hT.size hde, h0, newRow, hz0, b1]
  · obtain ⟨br, b1, b2, b3, b4⟩ := key ((Array.range (len * de.size)).map (z.cells[· % z.cells.size]!)) (by simp)
    refine ⟨br, ?_, b2, b3, b4⟩
    simp [Instr.buildSlice, hun, hT.size hde, h0, h24', newRow, b1, hzr]

theorem Does_buildSlice {T : Nat → Option TD} (hT : TabOK P T) {o : Oper} {t : TypeId} {len : Nat} {parts : Array (Nat × Operand)} (ho : o.op = .buildSlice t len parts) {d de : TD} {e : TypeId} (ht : T t = some d) (he : isSlice d = some e) (hde : T e = some de)
    (hz : de.zero.length = de.size) (h24 : len * de.size ≤ 2 ^ 24) (hlen : parts.size = len) {ev : Operand → Val} {xs : List (List Val)} (hx : vels de.size 0 (parts.toList.map fun p => (p.1, ev p.2)) = some xs) {fid : Option Nat} {ob : Ob} {nid : Nat} :
    Does P G o ev fid ob nid ⟨.sl de.size xs, none, none⟩ := by
  intro V D w H ρ hr hv hf hn
  obtain ⟨br, b1, b2, b3, b4⟩ := run_buildSlice (P := P) hT ht he hde hz h24 (V := V) (D := D) (w := w) (ps := parts.toList.map fun p => (p.1, ev p.2)) (qs := parts.map fun p => (p.1, ρ p.2)) (by simp) (by
      intro i p q h1 h2
      simp only [List.getElem?_map, Array.getElem?_map, Option.map_eq_some_iff] at h1 h2
      obtain ⟨a, ha, rfl⟩ := h1
      obtain ⟨b, hb, rfl⟩ := h2
      have : a = b := by
        have ha2 : parts[i]? = some a := by simpa using ha
        rw [ha2] at hb; exact Option.some.inj hb
      subst this
      refine ⟨rfl, hv _ ?_⟩
      simp only [ho, Op.operands, List.mem_toArray, List.mem_map]
      exact ⟨a, List.mem_of_getElem? ha, rfl⟩) hx (by simpa using hlen)
  obtain ⟨k1, k2⟩ := hr.newSh (.cells br e)
  have hD : (⟨.sl de.size xs, none, none⟩ : Ef).addD D nid = D := addD_old rfl D nid
  have hH : (⟨.sl de.size xs, none, none⟩ : Ef).updH H fid nid = H := by funext i; simp [Ef.updH]
  rw [hD, hH]
  refine ⟨.slice (some ⟨w.heap.size, 0, none⟩) len len, _, _, .inl (by simp [execOp, ho, b1]), k1, k2, ?_⟩
  rw [← b3]
  refine .sl (off := 0) (.inr rfl) (heap_new w _) (Nat.le_refl _) (by rw [b2, ← b3]; omega) b4.2.1 b4.2.2.1 ?_
  intro i x j dd v h1 h2 h3
  exact RV.newSh hr (b4.2.2.2 i x j dd v h1 h2 h3)

theorem Does_buildSlice_os {T : Nat → Option TD} (hT : TabOK P T) {o : Oper} {t : TypeId} {len : Nat} {parts : Array (Nat × Operand)} (ho : o.op = .buildSlice t len parts) {d de : TD} {e : TypeId} (ht : T t = some d) (he : isSlice d = some e) (hde : T e = some de)
    (hz : de.zero.length = de.size) (h24 : len * de.size ≤ 2 ^ 24) (hlen : parts.size = len) {ev : Operand → Val} {xs : List (List Val)} (hx : vels de.size 0 (parts.toList.map fun p => (p.1, ev p.2)) = some xs) {fid : Option Nat} {ob : Ob} {nid : Nat} :
    Does P G o ev fid ob nid ⟨.os nid len, none, some (.arr e de.size xs)⟩ := 
  Does_new len fun V D w H ρ hr hv _ => by
    obtain ⟨br, b1, b2, b3, b4⟩ := run_buildSlice (P := P) hT ht he hde hz h24 (V := V) (D := D) (w := w) (ps := parts.toList.map fun p => (p.1, ev p.2)) (qs := parts.map fun p => (p.1, ρ p.2)) (by simp) (by
        intro i p q h1 h2
        simp only [List.getElem?_map, Array.getElem?_map, Option.map_eq_some_iff] at h1 h2
        obtain ⟨a, ha, rfl⟩ := h1
        obtain ⟨b, hb, rfl⟩ := h2
        have : a = b := by
          have ha2 : parts[i]? = some a := by simpa using ha
          rw [ha2] at hb; exact Option.some.inj hb
        subst this
        refine ⟨rfl, hv _ ?_⟩
        simp only [ho, Op.operands, List.mem_toArray, List.mem_map]
        exact ⟨a, List.mem_of_getElem? ha, rfl⟩) hx (by simpa using hlen)
    refine ⟨.slice (some ⟨w.heap.size, 0, none⟩) len len, .cells br e, by simp [execOp, ho, b1], ?_⟩
    intro hn
    refine ⟨.inr ⟨w.heap.size, br, by simp [View.bind], heap_new w _, by simp [View.bind]; exact b2, by simp [View.bind]; omega, b4.1, b4.2.1, b4.2.2.1, fun i x j dd v h1 h2 h3 => (b4.2.2.2 i x j dd v h1 h2 h3).new hr hn⟩, os_new (.inr rfl)⟩

/-- A block that was ours is shared from now on. -/
theorem RelF.share {V : View} {D : Nat → Prop} {w : World} {H : Nat → Ob} (hr : RelF G V w D H) {id b : Nat} (hl : (H id).live = true) (hb : V.at_ id = some b) :
    RelF G (V.share b) w D (fun i => if i = id then .gone else H i) ∧ Step V w D H (V.share b) w (fun i => if i = id then .gone else H i) := by
  have hlive : ∀ i, (if i = id then Ob.gone else H i).live = true → (H i).live = true ∧ i ≠ id := by
    intro i h; split at h
    · simp [Ob.live] at h
    · exact ⟨h, ‹_›⟩
  refine ⟨⟨?_, ?_, ?_, ?_, ?_, ?_, ?_⟩, ⟨fun _ _ => rfl, fun _ _ => rfl, fun _ h => .inl h, ?_, Nat.le_refl _, rfl, rfl, rfl, fun _ _ _ => rfl, fun i k h1 h2 _ => ⟨i, (hlive i h1).1, h2⟩⟩⟩
  · intro i hi
    by_cases e : i = id
    · simp only [e, if_true]; trivial
    · simp only [e, if_false]
      exact (hr.obj i hi).mono (V := V) (V' := V.share b) (fun _ h => h) (fun _ _ => rfl) (fun _ _ => rfl) (fun _ h => .inl h) (fun k hk => rfl) hi (fun _ b hb => rfl)
  · intro i hi
    by_cases e : i = id
    · simp only [e, if_true]
    · simp only [e, if_false]; exact hr.dead i hi
  · intro i j k hi hj; exact hr.inj i j k (hlive i hi).1 (hlive j hj).1
  · intro i k hi hk hs
    rcases hs with hs | rfl
    · exact hr.apart i k (hlive i hi).1 hk hs
    · exact (hlive i hi).2 (hr.inj i id _ (hlive i hi).1 hl hk hb)
  · intro i k hi hk; exact hr.lt i k (hlive i hi).1 hk
  · intro k hk
    rcases hk with hk | rfl
    · exact hr.shlt k hk
    · exact hr.lt id _ hl hb
  · intro g o hg
    obtain ⟨h1, h2⟩ := hr.gl g o hg
    exact ⟨h1, .inl h2⟩
  · intro k hk hlt
    rcases hk with hk | rfl
    · exact .inl hk
    · exact .inr ⟨id, hl, hb⟩

theorem RV.share {V : View} {D : Nat → Prop} {w : World} {b : Nat} {d : Val} {v : Value} (h : RV V D w d v) : RV (V.share b) D w d v :=
  RV.mono (V := V) (V' := V.share b) (fun _ h => h) (fun _ _ => rfl) (fun _ _ => rfl) (fun _ h => Or.inl h) (fun k hk => rfl) h

theorem updH_kill {r : Val} (H : Nat → Ob) (id nid : Nat) : (⟨r, some .gone, none⟩ : Ef).updH H (some id) nid = fun i => if i = id then .gone else H i := by
  funext i; simp only [Ef.updH, Option.some.injEq, Option.getD_some]
  by_cases e : i = id
  · simp [e]
  · simp [e, Ne.symm e]

theorem Does_slice_arr {T : Nat → Option TD} (hT : TabOK P T) {o : Oper} {t : TypeId} {x : Operand} (ho : o.op = .slice t x none none none) {d de : TD} {e : TypeId} {len : Nat} (ht : T t = some d) (he : isArray d = some (len, e)) (hde : T e = some de)
    (h1 : de.size = 1) {ev : Operand → Val} {id : Nat} (hx : ev x = .ptr id 0) {cs : List Val} (hl : cs.length = len) (hpos : len ≠ 0) {nid : Nat} : Does P G o ev (some id) (.blk cs) nid ⟨.sl 1 (cs.map fun c => [c]), some .gone, none⟩ := by
  intro V D w H ρ hr hv hf hn
  have e1 := hv x (by simp [ho, Op.operands]); rw [hx] at e1
  have hH := hf id rfl
  have hun := hT.under ht w
  rw [isArray_spec he] at hun
  generalize hq : ρ x = v at e1
  cases e1
  rename_i b hi hb
  have hobj := hr.obj id hi
  rw [hH] at hobj
  obtain ⟨b', ar, T', f1, f2, f3, f4⟩ := hobj
  rw [hb] at f1; cases f1
  obtain ⟨k1, k2⟩ := hr.share (id := id) (b := b) (by rw [hH]; rfl) hb
  have hbd := run_sliceBounds (P := P) false len len (lo := none) (hi := none) (l := 0) (h := len) (.inl ⟨rfl, rfl⟩) (.inl ⟨rfl, rfl⟩) (Int.le_refl _) (by omega) (Int.le_refl _) w
  rw [addD_old rfl, updH_kill]
  refine ⟨.slice (some ⟨b, 0, none⟩) len len, w, _, .inl ?_, k1, k2, ?_⟩
  · have : len ≠ 0 := hpos
    simp only [Int.toNat_zero, Int.toNat_natCast] at hbd
    simp [execOp, ho, hq, Instr.sliceAt, Instr.sureAddr, hun, hbd, hT.size hde, h1, add_none]
  · have hlen : len = (cs.map fun c => [c]).length := by simp [hl]
    have := RV.sl (V := V.share b) (n := D) (w := w) (xs := cs.map fun c => [c]) (k := b) (off := 0) (cap := len) (sz := 1) (.inr rfl) f2 (by simp [hl]) (by simp [f3.1])
      (by simp) (by intro j v _ _ h; exact f4 j v h) (by
        intro i x j dd v h3 h4 h5
        rw [List.getElem?_map, Option.map_eq_some_iff] at h3
        obtain ⟨c, hc, rfl⟩ := h3
        cases j with
        | zero => simp at h4 h5; subst h4; exact RV.share (f3.2 i c v hc h5)
        | succ j => simp at h4)
    rwa [← hlen] at this

theorem run_makeSlice {T : Nat → Option TD} (hT : TabOK P T) {t : TypeId} {d de : TD} {e : TypeId} (ht : T t = some d) (he : isSlice d = some e) (hde : T e = some de) (hz : de.zero.length = de.size) {n : Nat} (hb : n * de.bytes ≤ 140737488355328) (hm : n ≤ 140737488355328) (w : World) :
    ∃ ar, (Instr.makeSlice t (.int .i64 n) (.int .i64 n)).run P w = .ok (.slice (some ⟨w.heap.size, 0, none⟩) n n) (w.alloc (.cells ar e)) ∧ ar.size = n * de.size ∧ ∀ i, i < n * de.size → ar[i]? = de.zero[i % de.size]? := by
  have hun := hT.under ht w
  rw [isSlice_spec he] at hun
  obtain ⟨ti, hti, hby, hsz⟩ := hT.bytes hde w
  obtain ⟨z, hzr, hzl⟩ := hT.zeroV hde w
  have hwr : IntKind.i64.wrap (n : Int) = n := IntWalk.i64_in _ (by omega)
  have hzs : z.cells.size = de.size := by rw [← Array.length_toList, hzl, hz]
  have hby' : ¬ ((de.bytes : Int) * n > 2 ^ 48) := by
    have : (de.bytes : Int) * n = ((n * de.bytes : Nat) : Int) := by rw [Nat.mul_comm]; push_cast; rfl
    rw [this]; omega
  have hno : ¬ (((n : Int) < 0 ∨ 281474976710656 < (de.bytes : Int) * n) ∨ (n : Int) < 0) := by omega
  by_cases h0 : n * de.size = 0
  · refine ⟨#[], ?_, by simp [h0], by intro i hi; omega⟩
    have hz0 : Array.map (fun (_ : Nat) => (default : Value)) (Array.range 0) = #[] := by simp
    simp [Instr.makeSlice, hun, asInt, asIntOf, hti, hby, hwr, hT.size hde, h0, newRow]
    rw [if_neg hno, hz0]
  · refine ⟨(Array.range (n * de.size)).map (z.cells[· % z.cells.size]!), ?_, by simp, ?_⟩
    · simp [Instr.makeSlice, hun, asInt, asIntOf, hti, hby, hwr, hT.size hde, h0, hzr, newRow]
      exact fun h => absurd h hno
    · intro i hi
      have hp : 0 < de.size := by
        rcases Nat.eq_zero_or_pos de.size with h | h
        · rw [h] at h0; simp at h0
        · exact h
      have hlt : i % de.size < z.cells.size := by rw [hzs]; exact Nat.mod_lt _ hp
      rw [Array.getElem?_map, Array.getElem?_range, ← hzl]
      simp only [hi, hzs, if_true, Option.map_some, Array.getElem?_toList]
      rw [getElem!_pos z.cells _ hlt, Array.getElem?_eq_getElem hlt]

theorem Does_makeSlice {T : Nat → Option TD} (hT : TabOK P T) {o : Oper} {t : TypeId} {x y : Operand} (ho : o.op = .makeSlice t x y) {d de : TD} {e : TypeId} (ht : T t = some d) (he : isSlice d = some e) (hde : T e = some de) (hz : de.zero.length = de.size)
    (h1 : de.zero.all oneC = true) {ev : Operand → Val} {n : Nat} (hx : ev x = .c (.int .i64 n)) (hy : ev y = .c (.int .i64 n)) (hb : n * de.bytes ≤ 140737488355328) (hm : n ≤ 140737488355328) {fid : Option Nat} {ob : Ob} {nid : Nat} :
    Does P G o ev fid ob nid ⟨.os nid n, none, some (.arr e de.size (List.replicate n (de.zero.map .c)))⟩ :=
  Does_new n fun V D w H ρ hr hv _ => by
    have e1 := hv x (by simp [ho, Op.operands]); rw [hx] at e1
    have e2 := hv y (by simp [ho, Op.operands]); rw [hy] at e2
    obtain ⟨ar, r1, r2, r3⟩ := run_makeSlice (P := P) hT ht he hde hz hb hm w
    refine ⟨.slice (some ⟨w.heap.size, 0, none⟩) n n, .cells ar e, by simp [execOp, ho, e1.c_inv, e2.c_inv, r1], ?_⟩
    intro hn
    have key : ∀ (i : Nat) (v : Value), ar[i]? = some v → v ∈ de.zero := by
      intro i v hv
      have hi : i < ar.size := (Array.getElem?_eq_some_iff.1 hv).1
      rw [r3 i (by omega)] at hv
      exact List.mem_of_getElem? hv
    refine ⟨.inr ⟨w.heap.size, ar, by simp [View.bind], heap_new w _, by simp [View.bind]; exact r2, by simp [View.bind], ?_, ?_, ?_, ?_⟩, os_new (.inr rfl)⟩
    · simp; omega
    · intro y hy
      rw [List.mem_replicate] at hy
      rw [hy.2]; simp [hz]
    · intro j v _ _ hv
      exact List.all_eq_true.1 h1 v (key j v hv)
    · intro i y j dd v h2 h3 h4
      have hy : y = de.zero.map .c := by
        have := List.mem_of_getElem? h2
        rw [List.mem_replicate] at this; exact this.2
      subst hy
      have hi : i < n := by simpa using (List.getElem?_eq_some_iff.1 h2).1
      have hj : j < de.size := by rw [← hz]; simpa using (List.getElem?_eq_some_iff.1 h3).1
      rw [List.getElem?_map, Option.map_eq_some_iff] at h3
      obtain ⟨u, hu, rfl⟩ := h3
      have hlt : i * de.size + j < n * de.size := by
        have : (i + 1) * de.size ≤ n * de.size := Nat.mul_le_mul_right _ hi
        rw [Nat.add_mul] at this; omega
      rw [Nat.zero_add, r3 _ hlt, Nat.mul_comm, Nat.mul_add_mod, Nat.mod_eq_of_lt hj, hu] at h4
      cases h4
      exact .c _

def vmax2 : Value → Value → Option Value
  | .int k a, .int _ b => some (.int k (if b > a then b else a))
  | _, _ => none

theorem Does_max {o : Oper} {x y : Operand} {at_ : Array TypeId} (ho : o.op = .call { callee := .builtin .max, args := #[x, y], argTypes := at_ }) {ev : Operand → Val} {a b r : Value} (hx : ev x = .c a) (hy : ev y = .c b) (hr : vmax2 a b = some r)
    {fid : Option Nat} {ob : Ob} {nid : Nat} : Does P G o ev fid ob nid ⟨.c r, none, none⟩ :=
  Does.quiet fun V D w H ρ _ hv _ => by
    have h1 := hv x (by simp [ho, Op.operands, Call.operands]); rw [hx] at h1
    have h2 := hv y (by simp [ho, Op.operands, Call.operands]); rw [hy] at h2
    refine ⟨r, ?_, RV.c r⟩
    unfold vmax2 at hr
    split at hr
    · cases hr
      simp [execOp, ho, resolve, invoke, builtin, Builtin.max_, h1.c_inv, h2.c_inv, Builtin.max2]
    · cases hr

end Go.Vm
/- The operations of a region, one behind the other; calls. -/
namespace Go.Vm
open Go Go.RowKit
variable {P : Program} {G : List (Nat × Obj)} {ro : Option Nat}

def Hp.app (h : Hp) (fid : Option Nat) (ef : Ef) : Hp :=
  let h1 := match fid, ef.up with
    | some id, some o => List.set h id o
    | _, _ => h
  match ef.nw with
  | some o => h1 ++ [o]
  | none => h1

def St.app (s : St) (dst : Option Tmp) (fid : Option Nat) (ef : Ef) : St := { (s.put dst ef.r) with h := s.h.app fid ef }

theorem Hp.get_lt {h : Hp} {i : Nat} (hl : (h.get i).live = true) : i < h.length := by
  unfold Hp.get at hl
  rcases Nat.lt_or_ge i h.length with hi | hi
  · exact hi
  · rw [List.getElem?_eq_none hi] at hl; simp [Ob.live] at hl

theorem Hp.get_app (h : Hp) {fid : Option Nat} {ef : Ef} (hf : ∀ id, fid = some id → id < h.length) : (h.app fid ef).get = ef.updH h.get fid h.length := by
  funext i
  have h1 : ∀ (k : Hp) (j : Nat), Hp.get k j = (k[j]?).getD .gone := fun _ _ => rfl
  cases fid with
  | none =>
    cases hn : ef.nw with
    | none => simp [Hp.app, Ef.updH, hn]
    | some o =>
      simp only [Hp.app, Ef.updH, hn, h1]
      rw [List.getElem?_append]
      by_cases e : i = h.length
      · simp [e]
      · by_cases hi : i < h.length
        · simp [hi, e]
        · have : i - h.length ≠ 0 := by omega
          simp [hi, e]
          rw [List.getElem?_eq_none (by simp; omega)]; rfl
  | some id =>
    have hid := hf id rfl
    cases hu : ef.up with
    | none =>
      cases hn : ef.nw with
      | none => simp [Hp.app, Ef.updH, hn, hu]
      | some o =>
        simp only [Hp.app, Ef.updH, hn, hu, h1, Option.getD_none, ite_self]
        rw [List.getElem?_append]
        by_cases e : i = h.length
        · simp [e]
        · by_cases hi : i < h.length
          · simp [hi, e]
          · simp [hi, e]
            rw [List.getElem?_eq_none (by simp; omega)]; rfl
    | some ob =>
      cases hn : ef.nw with
      | none =>
        simp only [Hp.app, Ef.updH, hn, hu, h1, Option.some.injEq, Option.getD_some]
        rw [List.getElem?_set]
        by_cases e : id = i
        · subst e; simp [hid]
        · simp [e]
      | some o =>
        simp only [Hp.app, Ef.updH, hn, hu, h1, Option.some.injEq, Option.getD_some]
        rw [List.getElem?_append, List.length_set]
        by_cases e : i = h.length
        · simp [e]
        · by_cases hi : i < h.length
          · simp only [hi, if_true, e, if_false, List.getElem?_set]
            by_cases e2 : id = i
            · subst e2; simp [hid]
            · simp [e2]
          · have e2 : id ≠ i := by omega
            simp only [hi, if_false, e, e2]
            rw [List.getElem?_eq_none (by simp; omega), List.getElem?_eq_none (show h.length ≤ i by omega)]

theorem Hp.D_app (h : Hp) {fid : Option Nat} {ef : Ef} : (h.app fid ef).D = ef.addD h.D h.length := by
  funext i
  have hl : ∀ (k : Hp), (match fid, ef.up with | some id, some o => List.set h id o | _, _ => h).length = h.length := by
    intro _; split <;> simp
  cases hn : ef.nw with
  | none => simp only [Hp.D, Hp.app, Ef.addD, hn, hl h]; simp
  | some o => simp only [Hp.D, Hp.app, Ef.addD, hn, List.length_append, hl h]; simp; omega

def WL (P : Program) (G : List (Nat × Obj)) (ro : Option Nat) (ops : Array Oper) (l : List Oper) (K : St → Prop) (s : St) : Prop :=
  ∀ (i : Nat), (∀ j, l[j]? = ops[i + j]?) → ∀ (V0 : View) (w0 : World) (s0 : St) (V : View) (a : Act) (w : World), Rel G V s a w → StepS V0 w0 s0 V w s → (∀ i, s0.h.D i → s.h.D i) →
    ∀ n (Q : Exit → St → Prop), (∀ s, K s → Q .normal s) → wpOpsIn (fence ro) n P ops (Post G V0 w0 s0 Q) (List.range' i l.length) a w

theorem W_region {id : Nat} {ops : Array Oper} {Q : Exit → St → Prop} {s : St} (h : WL P G ro ops ops.toList (Q .normal) s) : W P G ro (.region id ops false) Q s := by
  intro V a w hr n
  refine wpIn_region ?_
  have := h 0 (by intro j; simp) V w s V a w hr (Step.refl _ _ _ _) (fun _ h => h) n Q (fun _ h => h)
  rw [Array.length_toList] at this
  rw [List.range_eq_range']
  exact this

theorem WL_nil {ops : Array Oper} {K : St → Prop} {s : St} (h : K s) : WL P G ro ops [] K s :=
  fun i _ V0 w0 s0 V a w hr hs hn n Q hq => ⟨V, s, hr, hs, hn, hq s h⟩

/-- What the frame holds behind an operation. -/
theorem Rel.put {V V' : View} {s : St} {a : Act} {w w' : World} (hr : Rel G V s a w) {h' : Hp} (hp : RelF G V' w' h'.D h'.get) (hs : Step V w s.h.D s.h.get V' w' h'.get) (hD : ∀ i, s.h.D i → h'.D i)
    (hd : ∀ id, id ∈ s.d → h'.get id = .dfr) {dst : Option Tmp} {r : Val} {x : Value} (hx : RV V' h'.D w' r x) : Rel G V' { (s.put dst r) with h := h' } (a.put dst x) w' := by
  have hold : ∀ i, RV V' h'.D w' (s.get i) (a.tmps.getD i undef) := fun i => (hr.tm i).step hs hr.hp hD
  have hmark : s.d.map (mark V') = s.d.map (mark V) := by
    refine List.map_congr_left fun id hid => ?_
    have : s.h.D id := hr.hp.dom (by rw [hr.dl id hid]; rfl)
    simp [mark, hs.at_ id this]
  cases dst with
  | none => exact ⟨hr.sz, hold, hp, by rw [show (s.put none r).d = s.d from rfl, hmark]; exact hr.df, hd⟩
  | some d =>
    have hd' : (s.put (some d) r).d = s.d := by simp only [St.put]; split <;> rfl
    have hm' : (s.put (some d) r).m = s.m := by simp only [St.put]; split <;> rfl
    refine ⟨?_, ?_, hp, ?_, ?_⟩
    · show (a.tmps.setIfInBounds d x).size = _
      rw [Array.size_setIfInBounds, hr.sz]; exact hm'.symm
    · intro i
      show RV V' h'.D w' (lk (s.put (some d) r).t i) ((a.tmps.setIfInBounds d x).getD i undef)
      by_cases hlt : d < s.m
      · simp only [St.put, hlt, if_true, lk]
        by_cases e : i = d
        · subst e
          have : i < a.tmps.size := by rw [hr.sz]; exact hlt
          simp only [if_true, Array.getD_eq_getD_getElem?, Array.getElem?_setIfInBounds_self_of_lt this, Option.getD_some]
          exact hx
        · simp only [e, if_false, Array.getD_eq_getD_getElem?, Array.getElem?_setIfInBounds_ne (Ne.symm e)]
          have := hold i
          rw [Array.getD_eq_getD_getElem?] at this
          exact this
      · simp only [St.put, hlt, if_false]
        have hge : a.tmps.size ≤ d := by rw [hr.sz]; exact Nat.le_of_not_lt hlt
        rw [Array.setIfInBounds_eq_of_size_le hge]
        exact hold i
    · show a.defers = _
      rw [hd', hmark]; exact hr.df
    · intro id hid
      exact hd id (by rw [← hd']; exact hid)

/-- Is the operation's guard met? -/
def Wants (ops : Array Oper) (s : St) (o : Oper) : Prop := o.guard = none ∨ ∃ j b d, o.guard = some (j, b) ∧ (ops[j]?).bind (·.dst) = some d ∧ s.get d = .c (.bool b)
def Skips (ops : Array Oper) (s : St) (o : Oper) : Prop := ∃ j b, o.guard = some (j, b) ∧ ∀ d, (ops[j]?).bind (·.dst) = some d → ∃ v, s.get d = .c v ∧ v ≠ .bool b

theorem yielded_of {V : View} {s : St} {a : Act} {w : World} (hr : Rel G V s a w) {ops : Array Oper} {j d : Nat} {b : Bool} (h1 : (ops[j]?).bind (·.dst) = some d) (h2 : s.get d = .c (.bool b)) : yielded ops a.tmps j = some b := by
  have h := hr.tm d
  rw [h2] at h
  have hc := h.c_inv
  rw [Array.getD_eq_getD_getElem?] at hc
  unfold yielded
  rw [h1]
  cases hq : a.tmps[d]? with
  | none => rw [hq] at hc; simp [undef] at hc
  | some v => rw [hq] at hc; simp at hc; subst hc; simp [hq]

theorem Wants.ok {V : View} {s : St} {a : Act} {w : World} (hr : Rel G V s a w) {ops : Array Oper} {o : Oper} (h : Wants ops s o) : Region.wanted o (yielded ops a.tmps) = true := by
  rcases h with h | ⟨j, b, d, h1, h2, h3⟩
  · simp [Region.wanted, h]
  · simp [Region.wanted, h1, yielded_of hr h2 h3]
theorem not_yielded {ops : Array Oper} {tmps : Array Value} {j : Nat} {b : Bool} (h : ∀ d, (ops[j]?).bind (·.dst) = some d → ∃ v, tmps.getD d undef = v ∧ v ≠ .bool b) : yielded ops tmps j ≠ some b := by
  unfold yielded
  cases h1 : (ops[j]?).bind (·.dst) with
  | none => simp
  | some d =>
    obtain ⟨v, h2, h3⟩ := h d h1
    show (match tmps[d]? with | some (.bool b) => some b | _ => none) ≠ some b
    rw [Array.getD_eq_getD_getElem?] at h2
    cases hq : tmps[d]? with
    | none => simp
    | some x =>
      rw [hq] at h2; simp at h2; subst h2
      cases x <;> simp
      rename_i b'
      intro e; subst e; exact h3 rfl
theorem Skips.ok {V : View} {s : St} {a : Act} {w : World} (hr : Rel G V s a w) {ops : Array Oper} {o : Oper} (h : Skips ops s o) : Region.wanted o (yielded ops a.tmps) = false := by
  obtain ⟨j, b, h1, h2⟩ := h
  have := not_yielded (tmps := a.tmps) (b := b) (ops := ops) (j := j) (fun d hd => by
    obtain ⟨v, h3, h4⟩ := h2 d hd
    have h := hr.tm d
    rw [h3] at h
    exact ⟨v, h.c_inv, h4⟩)
  simp only [Region.wanted, h1]
  simpa using this

theorem WL_skip {ops : Array Oper} {o : Oper} {l : List Oper} {K : St → Prop} {s : St} (hg : Skips ops s o) (h : WL P G ro ops l K (s.put o.dst (.c undef))) : WL P G ro ops (o :: l) K s := by
  intro i hi V0 w0 s0 V a w hr hs hn n Q hq
  have ho : ops[i]? = some o := by have := hi 0; simpa using this.symm
  rw [List.length_cons, List.range'_succ]
  simp only [wpOpsIn, ho, hg.ok hr, Bool.false_eq_true, if_false]
  have hrel : Rel G V (s.put o.dst (.c undef)) (a.put o.dst undef) w := by
    have := hr.put (h' := s.h) hr.hp (Step.refl _ _ _ _) (fun _ h => h) hr.dl (dst := o.dst) (.c undef)
    have e : { (s.put o.dst (.c undef)) with h := s.h } = s.put o.dst (.c undef) := by
      cases o.dst with
      | none => rfl
      | some d => simp only [St.put]; split <;> rfl
    rw [e] at this; exact this
  have hh : (s.put o.dst (.c undef)).h = s.h := by
    cases o.dst with
    | none => rfl
    | some d => simp only [St.put]; split <;> rfl
  exact ⟨fun _ _ => trivial, h (i + 1) (fun j => by have := hi (j + 1); simp only [List.getElem?_cons_succ] at this; rw [this]; congr 1; omega) V0 w0 s0 V _ w hrel (by unfold StepS; rw [hh]; exact hs) (by rw [hh]; exact hn) n Q hq⟩

theorem WL_op {ops : Array Oper} {o : Oper} {l : List Oper} {K : St → Prop} {s : St} {fid : Option Nat} {ob : Ob} {ef : Ef} (hd : Does P G o s.ev fid ob s.h.length ef) (hnd : ∀ c, o.op ≠ .defer c) (hg : Wants ops s o)
    (hf : ∀ id, fid = some id → s.h.get id = ob ∧ ob.live = true ∧ ob ≠ .dfr) (h : WL P G ro ops l K (s.app o.dst fid ef)) : WL P G ro ops (o :: l) K s := by
  intro i hi V0 w0 s0 V a w hr hs hn n Q hq
  have ho : ops[i]? = some o := by have := hi 0; simpa using this.symm
  rw [List.length_cons, List.range'_succ]
  simp only [wpOpsIn, ho, hg.ok hr, if_true]
  obtain ⟨x, w', V', hrun, k1, k2, k3⟩ := hd V s.h.D w s.h.get a.eval hr.hp (fun x _ => hr.ev x) (fun id e => (hf id e).1) (by simp [Hp.D])
  have hfl : ∀ id, fid = some id → id < s.h.length := fun id e => Hp.get_lt (by rw [(hf id e).1]; exact (hf id e).2.1)
  rw [← Hp.get_app s.h hfl] at k1 k2
  rw [← Hp.D_app] at k1 k3
  have hD : ∀ i, s.h.D i → (s.h.app fid ef).D i := by rw [Hp.D_app]; exact fun i h => .inl h
  have hdl : ∀ id, id ∈ s.d → (s.h.app fid ef).get id = .dfr := by
    intro id hid
    have hlt : id < s.h.length := Hp.get_lt (by rw [hr.dl id hid]; rfl)
    rw [Hp.get_app s.h hfl]
    simp only [Ef.updH]
    have hne : fid ≠ some id := by
      intro e
      exact (hf id e).2.2 ((hf id e).1.symm.trans (hr.dl id hid))
    split
    · rw [if_neg (by omega), if_neg hne]; exact hr.dl id hid
    · rw [if_neg hne]; exact hr.dl id hid
  have hrel : Rel G V' (s.app o.dst fid ef) (a.put o.dst x) w' := hr.put k1 k2 hD hdl k3
  have hnext := h (i + 1) (fun j => by have := hi (j + 1); simp only [List.getElem?_cons_succ] at this; rw [this]; congr 1; omega) V0 w0 s0 V' (a.put o.dst x) w' hrel (hs.trans k2 hn) (fun i hi => hD i (hn i hi)) n Q hq
  refine ⟨fun _ _ => trivial, ?_⟩
  rw [Oper.semAt_eq _ _ _ hnd]
  rcases hrun with hrun | ⟨hrun, rfl⟩
  · rw [hrun]; exact hnext
  · rw [hrun]; exact hnext

/-! ### Calls -/
def RVs (V : View) (D : Nat → Prop) (w : World) (args : List Val) (ax : Array Value) : Prop :=
  args.length = ax.size ∧ ∀ (i : Nat) (d : Val) (v : Value), args[i]? = some d → ax[i]? = some v → RV V D w d v

/-- A function value's call comes to an end. -/
def Into (P : Program) (fv : Value) (args : Array Value) (w : World) (R : Value → World → Prop) : Prop :=
  (∃ f caps, fv = .func (.func f) #[] caps ∧ (callFunc f (args ++ caps)).run P w = .ok (.enter f (args ++ caps)) w ∧ Calls P f (args ++ caps) w (fun e w' => ∃ v, e = .returned v ∧ R v w')) ∨
  (∃ l fn tmps assign body, fv = .func (.yield l) #[] #[] ∧ (Instr.yield l args).run P w = .ok (.round l fn tmps assign body) w ∧ RoundIn Fence.wide 0 P l fn tmps assign body w (fun e w' => ∃ v, e = .returned v ∧ R v w'))

theorem Into.mono {fv : Value} {args : Array Value} {w : World} {R R' : Value → World → Prop} (h : Into P fv args w R) (hr : ∀ v w', R v w' → R' v w') : Into P fv args w R' := by
  rcases h with ⟨f, caps, h1, h2, h3⟩ | ⟨l, fn, tmps, assign, body, h1, h2, h3⟩
  · exact .inl ⟨f, caps, h1, h2, h3.mono fun e w' ⟨v, e1, r⟩ => ⟨v, e1, hr _ _ r⟩⟩
  · exact .inr ⟨l, fn, tmps, assign, body, h1, h2, h3.mono fun e w' ⟨v, e1, r⟩ => ⟨v, e1, hr _ _ r⟩⟩

def VCall (P : Program) (G : List (Nat × Obj)) (fv : Val) (args : List Val) (h : Hp) (Q : Val → Hp → Prop) : Prop :=
  ∀ (V : View) (w : World) (fx : Value) (ax : Array Value), RelF G V w h.D h.get → RV V h.D w fv fx → RVs V h.D w args ax →
    Into P fx ax w (fun v w' => ∃ V' r h', RelF G V' w' (Hp.D h') (Hp.get h') ∧ Step V w h.D h.get V' w' (Hp.get h') ∧ (∀ i, h.D i → Hp.D h' i) ∧ RV V' (Hp.D h') w' r v ∧ Q r h')

theorem VCall.mono {fv : Val} {args : List Val} {h : Hp} {Q Q' : Val → Hp → Prop} (hc : VCall P G fv args h Q) (hq : ∀ r h', Q r h' → Q' r h') : VCall P G fv args h Q' :=
  fun V w fx ax h1 h2 h3 => (hc V w fx ax h1 h2 h3).mono fun v w' ⟨V', r, h', k1, k2, k3, k4, q⟩ => ⟨V', r, h', k1, k2, k3, k4, hq _ _ q⟩

theorem roundIn_any {n m : Nat} {l : Nat} {f : FuncId} {tmps : Array Value} {assign body : Code} {w : World} {R : Ending → World → Prop} (h : RoundIn Fence.wide m P l f tmps assign body w R) : RoundIn (fence ro) n P l f tmps assign body w R :=
  ⟨trivial, fun c cs _ => h.2 c cs (room_wide _)⟩

theorem callsIn_any {n : Nat} {f : FuncId} {args : Array Value} {w : World} {R : Ending → World → Prop} (h : Calls P f args w R) : CallsIn (fence ro) n P f args w R :=
  ⟨trivial, fun cs _ => (callsIn_wide (n := 0).2 h).2 cs (room_wide _)⟩

theorem WL_call {ops : Array Oper} {o : Oper} {l : List Oper} {K : St → Prop} {s : St} {f : Operand} {args : Array Operand} {at_ : Array TypeId} (ho : o.op = .call { callee := .value f, args := args, argTypes := at_ }) (hg : Wants ops s o)
    (hc : VCall P G (s.ev f) (args.toList.map s.ev) s.h (fun r h' => (∀ id, id ∈ s.d → Hp.get h' id = .dfr) ∧ WL P G ro ops l K { (s.put o.dst r) with h := h' })) : WL P G ro ops (o :: l) K s := by
  intro i hi V0 w0 s0 V a w hr hs hn n Q hq
  have hoi : ops[i]? = some o := by have := hi 0; simpa using this.symm
  rw [List.length_cons, List.range'_succ]
  simp only [wpOpsIn, hoi, hg.ok hr, if_true]
  have hargs : RVs V s.h.D w (args.toList.map s.ev) (args.map a.eval) := by
    refine ⟨by simp, ?_⟩
    intro k d v h1 h2
    simp only [List.getElem?_map, Array.getElem?_map, Option.map_eq_some_iff] at h1 h2
    obtain ⟨x, hx, rfl⟩ := h1
    obtain ⟨y, hy, rfl⟩ := h2
    have : x = y := by
      have hx2 : args[k]? = some x := by simpa using hx
      rw [hx2] at hy; exact Option.some.inj hy
    subst this
    exact hr.ev x
  have hnext : ∀ v w', (∃ V' r h', RelF G V' w' (Hp.D h') (Hp.get h') ∧ Step V w s.h.D s.h.get V' w' (Hp.get h') ∧ (∀ i, s.h.D i → Hp.D h' i) ∧ RV V' (Hp.D h') w' r v ∧ (∀ id, id ∈ s.d → Hp.get h' id = .dfr) ∧ WL P G ro ops l K { (s.put o.dst r) with h := h' }) →
      wpOpsIn (fence ro) n P ops (Post G V0 w0 s0 Q) (List.range' (i + 1) l.length) (a.put o.dst v) w' := by
    rintro v w' ⟨V', r, h', k1, k2, k3, k4, k5, k6⟩
    exact k6 (i + 1) (fun j => by have := hi (j + 1); simp only [List.getElem?_cons_succ] at this; rw [this]; congr 1; omega) V0 w0 s0 V' (a.put o.dst v) w' (hr.put k1 k2 k3 k5 k4) (hs.trans k2 hn) (fun i hi => k3 i (hn i hi)) n Q hq
  refine ⟨fun _ _ => trivial, ?_⟩
  rw [Oper.semAt_eq _ _ _ (by rw [ho]; simp)]
  rcases hc V w (a.eval f) (args.map a.eval) hr.hp (hr.ev f) hargs with ⟨g, caps, h1, h2, h3⟩ | ⟨lp, fn, tmps, assign, body, h1, h2, h3⟩
  · have hrun : (execOp a.eval o).run P w = .ok (.enter g (args.map a.eval ++ caps)) w := by
      simp [execOp, ho, resolve, h1, Deferred.ofValue, invoke, h2]
    rw [hrun]
    refine ⟨by simp, (callsIn_any (h3)).mono ?_⟩
    rintro e w' ⟨v, rfl, hq⟩
    exact hnext v w' hq
  · have hrun : (execOp a.eval o).run P w = .ok (.round lp fn tmps assign body) w := by
      simp [execOp, ho, resolve, h1, Deferred.ofValue, invoke, h2]
    rw [hrun]
    refine ⟨by simp, (roundIn_any h3).mono ?_⟩
    rintro e w' ⟨v, rfl, hq⟩
    exact hnext v w' hq

end Go.Vm
/- A function's run from its entry to its return: what it leaves to its caller. -/
namespace Go.Vm
open Go Go.RowKit
variable {P : Program} {G : List (Nat × Obj)}

/-- Every object that a value names is one of these. -/
inductive Ok (D : Nat → Prop) : Val → Prop
  | any : Ok D .any
  | c (v : Value) : Ok D (.c v)
  | ptr {id off : Nat} : D id → Ok D (.ptr id off)
  | ep {id sz i j : Nat} : D id → Ok D (.ep id sz i j)
  | rp {cs : List Val} : (∀ d, d ∈ cs → Ok D d) → Ok D (.rp cs)
  | os {id len : Nat} : D id → Ok D (.os id len)
  | sl {sz : Nat} {xs : List (List Val)} : (∀ x, x ∈ xs → ∀ d, d ∈ x → Ok D d) → Ok D (.sl sz xs)
  | fn {f : FuncId} {cs : List Val} : (∀ d, d ∈ cs → Ok D d) → Ok D (.fn f cs)
  | yld {id : Nat} : D id → Ok D (.yld id)
  | mp {id : Nat} : D id → Ok D (.mp id)
  | agg {cs : List Val} : (∀ d, d ∈ cs → Ok D d) → Ok D (.agg cs)
  | tup {cs : List Val} : (∀ d, d ∈ cs → Ok D d) → Ok D (.tup cs)

theorem RV.ok {V : View} {D : Nat → Prop} {w : World} {d : Val} {v : Value} (h : RV V D w d v) : Ok D d := by
  have pt : ∀ {cs : List Val} {vs : Array Value}, cs.length = vs.size → (∀ (i : Nat) (d : Val) (v : Value), cs[i]? = some d → vs[i]? = some v → Ok D d) → ∀ d, d ∈ cs → Ok D d := by
    intro cs vs hl hp d hd
    obtain ⟨i, hi⟩ := List.getElem?_of_mem hd
    have hlt : i < vs.size := by rw [← hl]; exact (List.getElem?_eq_some_iff.1 hi).1
    exact hp i d _ hi (Array.getElem?_eq_getElem hlt)
  induction h with
  | any => exact .any
  | c x => exact .c x
  | ptr hi _ => exact .ptr hi
  | ep hi _ => exact .ep hi
  | rp hs hw hl hp ih =>
    refine .rp fun d hd => ?_
    obtain ⟨i, hi⟩ := List.getElem?_of_mem hd
    have hlt := (List.getElem?_eq_some_iff.1 hi).1
    exact ih i d _ hi (Array.getElem?_eq_getElem (by omega))
  | os hi _ => exact .os hi
  | osNil hi _ => exact .os hi
  | slNil => exact .sl (by simp)
  | sl hs hw hc hf hl h1 hp ih =>
    rename_i xs k off cap ar T fr sz
    refine .sl fun x hx d hd => ?_
    obtain ⟨i, hi⟩ := List.getElem?_of_mem hx
    obtain ⟨j, hj⟩ := List.getElem?_of_mem hd
    have h2 := (List.getElem?_eq_some_iff.1 hi).1
    have h3 := (List.getElem?_eq_some_iff.1 hj).1
    rw [hl x hx] at h3
    have : (i + 1) * sz ≤ xs.length * sz := Nat.mul_le_mul_right _ h2
    rw [Nat.add_mul] at this
    exact ih i x j d _ hi hj (Array.getElem?_eq_getElem (by omega))
  | fn hl _ ih => exact .fn (pt hl ih)
  | yld hi _ => exact .yld hi
  | mp hi _ => exact .mp hi
  | agg hl _ ih => exact .agg (pt hl ih)
  | tup hl _ ih => exact .tup (pt hl ih)

theorem RV.shrink {V : View} {D D' : Nat → Prop} {w : World} {d : Val} {v : Value} (h : RV V D w d v) (ho : Ok D' d) : RV V D' w d v := by
  induction h with
  | any => exact .any _
  | c x => exact .c x
  | ptr hi hb => cases ho; exact .ptr ‹_› hb
  | ep hi hb => cases ho; exact .ep ‹_› hb
  | rp hs hw hl hp ih => cases ho with | rp ho => exact .rp hs hw hl fun j d v h1 h2 => ih j d v h1 h2 (ho d (List.mem_of_getElem? h1))
  | os hi hb => cases ho; exact .os ‹_› hb
  | osNil hi hb => cases ho; exact .osNil ‹_› hb
  | slNil => exact .slNil
  | sl hs hw hc hf hl h1 hp ih => cases ho with | sl ho => exact .sl hs hw hc hf hl h1 fun i x j d v h2 h3 h4 => ih i x j d v h2 h3 h4 (ho x (List.mem_of_getElem? h2) d (List.mem_of_getElem? h3))
  | fn hl hp ih => cases ho with | fn ho => exact .fn hl fun i d v h1 h2 => ih i d v h1 h2 (ho d (List.mem_of_getElem? h1))
  | yld hi hb => cases ho; exact .yld ‹_› hb
  | mp hi hb => cases ho; exact .mp ‹_› hb
  | agg hl hp ih => cases ho with | agg ho => exact .agg hl fun i d v h1 h2 => ih i d v h1 h2 (ho d (List.mem_of_getElem? h1))
  | tup hl hp ih => cases ho with | tup ho => exact .tup hl fun i d v h1 h2 => ih i d v h1 h2 (ho d (List.mem_of_getElem? h1))

/-- A value as the caller has it: what was the call's own row is a slice that is only read. -/
def rf (k : Nat) (h : Hp) : Val → Val
  | .os id len => if id < k then .os id len else
      match h.get id with
      | .arr _ sz xs => if len ≤ xs.length then .sl sz (xs.take len) else .any
      | _ => .any
  | .agg cs => .agg (cs.attach.map fun ⟨c, _⟩ => rf k h c)
  | .tup cs => .tup (cs.attach.map fun ⟨c, _⟩ => rf k h c)
  | v => v

@[simp] theorem rf_c (k : Nat) (h : Hp) (v : Value) : rf k h (.c v) = .c v := by simp [rf]
@[simp] theorem rf_any (k : Nat) (h : Hp) : rf k h .any = .any := by simp [rf]
@[simp] theorem rf_sl (k : Nat) (h : Hp) (sz : Nat) (xs : List (List Val)) : rf k h (.sl sz xs) = .sl sz xs := by simp [rf]
@[simp] theorem rf_ptr (k : Nat) (h : Hp) (a b : Nat) : rf k h (.ptr a b) = .ptr a b := by simp [rf]
@[simp] theorem rf_fn (k : Nat) (h : Hp) (f : FuncId) (cs : List Val) : rf k h (.fn f cs) = .fn f cs := by simp [rf]
@[simp] theorem rf_agg (k : Nat) (h : Hp) (cs : List Val) : rf k h (.agg cs) = .agg (cs.map (rf k h)) := by simp [rf]
@[simp] theorem rf_tup (k : Nat) (h : Hp) (cs : List Val) : rf k h (.tup cs) = .tup (cs.map (rf k h)) := by simp [rf]

def View.shareAll (V : View) (k : Nat) (H : Nat → Ob) : View :=
  { V with sh := fun b => V.sh b ∨ ∃ i e sz xs, k ≤ i ∧ H i = .arr e sz xs ∧ V.at_ i = some b }

theorem RV.rf {V : View} {w : World} {h : Hp} (hr : RelF G V w h.D h.get) {k : Nat} {d : Val} {v : Value} (hv : RV V h.D w d v) : RV (V.shareAll k h.get) h.D w (rf k h d) v := by
  have up : ∀ {d : Val} {v : Value}, RV V h.D w d v → RV (V.shareAll k h.get) h.D w d v := fun h' =>
    RV.mono (V := V) (V' := V.shareAll k h.get) (fun _ h => h) (fun _ _ => rfl) (fun _ _ => rfl) (fun _ h => Or.inl h) (fun _ _ => rfl) h'
  induction hv with
  | any => simp only [Vm.rf]; exact .any _
  | c x => simp only [Vm.rf]; exact .c x
  | ptr hi hb => simp only [Vm.rf]; exact .ptr hi hb
  | ep hi hb => simp only [Vm.rf]; exact .ep hi hb
  | rp hs hw hl hp ih => simp only [Vm.rf]; exact up (.rp hs hw hl hp)
  | os hi hb =>
    rename_i id b len
    simp only [Vm.rf]
    split
    · exact .os (V := V.shareAll k h.get) hi hb
    · rename_i hk
      split
      · rename_i e sz xs ho
        split
        · rename_i hlen
          have hobj := hr.obj id hi
          rw [ho] at hobj
          rcases hobj with ⟨_, e0⟩ | ⟨b', ar, e1, e2, e3, e4, e5⟩
          · rw [hb] at e0; cases e0
          rw [hb] at e1; cases e1
          have hl : (xs.take len).length = len := by simp; omega
          have hle : len * sz ≤ xs.length * sz := Nat.mul_le_mul_right _ hlen
          have hfit := e5.1
          have := RV.sl (V := V.shareAll k h.get) (n := h.D) (w := w) (xs := xs.take len) (k := b) (off := 0) (cap := V.cap id) (sz := sz) (.inr ⟨id, e, sz, xs, by omega, ho, hb⟩) e2 (by rw [hl]; omega) (by rw [hl]; omega)
            (fun y hy => e5.2.1 y (List.mem_of_mem_take hy)) (by intro j v h1 h2 h3; rw [hl] at h2; exact e5.2.2.1 j v h1 (by omega) h3)
            (by
              intro i x j d v h1 h2 h3
              rw [List.getElem?_take] at h1
              split at h1
              · exact up (e5.2.2.2 i x j d v h1 h2 h3)
              · cases h1)
          rw [hl] at this
          exact this
        · exact .any _
      · exact .any _
  | osNil hi hb =>
    rename_i id
    simp only [Vm.rf]
    split
    · exact .osNil (V := V.shareAll k h.get) hi hb
    · split
      · rename_i e sz xs ho
        simp only [Nat.zero_le, if_true, List.take_zero]; exact .slNil
      · exact .any _
  | slNil => simp only [Vm.rf]; exact .slNil
  | sl hs hw hc hf hl h1 hp ih => simp only [Vm.rf]; exact up (.sl hs hw hc hf hl h1 hp)
  | fn hl hp ih => simp only [Vm.rf]; exact up (.fn hl hp)
  | yld hi hb => simp only [Vm.rf]; exact .yld hi hb
  | mp hi hb => simp only [Vm.rf]; exact .mp hi hb
  | agg hl hp ih =>
    rw [rf_agg]
    refine .agg (by simpa using hl) ?_
    intro i d v h1 h2
    rw [List.getElem?_map, Option.map_eq_some_iff] at h1
    obtain ⟨c, hc, rfl⟩ := h1
    exact ih i c v hc h2
  | tup hl hp ih =>
    rw [rf_tup]
    refine .tup (by simpa using hl) ?_
    intro i d v h1 h2
    rw [List.getElem?_map, Option.map_eq_some_iff] at h1
    obtain ⟨c, hc, rfl⟩ := h1
    exact ih i c v hc h2

def OkO (D : Nat → Prop) : Ob → Prop
  | .blk cs => ∀ d, d ∈ cs → Ok D d
  | .arr _ _ xs => ∀ x, x ∈ xs → ∀ d, d ∈ x → Ok D d
  | .lp snap .. => ∀ i, Ok D (snap i)
  | .mpo es => ∀ k d, (k, d) ∈ es → Ok D d
  | _ => True

theorem RO.shrink {V : View} {D D' : Nat → Prop} {w : World} {id : Nat} {o : Ob} (h : RO V D w id o) (ho : OkO D' o) : RO V D' w id o := by
  cases o with
  | gone => trivial
  | blk cs =>
    obtain ⟨b, ar, T, h1, h2, h3, h4⟩ := h
    exact ⟨b, ar, T, h1, h2, ⟨h3.1, fun i d v e1 e2 => (h3.2 i d v e1 e2).shrink (ho d (List.mem_of_getElem? e1))⟩, h4⟩
  | arr e sz xs =>
    rcases h with h | ⟨b, ar, h1, h2, h3, h4, h5⟩
    · exact .inl h
    · exact .inr ⟨b, ar, h1, h2, h3, h4, h5.1, h5.2.1, h5.2.2.1, fun i x j d v e1 e2 e3 => (h5.2.2.2 i x j d v e1 e2 e3).shrink (ho x (List.mem_of_getElem? e1) d (List.mem_of_getElem? e2))⟩
  | dfr => exact h
  | mpo es =>
    obtain ⟨b, ens, ck, h1, h2, h3, h4⟩ := h
    exact ⟨b, ens, ck, h1, h2, h3, fun i k d e e1 e2 => ⟨(h4 i k d e e1 e2).1, (h4 i k d e e1 e2).2.shrink (ho k d (List.mem_of_getElem? e1))⟩⟩
  | lp snap m fn ps as bd st pe =>
    obtain ⟨b, Dd, tm, h1, h2, h3, h4⟩ := h
    exact ⟨b, Dd, tm, h1, h2, h3, fun i => (h4 i).shrink (ho i)⟩

theorem RO.ok {V : View} {D : Nat → Prop} {w : World} {id : Nat} {o : Ob} (h : RO V D w id o) : OkO D o := by
  cases o with
  | gone => trivial
  | blk cs =>
    obtain ⟨b, ar, T, h1, h2, h3, h4⟩ := h
    intro d hd
    obtain ⟨i, hi⟩ := List.getElem?_of_mem hd
    have hlt : i < ar.size := by rw [← h3.1]; exact (List.getElem?_eq_some_iff.1 hi).1
    exact (h3.2 i d _ hi (Array.getElem?_eq_getElem hlt)).ok
  | arr e sz xs =>
    rcases h with ⟨rfl, _⟩ | ⟨b, ar, h1, h2, h3, h4, h5⟩
    · intro x hx; simp at hx
    · intro x hx d hd
      obtain ⟨i, hi⟩ := List.getElem?_of_mem hx
      obtain ⟨j, hj⟩ := List.getElem?_of_mem hd
      have g2 := (List.getElem?_eq_some_iff.1 hi).1
      have g3 := (List.getElem?_eq_some_iff.1 hj).1
      rw [h5.2.1 x hx] at g3
      have g4 := h5.1
      have : (i + 1) * sz ≤ xs.length * sz := Nat.mul_le_mul_right _ g2
      rw [Nat.add_mul] at this
      exact (h5.2.2.2 i x j d _ hi hj (Array.getElem?_eq_getElem (by omega))).ok
  | dfr => trivial
  | mpo es =>
    obtain ⟨b, ens, ck, h1, h2, h3, h4⟩ := h
    intro k d hd
    obtain ⟨i, hi⟩ := List.getElem?_of_mem hd
    have hlt : i < ens.size := by rw [h3]; exact (List.getElem?_eq_some_iff.1 hi).1
    exact (h4 i k d _ hi (Array.getElem?_eq_getElem hlt)).2.ok
  | lp snap m fn ps as bd st pe =>
    obtain ⟨b, Dd, tm, h1, h2, h3, h4⟩ := h
    exact fun i => (h4 i).ok

/-- What becomes of an object of the caller's. -/
def FO (k : Nat) (h : Hp) (o o' : Ob) : Prop :=
  (o' = o ∧ OkO (fun i => i < k) o) ∨ (∃ cs, o = .blk cs ∧ o' = .blk (cs.map (rf k h)) ∧ ∀ c, c ∈ cs → Ok (fun i => i < k) (rf k h c)) ∨ o' = .gone

theorem FO.live {k : Nat} {h : Hp} {o o' : Ob} (hf : FO k h o o') (hl : o'.live = true) : o.live = true := by
  rcases hf with ⟨rfl, _⟩ | ⟨cs, rfl, rfl, _⟩ | rfl
  · exact hl
  · rfl
  · simp [Ob.live] at hl

theorem RelF.fin {V : View} {w : World} {h h' : Hp} (hr : RelF G V w h.D h.get) (hk : h'.length ≤ h.length) (hf : ∀ i, i < h'.length → FO h'.length h (h.get i) (h'.get i)) :
    RelF G (V.shareAll h'.length h.get) w h'.D h'.get ∧ Step V w h.D h.get (V.shareAll h'.length h.get) w h'.get := by
  have hlive : ∀ i, (h'.get i).live = true → (h.get i).live = true ∧ i < h'.length := fun i hl => ⟨(hf i (Hp.get_lt hl)).live hl, Hp.get_lt hl⟩
  have hnot : ∀ i b, (h.get i).live = true → i < h'.length → V.at_ i = some b → ¬ (V.shareAll h'.length h.get).sh b := by
    intro i b hl hi hb hs
    rcases hs with hs | ⟨j, e, sz, xs, h1, h2, h3⟩
    · exact hr.apart i b hl hb hs
    · have := hr.inj i j b hl (by rw [h2]; rfl) hb h3
      omega
  refine ⟨⟨?_, ?_, ?_, ?_, ?_, ?_, ?_⟩, ⟨fun _ _ => rfl, fun _ _ => rfl, fun _ h => .inl h, ?_, Nat.le_refl _, rfl, rfl, rfl, fun _ _ _ => rfl, fun i b h1 h2 _ => ⟨i, (hlive i h1).1, h2⟩⟩⟩
  · intro i hi
    have hDi : h.D i := Nat.lt_of_lt_of_le hi hk
    have hro : RO (V.shareAll h'.length h.get) h.D w i (h.get i) := (hr.obj i hDi).mono (V := V) (V' := V.shareAll h'.length h.get) (fun _ h => h) (fun _ _ => rfl) (fun _ _ => rfl) (fun _ h => .inl h) (fun _ _ => rfl) hDi (fun _ _ _ => rfl)
    rcases hf i hi with ⟨e, ho⟩ | ⟨cs, e1, e2, ho⟩ | e
    · rw [e]; exact hro.shrink ho
    · rw [e2]
      have hobj := hr.obj i hDi
      rw [e1] at hobj
      obtain ⟨b, ar, T, h1, h2, h3, h4⟩ := hobj
      refine ⟨b, ar, T, h1, h2, ⟨by rw [List.length_map]; exact h3.1, ?_⟩, h4⟩
      intro j d v g1 g2
      rw [List.getElem?_map, Option.map_eq_some_iff] at g1
      obtain ⟨c, hc, rfl⟩ := g1
      exact ((h3.2 j c v hc g2).rf hr).shrink (ho c (List.mem_of_getElem? hc))
    · rw [e]; trivial
  · intro i hi
    unfold Hp.get
    rw [List.getElem?_eq_none (by simpa [Hp.D] using hi)]; rfl
  · intro i j b hi hj; exact hr.inj i j b (hlive i hi).1 (hlive j hj).1
  · intro i b hi hb; exact hnot i b (hlive i hi).1 (hlive i hi).2 hb
  · intro i b hi hb; exact hr.lt i b (hlive i hi).1 hb
  · intro k hs
    rcases hs with hs | ⟨j, e, sz, xs, h1, h2, h3⟩
    · exact hr.shlt k hs
    · exact hr.lt j k (by rw [h2]; rfl) h3
  · intro g o hg
    exact ⟨(hr.gl g o hg).1, .inl (hr.gl g o hg).2⟩
  · intro k hs _
    rcases hs with hs | ⟨j, e, sz, xs, h1, h2, h3⟩
    · exact .inl hs
    · exact .inr ⟨j, by rw [h2]; rfl, h3⟩

/-- The deferred marks are taken, one behind the other. -/
theorem only_putObj {w : World} {b : Nat} {o : Obj} : Only w (w.putObj b o) b := ⟨by simp, rfl, rfl, rfl, fun k hk => World.putObj_heap_other hk⟩

def Hp.gones (h : Hp) : List Nat → Hp
  | [] => h
  | id :: r => Hp.gones (List.set h id .gone) r

/-! ### Results -/
def vres1 (T : Nat → Option TD) (s : St) : ResultVar → Option Val
  | .tmp t => some (s.get t)
  | .cell a t => match s.get a, T t with
    | .ptr id off, some d => match s.h.get id with
      | .blk cs => vload d cs off
      | _ => none
    | _, _ => none
def vresL (T : Nat → Option TD) (s : St) : List ResultVar → Option (List Val)
  | [] => some []
  | r :: rs => match vres1 T s r, vresL T s rs with
    | some v, some vs => some (v :: vs)
    | _, _ => none
def one_ : List Val → Val
  | [v] => v
  | vs => .tup vs
def vres (T : Nat → Option TD) (s : St) (rs : Array ResultVar) : Option Val := (vresL T s rs.toList).map one_

def resOf (tmps : Array Value) : ResultVar → Sem Value
  | .tmp t => pure (tmps.getD t undef)
  | .cell a t => do loadVar t (← asAddr (tmps.getD a undef))
theorem results_eq (fn : Func) (tmps : Array Value) : results fn tmps = (do let vs ← fn.results.mapM (resOf tmps); pure (if h : vs.size = 1 then vs[0] else .tuple vs)) := by
  unfold results
  congr 2

theorem vres1_spec {T : Nat → Option TD} (hT : TabOK P T) {s : St} {V : View} {w : World} {tmps : Array Value} (hr : RelF G V w s.h.D s.h.get) (ht : ∀ i, RV V s.h.D w (s.get i) (tmps.getD i undef)) {x : ResultVar} {r : Val} (h : vres1 T s x = some r) :
    ∃ v, (resOf tmps x).run P w = .ok v w ∧ RV V s.h.D w r v := by
  cases x with
  | tmp t => cases h; exact ⟨_, rfl, ht t⟩
  | cell a t =>
    simp only [vres1] at h
    split at h
    · rename_i id off d e1 e2
      split at h
      · rename_i cs e3
        have h1 := ht a
        rw [e1] at h1
        generalize hq : tmps.getD a undef = u at h1
        cases h1
        rename_i b hi hb
        have hobj := hr.obj id hi
        rw [e3] at hobj
        obtain ⟨b', ar, T', f1, f2, f3, f4⟩ := hobj
        rw [hb] at f1; cases f1
        obtain ⟨v, hv, hrv⟩ := run_vload hT e2 (base := 0) f2 (by have := f3.1; omega) (fun j e v h1 h2 => f3.2 j e v h1 (by simpa using h2)) h
        rw [Nat.zero_add] at hv
        exact ⟨v, by show ((do loadVar t (← asAddr (tmps.getD a undef))) : Sem Value).run P w = _; rw [hq]; simp [asAddr, hv], hrv⟩
      · cases h
    · cases h

theorem vresL_spec {T : Nat → Option TD} (hT : TabOK P T) {s : St} {V : View} {w : World} {tmps : Array Value} (hr : RelF G V w s.h.D s.h.get) (ht : ∀ i, RV V s.h.D w (s.get i) (tmps.getD i undef)) : ∀ (xs : List ResultVar) {rs : List Val}, vresL T s xs = some rs →
    ∃ vs : List Value, (xs.mapM (resOf tmps)).run P w = .ok vs w ∧ rs.length = vs.length ∧
      ∀ (i : Nat) (d : Val) (v : Value), rs[i]? = some d → vs[i]? = some v → RV V s.h.D w d v
  | [], rs, h => by cases h; exact ⟨[], rfl, rfl, by simp⟩
  | x :: xs, rs, h => by
    simp only [vresL] at h
    split at h
    · rename_i v vs e1 e2
      cases h
      obtain ⟨u, hu, hru⟩ := vres1_spec hT hr ht e1
      obtain ⟨us, hus, hl, hp⟩ := vresL_spec hT hr ht xs e2
      refine ⟨u :: us, ?_, by simp [hl], ?_⟩
      · rw [List.mapM_cons]
        simp only [Sem.run_bind]
        rw [hu]
        simp only [Result.andThen_ok]
        rw [hus]; rfl
      · intro i d v h1 h2
        cases i with
        | zero => simp at h1 h2; subst h1; subst h2; exact hru
        | succ i => exact hp i d v (by simpa using h1) (by simpa using h2)
    · cases h

theorem vres_spec {T : Nat → Option TD} (hT : TabOK P T) {s : St} {V : View} {w : World} {tmps : Array Value} (hr : RelF G V w s.h.D s.h.get) (ht : ∀ i, RV V s.h.D w (s.get i) (tmps.getD i undef)) {fn : Func} {r : Val} (h : vres T s fn.results = some r) :
    ∃ v, (results fn tmps).run P w = .ok v w ∧ RV V s.h.D w r v := by
  unfold vres at h
  rw [Option.map_eq_some_iff] at h
  obtain ⟨rs, h1, rfl⟩ := h
  obtain ⟨vs, hm, hl, hp⟩ := vresL_spec hT hr ht fn.results.toList h1
  have hrun : (fn.results.mapM (resOf tmps)).run P w = .ok vs.toArray w := by
    rw [Array.mapM_eq_mapM_toList, Sem.run_map, hm]; rfl
  rw [results_eq]
  simp only [Sem.run_bind]
  rw [hrun]
  simp only [Result.andThen_ok, Sem.run_pure]
  by_cases hone : vs.length = 1
  · match vs, rs, hl, hone with
    | [v], [d], _, _ => exact ⟨v, by simp, hp 0 d v rfl rfl⟩
  · refine ⟨.tuple vs.toArray, by simp [hone], ?_⟩
    have : one_ rs = .tup rs := by
      match rs, hl with
      | [], _ => rfl
      | [d], hl => exact absurd hl.symm (by simpa using hone)
      | _ :: _ :: _, _ => rfl
    rw [this]
    exact .tup (by simpa using hl) (fun i d v h2 h3 => hp i d v h2 (by simpa using h3))

/-! ### A function's contract -/
def ents : Nat → List Val → List (Nat × Val)
  | _, [] => []
  | i, v :: r => (i, v) :: ents (i + 1) r

theorem lk_ents : ∀ (l : List Val) (k i : Nat), lk (ents k l) i = if k ≤ i then (l[i - k]?).getD .any else .any
  | [], k, i => by simp [ents, lk]
  | v :: l, k, i => by
    simp only [ents, lk]
    by_cases e : i = k
    · subst e; simp
    · rw [if_neg e, lk_ents l (k + 1) i]
      by_cases h : k ≤ i
      · rw [if_pos (by omega), if_pos h, show i - k = (i - (k + 1)) + 1 by omega, List.getElem?_cons_succ]
      · rw [if_neg (by omega), if_neg h]

/-- What a function leaves when its body has ended. -/
def Fin (T : Nat → Option TD) (fn : Func) (h : Hp) (Q : Val → Hp → Prop) : Exit → St → Prop := fun e s =>
  (e = .normal ∨ e = .ret) ∧ s.d.Nodup ∧ ∃ r h', vres T { s with h := s.h.gones s.d } fn.results = some r ∧ h.length ≤ List.length h' ∧ List.length h' ≤ s.h.length ∧
    (∀ i, i < List.length h' → FO (List.length h') (s.h.gones s.d) ((s.h.gones s.d).get i) (Hp.get h' i)) ∧ Ok (fun i => i < List.length h') (rf (List.length h') (s.h.gones s.d) r) ∧ Q (rf (List.length h') (s.h.gones s.d) r) h'

theorem length_gones : ∀ (ds : List Nat) (h : Hp), (h.gones ds).length = List.length h
  | [], h => rfl
  | d :: ds, h => by simp only [Hp.gones]; rw [length_gones ds]; simp

theorem get_set_gone {h : Hp} {id : Nat} (hid : id < List.length h) : Hp.get (List.set h id .gone) = fun i => if i = id then .gone else h.get i := by
  funext i
  unfold Hp.get
  rw [List.getElem?_set]
  by_cases e : id = i
  · subst e; simp [hid]
  · simp [e, Ne.symm e]

theorem leaves_of {T : Nat → Option TD} (hT : TabOK P T) {fn : Func} {tmps : Array Value} {n : Nat} {R : Ending → World → Prop} : ∀ (ds : List Nat) (V : View) (w : World) (s : St), RelF G V w s.h.D s.h.get →
    (∀ i, RV V s.h.D w (s.get i) (tmps.getD i undef)) → (∀ id, id ∈ ds → s.h.get id = .dfr) → ds.Nodup →
    (∀ w' , RelF G V w' (s.h.gones ds).D (s.h.gones ds).get → Step V w s.h.D s.h.get V w' (s.h.gones ds).get → (∀ i, RV V (s.h.gones ds).D w' (s.get i) (tmps.getD i undef)) → ∃ v, (results fn tmps).run P w' = .ok v w' ∧ R (.returned v) w') →
    LeavesInM Fence.wide n P fn tmps R (ds.map (mark V)) .returning w
  | [], V, w, s, hr, ht, hd, hn, hR => hR w hr (Step.refl _ _ _ _) ht
  | d :: ds, V, w, s, hr, ht, hd, hn, hR => by
    have hdd := hd d (by simp)
    have hlt : d < s.h.length := Hp.get_lt (by rw [hdd]; rfl)
    have hobj := hr.obj d hlt
    rw [hdd] at hobj
    obtain ⟨b, h1, h2⟩ := hobj
    rw [List.map_cons]
    refine ⟨by simp, .inl ⟨b, w.putObj b (.deferred none), by simp [mark, h1], by simpa using run_takeDeferred (P := P) h2, ?_⟩⟩
    obtain ⟨k1, k2⟩ := hr.put (id := d) (b := b) (by rw [hdd]; rfl) h1 (only_putObj (o := .deferred none)) (o := .gone) trivial
    have hg := get_set_gone hlt
    have hD : Hp.D (List.set s.h d .gone) = s.h.D := by unfold Hp.D; simp
    have k1' : RelF G V (w.putObj b (.deferred none)) (Hp.D (List.set s.h d .gone)) (Hp.get (List.set s.h d .gone)) := by rw [hD, hg]; exact k1
    have k2' : Step V w s.h.D s.h.get V (w.putObj b (.deferred none)) (Hp.get (List.set s.h d .gone)) := by rw [hg]; exact k2
    refine leaves_of hT ds V (w.putObj b (.deferred none)) { s with h := List.set s.h d .gone } k1' ?_ ?_ (List.nodup_cons.1 hn).2 ?_
    · intro i
      show RV V (Hp.D (List.set s.h d .gone)) _ (s.get i) _
      rw [hD]; exact (ht i).step k2 hr (fun _ h => h)
    · intro id hid
      show Hp.get (List.set s.h d .gone) id = _
      rw [hg]
      have : id ≠ d := by rintro rfl; exact (List.nodup_cons.1 hn).1 hid
      simp only [this, if_false]; exact hd id (by simp [hid])
    · intro w' g1 g2 g3
      refine hR w' g1 ?_ g3
      refine Step.trans k2' g2 ?_
      intro i hi
      show Hp.D (List.set s.h d .gone) i
      rw [hD]; exact hi

theorem VCall_fn {T : Nat → Option TD} (hT : TabOK P T) {f : FuncId} {fn : Func} {c : Code} {caps args : List Val} {h : Hp} {Q : Val → Hp → Prop} (hf : P.funcs[f]? = some fn) (hb : fn.body = some c) (hnm : (fn.name == "runtime.NumGoroutine") = false)
    (hm : args.length + caps.length ≤ fn.ntmps) (hw : W P G none c (Fin T fn h Q) ⟨fn.ntmps, ents 0 (args ++ caps), h, []⟩) : VCall P G (.fn f caps) args h Q := by
  intro V w fx ax hr hfx hax
  cases hfx
  rename_i vs hl hp
  have hnm' : fn.name ≠ "runtime.NumGoroutine" := by simpa using hnm
  refine .inl ⟨f, vs, rfl, by simp [callFunc, hf, hb, hnm'], ?_⟩
  refine callsIn_wide.1 (callsIn_of_wp_marks (n := 0) hf hb trivial ?_)
  have hsz : (ax ++ vs).size ≤ fn.ntmps := by rw [Array.size_append, ← hax.1, ← hl]; exact hm
  have hrel : Rel G V ⟨fn.ntmps, ents 0 (args ++ caps), h, []⟩ { tmps := (ax ++ vs) ++ Array.replicate (fn.ntmps - (ax ++ vs).size) undef, defers := [] } w := by
    refine ⟨by simp [Array.size_append]; simp [Array.size_append] at hsz; omega, ?_, hr, rfl, by simp⟩
    intro i
    show RV V h.D w (lk (ents 0 (args ++ caps)) i) _
    rw [lk_ents, if_pos (Nat.zero_le _), Nat.sub_zero]
    by_cases hi : i < (args ++ caps).length
    · have hi2 : i < (ax ++ vs).size := by rw [Array.size_append, ← hax.1, ← hl]; simpa using hi
      have e2 : ((ax ++ vs) ++ Array.replicate (fn.ntmps - (ax ++ vs).size) undef).getD i undef = (ax ++ vs)[i] := by
        rw [Array.getD_eq_getD_getElem?, Array.getElem?_append_left hi2, Array.getElem?_eq_getElem hi2]; rfl
      rw [e2, List.getElem?_eq_getElem hi, Option.getD_some]
      by_cases h1 : i < args.length
      · have h2 : i < ax.size := by rw [← hax.1]; exact h1
        rw [List.getElem_append_left h1, Array.getElem_append_left h2]
        exact hax.2 i _ _ (List.getElem?_eq_getElem h1) (Array.getElem?_eq_getElem h2)
      · have h2 : ¬ i < ax.size := by rw [← hax.1]; exact h1
        have h3 : i - args.length < caps.length := by simp at hi; omega
        have h4 : i - ax.size < vs.size := by rw [← hl, ← hax.1]; exact h3
        rw [List.getElem_append_right (by omega), Array.getElem_append_right (by omega)]
        exact hp (i - args.length) _ _ (List.getElem?_eq_getElem h3) (by
          rw [← Array.getElem?_eq_getElem h4, ← hax.1])
    · rw [List.getElem?_eq_none (by omega)]
      exact .any _
  refine wpIn_mono (hw V _ w hrel 0) ?_
  rintro e a' w' ⟨V', s', hr', hs', hD', he, hnd, r, h', hv, hk1, hk2, hfo, hok, hq⟩
  have key : LeavesInM Fence.wide 0 P fn a'.tmps (fun e w' => ∃ v, e = .returned v ∧ ∃ V' r h', RelF G V' w' (Hp.D h') (Hp.get h') ∧ Step V w h.D h.get V' w' (Hp.get h') ∧ (∀ i, h.D i → Hp.D h' i) ∧ RV V' (Hp.D h') w' r v ∧ Q r h') a'.defers .returning w' := by
    rw [hr'.df]
    refine leaves_of hT s'.d V' w' s' hr'.hp hr'.tm hr'.dl hnd ?_
    intro w2 g1 g2 g3
    obtain ⟨v, hv1, hv2⟩ := vres_spec (s := { s' with h := s'.h.gones s'.d }) hT g1 g3 hv
    refine ⟨v, hv1, v, rfl, ?_⟩
    have hlen : List.length h' ≤ List.length (s'.h.gones s'.d) := by rw [length_gones]; exact hk2
    obtain ⟨f1, f2⟩ := g1.fin (h' := h') hlen hfo
    refine ⟨_, _, h', f1, ?_, fun i hi => Nat.lt_of_lt_of_le hi hk1, (hv2.rf g1).shrink hok, hq⟩
    refine Step.trans (hs'.trans g2 hD') f2 ?_
    intro i hi
    show i < List.length (s'.h.gones s'.d)
    rw [length_gones]; exact hD' i hi
  rcases he with rfl | rfl
  · exact key
  · exact key

end Go.Vm
/- Maps. -/
namespace Go.Vm
open Go Go.RowKit
variable {P : Program} {G : List (Nat × Obj)}

/-- What is asked of the keys of a map. -/
structure MK (P : Program) (kt : TypeId) (K : Value → Prop) : Prop where
  check : ∀ (w : World) (em : Bool) {v : Value}, K v → (Instr.checkKey em 10000 kt v).run P w = .ok () w
  find : ∀ (w : World) {x : Value}, K x → ∀ es : List MapEntry, (∀ e ∈ es, K e.key) →
    ((Instr.findKey kt x es).run P w = .ok none w ∧ ∀ e ∈ es, e.key ≠ x) ∨ ∃ j e, (Instr.findKey kt x es).run P w = .ok (some (j, e.val)) w ∧ es[j]? = some e ∧ e.key = x
  stays : ∀ (w : World) {v : Value}, K v → (Instr.keyThatStays v v).run P w = .ok v w

theorem mk_int {kt : TypeId} (h : P.underlying kt = some (.int .i64)) : MK P kt (fun v => ∃ n, v = .int .i64 n) where
  check := by rintro w em v ⟨n, rfl⟩; exact MapKept.run_checkKey h (d := .int .i64) (by simp [MapKept.IsKey]) em 9999
  find := by
    rintro w x ⟨n, rfl⟩ es hes
    rcases MapKept.findNow_spec (d := .int .i64) (k := .int .i64 n) (by simp [MapKept.IsKey]) es 0 (fun e he => by obtain ⟨m, hm⟩ := hes e he; rw [hm]; simp [MapKept.IsKey]) with ⟨h1, h2⟩ | ⟨j, e, h1, h2, h3⟩
    · exact .inl ⟨MapKept.run_findKey h h1, h2⟩
    · exact .inr ⟨j, e, by simpa using MapKept.run_findKey h h1, h2, h3⟩
  stays := by rintro w v ⟨n, rfl⟩; exact MapKept.run_keyThatStays (d := .int .i64) (by simp [MapKept.IsKey])

/-- A key's value. -/
def KeyIs (d : Val) (k : Value) : Prop := ∀ (V : View) (D : Nat → Prop) (w : World) (x : Value), RV V D w d x → x = k
theorem keyIs_c (v : Value) : KeyIs (.c v) v := fun _ _ _ _ h => h.c_inv

theorem Does_makeMap {o : Oper} {t : TypeId} (ho : o.op = .makeMap t none) {ev : Operand → Val} {fid : Option Nat} {ob : Ob} {nid : Nat} : Does P G o ev fid ob nid ⟨.mp nid, none, some (.mpo [])⟩ :=
  Does_new 0 fun V D w H ρ hr _ _ => by
    refine ⟨.map (some w.heap.size), .map #[] 0, by simp only [execOp, ho, Option.map_none, Sem.run_bind]; rfl, fun hn => ?_⟩
    exact ⟨⟨w.heap.size, #[], 0, by simp [View.bind], heap_new w _, rfl, by intro i k d e h; simp at h⟩, .mp (.inr rfl) (by simp [View.bind])⟩

variable {o : Oper} {ev : Operand → Val} {t kt et : TypeId} {m k x : Operand} {id nid : Nat} {es : List (Value × Val)} {kv : Value} {K : Value → Prop}

theorem run_getObj' {w : World} {r : Nat} {ens : Array MapEntry} {ck : Nat} (hb : w.heap[r]? = some (.map ens ck)) : (getObj r).run P w = .ok (.map ens ck) w := MapKept.run_getObj_map hb

theorem Does_mapUpdate (ho : o.op = .mapUpdate t m k x) (hK : MK P kt K) (ht : P.underlying t = some (.map kt et)) (hm : ev m = .mp id) (hkey : KeyIs (ev k) kv) (hk : K kv) (hes : ∀ k d, (k, d) ∈ es → K k) {es' : List (Value × Val)}
    (hn : (∀ k d, (k, d) ∈ es → k ≠ kv) → es' = es ++ [(kv, ev x)]) (ho' : ∀ (j : Nat) d, es[j]? = some (kv, d) → es' = es.set j (kv, ev x)) :
    Does P G o ev (some id) (.mpo es) nid ⟨.any, some (.mpo es'), none⟩ := by
  intro V D w H ρ hrel hv hf _
  have hX := hv m (by simp [ho, Op.operands]); rw [hm] at hX
  have hkk := hkey V D w _ (hv k (by simp [ho, Op.operands]))
  have hY := hv x (by simp [ho, Op.operands])
  have hH := hf id rfl
  generalize hq : ρ m = vm at hX
  cases hX
  rename_i b hi hb
  have hobj := hrel.obj id hi
  rw [hH] at hobj
  obtain ⟨b', ens, ck, e1, e2, e3, e4⟩ := hobj
  rw [hb] at e1; cases e1
  have hnb : ¬ V.sh b := hrel.apart id b (by rw [hH]; rfl) hb
  have hens : ∀ e ∈ ens.toList, K e.key := by
    intro e he
    obtain ⟨i, hi⟩ := List.getElem?_of_mem he
    have hi' : ens[i]? = some e := by simpa using hi
    have hlt : i < es.length := by rw [← e3]; exact (Array.getElem?_eq_some_iff.1 hi').1
    have := (e4 i es[i].1 es[i].2 e (by rw [List.getElem?_eq_getElem hlt]) hi').1
    rw [this]
    exact hes es[i].1 es[i].2 (List.getElem_mem hlt)
  rcases hK.find w hk ens.toList hens with ⟨h1, h2⟩ | ⟨j, e, h1, h2, h3⟩
  · have hno : ∀ k d, (k, d) ∈ es → k ≠ kv := by
      intro k' d' hm' e
      obtain ⟨i, hi⟩ := List.getElem?_of_mem hm'
      have hlt : i < ens.size := by rw [e3]; exact (List.getElem?_eq_some_iff.1 hi).1
      have := (e4 i k' d' ens[i] hi (Array.getElem?_eq_getElem hlt)).1
      exact h2 ens[i] (by simp) (by rw [this, e])
    have hes' := hn hno
    subst hes'
    have hw : Only w (w.putObj b (.map (ens.push { key := kv, val := ρ x, born := ck }) (ck + 1))) b := only_putObj
    have hRO : RO V D (w.putObj b (.map (ens.push { key := kv, val := ρ x, born := ck }) (ck + 1))) id (.mpo (es ++ [(kv, ev x)])) := by
      refine ⟨b, _, _, hb, World.putObj_heap_same (by exact (Array.getElem?_eq_some_iff.1 e2).1), by simp [e3], ?_⟩
      intro i k' d' e h1 h2
      rw [Array.getElem?_push] at h2
      by_cases hi : i = ens.size
      · rw [if_pos hi] at h2; cases h2
        rw [hi, e3, List.getElem?_append_right (Nat.le_refl _), Nat.sub_self] at h1
        cases h1
        exact ⟨rfl, hY.only hw hnb⟩
      · rw [if_neg hi] at h2
        have hlt := (Array.getElem?_eq_some_iff.1 h2).1
        rw [List.getElem?_append_left (by omega)] at h1
        exact ⟨(e4 i k' d' e h1 h2).1, (e4 i k' d' e h1 h2).2.only hw hnb⟩
    obtain ⟨k1, k2⟩ := hrel.put (id := id) (b := b) (by rw [hH]; rfl) hb hw hRO
    rw [addD_old rfl, updH_up rfl rfl]
    refine ⟨undef, _, V, .inr ⟨?_, rfl⟩, k1, k2, .any _⟩
    simp [execOp, ho, hq, hkk, Instr.mapUpdate, run_underlying ht, run_getObj' e2, hK.check w false hk, h1, MapKept.run_setObj_map _ e2, Result.andThen, World.putObj]
  · have hj : ens[j]? = some e := by simpa using h2
    have hlt : j < es.length := by rw [← e3]; exact (Array.getElem?_eq_some_iff.1 hj).1
    have hke : es[j].1 = kv := by
      have := (e4 j es[j].1 es[j].2 e (by rw [List.getElem?_eq_getElem hlt]) hj).1
      rw [← this, h3]
    have hes' := ho' j es[j].2 (by rw [List.getElem?_eq_getElem hlt, ← hke])
    subst hes'
    have hw : Only w (w.putObj b (.map (ens.modify j fun e => { e with key := kv, val := ρ x }) ck)) b := only_putObj
    have hRO : RO V D (w.putObj b (.map (ens.modify j fun e => { e with key := kv, val := ρ x }) ck)) id (.mpo (es.set j (kv, ev x))) := by
      refine ⟨b, _, _, hb, World.putObj_heap_same (by exact (Array.getElem?_eq_some_iff.1 e2).1), by simp [e3], ?_⟩
      intro i k' d' e' h1 h2
      rw [Array.getElem?_modify] at h2
      rw [List.getElem?_set] at h1
      by_cases hi : j = i
      · subst hi
        rw [if_pos rfl, hj] at h2
        rw [if_pos rfl, if_pos hlt] at h1
        cases h1; cases h2
        exact ⟨rfl, hY.only hw hnb⟩
      · rw [if_neg hi] at h2 h1
        exact ⟨(e4 i k' d' e' h1 h2).1, (e4 i k' d' e' h1 h2).2.only hw hnb⟩
    obtain ⟨k1, k2⟩ := hrel.put (id := id) (b := b) (by rw [hH]; rfl) hb hw hRO
    rw [addD_old rfl, updH_up rfl rfl]
    refine ⟨undef, _, V, .inr ⟨?_, rfl⟩, k1, k2, .any _⟩
    simp [execOp, ho, hq, hkk, Instr.mapUpdate, run_underlying ht, run_getObj' e2, hK.check w false hk, h1, hj, h3, hK.stays w hk, MapKept.run_setObj_map _ e2, Result.andThen, World.putObj]

theorem Does_len_map (ho : o.op = .call { callee := .builtin .len, args := #[m], argTypes := #[t] }) (ht : P.underlying t = some (.map kt et)) (hm : ev m = .mp id) :
    Does P G o ev (some id) (.mpo es) nid ⟨.c (.int .i64 es.length), none, none⟩ :=
  Does.quiet fun V D w H ρ hrel hv hf => by
    have hX := hv m (by simp [ho, Op.operands, Call.operands]); rw [hm] at hX
    have hH := hf id rfl
    generalize hq : ρ m = vm at hX
    cases hX
    rename_i b hi hb
    have hobj := hrel.obj id hi
    rw [hH] at hobj
    obtain ⟨b', ens, ck, e1, e2, e3, e4⟩ := hobj
    rw [hb] at e1; cases e1
    refine ⟨.int .i64 ens.size, ?_, by rw [← e3]; exact .c _⟩
    simp [execOp, ho, hq, resolve, invoke, builtin, Builtin.len_, run_underlying ht, run_getObj' e2, Result.andThen, goInt]
end Go.Vm
/- What an operation comes to, reckoned. -/
namespace Go.Vm
open Go Go.RowKit
variable {P : Program} {G : List (Nat × Obj)} {ro : Option Nat}

def tdOf (P : Program) (t : Nat) : Option TD :=
  match P.underlying t, P.info? t with
  | some d, some i => match i.zero with
    | some z => some ⟨d, i.size, i.bytes, z.cells.toList⟩
    | none => none
  | _, _ => none

theorem tdOf_ok (P : Program) : TabOK P (tdOf P) := by
  intro t d h
  unfold tdOf at h
  split at h
  · rename_i d' i h1 h2
    split at h
    · rename_i z hz
      cases h
      exact ⟨h1, i, z, h2, rfl, rfl, hz, rfl⟩
    · cases h
  · cases h

abbrev Act2 := Option (Option Nat × Ef)
def q_ (r : Val) : Act2 := some (none, ⟨r, none, none⟩)

def aBin (op : BinOp) : Val → Val → Act2
  | .c a, .c b => match vbin op a b with
    | some r => q_ (.c r)
    | none => none
  | _, _ => none
def aUn (op : UnOp) : Val → Act2
  | .c a => match vun op a with
    | some r => q_ (.c r)
    | none => none
  | _ => none
def aPick : Val → Val → Val → Act2
  | .c (.bool b), x, y => q_ (if b then x else y)
  | _, _, _ => none
def aNil : Val → Act2
  | .ptr a b => q_ (.ptr a b)
  | .ep a b c d => q_ (.ep a b c d)
  | .rp cs => q_ (.rp cs)
  | .fn f cs => q_ (.fn f cs)
  | .yld a => q_ (.yld a)
  | _ => none
def aExtract : Val → Nat → Act2
  | .tup vs, i => match vs[i]? with
    | some r => q_ r
    | none => none
  | _, _ => none
def aField (d df : Option TD) (f : Nat) (x : Val) : Act2 :=
  match d, df with
  | some d, some df => match d.off f with
    | some (off, _) => if df.size = 0 then none else match paddr x off with
      | some r => q_ r
      | none => none
    | none => none
  | _, _ => none
def fieldT (d : Option TD) (f : Nat) : Nat := ((d.bind (·.off f)).map (·.2)).getD 0
def elemT (d : Option TD) : Nat :=
  match d with
  | some d => match d.desc with
    | .slice e => e
    | .array _ e => e
    | _ => 0
  | none => 0
def aLoad (d : Option TD) (h : Hp) : Val → Act2
  | .ptr id off => match d, h.get id with
    | some d, .blk cs => match vload d cs off with
      | some r => some (some id, ⟨r, none, none⟩)
      | none => none
    | _, _ => none
  | .rp cs => match d with
    | some d => match vload d cs 0 with
      | some r => q_ r
      | none => none
    | none => none
  | .ep id sz i j => match d, h.get id with
    | some d, .arr _ sz' xs => if sz = sz' then match xs[i]? with
        | some el => match vload d el j with
          | some r => some (some id, ⟨r, none, none⟩)
          | none => none
        | none => none
      else none
    | _, _ => none
  | _ => none
def aStore (d : Option TD) (h : Hp) : Val → Val → Act2
  | .ptr id off, y => match d, h.get id, vcells y with
    | some d, .blk cs, some es => if es.all one1 = true ∧ es.length = d.size ∧ off + es.length ≤ cs.length then some (some id, ⟨.any, some (.blk (splice cs off es)), none⟩) else none
    | _, _, _ => none
  | .ep id sz i j, y => match d, h.get id, vcells y with
    | some d, .arr e sz' xs, some es => if sz = sz' then match xs[i]? with
        | some el => if es.all one1 = true ∧ es.length = d.size ∧ j + es.length ≤ el.length then some (some id, ⟨.any, some (.arr e sz (xs.set i (splice el j es))), none⟩) else none
        | none => none
      else none
    | _, _, _ => none
  | _, _ => none
def aAlloc (d : Option TD) (h : Hp) : Act2 :=
  match d with
  | some d => if d.zero.all oneC = true then some (none, ⟨.ptr (List.length h) 0, none, some (.blk (d.zero.map .c))⟩) else none
  | none => none
def aBox (h : Hp) (x : Val) : Act2 :=
  match vcells x with
  | some cs => if cs.all one1 = true then some (none, ⟨.ptr (List.length h) 0, none, some (.blk cs)⟩) else none
  | none => none
def aIndexAddr (d de : Option TD) : Val → Val → Act2
  | .sl sz xs, .c (.int _ n) => match d, de with
    | some d, some de => if isSlice d = none then none else if sz = de.size ∧ 0 ≤ n then match xs[n.toNat]? with
        | some el => q_ (.rp el)
        | none => none
      else none
    | _, _ => none
  | .os id len, .c (.int _ n) => match d, de with
    | some d, some de => if isSlice d = none then none else if 0 ≤ n ∧ n < (len : Int) then q_ (.ep id de.size n.toNat 0) else none
    | _, _ => none
  | x, .c (.int _ n) => match d, de with
    | some d, some de => match isArray d with
      | some (len, _) => if 0 ≤ n ∧ n < (len : Int) then match paddr x (n.toNat * de.size) with
          | some r => q_ r
          | none => none
        else none
      | none => none
    | _, _ => none
  | _, _ => none
def aIndex (d de : Option TD) : Val → Val → Act2
  | .agg cs, .c (.int _ n) => match d, de with
    | some d, some de => match isArray d with
      | some (len, _) => if 0 ≤ n ∧ n < (len : Int) then match vload de cs (n.toNat * de.size) with
          | some r => q_ r
          | none => none
        else none
      | none => none
    | _, _ => none
  | _, _ => none
def aFieldV (d df : Option TD) (f : Nat) : Val → Act2
  | .agg cs => match d, df with
    | some d, some df => match d.off f with
      | some (off, _) => match vload df cs off with
        | some r => q_ r
        | none => none
      | none => none
    | _, _ => none
  | _ => none
def aLen (d : Option TD) (x : Val) : Act2 :=
  match d with
  | some d => if isSlice d = none then none else match vlen x with
    | some n => q_ (.c (.int .i64 n))
    | none => none
  | none => none
def isMapT (d : TD) : Bool := match d.desc with
  | .map _ _ => true
  | _ => false
def aLenH (d : Option TD) (h : Hp) : Val → Act2
  | .mp id => match d, h.get id with
    | some d, .mpo es => if isMapT d = true then some (some id, ⟨.c (.int .i64 es.length), none, none⟩) else none
    | _, _ => none
  | x => aLen d x
def aMax : Val → Val → Act2
  | .c a, .c b => match vmax2 a b with
    | some r => q_ (.c r)
    | none => none
  | _, _ => none
def aConv (d du : Option TD) : Val → Act2
  | .c (.int _ n) => match d, du with
    | some d, some du => match d.desc, du.desc with
      | .int _, .int k => q_ (.c (.int k (k.wrap n)))
      | _, _ => none
    | _, _ => none
  | _ => none
def aBuild (T : Nat → Option TD) (d : Option TD) (ps : List (Nat × Val)) : Act2 :=
  match d with
  | some d => if d.known T = true then match vfill (d.place T) (d.zero.map .c) ps with
      | some rs => q_ (.agg rs)
      | none => none
    else none
  | none => none
def aBuildSlice (d de : Option TD) (len : Nat) (ps : List (Nat × Val)) : Act2 :=
  match d, de with
  | some d, some de => if isSlice d = none then none else if de.zero.length = de.size ∧ len * de.size ≤ 16777216 ∧ ps.length = len then match vels de.size 0 ps with
      | some xs => q_ (.sl de.size xs)
      | none => none
    else none
  | _, _ => none
def optV (ev : Operand → Val) (z : Int) : Option Operand → Option Int
  | none => some z
  | some y => match ev y with
    | .c (.int _ n) => some n
    | _ => none
def aSlice (d de : Option TD) (h : Hp) (ev : Operand → Val) (lo hi : Option Operand) : Val → Act2
  | .sl sz xs => match d, de, optV ev 0 lo, optV ev xs.length hi with
    | some d, some de, some l, some u => if isSlice d = none then none else if sz = de.size ∧ 0 ≤ l ∧ l ≤ u ∧ u ≤ (xs.length : Int) then q_ (.sl sz ((xs.take u.toNat).drop l.toNat)) else none
    | _, _, _, _ => none
  | .ptr id 0 => match d, de, lo, hi, h.get id with
    | some d, some de, none, none, .blk cs => match isArray d with
      | some (len, _) => if de.size = 1 ∧ cs.length = len ∧ len ≠ 0 then some (some id, ⟨.sl 1 (cs.map fun c => [c]), some .gone, none⟩) else none
      | none => none
    | _, _, _, _, _ => none
  | _ => none
def aSliceM (b : Bool) (d de : Option TD) (h : Hp) (ev : Operand → Val) (lo hi : Option Operand) (x : Val) : Act2 := if b = true then aSlice d de h ev lo hi x else none
def aAppend (d de : Option TD) (e : Nat) (h : Hp) : Val → Val → Act2
  | .c (.slice none 0 0), .sl sz ys => match d, de with
    | some d, some de => if isSlice d = none then none else if sz = de.size ∧ de.zero.length = de.size ∧ ys.length * de.bytes ≤ 140737488355328 ∧ ys.length ≤ 140737488355328 then
        some (none, ⟨.os (List.length h) ys.length, none, some (.arr e de.size ys)⟩) else none
    | _, _ => none
  | .os id len, .sl sz' ys => match d, de, h.get id with
    | some d, some de, .arr e' sz xs => if isSlice d = none then none else if e' = e ∧ sz = de.size ∧ sz' = de.size ∧ len = xs.length ∧ de.zero.length = de.size ∧ (xs.length + ys.length) * de.bytes ≤ 140737488355328 ∧ xs.length + ys.length ≤ 140737488355328 then
        some (some id, ⟨.os (List.length h) (xs.length + ys.length), some .gone, some (.arr e de.size (xs ++ ys))⟩) else none
    | _, _, _ => none
  | _, _ => none
def aMake (d de : Option TD) (e : Nat) (h : Hp) : Val → Val → Act2
  | .c (.int .i64 n), .c (.int .i64 n') => match d, de with
    | some d, some de => if isSlice d = none then none else if n' = n ∧ de.zero.length = de.size ∧ de.zero.all oneC = true ∧ 0 ≤ n ∧ n.toNat * de.bytes ≤ 140737488355328 ∧ n.toNat ≤ 140737488355328 then
        some (none, ⟨.os (List.length h) n.toNat, none, some (.arr e de.size (List.replicate n.toNat (de.zero.map .c)))⟩) else none
    | _, _ => none
  | _, _ => none

def aMakeFunc (ev : Operand → Val) : Fn → List Operand → List Operand → Act2
  | .func f, [], caps => q_ (.fn f (caps.map ev))
  | _, _, _ => none
def aBuiltin (T : Nat → Option TD) (ev : Operand → Val) (h : Hp) : Builtin → List Operand → List TypeId → Act2
  | .len, [x], [t] => aLenH (T t) h (ev x)
  | .max, [x, y], _ => aMax (ev x) (ev y)
  | .append, [s, x], [t, u] => if t = u then aAppend (T t) (T (elemT (T t))) (elemT (T t)) h (ev s) (ev x) else none
  | _, _, _ => none
def aCallee (T : Nat → Option TD) (ev : Operand → Val) (h : Hp) (args : List Operand) (ts : List TypeId) : Callee → Act2
  | .builtin b => aBuiltin T ev h b args ts
  | _ => none
def aCall (T : Nat → Option TD) (ev : Operand → Val) (h : Hp) (c : Call) : Act2 := aCallee T ev h c.args.toList c.argTypes.toList c.callee

def vact (T : Nat → Option TD) (o : Op) (ev : Operand → Val) (h : Hp) : Act2 :=
  match o with
  | .move x => q_ (ev x)
  | .assign x => q_ (ev x)
  | .pick c a b => aPick (ev c) (ev a) (ev b)
  | .binOp op _ x y _ => aBin op (ev x) (ev y)
  | .unOp op _ x => aUn op (ev x)
  | .nilCheck x => aNil (ev x)
  | .extract x i => aExtract (ev x) i
  | .makeFunc fn first caps => aMakeFunc ev fn first.toList caps.toList
  | .fieldAddr t x f => aField (T t) (T (fieldT (T t) f)) f (ev x)
  | .field t x f => aFieldV (T t) (T (fieldT (T t) f)) f (ev x)
  | .load t x => aLoad (T t) h (ev x)
  | .store t x y => aStore (T t) h (ev x) (ev y)
  | .alloc t => aAlloc (T t) h
  | .box _ x => aBox h (ev x)
  | .indexAddr t x y => aIndexAddr (T t) (T (elemT (T t))) (ev x) (ev y)
  | .index t x y => aIndex (T t) (T (elemT (T t))) (ev x) (ev y)
  | .convert t u x => aConv (T t) (T u) (ev x)
  | .build t ps => aBuild T (T t) (ps.toList.map fun p => (p.1, ev p.2))
  | .buildSlice t len ps => aBuildSlice (T t) (T (elemT (T t))) len (ps.toList.map fun p => (p.1, ev p.2))
  | .slice t x lo hi mx => aSliceM mx.isNone (T t) (T (elemT (T t))) h ev lo hi (ev x)
  | .makeSlice t x y => aMake (T t) (T (elemT (T t))) (elemT (T t)) h (ev x) (ev y)
  | .call c => aCall T ev h c
  | _ => none

end Go.Vm
/- The reckoning is right. -/
namespace Go.Vm
open Go Go.RowKit
variable {P : Program} {G : List (Nat × Obj)} {ro : Option Nat}

/-- An operation does what is reckoned, and what it touches is an object of ours. -/
def Right (P : Program) (G : List (Nat × Obj)) (o : Oper) (ev : Operand → Val) (h : Hp) (fid : Option Nat) (ef : Ef) : Prop :=
  ∃ ob, Does P G o ev fid ob (List.length h) ef ∧ (∀ id, fid = some id → h.get id = ob ∧ ob.live = true ∧ ob ≠ .dfr)

theorem Right.quiet {o : Oper} {ev : Operand → Val} {h : Hp} {ef : Ef} (hd : Does P G o ev none .gone (List.length h) ef) : Right P G o ev h none ef := ⟨.gone, hd, by simp⟩

theorem Right.at_ {o : Oper} {ev : Operand → Val} {h : Hp} {id : Nat} {ob : Ob} {ef : Ef} (hd : Does P G o ev (some id) ob (List.length h) ef) (h1 : h.get id = ob) (h2 : ob.live = true) (h3 : ob ≠ .dfr) : Right P G o ev h (some id) ef :=
  ⟨ob, hd, by rintro _ ⟨⟩; exact ⟨h1, h2, h3⟩⟩

theorem tdOf_T (P : Program) : TabOK P (tdOf P) := tdOf_ok P

theorem slice_some {d : TD} (h : ¬ isSlice d = none) : isSlice d = some (elemT (some d)) := by
  unfold isSlice at *
  split at h
  · rename_i e he; simp [elemT, he]
  · simp at h
theorem arr_elem {d : TD} {n e : Nat} (h : isArray d = some (n, e)) : elemT (some d) = e := by
  simp [elemT, isArray_spec h]
theorem field_T {d : TD} {f off t : Nat} (h : d.off f = some (off, t)) : fieldT (some d) f = t := by simp [fieldT, h]

/-- Taking a reckoned result apart. -/
theorem q_eq {r : Val} {fid : Option Nat} {ef : Ef} (h : q_ r = some (fid, ef)) : fid = none ∧ ef = ⟨r, none, none⟩ := by
  unfold q_ at h; cases h; exact ⟨rfl, rfl⟩

theorem vact_ok {o : Oper} {ev : Operand → Val} {h : Hp} {fid : Option Nat} {ef : Ef} (ha : vact (tdOf P) o.op ev h = some (fid, ef)) : Right P G o ev h fid ef := by
  have hT := tdOf_T P
  generalize ho : o.op = op at ha
  cases op <;> simp only [vact] at ha <;> (try (cases ha; done))
  case move x => obtain ⟨rfl, rfl⟩ := q_eq ha; exact .quiet (Does_move ho)
  case assign x => obtain ⟨rfl, rfl⟩ := q_eq ha; exact .quiet (Does_assign ho)
  case pick c a b =>
    unfold aPick at ha
    split at ha
    · rename_i h1; obtain ⟨rfl, rfl⟩ := q_eq ha; exact .quiet (Does_pick ho h1)
    · cases ha
  case binOp op t x y yt =>
    unfold aBin at ha
    split at ha
    · rename_i h1 h2
      split at ha
      · rename_i h3; obtain ⟨rfl, rfl⟩ := q_eq ha; exact .quiet (Does_bin ho h1 h2 h3)
      · cases ha
    · cases ha
  case unOp op t x =>
    unfold aUn at ha
    split at ha
    · rename_i h1
      split at ha
      · rename_i h3; obtain ⟨rfl, rfl⟩ := q_eq ha; exact .quiet (Does_un ho h1 h3)
      · cases ha
    · cases ha
  case nilCheck x =>
    unfold aNil at ha
    split at ha <;> (try (cases ha; done)) <;> (rename_i h1; obtain ⟨rfl, rfl⟩ := q_eq ha; rw [← h1]; exact .quiet (Does_nilCheck ho (by rw [h1])))
  case extract x i =>
    unfold aExtract at ha
    split at ha
    · rename_i h1
      split at ha
      · rename_i h3; obtain ⟨rfl, rfl⟩ := q_eq ha; exact .quiet (Does_extract ho h1 h3)
      · cases ha
    · cases ha
  case makeFunc fn first caps =>
    unfold aMakeFunc at ha
    split at ha <;> (try (cases ha; done))
    rename_i f caps' h1 h2
    obtain ⟨rfl, rfl⟩ := q_eq ha
    have e1 : first = #[] := Array.toList_inj.1 (by simpa using h2)
    subst e1
    exact .quiet (Does_makeFunc ho)
  case fieldAddr t x f =>
    unfold aField at ha
    split at ha
    · rename_i d df h1 h2
      split at ha
      · rename_i off ft h3
        split at ha
        · cases ha
        · rename_i hz
          split at ha
          · rename_i r h4; obtain ⟨rfl, rfl⟩ := q_eq ha
            rw [h1, field_T h3] at h2
            exact .quiet (Does_fieldAddr hT ho h1 h3 h2 hz h4)
          · cases ha
      · cases ha
    · cases ha
  case field t x f =>
    unfold aFieldV at ha
    split at ha
    · rename_i cs h0
      split at ha
      · rename_i d df h1 h2
        split at ha
        · rename_i off ft h3
          split at ha
          · rename_i r h4; obtain ⟨rfl, rfl⟩ := q_eq ha
            rw [h1, field_T h3] at h2
            exact .quiet (Does_field hT ho h1 h3 h2 h0 h4)
          · cases ha
        · cases ha
      · cases ha
    · cases ha
  case load t x =>
    unfold aLoad at ha
    split at ha
    · rename_i id off h0
      split at ha
      · rename_i d cs h1 h2
        split at ha
        · rename_i r h3; cases ha; exact .at_ (Does_load_blk hT ho h1 h0 h3) h2 rfl (by simp)
        · cases ha
      · cases ha
    · rename_i cs h0
      split at ha
      · rename_i d h1
        split at ha
        · rename_i r h3; obtain ⟨rfl, rfl⟩ := q_eq ha; exact .quiet (Does_load_rp hT ho h1 h0 h3)
        · cases ha
      · cases ha
    · rename_i id sz i j h0
      split at ha
      · rename_i d e sz' xs h1 h2
        split at ha
        · rename_i hs; subst hs
          split at ha
          · rename_i el h3
            split at ha
            · rename_i r h4; cases ha; exact .at_ (Does_load_ep hT ho h1 h0 h3 h4) h2 rfl (by simp)
            · cases ha
          · cases ha
        · cases ha
      · cases ha
    · cases ha
  case store t x y =>
    unfold aStore at ha
    split at ha
    · rename_i id off h0
      split at ha
      · rename_i d cs es h1 h2 h3
        split at ha
        · rename_i hc; cases ha; exact .at_ (Does_store_blk hT ho h1 h0 h3 hc.1 hc.2.1 hc.2.2) h2 rfl (by simp)
        · cases ha
      · cases ha
    · rename_i id sz i j h0
      split at ha
      · rename_i d e sz' xs es h1 h2 h3
        split at ha
        · rename_i hs; subst hs
          split at ha
          · rename_i el h4
            split at ha
            · rename_i hc; cases ha; exact .at_ (Does_store_ep hT ho h1 h0 h3 hc.1 hc.2.1 h4 hc.2.2) h2 rfl (by simp)
            · cases ha
          · cases ha
        · cases ha
      · cases ha
    · cases ha
  case alloc t =>
    unfold aAlloc at ha
    split at ha
    · rename_i d h1
      split at ha
      · rename_i hc; cases ha; exact .quiet (Does_alloc hT ho h1 hc)
      · cases ha
    · cases ha
  case box t x =>
    unfold aBox at ha
    split at ha
    · rename_i cs h1
      split at ha
      · rename_i hc; cases ha; exact .quiet (Does_box ho h1 hc)
      · cases ha
    · cases ha
  case indexAddr t x y =>
    unfold aIndexAddr at ha
    split at ha
    · rename_i sz xs k n h0 h0'
      split at ha
      · rename_i d de h1 h2
        split at ha
        · cases ha
        · rename_i hs
          split at ha
          · rename_i hc
            split at ha
            · rename_i el h3; obtain ⟨rfl, rfl⟩ := q_eq ha
              rw [h1] at h2
              exact .quiet (Does_index_sl hT ho h1 (slice_some hs) h2 (by rw [← hc.1]; exact h0) h0' hc.2 h3)
            · cases ha
          · cases ha
      · cases ha
    · rename_i id len k n h0 h0'
      split at ha
      · rename_i d de h1 h2
        split at ha
        · cases ha
        · rename_i hs
          split at ha
          · rename_i hc
            obtain ⟨rfl, rfl⟩ := q_eq ha
            rw [h1] at h2
            exact .quiet (Does_index_os hT ho h1 (slice_some hs) h2 h0 h0' hc.1 hc.2)
          · cases ha
      · cases ha
    · rename_i k n h0' _ _
      split at ha
      · rename_i d de h1 h2
        split at ha
        · rename_i len e hs
          split at ha
          · rename_i hc
            split at ha
            · rename_i r h3; obtain ⟨rfl, rfl⟩ := q_eq ha
              rw [h1, arr_elem hs] at h2
              exact .quiet (Does_index_arr hT ho h1 hs h2 h0' hc.1 hc.2 h3)
            · cases ha
          · cases ha
        · cases ha
      · cases ha
    · cases ha
  case index t x y =>
    unfold aIndex at ha
    split at ha
    · rename_i cs k n h0 h0'
      split at ha
      · rename_i d de h1 h2
        split at ha
        · rename_i len e hs
          split at ha
          · rename_i hc
            split at ha
            · rename_i r h3; obtain ⟨rfl, rfl⟩ := q_eq ha
              rw [h1, arr_elem hs] at h2
              exact .quiet (Does_index_agg hT ho h1 hs h2 h0 h0' hc.1 hc.2 h3)
            · cases ha
          · cases ha
        · cases ha
      · cases ha
    · cases ha
  case convert t u x =>
    unfold aConv at ha
    split at ha
    · rename_i k n h0
      split at ha
      · rename_i d du h1 h2
        split at ha
        · rename_i k1 k2 h3 h4; obtain ⟨rfl, rfl⟩ := q_eq ha; exact .quiet (Does_conv hT ho h1 h2 h3 h4 h0)
        · cases ha
      · cases ha
    · cases ha
  case build t ps =>
    unfold aBuild at ha
    split at ha
    · rename_i d h1
      split at ha
      · rename_i hk
        split at ha
        · rename_i rs h3; obtain ⟨rfl, rfl⟩ := q_eq ha; exact .quiet (Does_build hT ho h1 hk h3)
        · cases ha
      · cases ha
    · cases ha
  case buildSlice t len ps =>
    unfold aBuildSlice at ha
    split at ha
    · rename_i d de h1 h2
      split at ha
      · cases ha
      · rename_i hs
        split at ha
        · rename_i hc
          split at ha
          · rename_i xs h3; obtain ⟨rfl, rfl⟩ := q_eq ha
            rw [h1] at h2
            exact .quiet (Does_buildSlice hT ho h1 (slice_some hs) h2 hc.1 hc.2.1 (by simpa using hc.2.2) h3)
          · cases ha
        · cases ha
    · cases ha
  case slice t x lo hi mx =>
    unfold aSliceM at ha
    split at ha <;> (try (cases ha; done))
    rename_i heq
    cases mx with
    | some m => simp at heq
    | none => ?_
    unfold aSlice at ha
    split at ha
    · rename_i sz xs h0
      split at ha
      · rename_i d de l u h1 h2 h3 h4
        split at ha
        · cases ha
        · rename_i hs
          split at ha
          · rename_i hc; obtain ⟨rfl, rfl⟩ := q_eq ha
            rw [h1] at h2
            have oi : ∀ (q : Option Operand) (z v : Int), optV ev z q = some v → optI ev q v z := by
              intro q z v hq
              cases q with
              | none => cases hq; rfl
              | some y =>
                simp only [optV] at hq
                split at hq
                · cases hq; rename_i k hh; exact ⟨_, hh⟩
                · cases hq
            rw [hc.1]
            exact .quiet (Does_slice_sl hT ho h1 (slice_some hs) h2 (by rw [← hc.1]; exact h0) (oi _ _ _ h3) (oi _ _ _ h4) hc.2.1 hc.2.2.1 hc.2.2.2)
          · cases ha
      · cases ha
    · rename_i id h0
      split at ha
      · rename_i d de cs h1 h2 h3
        split at ha
        · rename_i len e hs
          split at ha
          · rename_i hc; cases ha
            rw [h1, arr_elem hs] at h2
            exact .at_ (Does_slice_arr hT ho h1 hs h2 hc.1 h0 hc.2.1 hc.2.2) h3 rfl (by simp)
          · cases ha
        · cases ha
      · cases ha
    · cases ha
  case makeSlice t x y =>
    unfold aMake at ha
    split at ha
    · rename_i n n' h0 h0'
      split at ha
      · rename_i d de h1 h2
        split at ha
        · cases ha
        · rename_i hs
          split at ha
          · rename_i hc
            obtain ⟨hn, hc1, hc2, hc3, hc4, hc5⟩ := hc
            subst hn
            rw [h1] at h2 ha
            have e : ((n'.toNat : Nat) : Int) = n' := by omega
            cases ha
            exact .quiet (Does_makeSlice hT ho h1 (slice_some hs) h2 hc1 hc2 (by rw [e]; exact h0) (by rw [e]; exact h0') hc4 hc5)
          · cases ha
      · cases ha
    · cases ha
  case call c =>
    unfold aCall aCallee at ha
    split at ha <;> (try (cases ha; done))
    rename_i b hcal
    have hc : c = { callee := .builtin b, args := c.args, argTypes := c.argTypes } := by cases c; simp at hcal; subst hcal; rfl
    unfold aBuiltin at ha
    split at ha
    · rename_i x t h1 h2
      have e1 : c.args = #[x] := Array.toList_inj.1 (by simpa using h1)
      have e2 : c.argTypes = #[t] := Array.toList_inj.1 (by simpa using h2)
      rw [e1, e2] at hc
      rw [hc] at ho
      unfold aLenH at ha
      split at ha
      · rename_i id hx0
        split at ha
        · rename_i d es hd hg
          split at ha
          · rename_i hm
            cases ha
            unfold isMapT at hm
            split at hm
            · rename_i k e he
              have hu := hT t d hd
              rw [he] at hu
              exact .at_ (Does_len_map ho hu.1 hx0) hg rfl (by simp)
            · cases hm
          · cases ha
        · cases ha
      · unfold aLen at ha
        split at ha
        · rename_i d hd
          split at ha
          · cases ha
          · rename_i hs
            split at ha
            · rename_i n hn; obtain ⟨rfl, rfl⟩ := q_eq ha; exact .quiet (Does_len hT ho hd (slice_some hs) hn)
            · cases ha
        · cases ha
    · rename_i _ x y h1
      have e1 : c.args = #[x, y] := Array.toList_inj.1 (by simpa using h1)
      rw [e1] at hc
      rw [hc] at ho
      unfold aMax at ha
      split at ha
      · rename_i a b h2 h3
        split at ha
        · rename_i r h4; obtain ⟨rfl, rfl⟩ := q_eq ha; exact .quiet (Does_max ho h2 h3 h4)
        · cases ha
      · cases ha
    · rename_i sx x t u h1 h2
      split at ha <;> (try (cases ha; done))
      rename_i htu
      subst htu
      have e1 : c.args = #[sx, x] := Array.toList_inj.1 (by simpa using h1)
      have e2 : c.argTypes = #[t, t] := Array.toList_inj.1 (by simpa using h2)
      rw [e1, e2] at hc
      rw [hc] at ho
      unfold aAppend at ha
      split at ha
      · rename_i sz ys h3 h4
        split at ha
        · rename_i d de h5 h6
          split at ha
          · cases ha
          · rename_i hs
            split at ha
            · rename_i hcond
              obtain ⟨c0, c1, c2, c3⟩ := hcond
              rw [h5] at h6 ha
              cases ha
              exact .quiet (Does_append_nil hT ho h5 (slice_some hs) h6 c1 h3 (by rw [← c0]; exact h4) c2 c3)
            · cases ha
        · cases ha
      · rename_i id len sz' ys h3 h4
        split at ha
        · rename_i d de e' sz xs h5 h6 h7
          split at ha
          · cases ha
          · rename_i hs
            split at ha
            · rename_i hcond
              obtain ⟨c0, c1, c1', c2, c3, c4, c5⟩ := hcond
              subst c0; subst c1; subst c2
              rw [h5] at h6 ha h7
              cases ha
              exact .at_ (Does_append_os hT ho h5 (slice_some hs) h6 c3 h3 (by rw [← c1']; exact h4) c4 c5) h7 rfl (by simp)
            · cases ha
        · cases ha
      · cases ha
    · cases ha

end Go.Vm
/- Runs of operations; what is kept. -/
namespace Go.Vm
open Go Go.RowKit
variable {P : Program} {G : List (Nat × Obj)} {ro : Option Nat}

def gdst (ops : Array Oper) (j : Nat) : Nat := ((ops[j]?).bind (·.dst)).getD 1000000

/-- Does a guard's value want the operation? -/
def gv (b : Bool) : Val → Option Bool
  | .c (.bool b') => some (b' == b)
  | .c (.tuple _) => some false
  | _ => none

def vrun (T : Nat → Option TD) (ops : Array Oper) : List Oper → St → List Oper × St
  | [], s => ([], s)
  | o :: l, s =>
    match o.guard with
    | none => match vact T o.op s.ev s.h with
      | some (fid, ef) => vrun T ops l (s.app o.dst fid ef)
      | none => (o :: l, s)
    | some (j, b) => match gv b (s.get (gdst ops j)) with
      | some true => match vact T o.op s.ev s.h with
          | some (fid, ef) => vrun T ops l (s.app o.dst fid ef)
          | none => (o :: l, s)
      | some false => vrun T ops l (s.put o.dst (.c undef))
      | none => (o :: l, s)

theorem gv_true {b : Bool} {x : Val} (h : gv b x = some true) : x = .c (.bool b) := by
  unfold gv at h
  split at h
  · simp at h; rw [h]
  · cases h
  · cases h
theorem gv_false {b : Bool} {x : Val} (h : gv b x = some false) : ∃ v, x = .c v ∧ v ≠ .bool b := by
  unfold gv at h
  split at h
  · rename_i b'
    simp at h
    exact ⟨_, rfl, by intro e; cases e; exact h rfl⟩
  · exact ⟨_, rfl, by simp⟩
  · cases h

theorem gdst_of {ops : Array Oper} {j d : Nat} (h : (ops[j]?).bind (·.dst) = some d) : gdst ops j = d := by unfold gdst; rw [h]; rfl
theorem gdst_some {ops : Array Oper} {j : Nat} (h : gdst ops j ≠ 1000000) : (ops[j]?).bind (·.dst) = some (gdst ops j) := by
  unfold gdst at *
  cases hd : (ops[j]?).bind (·.dst) with
  | some d => rfl
  | none => rw [hd] at h; exact absurd rfl h

/-- No temporary has the number 1000000: what it would hold is nothing. -/
theorem get_big {V : View} {s : St} {a : Act} {w : World} (hr : Rel G V s a w) (hm : s.m ≤ 1000000) (v : Value) (h : s.get 1000000 = .c v) : v = undef := by
  have h1 := hr.tm 1000000
  rw [h] at h1
  have h2 := h1.c_inv
  rw [Array.getD_eq_getD_getElem?, Array.getElem?_eq_none (by rw [hr.sz]; exact hm)] at h2
  exact h2.symm

theorem not_defer {T : Nat → Option TD} {op : Op} {ev : Operand → Val} {h : Hp} {r : Option Nat × Ef} (ha : vact T op ev h = some r) : ∀ c, op ≠ .defer c := by
  rintro c rfl; simp [vact] at ha

theorem WL_act {ops : Array Oper} {o : Oper} {l : List Oper} {K : St → Prop} {s : St} {fid : Option Nat} {ef : Ef} (ha : vact (tdOf P) o.op s.ev s.h = some (fid, ef)) (hg : Wants ops s o) (h : WL P G ro ops l K (s.app o.dst fid ef)) : WL P G ro ops (o :: l) K s := by
  obtain ⟨ob, hd, hf⟩ := vact_ok (G := G) ha
  exact WL_op hd (not_defer ha) hg hf h

theorem m_app (s : St) (dst : Option Tmp) (fid : Option Nat) (ef : Ef) : (s.app dst fid ef).m = s.m := by
  cases dst with
  | none => rfl
  | some d => simp only [St.app, St.put]; split <;> rfl
theorem m_put (s : St) (dst : Option Tmp) (v : Val) : (s.put dst v).m = s.m := by
  cases dst with
  | none => rfl
  | some d => simp only [St.put]; split <;> rfl

theorem WL_run {ops : Array Oper} {K : St → Prop} : ∀ (l : List Oper) (s : St), s.m ≤ 1000000 → WL P G ro ops (vrun (tdOf P) ops l s).1 K (vrun (tdOf P) ops l s).2 → WL P G ro ops l K s
  | [], s, _, h => h
  | o :: l, s, hm, h => by
    simp only [vrun] at h
    split at h
    · rename_i hg
      split at h
      · rename_i fid ef ha
        exact WL_act ha (.inl hg) (WL_run l _ (by rw [m_app]; exact hm) h)
      · exact h
    · rename_i j b hg
      split at h
      · rename_i hgv
        by_cases hbig : gdst ops j = 1000000
        · intro i hi V0 w0 s0 V a w hr hs hn n Q hq
          rw [hbig] at hgv
          have := get_big hr hm _ (gv_true hgv)
          simp [undef] at this
        · split at h
          · rename_i fid ef ha
            exact WL_act ha (.inr ⟨j, b, _, hg, gdst_some hbig, gv_true hgv⟩) (WL_run l _ (by rw [m_app]; exact hm) h)
          · exact h
      · rename_i hgv
        exact WL_skip ⟨j, b, hg, fun d hd => by rw [← gdst_of hd]; exact gv_false hgv⟩ (WL_run l _ (by rw [m_put]; exact hm) h)
      · exact h

theorem W_seq_region {id : Nat} {ops : Array Oper} {y : Code} {Q : Exit → St → Prop} {s : St} (h : WL P G ro ops ops.toList (fun s' => W P G ro y Q s') s) : W P G ro (.seq (.region id ops false) y) Q s :=
  W_seq (W_region h)

/-! ### What is forgotten -/
theorem lk_map (t : List (Nat × Val)) : ∀ (ks : List Nat) (i : Nat), lk (ks.map fun k => (k, lk t k)) i = if i ∈ ks then lk t i else .any
  | [], i => by simp [lk]
  | k :: ks, i => by
    simp only [List.map_cons, lk, List.mem_cons]
    by_cases e : i = k
    · subst e; simp
    · simp [e, lk_map t ks i]

def St.keep (s : St) (ks : List Nat) : St := { s with t := ks.map fun k => (k, lk s.t k) }

theorem Rel.keep {V : View} {s : St} {a : Act} {w : World} (hr : Rel G V s a w) (ks : List Nat) : Rel G V (s.keep ks) a w :=
  ⟨hr.sz, fun i => by
    show RV V s.h.D w (lk (ks.map fun k => (k, lk s.t k)) i) _
    rw [lk_map]
    split
    · exact hr.tm i
    · exact .any _, hr.hp, hr.df, hr.dl⟩

theorem W_keep {c : Code} {Q : Exit → St → Prop} {s : St} (ks : List Nat) (h : W P G ro c Q (s.keep ks)) : W P G ro c Q s := fun V a w hr n => h V a w (hr.keep ks) n

/-- The end of a region, with what is kept. -/
theorem WL_keep {ops : Array Oper} {y : Code} {Q : Exit → St → Prop} {s : St} (ks : List Nat) (h : W P G ro y Q (s.keep ks)) : WL P G ro ops [] (fun s' => W P G ro y Q s') s := WL_nil (W_keep ks h)

/-- A state that says less. -/
def Weak (G : List (Nat × Obj)) (s s' : St) : Prop := ∀ (V : View) (a : Act) (w : World), Rel G V s a w → ∃ V', Rel G V' s' a w ∧ StepS V w s V' w s' ∧ (∀ i, s.h.D i → s'.h.D i)

theorem W_weak {c : Code} {Q : Exit → St → Prop} {s s' : St} (hw : Weak G s s') (h : W P G ro c Q s') : W P G ro c Q s := fun V a w hr n => by
  obtain ⟨V', h1, h2, h3⟩ := hw V a w hr
  exact wpIn_mono (h V' a w h1 n) (fun e a w k => k.trans h2 h3 (fun _ _ h => h))

end Go.Vm
