/- A part of the proof: a calculus over values without addresses, and what the functions of the program compute in it. -/
import Derived.Test.YtjgkfoeomlpdnaaDoorA3
import Derived.Test.YtjgkfoeomlpdnaaDoorB4
import Derived.WideKeyArr
import Derived.DeepKeys4
namespace Go.Vm
def clrN (m k : Nat) : Nat := (BitVec.ofInt 64 (m : Int) &&& ~~~BitVec.ofInt 64 ((2 ^ k : Nat) : Int)).toNat
theorem clrN_bit (m k j : Nat) : (clrN m k).testBit j = (decide (j < 64) && (m.testBit j && !decide (k = j))) := by
  unfold clrN
  show BitVec.getLsbD _ j = _
  simp only [BitVec.ofInt_natCast, BitVec.getLsbD_and, BitVec.getLsbD_not, BitVec.getLsbD_ofNat, Nat.testBit_two_pow]
  by_cases h : j < 64 <;> simp [h]
theorem clrN_lt {m k n : Nat} (hm : m < 2 ^ n) : clrN m k < 2 ^ n := by
  apply Nat.lt_pow_two_of_testBit
  intro i hi
  rw [clrN_bit, Nat.testBit_lt_two_pow (Nat.lt_of_lt_of_le hm (Nat.pow_le_pow_right (by decide) hi))]
  simp
theorem bitN (m k : Nat) : (BitVec.ofInt 64 ((m >>> k : Nat) : Int) &&& BitVec.ofInt 64 1).toNat = if m.testBit k then 1 else 0 := by
  have : BitVec.ofInt 64 1 = BitVec.ofNat 64 1 := by rfl
  rw [this, BitVec.ofInt_natCast, BitVec.toNat_and, BitVec.toNat_ofNat, BitVec.toNat_ofNat]
  rw [show 1 % 2 ^ 64 = 1 from rfl, Nat.and_one_is_mod, Nat.mod_mod_of_dvd _ (by decide), Nat.shiftRight_eq_div_pow]
  rw [Nat.testBit_eq_decide_div_mod_eq]
  have h := Nat.mod_lt (m / 2 ^ k) (show 0 < 2 by decide)
  by_cases h1 : m / 2 ^ k % 2 = 1
  · simp [h1]
  · simp [h1]; omega
end Go.Vm
/- Cells and schedules as values, for runs of whole stretches (seat D). -/
namespace Go.Vm
instance : Inhabited Cell := ⟨zeroC⟩
end Go.Vm
namespace Go.Vm.D
open Go Go.RowKit
theorem agg5_fold (a b c d e : Int) : Val.agg [I a, I b, I c, I d, I e] = .agg (cellV ⟨a, b, c, d, e⟩) := rfl
theorem en : (∀ f, (cellV f).length = 5) ∧ (∀ f, (cellV f).all one1 = true) ∧ (∀ f, (cellV f)[0]? = some (I f.slot)) ∧ (∀ f, (cellV f)[1]? = some (I f.offset)) ∧ (∀ f, (cellV f)[2]? = some (I f.src)) ∧ (∀ f, (cellV f)[3]? = some (I f.to)) ∧
    (∀ f, (cellV f)[4]? = some (I f.flow)) ∧ (∀ f, (cellV f).take 5 = cellV f) ∧ (∀ f, cellV f ++ [] = cellV f) ∧ (∀ a b c d e : Int, Val.agg [I a, I b, I c, I d, I e] = .agg (cellV ⟨a, b, c, d, e⟩)) ∧
    (∀ s, (schV s).length = 3) ∧ (∀ s, (schV s).all one1 = true) ∧ (∀ s, (schV s)[0]? = some (I s.len)) ∧ (∀ s, (schV s)[1]? = some (I s.offs)) ∧ (∀ s, (schV s)[2]? = some (.sl 5 (s.cells.map cellV))) ∧ (∀ s, (schV s).take 3 = schV s) ∧ (∀ s, schV s ++ [] = schV s) :=
  ⟨fun _ => rfl, fun _ => rfl, fun _ => rfl, fun _ => rfl, fun _ => rfl, fun _ => rfl, fun _ => rfl, fun _ => rfl, fun _ => by simp, fun _ _ _ _ _ => rfl, fun _ => rfl, fun _ => rfl, fun _ => rfl, fun _ => rfl, fun _ => rfl, fun _ => rfl, fun _ => by simp⟩
theorem get_at {h : Hp} {i : Nat} {o : Ob} (e : h.get i = o) (hl : o.live = true := by rfl) : ∀ x, Hp.get (h ++ x) i = o := fun x => (get_append_l x (Hp.get_lt (by rw [e]; exact hl))).trans e
end Go.Vm.D
/- Contracts: what the law of a taken place asks of a place. -/
set_option maxRecDepth 20000
set_option maxHeartbeats 2000000
namespace Go.Vm.D
open Go Go.RowKit Go.Proofs
def openB (s : Sch) (used : List Cell) (src to a b : Int) : Bool := !s.cells.any (busyAt a src to) && (!used.any (busyAt a src to) && (!s.cells.any (isAt a b) && !used.any (isAt a b)))
theorem f13_ok {G} (s : Sch) (used : List Cell) (src to a b : Int) (i j k l : Nat) (h : Hp) (hi : h.get i = .blk [I src]) (hj : h.get j = .blk [I to]) (hk' : h.get k = .blk (schV s)) (hl' : h.get l = .blk [.sl 5 (used.map cellV)])
    (h1 : s.cells.length ≤ 100000) (h2 : used.length ≤ 100000) : VPure Tryd.prog G (.fn 13 [.ptr i 0, .ptr j 0, .ptr k 0, .ptr l 0]) [I a, I b] h (B (openB s used src to a b)) := by
  refine VF Tryd.func13 Tryd.ntmps13 (fun hk ha hc => ?_)
  have tf : _ ∧ _ ∧ _ := ⟨fa24_2, ld22, Tryd.results13⟩
  have q := And.intro (get_at hi) (And.intro (get_at hj) (And.intro (get_at hk') (get_at hl')))
  have e14 : ∀ x : Cell, VPure Tryd.prog G (.fn 14 [.ptr (List.length h) 0, .ptr i 0, .ptr j 0]) [.agg (cellV x)] (h ++ [.blk [I a], .blk [I b]]) (B (busyAt a src to x)) := fun x => f14_ok x a src to _ _ _ _ (by rw [get_append_0]; rfl) (get_at (o := .blk (iv src)) hi rfl _) (get_at (o := .blk (iv to)) hj rfl _)
  have e15 : ∀ x : Cell, VPure Tryd.prog G (.fn 15 [.ptr (List.length h) 0, .ptr (List.length h + 1) 0]) [.agg (cellV x)] (h ++ [.blk [I a], .blk [I b]]) (B (isAt a b x)) := fun x => f15_ok x a b _ _ _ (by rw [get_append_0]; rfl) (by rw [get_append_r]; rfl)
  have c1 := f16_ok _ _ s.cells _ (by omega) (fun x _ => e14 x)
  have c2 := f16_ok _ _ used _ (by omega) (fun x _ => e14 x)
  have c3 := f16_ok _ _ s.cells _ (by omega) (fun x _ => e15 x)
  have c4 := f16_ok _ _ used _ (by omega) (fun x _ => e15 x)
  refine AUTO ?_
  simp only [openB]
  generalize s.cells.any (busyAt a src to) = x1; generalize used.any (busyAt a src to) = x2; generalize s.cells.any (isAt a b) = x3; generalize used.any (isAt a b) = x4
  cases x1 <;> cases x2 <;> cases x3 <;> cases x4 <;> simp
end Go.Vm.D
/- What Take gives, as a function; masks place by place; the law SpareTaken. -/
set_option maxRecDepth 20000
set_option maxHeartbeats 2000000
namespace Go.Vm.D
open Go Go.RowKit Go.Proofs
theorem noneB_no {P : Nat → Nat → Bool} {m a b x y : Nat} (h : noneB P m a b) (hy : y < m) (hp : P x y = true) : ¬ (x < a ∨ x = a ∧ y < b) := fun e => by
  have := h x y hy e
  rw [hp] at this; cases this

theorem TakeR.fn {s : Sch} {f : List Int} {used : List Cell} {src to : Int} {c c' : Cell} {e e' : Int} (h : TakeR s f used src to c e) (k : TakeR s f used src to c' e') : c = c' ∧ e = e' := by
  cases h with
  | arg h =>
    cases k with
    | arg _ => exact ⟨rfl, rfl⟩
    | range k1 k2 _ => rcases h with h | h; · rw [k1] at h; cases h
                       · exact absurd k2 h
    | large k1 k2 _ _ => rcases h with h | h; · rw [k1] at h; cases h
                         · exact absurd k2 h
    | full k1 k2 _ _ _ => rcases h with h | h; · rw [k1] at h; cases h
                          · exact absurd k2 h
    | at_ _ _ k1 k2 _ _ _ _ _ _ => rcases h with h | h; · rw [k1] at h; cases h
                                   · exact absurd k2 h
  | range h1 h2 h3 =>
    cases k with
    | arg k => rcases k with k | k; · rw [h1] at k; cases k
               · exact absurd h2 k
    | range _ _ _ => exact ⟨rfl, rfl⟩
    | large _ _ k3 _ => rw [h3] at k3; cases k3
    | full _ _ k3 _ _ => rw [h3] at k3; cases k3
    | at_ _ _ _ _ k3 _ _ _ _ _ => rw [h3] at k3; cases k3
  | large h1 h2 h3 h4 =>
    cases k with
    | arg k => rcases k with k | k; · rw [h1] at k; cases k
               · exact absurd h2 k
    | range _ _ k3 => rw [h3] at k3; cases k3
    | large _ _ _ _ => exact ⟨rfl, rfl⟩
    | full _ _ _ k4 _ => omega
    | at_ _ _ _ _ _ k4 _ _ _ _ => omega
  | full h1 h2 h3 h4 h5 =>
    cases k with
    | arg k => rcases k with k | k; · rw [h1] at k; cases k
               · exact absurd h2 k
    | range _ _ k3 => rw [h3] at k3; cases k3
    | large _ _ _ k4 => omega
    | full _ _ _ _ _ => exact ⟨rfl, rfl⟩
    | at_ a b _ _ _ _ ka kb _ ky => exact absurd (.inl (by omega)) (noneB_no h5 (by omega) ky)
  | at_ a b h1 h2 h3 h4 ha hb hn hy =>
    cases k with
    | arg k => rcases k with k | k; · rw [h1] at k; cases k
               · exact absurd h2 k
    | range _ _ k3 => rw [h3] at k3; cases k3
    | large _ _ _ k4 => omega
    | full _ _ _ _ k5 => exact absurd (.inl (by omega)) (noneB_no k5 (by omega) hy)
    | at_ a' b' _ _ _ _ ka kb kn ky =>
      have q1 := noneB_no hn (by omega) ky
      have q2 := noneB_no kn (by omega) hy
      have e1 : a = a' := by omega
      have e2 : b = b' := by omega
      subst e1; subst e2
      exact ⟨rfl, rfl⟩


theorem first_place {P : Nat → Nat → Bool} {n m : Nat} : (∃ a b, a < n ∧ b < m ∧ P a b = true ∧ noneB P m a b) ∨ noneB P m n 0 := by
  by_cases h : ∃ a b, a < n ∧ b < m ∧ P a b = true
  · refine .inl ?_
    obtain ⟨a0, h0⟩ := h
    obtain ⟨a, ⟨b0, h1, h2, h3⟩, hmin⟩ := least_of (p := fun a => ∃ b, a < n ∧ b < m ∧ P a b = true) ⟨a0, h0⟩
    obtain ⟨b, ⟨g1, g2⟩, gmin⟩ := least_of (p := fun b => b < m ∧ P a b = true) ⟨b0, h2, h3⟩
    refine ⟨a, b, h1, g1, g2, ?_⟩
    intro x y hy hxy
    cases hp : P x y with
    | false => rfl
    | true =>
      rcases hxy with hx | ⟨rfl, hy2⟩
      · have := hmin x ⟨y, by omega, hy, hp⟩; omega
      · have := gmin y ⟨hy, hp⟩; omega
  · refine .inr ?_
    intro x y hy hxy
    cases hp : P x y with
    | false => rfl
    | true => exact absurd ⟨x, y, by omega, hy, hp⟩ h
theorem TakeR.ex (s : Sch) (f : List Int) (used : List Cell) (src to : Int) : ∃ r : Cell × Int, TakeR s f used src to r.1 r.2 := by
  cases h1 : formB s
  · exact ⟨(zeroC, 1), .arg (.inl h1)⟩
  by_cases h2 : chkS f s.len s.offs = 0
  · cases h3 : (nodeB src && nodeB to && (src != to))
    · exact ⟨(zeroC, 2), .range h1 h2 h3⟩
    · by_cases h4 : 1024 < used.length
      · exact ⟨(zeroC, 8), .large h1 h2 h3 h4⟩
      · obtain ⟨g1, g2, g3, g4, _⟩ := formB_spec h1
        rcases first_place (P := canT s f used src to) (n := s.len.toNat) (m := s.offs.toNat) with ⟨a, b, ha, hb, hp, hn⟩ | hn
        · exact ⟨(⟨a, b, src, to, 0⟩, 0), .at_ a b h1 h2 h3 (by omega) (by omega) (by omega) hn hp⟩
        · exact ⟨(zeroC, 13), .full h1 h2 h3 (by omega) hn⟩
  · exact ⟨(zeroC, 1), .arg (.inr h2)⟩
noncomputable def tk (s : Sch) (f : List Int) (used : List Cell) (src to : Int) : Cell × Int := Classical.choose (TakeR.ex s f used src to)
theorem tk_ok (s : Sch) (f : List Int) (used : List Cell) (src to : Int) : TakeR s f used src to (tk s f used src to).1 (tk s f used src to).2 := Classical.choose_spec (TakeR.ex s f used src to)
theorem f8_fn {G} (hP : PrintOK G) (s : Sch) (f : List Int) (used : List Cell) (src to : Int) (h : Hp) (hl : s.cells.length ≤ 100000) (hf : f.length ≤ 100000) (hu : used.length ≤ 100000) :
    VPure Tryd.prog G (.fn 8 []) [.agg (schV s), S1 f, .sl 5 (used.map cellV), I src, I to] h (.tup [.agg (cellV (tk s f used src to).1), I (tk s f used src to).2]) := by
  refine (f8_ok hP s f used src to h hl hf hu).mono ?_
  rintro r h' ⟨⟨c, e, rfl, k⟩, rfl⟩
  obtain ⟨rfl, rfl⟩ := TakeR.fn k (tk_ok s f used src to)
  exact ⟨rfl, rfl⟩
end Go.Vm.D
/- Masks place by place. -/
namespace Go.Vm.D
open Go Go.RowKit Go.Proofs
def mkN (offs : Nat) (cells : List Cell) (a : Nat) : Nat := cells.foldl (fun m c => if c.slot = (a : Int) then clrN m c.offset.toNat else m) (2 ^ offs - 1)
theorem fold_bit (a b : Nat) (hb : b < 64) : ∀ (cells : List Cell) (m : Nat), (∀ c, c ∈ cells → 0 ≤ c.offset) → (cells.foldl (fun m c => if c.slot = (a : Int) then clrN m c.offset.toNat else m) m).testBit b = (m.testBit b && !cells.any (isAt a b))
  | [], m, _ => by simp
  | c :: cells, m, h => by
    have h0 := h c List.mem_cons_self
    rw [List.foldl_cons, fold_bit a b hb cells _ (fun x hx => h x (List.mem_cons_of_mem _ hx)), List.any_cons]
    by_cases e : c.slot = a
    · rw [if_pos e, clrN_bit]
      have : decide (c.offset.toNat = b) = (c.offset == (b : Int)) := by
        by_cases e2 : c.offset = b
        · simp [e2]
        · have : c.offset.toNat ≠ b := by omega
          simp [e2, this]
      simp [hb, isAt, e, this, Bool.and_assoc]
    · have e' : (c.slot == (a : Int)) = false := by simpa using e
      rw [if_neg e, isAt, e']; rfl
theorem mkN_bit {offs : Nat} {cells : List Cell} (h : ∀ c, c ∈ cells → 0 ≤ c.offset) (a b : Nat) (hb : b < 64) : (mkN offs cells a).testBit b = (decide (b < offs) && !cells.any (isAt a b)) := by
  rw [mkN, fold_bit a b hb cells _ h, Nat.testBit_two_pow_sub_one]
theorem fold_lt (a n : Nat) : ∀ (cells : List Cell) (m : Nat), m < 2 ^ n → (cells.foldl (fun m c => if c.slot = (a : Int) then clrN m c.offset.toNat else m) m) < 2 ^ n
  | [], m, h => h
  | c :: cells, m, h => by
    rw [List.foldl_cons]
    refine fold_lt a n cells _ ?_
    split
    · exact clrN_lt h
    · exact h
theorem mkN_lt (offs : Nat) (cells : List Cell) (a : Nat) : mkN offs cells a < 2 ^ offs := fold_lt a offs cells _ (Nat.sub_lt (Nat.two_pow_pos _) (by decide))
theorem fullM_eq : ∀ o : Nat, o ≤ 16 → fullM (o : Int) = ((2 ^ o - 1 : Nat) : Int) := by decide
theorem ishl_eq : ∀ o : Nat, o < 16 → ishl .i64 1 (o : Int) = ((2 ^ o : Nat) : Int) := by decide
theorem clr_eq {m k : Nat} (hm : m < 2 ^ 16) (hk : k < 16) : iandNot .i64 (m : Int) (ishl .i64 1 (k : Int)) = (clrN m k : Int) := by
  rw [ishl_eq k hk]
  have h := clrN_lt (k := k) hm
  show IntKind.i64.wrap ((clrN m k : Nat) : Int) = _
  exact wrap64 (by omega) (by omega)
theorem bit_eq {m k : Nat} (hm : m < 2 ^ 16) (hk : k < 64) : bitS (m : Int) k = if m.testBit k then 1 else 0 := by
  unfold bitS iand ishr
  have h1 : ((m : Int)).fdiv (2 ^ min ((k : Int)).toNat IntKind.i64.bits) = ((m >>> k : Nat) : Int) := by
    rw [Int.toNat_natCast, show min k IntKind.i64.bits = k from Nat.min_eq_left (Nat.le_of_lt hk), Nat.shiftRight_eq_div_pow]
    rw [Int.fdiv_eq_ediv_of_nonneg _ (Int.pow_nonneg (by decide))]
    simp
  rw [h1]
  have := bitN m k
  show IntKind.i64.wrap (((BitVec.ofInt 64 ((m >>> k : Nat) : Int) &&& BitVec.ofInt 64 1).toNat : Nat) : Int) = _
  rw [this]
  split <;> exact wrap64 (by omega) (by omega)
def rowN (n : Nat) (g : Nat → Nat) : List Int := (List.range n).map fun a => ((g a : Nat) : Int)
theorem rowN_get {n : Nat} {g : Nat → Nat} {a : Nat} (h : a < n) : (rowN n g)[a]? = some ((g a : Nat) : Int) := by simp [rowN, h]
theorem rowN_getD {n : Nat} {g : Nat → Nat} {a : Nat} (h : a < n) : (rowN n g).getD a 0 = ((g a : Nat) : Int) := by simp [rowN, h]
theorem clr_row {n : Nat} {g : Nat → Nat} (hg : ∀ a, g a < 2 ^ 16) {c : Cell} (h1 : 0 ≤ c.slot) (h2 : c.slot < n) (h3 : 0 ≤ c.offset) (h4 : c.offset < 16) : clrM (rowN n g) c = rowN n (fun a => if c.slot = (a : Int) then clrN (g a) c.offset.toNat else g a) := by
  obtain ⟨k, hk⟩ : ∃ k : Nat, c.slot = k := ⟨c.slot.toNat, by omega⟩
  obtain ⟨o, ho⟩ : ∃ o : Nat, c.offset = o := ⟨c.offset.toNat, by omega⟩
  unfold clrM
  rw [hk, ho, Int.toNat_natCast, rowN_getD (by omega), clr_eq (hg k) (by omega)]
  apply List.ext_getElem?
  intro i
  rw [List.getElem?_set]
  by_cases e : k = i
  · subst e
    have : k < (rowN n g).length := by simp [rowN]; omega
    rw [if_pos rfl, if_pos this, rowN_get (by omega)]
    simp
  · rw [if_neg e]
    by_cases hi : i < n
    · rw [rowN_get hi, rowN_get hi]
      have : ¬ ((k : Int) = (i : Int)) := by omega
      simp [this]
    · simp [rowN, hi]
theorem fold_row {n : Nat} : ∀ (cells : List Cell) (g : Nat → Nat), (∀ a, g a < 2 ^ 16) → (∀ c, c ∈ cells → 0 ≤ c.slot ∧ c.slot < n ∧ 0 ≤ c.offset ∧ c.offset < 16) →
    cells.foldl clrM (rowN n g) = rowN n (fun a => cells.foldl (fun m c => if c.slot = (a : Int) then clrN m c.offset.toNat else m) (g a))
  | [], g, _, _ => rfl
  | c :: cells, g, hg, h => by
    obtain ⟨h1, h2, h3, h4⟩ := h c List.mem_cons_self
    rw [List.foldl_cons, clr_row hg h1 h2 h3 h4, fold_row cells _ (fun a => by split; exact clrN_lt (hg a); exact hg a) (fun x hx => h x (List.mem_cons_of_mem _ hx))]
    rfl
theorem masksS_eq {s : Sch} (hf : formB s = true) : masksS s = rowN s.len.toNat (mkN s.offs.toNat s.cells) := by
  obtain ⟨h1, h2, h3, h4, h5, h6⟩ := formB_spec hf
  unfold masksS
  have e : List.replicate s.len.toNat (fullM s.offs) = rowN s.len.toNat (fun _ => 2 ^ s.offs.toNat - 1) := by
    obtain ⟨o, ho⟩ : ∃ o : Nat, s.offs = o := ⟨s.offs.toNat, by omega⟩
    rw [ho, fullM_eq o (by omega), Int.toNat_natCast]
    simp [rowN, List.map_const']
  rw [e, fold_row _ _ (fun a => ?_) (fun c hc => ?_)]
  · rfl
  · have : 2 ^ s.offs.toNat ≤ 2 ^ 16 := Nat.pow_le_pow_right (by decide) (by omega)
    have := Nat.two_pow_pos s.offs.toNat
    omega
  · have := h6 c hc; omega
theorem mk_lt16 {s : Sch} (hf : formB s = true) (a : Nat) : mkN s.offs.toNat s.cells a < 2 ^ 16 := by
  obtain ⟨h1, h2, h3, h4, h5, h6⟩ := formB_spec hf
  exact Nat.lt_of_lt_of_le (mkN_lt _ _ a) (Nat.pow_le_pow_right (by decide) (by omega))
theorem mask_bit {s : Sch} (hf : formB s = true) {a b : Nat} (ha : (a : Int) < s.len) (hb : (b : Int) < s.offs) : (bitS ((masksS s).getD a 0) b == 1) = !s.cells.any (isAt a b) := by
  obtain ⟨h1, h2, h3, h4, h5, h6⟩ := formB_spec hf
  rw [masksS_eq hf, rowN_getD (by omega), bit_eq (mk_lt16 hf a) (by omega), mkN_bit (fun c hc => (h6 c hc).2.2.1) a b (by omega)]
  have : decide (b < s.offs.toNat) = true := by simp; omega
  rw [this]
  cases s.cells.any (isAt a b) <;> rfl
theorem mask_chk {s : Sch} (hf : formB s = true) : chkS (masksS s) s.len s.offs = 0 := by
  obtain ⟨h1, h2, h3, h4, h5, h6⟩ := formB_spec hf
  have hl : (masksS s).length = s.len.toNat := by rw [masksS_eq hf]; simp [rowN]
  unfold chkS
  have e1 : (inB s.len 1 512 && inB s.offs 1 16) = true := by simp [inB]; omega
  have e2 : (masksS s).any (outM s.offs) = false := by
    rw [List.any_eq_false]
    intro x hx
    rw [masksS_eq hf] at hx
    obtain ⟨a, _, rfl⟩ := List.mem_map.1 hx
    have hlt := mkN_lt s.offs.toNat s.cells a
    obtain ⟨o, ho⟩ : ∃ o : Nat, s.offs = o := ⟨s.offs.toNat, by omega⟩
    have hfm : IntKind.i64.wrap (ishl .i64 1 s.offs - 1) = ((2 ^ o - 1 : Nat) : Int) := by rw [ho]; exact fullM_eq o (by omega)
    simp only [outM, inB, hfm]
    rw [ho, Int.toNat_natCast] at hlt ⊢
    have := Nat.two_pow_pos o
    simp
    omega
  rw [if_neg (by rw [e1]; simp), if_neg (by rw [hl]; omega), if_neg (by rw [e2]; simp)]
end Go.Vm.D
/- The keys of the map of places. -/
set_option maxRecDepth 20000
set_option maxHeartbeats 4000000
namespace Go.Vm
open Go Go.RowKit
theorem mk_wide {P : Program} {k : TypeId} (L : WideMaps.KeyLaw P k) : MK P k (fun v => ∃ l, keyOf P k v = some l) where
  check := by rintro w em v ⟨l, hl⟩; exact L.check w em hl
  find := by rintro w x ⟨l, hl⟩ es hes; exact L.find w hl es hes
  stays := by rintro w v ⟨l, hl⟩; exact L.stays w hl
end Go.Vm
namespace Go.Vm.D
open Go Go.RowKit Go.Proofs
theorem law38 : WideMaps.KeyLaw Tryd.prog 38 := deep_law_laid (by kernel_rfl) (m := 2) (by omega) (of_decide_eq_true (by kernel_rfl)) (by kernel_rfl) (by kernel_rfl)
def pairK (p : Nat × Nat) : Value := .agg #[.int .i64 p.1, .int .i64 p.2]
theorem under38 : Tryd.prog.underlying 38 = some (.array 2 3) := by kernel_rfl
theorem under3 : Tryd.prog.underlying 3 = some (.int .i64) := by kernel_rfl
theorem under37 : Tryd.prog.underlying 37 = some (.map 38 4) := by kernel_rfl
theorem cells38 : Tryd.prog.cellsOf 38 = 2 := by kernel_rfl
theorem cells3 : Tryd.prog.cellsOf 3 = 1 := by kernel_rfl
theorem keyType38 : Tryd.prog.keyType 38 = true := by kernel_rfl
theorem size_types : ∃ n, Tryd.prog.types.size = n + 1 := ⟨Tryd.prog.types.size - 1, by kernel_rfl⟩
theorem key38 (a b : Nat) (ha : a < 100000) (hb : b < 100000) : ∃ l, keyOf Tryd.prog 38 (pairK (a, b)) = some l := by
  obtain ⟨n, hn⟩ := size_types
  have w1 : ∀ k : Nat, k < 100000 → (Lit.int .i64 (k : Int)).wf = true := by intro k hk; simp only [Lit.wf, Bool.and_eq_true, decide_eq_true_eq]; exact ⟨by show (-9223372036854775808 : Int) ≤ _; omega, by show _ ≤ (9223372036854775807 : Int); omega⟩
  refine ⟨.string (keyBytes [.int .i64 a, .int .i64 b]), ?_⟩
  simp only [keyOf, under38, keyType38, pairK, Value.formed, cells38]
  rw [hn]
  simp [Program.keyLits, under38, under3, cells38, cells3, Value.cells, w1 a ha, w1 b hb, List.range, List.range.loop]
end Go.Vm.D
/- The law SpareAdds. -/
set_option maxRecDepth 20000
set_option maxHeartbeats 4000000
namespace Go.Vm.D
open Go Go.RowKit Go.Proofs
theorem sumN_congr {f g : Nat → Int} : ∀ n, (∀ j, j < n → f j = g j) → sumN f n = sumN g n
  | 0, _ => rfl
  | n + 1, h => by unfold sumN; rw [sumN_congr n (fun j hj => h j (by omega)), h n (by omega)]
theorem sumN_const (c : Int) : ∀ n : Nat, sumN (fun _ => c) n = n * c
  | 0 => by simp [sumN]
  | n + 1 => by unfold sumN; rw [sumN_const c n, Int.natCast_succ, Int.add_mul, Int.one_mul]
theorem sumN_one {f g : Nat → Int} {i : Nat} : ∀ n, i < n → (∀ j, j ≠ i → f j = g j) → sumN f n = sumN g n + (f i - g i)
  | 0, h, _ => by omega
  | n + 1, h, hf => by
    unfold sumN
    by_cases e : i = n
    · subst e; rw [sumN_congr i (fun j hj => hf j (by omega))]; omega
    · rw [sumN_one n (by omega) hf, hf n (by omega)]; omega
def gridN (U : List (Nat × Nat)) (n m : Nat) : Int := sumN (fun a => sumN (fun b => if (a, b) ∈ U then 0 else 1) m) n
theorem gridN_eq {n m : Nat} : ∀ (U : List (Nat × Nat)), U.Nodup → (∀ u, u ∈ U → u.1 < n ∧ u.2 < m) → gridN U n m = n * m - U.length
  | [], _, _ => by simp [gridN, sumN_const]
  | u :: U, hd, hu => by
    have h1 := gridN_eq U (List.nodup_cons.1 hd).2 (fun x hx => hu x (List.mem_cons_of_mem _ hx))
    have h2 := hu u List.mem_cons_self
    have h3 := (List.nodup_cons.1 hd).1
    have key : gridN (u :: U) n m = gridN U n m + (sumN (fun b => if (u.1, b) ∈ u :: U then 0 else 1) m - sumN (fun b => if (u.1, b) ∈ U then 0 else 1) m) := by
      refine sumN_one n h2.1 (fun j hj => ?_)
      refine sumN_congr m (fun b _ => ?_)
      have : (j, b) ≠ u := by intro e; exact hj (by rw [← e])
      simp [List.mem_cons, this]
    have k2 : sumN (fun b => if (u.1, b) ∈ u :: U then 0 else 1) m = sumN (fun b => if (u.1, b) ∈ U then (0 : Int) else 1) m + ((if (u.1, u.2) ∈ u :: U then 0 else 1) - (if (u.1, u.2) ∈ U then 0 else 1)) := by
      refine sumN_one m h2.2 (fun b hb => ?_)
      have : (u.1, b) ≠ u := by intro e; exact hb (by rw [← e])
      simp [List.mem_cons, this]
    rw [key, k2, h1]
    simp [h3]
    omega
def insU (U : List (Nat × Nat)) (p : Nat × Nat) : List (Nat × Nat) := if p ∈ U then U else U ++ [p]
def plc (c : Cell) : Nat × Nat := (c.slot.toNat, c.offset.toNat)
def plcs (cs : List Cell) : List (Nat × Nat) := cs.foldl (fun U c => insU U (plc c)) []
theorem insU_nodup {U : List (Nat × Nat)} (h : U.Nodup) (p : Nat × Nat) : (insU U p).Nodup := by
  unfold insU; split
  · exact h
  · rename_i hp; rw [List.nodup_append]; exact ⟨h, by simp, by intro a ha b hb; simp at hb; subst hb; intro e; subst e; exact hp ha⟩
theorem insU_mem {U : List (Nat × Nat)} {p x : Nat × Nat} : x ∈ insU U p ↔ x ∈ U ∨ x = p := by
  unfold insU; split
  · rename_i hp; constructor
    · exact .inl
    · rintro (h | rfl); exact h; exact hp
  · simp
theorem fold_U : ∀ (cs : List Cell) (U : List (Nat × Nat)), U.Nodup → (cs.foldl (fun U c => insU U (plc c)) U).Nodup ∧ ∀ x, x ∈ cs.foldl (fun U c => insU U (plc c)) U ↔ x ∈ U ∨ ∃ c, c ∈ cs ∧ plc c = x
  | [], U, h => ⟨h, by simp⟩
  | c :: cs, U, h => by
    obtain ⟨h1, h2⟩ := fold_U cs (insU U (plc c)) (insU_nodup h _)
    refine ⟨h1, fun x => ?_⟩
    rw [List.foldl_cons, h2, insU_mem]
    simp only [List.mem_cons, exists_eq_or_imp]
    constructor
    · rintro ((h | h) | h)
      · exact .inl h
      · exact .inr (.inl h.symm)
      · exact .inr (.inr h)
    · rintro (h | h | h)
      · exact .inl (.inl h)
      · exact .inl (.inr h.symm)
      · exact .inr h
theorem plcs_snoc (cs : List Cell) (c : Cell) : plcs (cs ++ [c]) = insU (plcs cs) (plc c) := by simp [plcs]
theorem sum_rows (g : Nat → Nat) : ∀ n : Nat, cntS (rowN n g) = sumN (fun a => rowS ((g a : Nat) : Int)) n
  | 0 => rfl
  | n + 1 => by
    have := sum_rows g n
    simp only [cntS, rowN, List.range_succ, List.map_append, List.map_cons, List.map_nil, List.sum_append, List.sum_cons, List.sum_nil, sumN] at this ⊢
    rw [this]; omega
theorem sumN_ext0 {f : Nat → Int} {m : Nat} (h : ∀ b, m ≤ b → f b = 0) : ∀ k, sumN f (m + k) = sumN f m
  | 0 => rfl
  | k + 1 => by
    have e : sumN f (m + (k + 1)) = sumN f (m + k) + f (m + k) := rfl
    rw [e, sumN_ext0 h k, h (m + k) (by omega), Int.add_zero]
theorem cnt_masks {s : Sch} (hf : formB s = true) : cnt (masksS s) + (plcs s.cells).length = s.len * s.offs := by
  obtain ⟨h1, h2, h3, h4, h5, h6⟩ := formB_spec hf
  obtain ⟨n, hn⟩ : ∃ n : Nat, s.len = n := ⟨s.len.toNat, by omega⟩
  obtain ⟨m, hm⟩ : ∃ m : Nat, s.offs = m := ⟨s.offs.toNat, by omega⟩
  obtain ⟨u1, u2⟩ := fold_U s.cells [] (by simp)
  have hmem : ∀ a b : Nat, (a, b) ∈ plcs s.cells ↔ s.cells.any (isAt a b) = true := by
    intro a b
    show (a, b) ∈ s.cells.foldl (fun U c => insU U (plc c)) [] ↔ _
    rw [u2, List.any_eq_true]
    constructor
    · rintro (h | ⟨c, hc, he⟩)
      · cases h
      · have := h6 c hc
        simp only [plc, Prod.mk.injEq] at he
        exact ⟨c, hc, by simp [isAt]; omega⟩
    · rintro ⟨c, hc, he⟩
      simp [isAt] at he
      exact .inr ⟨c, hc, by simp [plc, he.1, he.2]⟩
  have hU := gridN_eq (n := n) (m := m) (plcs s.cells) u1 (fun u hu => by
    have := (hmem u.1 u.2).1 hu
    rw [List.any_eq_true] at this
    obtain ⟨c, hc, he⟩ := this
    have := h6 c hc
    simp [isAt] at he
    omega)
  have e0 : masksS s = rowN n (mkN m s.cells) := by rw [masksS_eq hf, hn, hm]; simp
  have hlt : ∀ a, mkN m s.cells a < 2 ^ 16 := fun a => by have := mk_lt16 hf a; rwa [hm, Int.toNat_natCast] at this
  have hc : cnt (masksS s) = cntS (masksS s) := by
    unfold cnt
    rw [if_neg]
    rintro (h | h)
    · rw [e0] at h; simp [rowN] at h; omega
    · rw [List.any_eq_true] at h
      obtain ⟨x, hx, hb⟩ := h
      rw [e0] at hx
      obtain ⟨a, _, rfl⟩ := List.mem_map.1 hx
      have := hlt a
      simp [inB] at hb
      omega
  have hg : cntS (masksS s) = gridN (plcs s.cells) n m := by
    rw [e0, sum_rows]
    refine sumN_congr n (fun a _ => ?_)
    unfold rowS
    have hb : ∀ b, m ≤ b → b < 64 → bitS ((mkN m s.cells a : Nat) : Int) b = 0 := by
      intro b h1 h2
      rw [bit_eq (hlt a) h2, mkN_bit (fun c hc => (h6 c hc).2.2.1) a b h2]
      have : decide (b < m) = false := by simp; omega
      simp [this]
    have e1 : sumN (bitS ((mkN m s.cells a : Nat) : Int)) 16 = sumN (bitS ((mkN m s.cells a : Nat) : Int)) m := by
      have := sumN_ext0 (f := fun b => if b < 64 then bitS ((mkN m s.cells a : Nat) : Int) b else 0) (m := m) (fun b hb' => by
        (try dsimp only); split
        · exact hb b hb' (by omega)
        · rfl) (16 - m)
      rw [show m + (16 - m) = 16 by omega] at this
      rw [sumN_congr 16 (g := fun b => if b < 64 then bitS ((mkN m s.cells a : Nat) : Int) b else 0) (fun j hj => by (try dsimp only); rw [if_pos (by omega)]), this]
      exact sumN_congr m (fun j hj => by (try dsimp only); rw [if_pos (by omega)])
    rw [e1]
    refine sumN_congr m (fun b hb' => ?_)
    rw [bit_eq (hlt a) (by omega), mkN_bit (fun c hc => (h6 c hc).2.2.1) a b (by omega)]
    have : decide (b < m) = true := by simp; omega
    rw [this]
    by_cases hin : (a, b) ∈ plcs s.cells
    · rw [if_pos hin, (hmem a b).1 hin]; rfl
    · rw [if_neg hin]
      have : s.cells.any (isAt a b) = false := by
        cases h : s.cells.any (isAt a b) with
        | false => rfl
        | true => exact absurd ((hmem a b).2 h) hin
      rw [this]; rfl
  rw [hc, hg, hU, hn, hm]; omega
theorem td37a : ∃ d, tdOf Tryd.prog 37 = some d ∧ isMapT d = true := ⟨⟨.map 38 4, 1, 8, [.map none]⟩, by kernel_rfl, rfl⟩
theorem len37 (h : Hp) (id : Nat) : aLenH (tdOf Tryd.prog 37) h (.mp id) = lenm id (h.get id) := by
  obtain ⟨d, h1, h2⟩ := td37a
  rw [h1]; exact aLenH_map h2 h id
theorem td38 : tdOf Tryd.prog 38 = some ⟨.array 2 3, 2, 16, [.int .i64 0, .int .i64 0]⟩ := by kernel_rfl
theorem bld38 (a b : Int) : aBuild (tdOf Tryd.prog) (tdOf Tryd.prog 38) [(0, I a), (1, I b)] = some (none, ⟨.agg [I a, I b], none, none⟩) := by
  rw [td38]; simp [aBuild, TD.known, TD.place, td3, tsz, vfill, vcells, splice, oneC, q_]
def mapU (U : List (Nat × Nat)) : List (Value × Val) := U.map fun p => (pairK p, B true)
theorem keyIs_pair {a b : Int} {p : Nat × Nat} (h1 : a = p.1) (h2 : b = p.2) : KeyIs (.agg [I a, I b]) (pairK p) := by
  intro V D w x h
  subst h1; subst h2
  cases h
  rename_i vs hl hp
  have hs : vs.size = 2 := hl.symm
  have g0 := (hp 0 _ vs[0] rfl (Array.getElem?_eq_getElem (by omega))).c_inv
  have g1 := (hp 1 _ vs[1] rfl (Array.getElem?_eq_getElem (by omega))).c_inv
  unfold pairK
  congr 1
  apply Array.ext (by simp [hs])
  intro i h1 h2
  match i with
  | 0 => simpa using g0
  | 1 => simpa using g1
  | i + 2 => omega
theorem mapU_key {U : List (Nat × Nat)} {k : Value} {d : Val} (h : (k, d) ∈ mapU U) : d = B true ∧ ∃ p, p ∈ U ∧ k = pairK p := by
  obtain ⟨p, hp, e⟩ := List.mem_map.1 h
  cases e
  exact ⟨rfl, p, hp, rfl⟩
theorem pairK_inj {p q : Nat × Nat} (h : pairK p = pairK q) : p = q := by
  simp [pairK] at h
  ext <;> omega
theorem f4_ok {G} (hP : PrintOK G) (s : Sch) (h : Hp) (hl : s.cells.length < 4611686018427387904) : VPure Tryd.prog G (.fn 4 []) [.agg (schV s)] h (B true) := by
  refine VF Tryd.func4 Tryd.ntmps4 (fun hk ha hc => ?_)
  have tf : _ ∧ _ ∧ _ ∧ _ ∧ _ ∧ _ ∧ _ ∧ _ ∧ _ ∧ _ ∧ _ ∧ _ ∧ _ ∧ _ ∧ _ ∧ _ ∧ _ ∧ _ := ⟨fa24_2, ld22, len22, ld24, len26, fa24_0, ld3, fa24_1, ix22, ld29, alc29, sto29, fa29_0, fa29_1, ix26, Tryd.results4, len37, bld38⟩
  have c1 := @f7_ok G hP
  have c2 := fun h hl => @f10_ok G hP s h hl
  have c3 := fun h hl => @f11_ok G (freeV s) s.len s.offs h hl
  have b1 : (freeV s).length ≤ 512 := by
    unfold freeV
    split
    · rename_i hf
      have := formB_spec hf
      rw [masksS_eq hf]; simp [rowN]; omega
    · simp
  have c4 := fun h hl => @f12_ok G (freeV s) h hl
  refine AUTO ?_
  refine ⟨fun _ => ⟨rfl, rfl⟩, fun a1 => ⟨fun a2 => ?_, fun a2 => ?_⟩⟩
  · have : (freeV s).length = 0 := by
      unfold freeV
      split
      · rename_i hf
        simp [freeE, hf] at a2
      · rfl
    simp [this]
  have hf : formB s = true := by
    simp only [bne_eq_false_iff_eq] at a2
    unfold freeE at a2
    split at a2
    · assumption
    · cases a2
  have hfv : freeV s = masksS s := by unfold freeV; rw [if_pos hf]
  obtain ⟨g1, g2, g3, g4, g5, g6⟩ := formB_spec hf
  have hlen : ((freeV s).length : Int) = s.len := by rw [hfv, masksS_eq hf]; simp [rowN]; omega
  have hchk : chkS (freeV s) s.len s.offs = 0 := by rw [hfv]; exact mask_chk hf
  rw [hchk]
  refine ⟨fun e => by simp at e, fun _ => ⟨fun e => by simp [hlen] at e, fun _ => ?_⟩⟩
  have q := fun x => show iv x = [I x] from rfl
  refine W_loopH [1, 3, 5, 40, 41, 42] (fun p : Nat × List Ob => [(42, I p.1)]) (fun p => h ++ (.blk (schV s) :: .mpo (mapU (plcs (s.cells.take p.1))) :: p.2)) (fun p => p.1 ≤ s.cells.length) (fun p => s.cells.length - p.1) (0, []) (by simp) (fun p hI => ?_)
  obtain ⟨k, gs⟩ := p
  simp only at hI ⊢
  refine AUTO ?_
  refine ⟨fun r1 => ?_, fun r1 => ?_⟩
  · have r2 : k < s.cells.length := by simp only [decide_eq_true_eq] at r1; omega
    have hck := g6 s.cells[k]! (by simp [r2])
    have htk : s.cells.take (k + 1) = s.cells.take k ++ [s.cells[k]!] := by simp [r2]
    have hany : s.cells.any (isAt s.cells[k]!.slot s.cells[k]!.offset) = true := by
      rw [List.any_eq_true]
      exact ⟨s.cells[k]!, by simp [r2], by simp [isAt]⟩
    generalize s.cells[k]! = c at hck htk hany ⊢
    obtain ⟨k1, k2, k3, k4⟩ := hck
    obtain ⟨a, ha⟩ : ∃ a : Nat, c.slot = a := ⟨c.slot.toNat, by omega⟩
    obtain ⟨b, hb⟩ : ∃ b : Nat, c.offset = b := ⟨c.offset.toNat, by omega⟩
    have hplc : plc c = (a, b) := by simp [plc, ha, hb]
    have hU : plcs (s.cells.take (k + 1)) = insU (plcs (s.cells.take k)) (a, b) := by rw [htk, plcs_snoc, hplc]
    have hD : ∀ {o : Oper} {ev : Operand → Val} {m x y : Operand} {nid : Nat}, o.op = .mapUpdate 37 m x y → ev m = .mp (List.length h + 1) → ev x = .agg [I c.slot, I c.offset] → ev y = B true →
        Does Tryd.prog G o ev (some (List.length h + 1)) (.mpo (mapU (plcs (s.cells.take k)))) nid ⟨.any, some (.mpo (mapU (plcs (s.cells.take (k + 1))))), none⟩ := by
      intro o ev m x y nid ho hm hx hy
      obtain ⟨u1, u2⟩ := fold_U (s.cells.take k) [] (by simp)
      have hkk : ∀ q v, (q, v) ∈ mapU (plcs (s.cells.take k)) → ∃ l, keyOf Tryd.prog 38 q = some l := by
        intro q v hq
        obtain ⟨_, p, hp, rfl⟩ := mapU_key hq
        rcases (u2 p).1 hp with hh | ⟨c', hc', rfl⟩
        · cases hh
        · have := g6 c' (List.mem_of_mem_take hc')
          exact key38 _ _ (by simp [plc]; omega) (by simp [plc]; omega)
      refine Does_mapUpdate ho (mk_wide law38) under37 hm (kv := pairK (a, b)) (by rw [hx]; exact keyIs_pair ha hb) (key38 a b (by omega) (by omega)) hkk ?_ ?_
      · intro hn
        rw [hU, insU, if_neg, hy]
        · simp [mapU]
        · intro hin
          exact hn _ (B true) (List.mem_map.2 ⟨(a, b), hin, rfl⟩) rfl
      · intro j d hj
        have hm' := List.mem_of_getElem? hj
        obtain ⟨rfl, p, hp, hpe⟩ := mapU_key hm'
        have := pairK_inj hpe
        subst this
        rw [hU, insU, if_pos hp, hy]
        refine (List.ext_getElem? fun i => ?_)
        rw [List.getElem?_set]
        by_cases e : j = i
        · subst e
          have := (List.getElem?_eq_some_iff.1 hj).1
          rw [if_pos rfl, if_pos this, hj]
        · rw [if_neg e]
    refine WL_mapU (hD rfl (by simp only [ev0, ev4, Nat.reduceEqDiff]) (by simp only [ev0, ev4, Nat.reduceEqDiff]) rfl) (by intro c hc; cases hc) (.inl rfl) (by simp only [ev0, ev4]) (by simp only [ev0, ev3, ev4, Nat.reduceAdd]; rfl) ⟨Nat.le_of_ble_eq_true rfl⟩ ?_
    have hbit : (iand .i64 (ishr .i64 ((freeV s)[a]!) (b : Int)) 1 == 1) = false := by
      have := mask_bit hf (a := a) (b := b) (by omega) (by omega)
      rw [← ha, ← hb, hany] at this
      have e : (masksS s).getD a 0 = (freeV s)[a]! := by rw [hfv]; simp [List.getD_eq_getElem?_getD, List.getElem!_eq_getElem?_getD]
      rw [e] at this
      exact this
    have hge : decide (((freeV s).length : Int) ≤ (a : Int)) = false := by simp; omega
    have q := And.intro ha (And.intro hb (And.intro q (And.intro hge hbit)))
    refine AUTO ?_
    exact LE (a := (k, gs)) (k + 1, gs ++ [.blk (cellV c)]) (by (try dsimp only); omega) (by (try dsimp only); omega)
  · have hk' : k = s.cells.length := by simp only [decide_eq_false_iff_not] at r1; omega
    have hall : s.cells.take k = s.cells := by rw [hk', List.take_length]
    have hcm := cnt_masks hf
    have hcn := cnt_masks hf
    rw [← hfv] at hcn
    have hml : ((mapU (plcs s.cells)).length : Int) = s.len * s.offs - cnt (freeV s) := by unfold mapU; rw [List.length_map]; omega
    have h0 : 0 ≤ s.len * s.offs := Int.mul_nonneg (by omega) (by omega)
    have h1 : s.len * s.offs ≤ 512 * 16 := Int.mul_le_mul (by omega) (by omega) (by omega) (by omega)
    have h2 : cnt (freeV s) + (s.len * s.offs - cnt (freeV s)) = s.len * s.offs := by omega
    have h3 : IntKind.i64.wrap (s.len * s.offs) = s.len * s.offs := wrap64 (by omega) (by omega)
    have h4 : (s.len * s.offs == s.len * s.offs) = true := beq_self_eq_true _
    rw [hall]
    generalize hmm : mapU (plcs s.cells) = es at *
    clear hmm
    have q := And.intro hml (And.intro h2 (And.intro h3 (And.intro h4 q)))
    refine AUTO ?_
    have h5 : cnt (freeV s) + (es.length : Int) = s.len * s.offs := by omega
    rw [h5]
    simp
end Go.Vm.D
