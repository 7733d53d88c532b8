/- A part of the proof: a calculus over values without addresses, and what the functions of the program compute in it. -/
import Derived.Test.YtjgkfoeomlpdnaaDoorA3
import Derived.Test.YtjgkfoeomlpdnaaDoorB4
namespace Go.Vm
def clrN (m k : Nat) : Nat := (BitVec.ofInt 64 (m : Int) &&& ~~~BitVec.ofInt 64 ((2 ^ k : Nat) : Int)).toNat
theorem clrN_bit (m k j : Nat) : (clrN m k).testBit j = (decide (j < 64) && (m.testBit j && !decide (k = j))) := by
  unfold clrN
  show BitVec.getLsbD _ j = _
  simp only [BitVec.ofInt_natCast, BitVec.getLsbD_and, BitVec.getLsbD_not, BitVec.getLsbD_ofNat, Nat.testBit_two_pow]
  by_cases h : j < 64 <;> simp [h]
theorem clrN_lt {m k n : Nat} (hm : m < 2 ^ n) : clrN m k < 2 ^ n := by
  apply Nat.lt_pow_two_of_testBit
  intro i hi
  rw [clrN_bit, Nat.testBit_lt_two_pow (Nat.lt_of_lt_of_le hm (Nat.pow_le_pow_right (by decide) hi))]
  simp
theorem bitN (m k : Nat) : (BitVec.ofInt 64 ((m >>> k : Nat) : Int) &&& BitVec.ofInt 64 1).toNat = if m.testBit k then 1 else 0 := by
  have : BitVec.ofInt 64 1 = BitVec.ofNat 64 1 := by rfl
  rw [this, BitVec.ofInt_natCast, BitVec.toNat_and, BitVec.toNat_ofNat, BitVec.toNat_ofNat]
  rw [show 1 % 2 ^ 64 = 1 from rfl, Nat.and_one_is_mod, Nat.mod_mod_of_dvd _ (by decide), Nat.shiftRight_eq_div_pow]
  rw [Nat.testBit_eq_decide_div_mod_eq]
  have h := Nat.mod_lt (m / 2 ^ k) (show 0 < 2 by decide)
  by_cases h1 : m / 2 ^ k % 2 = 1
  · simp [h1]
  · simp [h1]; omega
end Go.Vm
/- Cells and schedules as values, for runs of whole stretches (seat D). -/
namespace Go.Vm.D
open Go Go.RowKit
theorem agg5_fold (a b c d e : Int) : Val.agg [I a, I b, I c, I d, I e] = .agg (cellV ⟨a, b, c, d, e⟩) := rfl
theorem en : (∀ f, (cellV f).length = 5) ∧ (∀ f, (cellV f).all one1 = true) ∧ (∀ f, (cellV f)[0]? = some (I f.slot)) ∧ (∀ f, (cellV f)[1]? = some (I f.offset)) ∧ (∀ f, (cellV f)[2]? = some (I f.src)) ∧ (∀ f, (cellV f)[3]? = some (I f.to)) ∧
    (∀ f, (cellV f)[4]? = some (I f.flow)) ∧ (∀ f, (cellV f).take 5 = cellV f) ∧ (∀ f, cellV f ++ [] = cellV f) ∧ (∀ a b c d e : Int, Val.agg [I a, I b, I c, I d, I e] = .agg (cellV ⟨a, b, c, d, e⟩)) ∧
    (∀ s, (schV s).length = 3) ∧ (∀ s, (schV s).all one1 = true) ∧ (∀ s, (schV s)[0]? = some (I s.len)) ∧ (∀ s, (schV s)[1]? = some (I s.offs)) ∧ (∀ s, (schV s)[2]? = some (.sl 5 (s.cells.map cellV))) ∧ (∀ s, (schV s).take 3 = schV s) ∧ (∀ s, schV s ++ [] = schV s) :=
  ⟨fun _ => rfl, fun _ => rfl, fun _ => rfl, fun _ => rfl, fun _ => rfl, fun _ => rfl, fun _ => rfl, fun _ => rfl, fun _ => by simp, fun _ _ _ _ _ => rfl, fun _ => rfl, fun _ => rfl, fun _ => rfl, fun _ => rfl, fun _ => rfl, fun _ => rfl, fun _ => by simp⟩
theorem get_at {h : Hp} {i : Nat} {o : Ob} (e : h.get i = o) (hl : o.live = true := by rfl) : ∀ x, Hp.get (h ++ x) i = o := fun x => (get_append_l x (Hp.get_lt (by rw [e]; exact hl))).trans e
end Go.Vm.D
/- Contracts: what the law of a taken place asks of a place. -/
set_option maxRecDepth 20000
set_option maxHeartbeats 2000000
namespace Go.Vm.D
open Go Go.RowKit Go.Proofs
def openB (s : Sch) (used : List Cell) (src to a b : Int) : Bool := !s.cells.any (busyAt a src to) && (!used.any (busyAt a src to) && (!s.cells.any (isAt a b) && !used.any (isAt a b)))
theorem f13_ok {G} (s : Sch) (used : List Cell) (src to a b : Int) (i j k l : Nat) (h : Hp) (hi : h.get i = .blk [I src]) (hj : h.get j = .blk [I to]) (hk' : h.get k = .blk (schV s)) (hl' : h.get l = .blk [.sl 5 (used.map cellV)])
    (h1 : s.cells.length ≤ 100000) (h2 : used.length ≤ 100000) : VPure Tryd.prog G (.fn 13 [.ptr i 0, .ptr j 0, .ptr k 0, .ptr l 0]) [I a, I b] h (B (openB s used src to a b)) := by
  refine VF Tryd.func13 Tryd.ntmps13 (fun hk ha hc => ?_)
  have tf : _ ∧ _ ∧ _ := ⟨fa24_2, ld22, Tryd.results13⟩
  have q := And.intro (get_at hi) (And.intro (get_at hj) (And.intro (get_at hk') (get_at hl')))
  have e14 : ∀ x : Cell, VPure Tryd.prog G (.fn 14 [.ptr (List.length h) 0, .ptr i 0, .ptr j 0]) [.agg (cellV x)] (h ++ [.blk [I a], .blk [I b]]) (B (busyAt a src to x)) := fun x => f14_ok x a src to _ _ _ _ (by rw [get_append_0]; rfl) (get_at (o := .blk (iv src)) hi rfl _) (get_at (o := .blk (iv to)) hj rfl _)
  have e15 : ∀ x : Cell, VPure Tryd.prog G (.fn 15 [.ptr (List.length h) 0, .ptr (List.length h + 1) 0]) [.agg (cellV x)] (h ++ [.blk [I a], .blk [I b]]) (B (isAt a b x)) := fun x => f15_ok x a b _ _ _ (by rw [get_append_0]; rfl) (by rw [get_append_r]; rfl)
  have c1 := f16_ok _ _ s.cells _ (by omega) (fun x _ => e14 x)
  have c2 := f16_ok _ _ used _ (by omega) (fun x _ => e14 x)
  have c3 := f16_ok _ _ s.cells _ (by omega) (fun x _ => e15 x)
  have c4 := f16_ok _ _ used _ (by omega) (fun x _ => e15 x)
  refine AUTO ?_
  simp only [openB]
  generalize s.cells.any (busyAt a src to) = x1; generalize used.any (busyAt a src to) = x2; generalize s.cells.any (isAt a b) = x3; generalize used.any (isAt a b) = x4
  cases x1 <;> cases x2 <;> cases x3 <;> cases x4 <;> simp
end Go.Vm.D
/- What Take gives, as a function; masks place by place; the law SpareTaken. -/
set_option maxRecDepth 20000
set_option maxHeartbeats 2000000
namespace Go.Vm.D
open Go Go.RowKit Go.Proofs
theorem noneB_no {P : Nat → Nat → Bool} {m a b x y : Nat} (h : noneB P m a b) (hy : y < m) (hp : P x y = true) : ¬ (x < a ∨ x = a ∧ y < b) := fun e => by
  have := h x y hy e
  rw [hp] at this; cases this

theorem TakeR.fn {s : Sch} {f : List Int} {used : List Cell} {src to : Int} {c c' : Cell} {e e' : Int} (h : TakeR s f used src to c e) (k : TakeR s f used src to c' e') : c = c' ∧ e = e' := by
  cases h with
  | arg h =>
    cases k with
    | arg _ => exact ⟨rfl, rfl⟩
    | range k1 k2 _ => rcases h with h | h; · rw [k1] at h; cases h
                       · exact absurd k2 h
    | large k1 k2 _ _ => rcases h with h | h; · rw [k1] at h; cases h
                         · exact absurd k2 h
    | full k1 k2 _ _ _ => rcases h with h | h; · rw [k1] at h; cases h
                          · exact absurd k2 h
    | at_ _ _ k1 k2 _ _ _ _ _ _ => rcases h with h | h; · rw [k1] at h; cases h
                                   · exact absurd k2 h
  | range h1 h2 h3 =>
    cases k with
    | arg k => rcases k with k | k; · rw [h1] at k; cases k
               · exact absurd h2 k
    | range _ _ _ => exact ⟨rfl, rfl⟩
    | large _ _ k3 _ => rw [h3] at k3; cases k3
    | full _ _ k3 _ _ => rw [h3] at k3; cases k3
    | at_ _ _ _ _ k3 _ _ _ _ _ => rw [h3] at k3; cases k3
  | large h1 h2 h3 h4 =>
    cases k with
    | arg k => rcases k with k | k; · rw [h1] at k; cases k
               · exact absurd h2 k
    | range _ _ k3 => rw [h3] at k3; cases k3
    | large _ _ _ _ => exact ⟨rfl, rfl⟩
    | full _ _ _ k4 _ => omega
    | at_ _ _ _ _ _ k4 _ _ _ _ => omega
  | full h1 h2 h3 h4 h5 =>
    cases k with
    | arg k => rcases k with k | k; · rw [h1] at k; cases k
               · exact absurd h2 k
    | range _ _ k3 => rw [h3] at k3; cases k3
    | large _ _ _ k4 => omega
    | full _ _ _ _ _ => exact ⟨rfl, rfl⟩
    | at_ a b _ _ _ _ ka kb _ ky => exact absurd (.inl (by omega)) (noneB_no h5 (by omega) ky)
  | at_ a b h1 h2 h3 h4 ha hb hn hy =>
    cases k with
    | arg k => rcases k with k | k; · rw [h1] at k; cases k
               · exact absurd h2 k
    | range _ _ k3 => rw [h3] at k3; cases k3
    | large _ _ _ k4 => omega
    | full _ _ _ _ k5 => exact absurd (.inl (by omega)) (noneB_no k5 (by omega) hy)
    | at_ a' b' _ _ _ _ ka kb kn ky =>
      have q1 := noneB_no hn (by omega) ky
      have q2 := noneB_no kn (by omega) hy
      have e1 : a = a' := by omega
      have e2 : b = b' := by omega
      subst e1; subst e2
      exact ⟨rfl, rfl⟩


theorem first_place {P : Nat → Nat → Bool} {n m : Nat} : (∃ a b, a < n ∧ b < m ∧ P a b = true ∧ noneB P m a b) ∨ noneB P m n 0 := by
  by_cases h : ∃ a b, a < n ∧ b < m ∧ P a b = true
  · refine .inl ?_
    obtain ⟨a0, h0⟩ := h
    obtain ⟨a, ⟨b0, h1, h2, h3⟩, hmin⟩ := least_of (p := fun a => ∃ b, a < n ∧ b < m ∧ P a b = true) ⟨a0, h0⟩
    obtain ⟨b, ⟨g1, g2⟩, gmin⟩ := least_of (p := fun b => b < m ∧ P a b = true) ⟨b0, h2, h3⟩
    refine ⟨a, b, h1, g1, g2, ?_⟩
    intro x y hy hxy
    cases hp : P x y with
    | false => rfl
    | true =>
      rcases hxy with hx | ⟨rfl, hy2⟩
      · have := hmin x ⟨y, by omega, hy, hp⟩; omega
      · have := gmin y ⟨hy, hp⟩; omega
  · refine .inr ?_
    intro x y hy hxy
    cases hp : P x y with
    | false => rfl
    | true => exact absurd ⟨x, y, by omega, hy, hp⟩ h
theorem TakeR.ex (s : Sch) (f : List Int) (used : List Cell) (src to : Int) : ∃ r : Cell × Int, TakeR s f used src to r.1 r.2 := by
  cases h1 : formB s
  · exact ⟨(zeroC, 1), .arg (.inl h1)⟩
  by_cases h2 : chkS f s.len s.offs = 0
  · cases h3 : (nodeB src && nodeB to && (src != to))
    · exact ⟨(zeroC, 2), .range h1 h2 h3⟩
    · by_cases h4 : 1024 < used.length
      · exact ⟨(zeroC, 8), .large h1 h2 h3 h4⟩
      · obtain ⟨g1, g2, g3, g4, _⟩ := formB_spec h1
        rcases first_place (P := canT s f used src to) (n := s.len.toNat) (m := s.offs.toNat) with ⟨a, b, ha, hb, hp, hn⟩ | hn
        · exact ⟨(⟨a, b, src, to, 0⟩, 0), .at_ a b h1 h2 h3 (by omega) (by omega) (by omega) hn hp⟩
        · exact ⟨(zeroC, 13), .full h1 h2 h3 (by omega) hn⟩
  · exact ⟨(zeroC, 1), .arg (.inr h2)⟩
noncomputable def tk (s : Sch) (f : List Int) (used : List Cell) (src to : Int) : Cell × Int := Classical.choose (TakeR.ex s f used src to)
theorem tk_ok (s : Sch) (f : List Int) (used : List Cell) (src to : Int) : TakeR s f used src to (tk s f used src to).1 (tk s f used src to).2 := Classical.choose_spec (TakeR.ex s f used src to)
theorem f8_fn {G} (hP : PrintOK G) (s : Sch) (f : List Int) (used : List Cell) (src to : Int) (h : Hp) (hl : s.cells.length ≤ 100000) (hf : f.length ≤ 100000) (hu : used.length ≤ 100000) :
    VPure Tryd.prog G (.fn 8 []) [.agg (schV s), S1 f, .sl 5 (used.map cellV), I src, I to] h (.tup [.agg (cellV (tk s f used src to).1), I (tk s f used src to).2]) := by
  refine (f8_ok hP s f used src to h hl hf hu).mono ?_
  rintro r h' ⟨⟨c, e, rfl, k⟩, rfl⟩
  obtain ⟨rfl, rfl⟩ := TakeR.fn k (tk_ok s f used src to)
  exact ⟨rfl, rfl⟩
end Go.Vm.D
/- Masks place by place. -/
namespace Go.Vm.D
open Go Go.RowKit Go.Proofs
def mkN (offs : Nat) (cells : List Cell) (a : Nat) : Nat := cells.foldl (fun m c => if c.slot = (a : Int) then clrN m c.offset.toNat else m) (2 ^ offs - 1)
theorem fold_bit (a b : Nat) (hb : b < 64) : ∀ (cells : List Cell) (m : Nat), (∀ c, c ∈ cells → 0 ≤ c.offset) → (cells.foldl (fun m c => if c.slot = (a : Int) then clrN m c.offset.toNat else m) m).testBit b = (m.testBit b && !cells.any (isAt a b))
  | [], m, _ => by simp
  | c :: cells, m, h => by
    have h0 := h c List.mem_cons_self
    rw [List.foldl_cons, fold_bit a b hb cells _ (fun x hx => h x (List.mem_cons_of_mem _ hx)), List.any_cons]
    by_cases e : c.slot = a
    · rw [if_pos e, clrN_bit]
      have : decide (c.offset.toNat = b) = (c.offset == (b : Int)) := by
        by_cases e2 : c.offset = b
        · simp [e2]
        · have : c.offset.toNat ≠ b := by omega
          simp [e2, this]
      simp [hb, isAt, e, this, Bool.and_assoc]
    · have e' : (c.slot == (a : Int)) = false := by simpa using e
      rw [if_neg e, isAt, e']; rfl
theorem mkN_bit {offs : Nat} {cells : List Cell} (h : ∀ c, c ∈ cells → 0 ≤ c.offset) (a b : Nat) (hb : b < 64) : (mkN offs cells a).testBit b = (decide (b < offs) && !cells.any (isAt a b)) := by
  rw [mkN, fold_bit a b hb cells _ h, Nat.testBit_two_pow_sub_one]
theorem fold_lt (a n : Nat) : ∀ (cells : List Cell) (m : Nat), m < 2 ^ n → (cells.foldl (fun m c => if c.slot = (a : Int) then clrN m c.offset.toNat else m) m) < 2 ^ n
  | [], m, h => h
  | c :: cells, m, h => by
    rw [List.foldl_cons]
    refine fold_lt a n cells _ ?_
    split
    · exact clrN_lt h
    · exact h
theorem mkN_lt (offs : Nat) (cells : List Cell) (a : Nat) : mkN offs cells a < 2 ^ offs := fold_lt a offs cells _ (Nat.sub_lt (Nat.two_pow_pos _) (by decide))
theorem fullM_eq : ∀ o : Nat, o ≤ 16 → fullM (o : Int) = ((2 ^ o - 1 : Nat) : Int) := by decide
theorem ishl_eq : ∀ o : Nat, o < 16 → ishl .i64 1 (o : Int) = ((2 ^ o : Nat) : Int) := by decide
theorem clr_eq {m k : Nat} (hm : m < 2 ^ 16) (hk : k < 16) : iandNot .i64 (m : Int) (ishl .i64 1 (k : Int)) = (clrN m k : Int) := by
  rw [ishl_eq k hk]
  have h := clrN_lt (k := k) hm
  show IntKind.i64.wrap ((clrN m k : Nat) : Int) = _
  exact wrap64 (by omega) (by omega)
theorem bit_eq {m k : Nat} (hm : m < 2 ^ 16) (hk : k < 64) : bitS (m : Int) k = if m.testBit k then 1 else 0 := by
  unfold bitS iand ishr
  have h1 : ((m : Int)).fdiv (2 ^ min ((k : Int)).toNat IntKind.i64.bits) = ((m >>> k : Nat) : Int) := by
    rw [Int.toNat_natCast, show min k IntKind.i64.bits = k from Nat.min_eq_left (Nat.le_of_lt hk), Nat.shiftRight_eq_div_pow]
    rw [Int.fdiv_eq_ediv_of_nonneg _ (Int.pow_nonneg (by decide))]
    simp
  rw [h1]
  have := bitN m k
  show IntKind.i64.wrap (((BitVec.ofInt 64 ((m >>> k : Nat) : Int) &&& BitVec.ofInt 64 1).toNat : Nat) : Int) = _
  rw [this]
  split <;> exact wrap64 (by omega) (by omega)
def rowN (n : Nat) (g : Nat → Nat) : List Int := (List.range n).map fun a => ((g a : Nat) : Int)
theorem rowN_get {n : Nat} {g : Nat → Nat} {a : Nat} (h : a < n) : (rowN n g)[a]? = some ((g a : Nat) : Int) := by simp [rowN, h]
theorem rowN_getD {n : Nat} {g : Nat → Nat} {a : Nat} (h : a < n) : (rowN n g).getD a 0 = ((g a : Nat) : Int) := by simp [rowN, h]
theorem clr_row {n : Nat} {g : Nat → Nat} (hg : ∀ a, g a < 2 ^ 16) {c : Cell} (h1 : 0 ≤ c.slot) (h2 : c.slot < n) (h3 : 0 ≤ c.offset) (h4 : c.offset < 16) : clrM (rowN n g) c = rowN n (fun a => if c.slot = (a : Int) then clrN (g a) c.offset.toNat else g a) := by
  obtain ⟨k, hk⟩ : ∃ k : Nat, c.slot = k := ⟨c.slot.toNat, by omega⟩
  obtain ⟨o, ho⟩ : ∃ o : Nat, c.offset = o := ⟨c.offset.toNat, by omega⟩
  unfold clrM
  rw [hk, ho, Int.toNat_natCast, rowN_getD (by omega), clr_eq (hg k) (by omega)]
  apply List.ext_getElem?
  intro i
  rw [List.getElem?_set]
  by_cases e : k = i
  · subst e
    have : k < (rowN n g).length := by simp [rowN]; omega
    rw [if_pos rfl, if_pos this, rowN_get (by omega)]
    simp
  · rw [if_neg e]
    by_cases hi : i < n
    · rw [rowN_get hi, rowN_get hi]
      have : ¬ ((k : Int) = (i : Int)) := by omega
      simp [this]
    · simp [rowN, hi]
theorem fold_row {n : Nat} : ∀ (cells : List Cell) (g : Nat → Nat), (∀ a, g a < 2 ^ 16) → (∀ c, c ∈ cells → 0 ≤ c.slot ∧ c.slot < n ∧ 0 ≤ c.offset ∧ c.offset < 16) →
    cells.foldl clrM (rowN n g) = rowN n (fun a => cells.foldl (fun m c => if c.slot = (a : Int) then clrN m c.offset.toNat else m) (g a))
  | [], g, _, _ => rfl
  | c :: cells, g, hg, h => by
    obtain ⟨h1, h2, h3, h4⟩ := h c List.mem_cons_self
    rw [List.foldl_cons, clr_row hg h1 h2 h3 h4, fold_row cells _ (fun a => by split; exact clrN_lt (hg a); exact hg a) (fun x hx => h x (List.mem_cons_of_mem _ hx))]
    rfl
theorem masksS_eq {s : Sch} (hf : formB s = true) : masksS s = rowN s.len.toNat (mkN s.offs.toNat s.cells) := by
  obtain ⟨h1, h2, h3, h4, h5, h6⟩ := formB_spec hf
  unfold masksS
  have e : List.replicate s.len.toNat (fullM s.offs) = rowN s.len.toNat (fun _ => 2 ^ s.offs.toNat - 1) := by
    obtain ⟨o, ho⟩ : ∃ o : Nat, s.offs = o := ⟨s.offs.toNat, by omega⟩
    rw [ho, fullM_eq o (by omega), Int.toNat_natCast]
    simp [rowN, List.map_const']
  rw [e, fold_row _ _ (fun a => ?_) (fun c hc => ?_)]
  · rfl
  · have : 2 ^ s.offs.toNat ≤ 2 ^ 16 := Nat.pow_le_pow_right (by decide) (by omega)
    have := Nat.two_pow_pos s.offs.toNat
    omega
  · have := h6 c hc; omega
theorem mk_lt16 {s : Sch} (hf : formB s = true) (a : Nat) : mkN s.offs.toNat s.cells a < 2 ^ 16 := by
  obtain ⟨h1, h2, h3, h4, h5, h6⟩ := formB_spec hf
  exact Nat.lt_of_lt_of_le (mkN_lt _ _ a) (Nat.pow_le_pow_right (by decide) (by omega))
theorem mask_bit {s : Sch} (hf : formB s = true) {a b : Nat} (ha : (a : Int) < s.len) (hb : (b : Int) < s.offs) : (bitS ((masksS s).getD a 0) b == 1) = !s.cells.any (isAt a b) := by
  obtain ⟨h1, h2, h3, h4, h5, h6⟩ := formB_spec hf
  rw [masksS_eq hf, rowN_getD (by omega), bit_eq (mk_lt16 hf a) (by omega), mkN_bit (fun c hc => (h6 c hc).2.2.1) a b (by omega)]
  have : decide (b < s.offs.toNat) = true := by simp; omega
  rw [this]
  cases s.cells.any (isAt a b) <;> rfl
theorem mask_chk {s : Sch} (hf : formB s = true) : chkS (masksS s) s.len s.offs = 0 := by
  obtain ⟨h1, h2, h3, h4, h5, h6⟩ := formB_spec hf
  have hl : (masksS s).length = s.len.toNat := by rw [masksS_eq hf]; simp [rowN]
  unfold chkS
  have e1 : (inB s.len 1 512 && inB s.offs 1 16) = true := by simp [inB]; omega
  have e2 : (masksS s).any (outM s.offs) = false := by
    rw [List.any_eq_false]
    intro x hx
    rw [masksS_eq hf] at hx
    obtain ⟨a, _, rfl⟩ := List.mem_map.1 hx
    have hlt := mkN_lt s.offs.toNat s.cells a
    obtain ⟨o, ho⟩ : ∃ o : Nat, s.offs = o := ⟨s.offs.toNat, by omega⟩
    have hfm : IntKind.i64.wrap (ishl .i64 1 s.offs - 1) = ((2 ^ o - 1 : Nat) : Int) := by rw [ho]; exact fullM_eq o (by omega)
    simp only [outM, inB, hfm]
    rw [ho, Int.toNat_natCast] at hlt ⊢
    have := Nat.two_pow_pos o
    simp
    omega
  rw [if_neg (by rw [e1]; simp), if_neg (by rw [hl]; omega), if_neg (by rw [e2]; simp)]
end Go.Vm.D
/- The law SpareTaken. -/
set_option maxRecDepth 20000
set_option maxHeartbeats 4000000
namespace Go.Vm.D
open Go Go.RowKit Go.Proofs
theorem freeV_len (s : Sch) : (freeV s).length ≤ 512 := by
  unfold freeV
  split
  · rename_i hf
    have := formB_spec hf
    rw [masksS_eq hf]; simp [rowN]; omega
  · simp
theorem f5_ok {G} (hP : PrintOK G) (s : Sch) (used : List Cell) (src to : Int) (h : Hp) (hl : s.cells.length < 4611686018427387904) (hu : used.length < 4611686018427387904) :
    VPure Tryd.prog G (.fn 5 []) [.agg (schV s), .sl 5 (used.map cellV), I src, I to] h (B true) := by
  refine VF Tryd.func5 Tryd.ntmps5 (fun hk ha hc => ?_)
  have tf : _ ∧ _ ∧ _ ∧ _ ∧ _ ∧ _ ∧ _ ∧ _ ∧ _ ∧ _ ∧ _ ∧ _ := ⟨fa24_2, ld22, len22, ld24, ld3, alc29, sto29, ld29, bld29, fa24_0, fa24_1, Tryd.results5⟩
  have c1 := @f7_ok G hP
  have c2 := fun h hl => @f10_ok G hP s h hl
  have c3 := fun h hl hf hu => @f8_fn G hP s (freeV s) used src to h hl hf hu
  have d1 := @Does_eq29 G
  have b1 := freeV_len s
  have c4 := fun h' a b hi hj hk hl h1 h2 => @f13_ok G s used src to a b (List.length h + 2) (List.length h + 3) (List.length h) (List.length h + 1) h' hi hj hk hl h1 h2
  refine AUTO ?_
  refine ⟨fun _ => ⟨rfl, rfl⟩, fun a1 => ⟨fun _ => ⟨rfl, rfl⟩, fun a2 => ⟨fun _ => ⟨rfl, rfl⟩, fun a3 => ?_⟩⟩⟩
  simp only [decide_eq_false_iff_not, bne_eq_false_iff_eq] at a1 a2 a3
  have hf : formB s = true := by
    unfold freeE at a3
    split at a3
    · assumption
    · cases a3
  have hfv : freeV s = masksS s := by unfold freeV; rw [if_pos hf]
  obtain ⟨g1, g2, g3, g4, g5, g6⟩ := formB_spec hf
  have hT := tk_ok s (freeV s) used src to
  generalize tk s (freeV s) used src to = ce at hT ⊢
  obtain ⟨c, e⟩ := ce
  simp only at hT ⊢
  obtain ⟨n, hn⟩ : ∃ n : Nat, s.len = n := ⟨s.len.toNat, by omega⟩
  obtain ⟨m, hm⟩ : ∃ m : Nat, s.offs = m := ⟨s.offs.toNat, by omega⟩
  have hopen : ∀ a b : Nat, a < n → b < m → openB s used src to a b = canT s (freeV s) used src to a b := by
    intro a b ha hb
    simp only [openB, canT, hfv]
    rw [mask_bit hf (by omega) (by omega), List.any_append]
    cases s.cells.any (busyAt a src to) <;> cases used.any (busyAt a src to) <;> cases s.cells.any (isAt a b) <;> cases used.any (isAt a b) <;> rfl
  have hE : (e ≠ 0 → e ≠ 13 → e = 2 ∧ c = zeroC) ∧ (e = 13 → c = zeroC ∧ noneB (canT s (freeV s) used src to) m n 0) ∧ (e = 0 → ∃ a b : Nat, a < n ∧ b < m ∧ c = ⟨a, b, src, to, 0⟩ ∧ noneB (canT s (freeV s) used src to) m a b ∧ canT s (freeV s) used src to a b = true) := by
    have hm' : s.offs.toNat = m := by omega
    have hn' : s.len.toNat = n := by omega
    have hchk : chkS (freeV s) s.len s.offs = 0 := by rw [hfv]; exact mask_chk hf
    cases hT with
    | arg k => rcases k with k | k
               · rw [hf] at k; cases k
               · exact absurd hchk k
    | range _ _ _ => exact ⟨fun _ _ => ⟨rfl, rfl⟩, fun h => (by cases h), fun h => (by cases h)⟩
    | large _ _ _ k => omega
    | full _ _ _ _ k => rw [hm', hn'] at k; exact ⟨fun _ h => absurd rfl h, fun _ => ⟨rfl, k⟩, fun h => (by cases h)⟩
    | at_ a b _ _ _ _ ha hb k1 k2 => rw [hm'] at k1; exact ⟨fun h => absurd rfl h, fun h => (by cases h), fun _ => ⟨a, b, by omega, by omega, rfl, k1, k2⟩⟩
  obtain ⟨hE1, hE2, hE3⟩ := hE
  refine ⟨fun b1 => ⟨fun b2 => ?_, fun b2 => ?_⟩, fun b1 => ?_⟩
  · simp only [bne_iff_ne] at b1 b2
    obtain ⟨rfl, rfl⟩ := hE1 b1 b2
    simp [zeroC]
  all_goals
    have he : e = 13 ∨ e = 0 := by first | exact .inl (by simpa using b2) | exact .inr (by simpa using b1)
    refine W_loopK [4, 6, 7, 11, 12, 13, 58, 59] (fun a : Nat => [(59, I a)]) (fun a => a ≤ n ∧ noneB (canT s (freeV s) used src to) m a 0) (fun a => n - a) 0 ⟨by omega, fun x y _ h => by omega⟩ (fun a hI => ?_)
    obtain ⟨hI1, hI2⟩ := hI
    refine AUTO ?_
    refine ⟨fun r1 => ?_, fun r1 => ?_⟩
    · have r2 : a < n := by simp only [decide_eq_true_eq] at r1; omega
      refine W_loopK [4, 6, 7, 11, 12, 13, 14, 58, 59, 63, 64] (fun b : Nat => [(64, I b)]) (fun b => b ≤ m ∧ noneB (canT s (freeV s) used src to) m a b) (fun b => m - b) 0 ⟨by omega, hI2⟩ (fun b hJ => ?_)
      obtain ⟨hJ1, hJ2⟩ := hJ
      refine AUTO ?_
      refine ⟨fun u1 => ?_, fun u1 => ?_⟩
      · have u2 : b < m := by simp only [decide_eq_true_eq] at u1; omega
        rw [hopen a b r2 u2]
        refine ⟨fun v => ⟨fun w => ?_, fun w => ?_⟩, fun v => ?_⟩
        · simp only [beq_iff_eq] at w
          obtain ⟨x, y, hx, hy, rfl, k1, k2⟩ := hE3 w
          have q1 := noneB_no k1 u2 v
          have q2 := noneB_no hJ2 hy k2
          have e1 : x = a := by omega
          have e2 : y = b := by omega
          subst e1; subst e2
          exact ⟨by simp, rfl⟩
        · simp only [beq_eq_false_iff_ne] at w
          by_cases w2 : e = 13
          · have := (hE2 w2).2 a b u2 (.inl r2)
            rw [this] at v; cases v
          · rcases he with k | k
            · exact (w2 k).elim
            · exact (w k).elim
        · refine LE (b + 1) ⟨by omega, fun x y hy hxy => ?_⟩ (by omega)
          by_cases e1 : x = a ∧ y = b
          · rw [e1.1, e1.2]; exact v
          · exact hJ2 x y hy (by omega)
      · have u2 : b = m := by simp only [decide_eq_false_iff_not] at u1; omega
        subst u2
        exact LE (a + 1) ⟨by omega, fun x y hy hxy => hJ2 x y hy (by omega)⟩ (by omega)
    · have r2 : a = n := by simp only [decide_eq_false_iff_not] at r1; omega
      subst r2
      refine ⟨fun w => ?_, fun w => ?_⟩
      · simp only [beq_iff_eq] at w
        obtain ⟨rfl, _⟩ := hE2 w
        exact ⟨by simp [zeroC], rfl⟩
      · simp only [beq_eq_false_iff_ne] at w
        exfalso
        by_cases w2 : e = 0
        · obtain ⟨x, y, hx, hy, _, k1, k2⟩ := hE3 w2
          have := hI2 x y hy (.inl hx)
          rw [this] at k2; cases k2
        · rcases he with k | k
          · exact w k
          · exact w2 k
end Go.Vm.D
