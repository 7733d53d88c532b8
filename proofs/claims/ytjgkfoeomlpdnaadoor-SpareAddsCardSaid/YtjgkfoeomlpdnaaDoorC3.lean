/- A part of the proof: a calculus over values without addresses, and what the functions of the program compute in it. -/
import Derived.Test.YtjgkfoeomlpdnaaDoorC1
/- How cells and schedules that are handed in open. -/
namespace Go.Vm
open Go Go.RowKit
variable {P : Program} {H : Type} {enc : TypeId × Value → H} {w : World}

theorem lies_of_cell {r : Reach} {base : Nat} {u : TypeId} {v : Value} (h : Cell.okWide P w r base u v) : Lies w v := by
  rintro a n c rfl
  cases hu : P.underlying u with
  | none => simp [Cell.okWide, Cell.ok, hu] at h
  | some d =>
    cases d with
    | slice e => exact lies_of_ok hu h a n c rfl
    | _ => simp [Cell.okWide, Cell.ok, hu] at h

theorem lies_of_row {r : Reach} {base : Nat} {t : TypeId} {cs : Array Value} (h : Row.okWide P w r base t cs) : ∀ v, v ∈ cs.toList → Lies w v := by
  intro v hv
  obtain ⟨ts, _, _, h3⟩ := h
  obtain ⟨i, hi⟩ := List.getElem?_of_mem hv
  obtain ⟨u, _, hc⟩ := h3 i v (by simpa using hi)
  exact lies_of_cell hc

/-- A struct that is handed in by its value. -/
theorem opn_agg {r : Reach} {base : Nat} {t : TypeId} {fs : Array Field} {α : Type} {f : α → List Val} {Good : α → Prop} (hu : P.underlying t = some (.struct fs)) (ho : Opn enc P w t f Good) {v : Value} {d : DataW H} {ps : List MemPlace}
    (hv : Value.okWide P w r base t v) (h : DataW.Trod enc P w 0 (fun _ => true) true t v d ps) (hw : (d.weights P t).all (· ≤ reachBytes) = true) : ∃ a, Good a ∧ RV (V0 w) D0 w (.agg (f a)) v := by
  simp only [Value.okWide, hu] at hv
  obtain ⟨cs, rfl, _, hrow⟩ := hv
  obtain ⟨fuel, h⟩ := h
  obtain ⟨a, g1, g2, g3, g4⟩ := ho fuel cs.toList _ h hw (lies_of_row hrow)
  exact ⟨a, g1, .agg (by rw [g2]; simp) (fun i d v h1 h2 => g4 i d v h1 (by simpa using h2))⟩

theorem list3 {α : Type} {l : List α} (h : l.length = 3) : ∃ a b c, l = [a, b, c] := by
  match l, h with
  | [a, b, c], _ => exact ⟨a, b, c, rfl⟩
theorem list5 {α : Type} {l : List α} (h : l.length = 5) : ∃ a b c d e, l = [a, b, c, d, e] := by
  match l, h with
  | [a, b, c, d, e], _ => exact ⟨a, b, c, d, e, rfl⟩

/-- One field of a struct. -/
theorem field_at {base : Nat} {sp : Nat → Bool} {held : Bool} {fs : Array Field} {n : Nat} {cs : List Value} {xs : List (DataW H × List MemPlace)} (hl : xs.length = fs.size)
    (hf : ∀ (i : Nat) (f : Field), fs[i]? = some f → DataW.trod enc P w base sp held n f.type ((cs.drop f.offset).take (P.cellsOf f.type)) = xs[i]?) (i t off : Nat) (hi : (fs[i]?).map (fun f => (f.type, f.offset)) = some (t, off)) :
    ∃ y, xs[i]? = some y ∧ DataW.trod enc P w base sp held n t ((cs.drop off).take (P.cellsOf t)) = some y := by
  obtain ⟨f, hfi, he⟩ := Option.map_eq_some_iff.1 hi
  obtain ⟨rfl, rfl⟩ := Prod.mk.injEq _ _ _ _ ▸ he
  have hlt : i < xs.length := by rw [hl]; exact (Array.getElem?_eq_some_iff.1 hfi).1
  exact ⟨xs[i], List.getElem?_eq_getElem hlt, by rw [hf i f hfi, List.getElem?_eq_getElem hlt]⟩
end Go.Vm
namespace Go.Proofs.YtjgkfoeomlpdnaaDoor
open Go Go.RowKit Go.Vm
section
variable {H : Type} {enc : TypeId × Value → H} {W : World}
def I64 (n : Int) : Prop := -9223372036854775808 ≤ n ∧ n ≤ 9223372036854775807
def CellOK (c : Cell) : Prop := I64 c.slot ∧ I64 c.offset ∧ I64 c.src ∧ I64 c.to ∧ I64 c.flow
theorem cellsOf3 : Tryd.prog.cellsOf 3 = 1 := by kernel_rfl
theorem cellsOf22 : Tryd.prog.cellsOf 22 = 1 := by kernel_rfl
theorem cellsOf24 : Tryd.prog.cellsOf 24 = 3 := by kernel_rfl
theorem cellsOf29 : Tryd.prog.cellsOf 29 = 5 := by kernel_rfl

theorem opnCell : Opn enc Tryd.prog W 29 cellV CellOK := by
  intro fuel cs y h hw hl
  obtain ⟨xs, n, rfl, rfl, hlen, hxl, hf⟩ := DataW.trod_struct Tryd.underlying29 h
  rw [cellsOf29] at hlen
  obtain ⟨c0, c1, c2, c3, c4, rfl⟩ := list5 hlen
  obtain ⟨y0, _, t0⟩ := field_at hxl hf 0 3 0 rfl
  obtain ⟨y1, _, t1⟩ := field_at hxl hf 1 3 1 rfl
  obtain ⟨y2, _, t2⟩ := field_at hxl hf 2 3 2 rfl
  obtain ⟨y3, _, t3⟩ := field_at hxl hf 3 3 3 rfl
  obtain ⟨y4, _, t4⟩ := field_at hxl hf 4 3 4 rfl
  simp only [cellsOf3, List.drop_succ_cons, List.drop_zero, List.take_succ_cons, List.take_zero] at t0 t1 t2 t3 t4
  obtain ⟨n0, e0, _, w0⟩ := DataW.trod_int Tryd.underlying3 t0
  obtain ⟨n1, e1, _, w1⟩ := DataW.trod_int Tryd.underlying3 t1
  obtain ⟨n2, e2, _, w2⟩ := DataW.trod_int Tryd.underlying3 t2
  obtain ⟨n3, e3, _, w3⟩ := DataW.trod_int Tryd.underlying3 t3
  obtain ⟨n4, e4, _, w4⟩ := DataW.trod_int Tryd.underlying3 t4
  cases e0; cases e1; cases e2; cases e3; cases e4
  refine ⟨⟨n0, n1, n2, n3, n4⟩, ⟨wf_i64 w0, wf_i64 w1, wf_i64 w2, wf_i64 w3, wf_i64 w4⟩, rfl, by simp [oneC], ?_⟩
  intro i d v h1 h2
  match i with
  | 0 => simp [cellV] at h1 h2; subst h1; subst h2; exact .c _
  | 1 => simp [cellV] at h1 h2; subst h1; subst h2; exact .c _
  | 2 => simp [cellV] at h1 h2; subst h1; subst h2; exact .c _
  | 3 => simp [cellV] at h1 h2; subst h1; subst h2; exact .c _
  | 4 => simp [cellV] at h1 h2; subst h1; subst h2; exact .c _
  | i + 5 => simp [cellV] at h1

theorem cellNo {fuel : Nat} {cs : List Value} {y : DataW H × List MemPlace} (h : DataW.trod enc Tryd.prog W 0 (fun _ => true) true fuel 29 cs = some y) : ∀ v, v ∈ cs → Lies W v := by
  obtain ⟨xs, n, rfl, rfl, hlen, hxl, hf⟩ := DataW.trod_struct Tryd.underlying29 h
  rw [cellsOf29] at hlen
  obtain ⟨c0, c1, c2, c3, c4, rfl⟩ := list5 hlen
  obtain ⟨y0, _, t0⟩ := field_at hxl hf 0 3 0 rfl
  obtain ⟨y1, _, t1⟩ := field_at hxl hf 1 3 1 rfl
  obtain ⟨y2, _, t2⟩ := field_at hxl hf 2 3 2 rfl
  obtain ⟨y3, _, t3⟩ := field_at hxl hf 3 3 3 rfl
  obtain ⟨y4, _, t4⟩ := field_at hxl hf 4 3 4 rfl
  simp only [cellsOf3, List.drop_succ_cons, List.drop_zero, List.take_succ_cons, List.take_zero] at t0 t1 t2 t3 t4
  intro v hv
  simp only [List.mem_cons, List.not_mem_nil, or_false] at hv
  rcases hv with rfl | rfl | rfl | rfl | rfl
  · exact noSlice Tryd.underlying3 t0 _ (by simp)
  · exact noSlice Tryd.underlying3 t1 _ (by simp)
  · exact noSlice Tryd.underlying3 t2 _ (by simp)
  · exact noSlice Tryd.underlying3 t3 _ (by simp)
  · exact noSlice Tryd.underlying3 t4 _ (by simp)

theorem opnCells : Opn enc Tryd.prog W 22 (fun xs : List Cell => [.sl 5 (xs.map cellV)]) (fun xs => (∀ x, x ∈ xs → CellOK x) ∧ xs.length * Tryd.prog.bytesOf 29 ≤ reachBytes) :=
  opn_slice 5 Tryd.underlying22 cellsOf29 opnCell (fun b ar T fr _ fuel cs y h _ => cellNo h)
theorem bytes29 : Tryd.prog.bytesOf 29 = 40 := by kernel_rfl

def SchOK (s : Sch) : Prop := I64 s.len ∧ I64 s.offs ∧ (∀ x, x ∈ s.cells → CellOK x) ∧ s.cells.length * 40 ≤ 140737488351232
theorem opnSch : Opn enc Tryd.prog W 24 schV SchOK := by
  intro fuel cs y h hw hl
  obtain ⟨xs, n, rfl, rfl, hlen, hxl, hf⟩ := DataW.trod_struct Tryd.underlying24 h
  rw [cellsOf24] at hlen
  obtain ⟨c0, c1, c2, rfl⟩ := list3 hlen
  obtain ⟨y0, _, t0⟩ := field_at hxl hf 0 3 0 rfl
  obtain ⟨y1, _, t1⟩ := field_at hxl hf 1 3 1 rfl
  obtain ⟨y2, x2, t2⟩ := field_at hxl hf 2 22 2 rfl
  simp only [cellsOf3, cellsOf22, List.drop_succ_cons, List.drop_zero, List.take_succ_cons, List.take_zero] at t0 t1 t2
  obtain ⟨n0, e0, _, w0⟩ := DataW.trod_int Tryd.underlying3 t0
  obtain ⟨n1, e1, _, w1⟩ := DataW.trod_int Tryd.underlying3 t1
  simp only [DataW.weights, Tryd.underlying24] at hw
  have hw2 : (y2.1.weights Tryd.prog 22).all (· ≤ reachBytes) = true := weights_each hw (j := 2) rfl (by simp [x2])
  obtain ⟨zs, ⟨k1, k2⟩, k3, k4, k5⟩ := opnCells n [c2] _ t2 hw2 (fun v hv => hl v (by simp at hv; subst hv; simp))
  cases e0; cases e1
  rw [bytes29] at k2
  refine ⟨⟨n0, n1, zs⟩, ⟨wf_i64 w0, wf_i64 w1, k1, k2⟩, rfl, by have := k4 c2 (by simp); simp [oneC]; simpa [oneC] using this, ?_⟩
  intro i d v h1 h2
  match i with
  | 0 => simp [schV] at h1 h2; subst h1; subst h2; exact .c _
  | 1 => simp [schV] at h1 h2; subst h1; subst h2; exact .c _
  | 2 => simp [schV] at h1 h2; subst h1; subst h2; exact k5 0 _ _ rfl rfl
  | i + 3 => simp [schV] at h1
end
end Go.Proofs.YtjgkfoeomlpdnaaDoor
