import Derived.Test.YtjkfigkgeoacfaaQ1
set_option linter.unusedVariables false
set_option linter.unusedSimpArgs false
namespace Go.Proofs.Ytjkfigkgeoacfaa
open Go.RowKit Go.Proofs.YtjkfigkgeoacfaaW.PrintLast

theorem el_shape : Elem Try.prog 29 31 5 80 := elem_of (z := .agg #[.bool false, .bool false, .slice none 0 0, .slice none 0 0, .slice none 0 0]) (by kernel_rfl) (by kernel_rfl) rfl (by omega)

theorem Rd.take {R : HL} {T sz : Nat} {A : Option Addr} {n cap : Nat} {xs : List Value} (h : Rd R T sz (.slice A n cap) n xs) {j : Nat} (hj : j ≤ n) : Rd R T sz (.slice A j cap) j (xs.take (j * sz)) := by
  obtain ⟨h0, A', cap', e, h1, h2, h3⟩ := h
  cases e
  have hm : j * sz ≤ n * sz := Nat.mul_le_mul_right _ hj
  refine ⟨by rw [List.length_take]; omega, A, cap, rfl, by omega, h2, fun hp => ?_⟩
  obtain ⟨g, off, cur, fr, a, b, c⟩ := h3 (by omega)
  refine ⟨g, off, cur, fr, a, b, ?_⟩
  rw [← c, List.take_take, Nat.min_eq_left hm]
/-- What 's[lo:]' gives. -/
theorem Rd.drop {R : HL} {T sz : Nat} {g off : Nat} {n cap : Nat} {xs : List Value} (h : Rd R T sz (.slice (some ⟨g, off, none⟩) n cap) n xs) {j : Nat} (hj : j ≤ n) {A' : Option Addr} (hA : j < n → A' = some ⟨g, off + j * sz, none⟩) :
    Rd R T sz (.slice A' (n - j) (cap - j)) (n - j) (xs.drop (j * sz)) := by
  obtain ⟨h0, A, cap', e, h1, h2, h3⟩ := h
  cases e
  have hm : j * sz ≤ n * sz := Nat.mul_le_mul_right _ hj
  refine ⟨by rw [List.length_drop, Nat.sub_mul]; omega, A', cap - j, rfl, by omega, ⟨by have := h2.le; omega⟩, fun hp => ?_⟩
  obtain ⟨g', off', cur, fr, a, b, c⟩ := h3 (by omega)
  cases a
  refine ⟨g, off + j * sz, cur, fr, hA (by omega), b, ?_⟩
  rw [← c, List.drop_take, List.drop_drop, Nat.sub_mul]

theorem run_slice_hi {P : Program} {t e : TypeId} {sz by_ : Nat} (E : Elem P t e sz by_) {g off n cap j : Nat} (hj : j ≤ cap) (w : World) :
    (Instr.slice t (.slice (some ⟨g, off, none⟩) n cap) none (some (.int .i64 j)) none).run P w = .ok (.slice (some ⟨g, off, none⟩) j cap) w := by
  obtain ⟨hsl, ⟨i, z, hi, hz, hz1, hz2, hz3⟩, hpos⟩ := E
  have h2 : (j : Int) ≤ cap := by omega
  by_cases h1 : cap = 0
  · subst h1
    simp [Instr.slice, run_underlying hsl, Instr.sliceBounds, Instr.sliceBound, asIntOf, sizeOf, typeInfo, hi, h2, hz1, add_at, hj]
  · simp [Instr.slice, run_underlying hsl, Instr.sliceBounds, Instr.sliceBound, asIntOf, sizeOf, typeInfo, hi, h2, hz1, add_at, hj, h1]
theorem run_slice_lo {P : Program} {t e : TypeId} {sz by_ : Nat} (E : Elem P t e sz by_) {g off n cap j : Nat} (hn : n ≤ cap) (hj : j ≤ n) :
    ∃ A', (∀ w, (Instr.slice t (.slice (some ⟨g, off, none⟩) n cap) (some (.int .i64 j)) none none).run P w = .ok (.slice A' (n - j) (cap - j)) w) ∧ (j < n → A' = some ⟨g, off + j * sz, none⟩) := by
  obtain ⟨hsl, ⟨i, z, hi, hz, hz1, hz2, hz3⟩, hpos⟩ := E
  have h2 : (j : Int) ≤ n := by omega
  refine ⟨if cap - j = 0 then some ⟨g, off, none⟩ else some ⟨g, off + j * sz, none⟩, fun w => ?_, fun h => by rw [if_neg (by omega)]⟩
  by_cases h1 : cap - j = 0
  · simp [Instr.slice, run_underlying hsl, Instr.sliceBounds, Instr.sliceBound, asIntOf, sizeOf, typeInfo, hi, h2, hz1, add_at, hj, h1]
    try (intro h; omega)
  · simp [Instr.slice, run_underlying hsl, Instr.sliceBounds, Instr.sliceBound, asIntOf, sizeOf, typeInfo, hi, h2, hz1, add_at, hj, h1]
    try (intro h; omega)
theorem run_slice_lohi {P : Program} {t e : TypeId} {sz by_ : Nat} (E : Elem P t e sz by_) {g off n cap lo hi : Nat} (hn : n ≤ cap) (hj : lo ≤ hi) (hj2 : hi ≤ n) :
    ∃ A', (∀ w, (Instr.slice t (.slice (some ⟨g, off, none⟩) n cap) (some (.int .i64 lo)) (some (.int .i64 hi)) none).run P w = .ok (.slice A' (hi - lo) (cap - lo)) w) ∧ (lo < n → A' = some ⟨g, off + lo * sz, none⟩) := by
  obtain ⟨hsl, ⟨i, z, hii, hz, hz1, hz2, hz3⟩, hpos⟩ := E
  have h2 : (lo : Int) ≤ hi := by omega
  have h3 : (hi : Int) ≤ cap := by omega
  have h4 : hi ≤ cap := by omega
  refine ⟨if cap - lo = 0 then some ⟨g, off, none⟩ else some ⟨g, off + lo * sz, none⟩, fun w => ?_, fun h => by rw [if_neg (by omega)]⟩
  by_cases h1 : cap - lo = 0
  · simp [Instr.slice, run_underlying hsl, Instr.sliceBounds, Instr.sliceBound, asIntOf, sizeOf, typeInfo, hii, h2, h3, h4, hz1, add_at, hj, h1]
    try (intro h; omega)
  · simp [Instr.slice, run_underlying hsl, Instr.sliceBounds, Instr.sliceBound, asIntOf, sizeOf, typeInfo, hii, h2, h3, h4, hz1, add_at, hj, h1]
    try (intro h; omega)

/-- Shapes that lie in a row. -/
def ShRows (R : HL) (css : List (List Value)) (kids : List Sh) : Prop := css.length = kids.length ∧ ∀ (i : Nat) (cs : List Value) (k : Sh), css[i]? = some cs → kids[i]? = some k → ShRep R cs k
theorem ShRows.mono {R R' : HL} {css : List (List Value)} {kids : List Sh} (h : ShRows R css kids) (hs : ∀ p, p ∈ R → p ∈ R') : ShRows R' css kids := ⟨h.1, fun i cs k a b => (h.2 i cs k a b).mono hs⟩
theorem ShRows.nil (R : HL) : ShRows R [] [] := ⟨rfl, fun i cs k h => by simp at h⟩
theorem ShRows.one {R : HL} {cs : List Value} {k : Sh} (h : ShRep R cs k) : ShRows R [cs] [k] := ⟨rfl, fun i c k' h1 h2 => by
  cases i with
  | zero => simp at h1 h2; subst h1 h2; exact h
  | succ i => simp at h1⟩
theorem ShRows.append {R : HL} {c1 c2 : List (List Value)} {k1 k2 : List Sh} (h1 : ShRows R c1 k1) (h2 : ShRows R c2 k2) : ShRows R (c1 ++ c2) (k1 ++ k2) := by
  refine ⟨by rw [List.length_append, List.length_append, h1.1, h2.1], fun i cs k a b => ?_⟩
  by_cases h : i < c1.length
  · rw [List.getElem?_append_left h] at a
    rw [List.getElem?_append_left (by rw [← h1.1]; exact h)] at b
    exact h1.2 i cs k a b
  · rw [List.getElem?_append_right (by omega)] at a
    rw [List.getElem?_append_right (by rw [← h1.1]; omega)] at b
    rw [← h1.1] at b
    exact h2.2 _ cs k a b
theorem ShRows.take {R : HL} {css : List (List Value)} {kids : List Sh} (h : ShRows R css kids) (j : Nat) : ShRows R (css.take j) (kids.take j) := by
  refine ⟨by rw [List.length_take, List.length_take, h.1], fun i cs k a b => ?_⟩
  rw [List.getElem?_take] at a b
  split at a
  · rename_i hlt
    rw [if_pos hlt] at b
    exact h.2 i cs k a b
  · cases a
theorem ShRows.drop {R : HL} {css : List (List Value)} {kids : List Sh} (h : ShRows R css kids) (j : Nat) : ShRows R (css.drop j) (kids.drop j) := by
  refine ⟨by rw [List.length_drop, List.length_drop, h.1], fun i cs k a b => ?_⟩
  rw [List.getElem?_drop] at a b
  exact h.2 _ cs k a b
theorem ShRows.five {R : HL} {css : List (List Value)} {kids : List Sh} (h : ShRows R css kids) : ∀ cs ∈ css, cs.length = 5 := by
  intro cs hm
  obtain ⟨j, hj, rfl⟩ := List.getElem_of_mem hm
  exact (h.2 j css[j] (kids[j]'(by rw [← h.1]; exact hj)) (List.getElem?_eq_getElem hj) (List.getElem?_eq_getElem (by rw [← h.1]; exact hj))).five
theorem flat5_take {css : List (List Value)} (h : ∀ cs ∈ css, cs.length = 5) : ∀ (j : Nat), css.flatten.take (j * 5) = (css.take j).flatten := by
  induction css with
  | nil => intro j; simp
  | cons c css ih =>
    intro j
    have hc := h c (List.mem_cons_self ..)
    cases j with
    | zero => simp
    | succ j =>
      have := ih (fun cs hm => h cs (List.mem_cons_of_mem _ hm)) j
      simp only [List.flatten_cons, List.take_succ_cons]
      rw [← this, List.take_append, hc]
      have e1 : (j + 1) * 5 - 5 = j * 5 := by omega
      rw [e1, List.take_of_length_le (by omega)]
theorem flat5_drop {css : List (List Value)} (h : ∀ cs ∈ css, cs.length = 5) : ∀ (j : Nat), css.flatten.drop (j * 5) = (css.drop j).flatten := by
  induction css with
  | nil => intro j; simp
  | cons c css ih =>
    intro j
    have hc := h c (List.mem_cons_self ..)
    cases j with
    | zero => simp
    | succ j =>
      have := ih (fun cs hm => h cs (List.mem_cons_of_mem _ hm)) j
      simp only [List.flatten_cons, List.drop_succ_cons]
      rw [← this, List.drop_append, hc]
      have e1 : (j + 1) * 5 - 5 = j * 5 := by omega
      rw [e1, List.drop_of_length_le (by omega), List.nil_append]

/-- With two kids that are side by side below a tagged one, if three are left. -/
def taggedS (s : Sh) (j : Nat) : Sh :=
  if h : s.kids.length < 3 ∨ s.keys.length + 1 ≠ s.kids.length then s else
    let i := min j (s.kids.length - 2)
    .mk false false [] (s.keys.take i ++ s.keys.drop (i + 1)) (s.kids.take i ++ [.mk false true [] [s.keys.getD i 0] ((s.kids.drop i).take 2)] ++ s.kids.drop (i + 2))
theorem taggedS_lens (s : Sh) (j : Nat) {m : Nat} (h : s.keys.length + 1 = s.kids.length ∧ s.kids.length ≤ m) : (taggedS s j).keys.length + 1 = (taggedS s j).kids.length ∧ (taggedS s j).kids.length ≤ m := by
  unfold taggedS
  split
  · exact h
  · rename_i h3
    obtain ⟨h1, h2⟩ := h
    simp only [Sh.keys, Sh.kids, List.length_append, List.length_take, List.length_drop, List.length_cons, List.length_nil] at h1 h2 h3 ⊢
    omega
end Go.Proofs.Ytjkfigkgeoacfaa
