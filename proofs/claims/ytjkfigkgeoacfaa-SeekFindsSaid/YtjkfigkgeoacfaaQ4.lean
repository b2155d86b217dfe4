import Derived.Test.YtjkfigkgeoacfaaQ3
set_option linter.unusedVariables false
set_option linter.unusedSimpArgs false
namespace Go.Proofs.Ytjkfigkgeoacfaa
open Go.RowKit

structure Pl where
  keys : List Int
  sizes : List Int
  keeps : List Int
  groups : List Int
  tags : List Int

def nAt (l : List Int) (i : Nat) : Nat := (atL l i).toNat
theorem nAt_eq {l : List Int} (hb : ∀ x ∈ l, 0 ≤ x ∧ x < 256) (i : Nat) : atL l i = (nAt l i : Int) ∧ nAt l i < 256 := by
  unfold nAt atL
  split
  · simp
  · rename_i h
    have hm : i % l.length < l.length := Nat.mod_lt _ (by omega)
    have e : l.getD (i % l.length) 0 = l[i % l.length] := by rw [List.getD_eq_getElem?_getD, List.getElem?_eq_getElem hm]; rfl
    rw [e]
    have := hb _ (List.getElem_mem hm)
    omega
theorem at_nat {R : HL} {w : World} {v : Value} {l : List Int} (hl : RdX R 1 v l.length (bytes l)) (hw : Has w R) (hb : ∀ x ∈ l, 0 ≤ x ∧ x < 256) (hs : l.length ≤ 1000000) {i : Nat} (hi : i ≤ 1000000) {ii : Int} (hii : ii = i) :
    Calls Try.prog 36 #[v, .int .i64 ii] w fun e w' => e = .returned (.int .i64 (nAt l i : Int)) ∧ w = w' := by
  have h := at_any hl hw hb hs hi hii
  rw [(nAt_eq hb i).1] at h
  exact h

def leaf0 : Sh := .mk true false [] [] []
/-- How many pairs a leaf is made of, and how many it keeps. -/
def leafN (p : Pl) (b i len : Nat) : Nat := min (1 + nAt p.sizes i % b) len
def leafK (p : Pl) (b i len : Nat) : Nat := if 0 < p.keeps.length then nAt p.keeps i % (leafN p b i len + 1) else leafN p b i len
theorem leafN_pos (p : Pl) (b i : Nat) {len : Nat} (h : 0 < len) : 1 ≤ leafN p b i len ∧ leafN p b i len ≤ len := by unfold leafN; omega
theorem leafK_le (p : Pl) (b i len : Nat) : leafK p b i len ≤ leafN p b i len := by
  unfold leafK
  split
  · have := Nat.mod_lt (nAt p.keeps i) (show leafN p b i len + 1 > 0 by omega); omega
  · omega
def leavesL (p : Pl) (b : Nat) : Nat → Nat → List (Int × Int) → List Sh × List Int
  | 0, _, _ => ([], [])
  | f + 1, i, l =>
    match l with
    | [] => ([], [])
    | x :: xs =>
      let r := leavesL p b f (i + 1) ((x :: xs).drop (leafN p b i (x :: xs).length))
      (.mk true false ((x :: xs).take (leafK p b i (x :: xs).length)) [] [] :: r.1, x.1 :: r.2)
theorem leavesL_nil (p : Pl) (b f i : Nat) : leavesL p b f i [] = ([], []) := by cases f <;> rfl
theorem leavesL_step (p : Pl) (b fu i : Nat) {l : List (Int × Int)} (h0 : 0 < l.length) (hf : l.length ≤ fu) : ∃ x xs, l = x :: xs ∧
    leavesL p b fu i l = (.mk true false (l.take (leafK p b i l.length)) [] [] :: (leavesL p b (fu - 1) (i + 1) (l.drop (leafN p b i l.length))).1, x.1 :: (leavesL p b (fu - 1) (i + 1) (l.drop (leafN p b i l.length))).2) := by
  cases l with
  | nil => simp at h0
  | cons x xs =>
    cases fu with
    | zero => simp at hf
    | succ f => exact ⟨x, xs, rfl, rfl⟩
theorem leavesL_len (p : Pl) (b : Nat) : ∀ (f i : Nat) (l : List (Int × Int)), (leavesL p b f i l).1.length = (leavesL p b f i l).2.length ∧ (leavesL p b f i l).1.length ≤ l.length := by
  intro f
  induction f with
  | zero => intro i l; simp [leavesL]
  | succ f ih =>
    intro i l
    cases l with
    | nil => simp [leavesL]
    | cons x xs =>
      obtain ⟨h1, h2⟩ := ih (i + 1) ((x :: xs).drop (leafN p b i (x :: xs).length))
      have := leafN_pos p b i (len := (x :: xs).length) (by simp)
      simp only [leavesL, List.length_cons]
      rw [List.length_drop] at h2
      simp only [List.length_cons] at h1 h2 this
      exact ⟨by rw [h1], by omega⟩

/-- How many ways the k-th node has. -/
def groupN (p : Pl) (b k : Nat) (first : Bool) (len : Nat) : Nat :=
  min (if first || k % 2 == 0 then max (1 + nAt p.groups k % b) 2 else 1 + nAt p.groups k % b) len
theorem groupN_pos (p : Pl) (b k : Nat) (first : Bool) {len : Nat} (h : 0 < len) : 1 ≤ groupN p b k first len ∧ groupN p b k first len ≤ len := by
  unfold groupN; split <;> omega
theorem groupN_two (p : Pl) (b k : Nat) {len : Nat} (h : 2 ≤ len) : 2 ≤ groupN p b k true len := by
  unfold groupN; simp; omega
def tagB (p : Pl) (b k : Nat) (s : Sh) : Sh :=
  if nAt p.tags k % 2 = 1 then
    (if nAt p.tags k % 4 = 3 then taggedS (taggedS s (nAt p.tags k / 4 % b)) (nAt p.tags k / 8 % b) else taggedS s (nAt p.tags k / 4 % b))
  else s
def groupS (p : Pl) (b k n : Nat) (row : List Sh) (firsts : List Int) : Sh := tagB p b k (.mk false false [] ((firsts.drop 1).take (n - 1)) (row.take n))
def groupL (p : Pl) (b : Nat) : Nat → Nat → Bool → List Sh → List Int → List Sh × List Int × Nat
  | 0, k, _, _, _ => ([], [], k)
  | f + 1, k, first, row, firsts =>
    match row with
    | [] => ([], [], k)
    | x :: xs =>
      let n := groupN p b k first (x :: xs).length
      let r := groupL p b f (k + 1) false ((x :: xs).drop n) (firsts.drop n)
      (groupS p b k n (x :: xs) firsts :: r.1, firsts.headD 0 :: r.2.1, r.2.2)
theorem groupL_nil (p : Pl) (b f k : Nat) (first : Bool) (firsts : List Int) : groupL p b f k first [] firsts = ([], [], k) := by cases f <;> rfl
theorem groupL_len (p : Pl) (b : Nat) : ∀ (f k : Nat) (first : Bool) (row : List Sh) (firsts : List Int), (groupL p b f k first row firsts).1.length = (groupL p b f k first row firsts).2.1.length ∧ (groupL p b f k first row firsts).1.length ≤ row.length ∧
    (groupL p b f k first row firsts).2.2 = k + (groupL p b f k first row firsts).1.length ∧ (first = true → 2 ≤ row.length → (groupL p b f k first row firsts).1.length < row.length) := by
  intro f
  induction f with
  | zero => intro k first row firsts; simp [groupL]; omega
  | succ f ih =>
    intro k first row firsts
    cases row with
    | nil => simp [groupL]
    | cons x xs =>
      obtain ⟨h1, h2, h3, h4⟩ := ih (k + 1) false ((x :: xs).drop (groupN p b k first (x :: xs).length)) (firsts.drop (groupN p b k first (x :: xs).length))
      have := groupN_pos p b k first (len := (x :: xs).length) (by simp)
      simp only [groupL, List.length_cons]
      rw [List.length_drop] at h2
      simp only [List.length_cons] at h1 h2 h3 this
      refine ⟨by rw [h1], by omega, by rw [h3]; omega, fun hf h22 => ?_⟩
      subst hf
      have := groupN_two p b k h22
      omega
theorem groupL_some (p : Pl) (b f k : Nat) (first : Bool) {row : List Sh} (firsts : List Int) (h : 0 < row.length) (hf : 0 < f) : 0 < (groupL p b f k first row firsts).1.length := by
  cases f with
  | zero => omega
  | succ f =>
    cases row with
    | nil => simp at h
    | cons x xs => simp [groupL]
theorem groupL_step (p : Pl) (b f k : Nat) (first : Bool) {row : List Sh} (firsts : List Int) (h : 0 < row.length) (hf : row.length ≤ f) :
    groupL p b f k first row firsts =
      (groupS p b k (groupN p b k first row.length) row firsts :: (groupL p b (f - 1) (k + 1) false (row.drop (groupN p b k first row.length)) (firsts.drop (groupN p b k first row.length))).1,
        firsts.headD 0 :: (groupL p b (f - 1) (k + 1) false (row.drop (groupN p b k first row.length)) (firsts.drop (groupN p b k first row.length))).2.1,
        (groupL p b (f - 1) (k + 1) false (row.drop (groupN p b k first row.length)) (firsts.drop (groupN p b k first row.length))).2.2) := by
  cases f with
  | zero => omega
  | succ f =>
    cases row with
    | nil => simp at h
    | cons x xs => rfl
def climbL (p : Pl) (b : Nat) : Nat → Nat → List Sh → List Int → Sh
  | 0, _, row, _ => row.headD leaf0
  | f + 1, k, row, firsts =>
    if row.length ≤ 1 then row.headD leaf0 else
      let r := groupL p b row.length k true row firsts
      climbL p b f r.2.2 r.1 r.2.1
/-- The tree of a plan. -/
def shapeL (p : Pl) (b : Nat) : Sh :=
  let l := rising p.keys
  let r := leavesL p b l.length 0 l
  if r.1.length = 0 then leaf0 else climbL p b r.1.length 0 r.1 r.2
theorem climbL_step (p : Pl) (b fu k : Nat) {row : List Sh} (firsts : List Int) (h : 1 < row.length) (hf : row.length ≤ fu + 1) :
    climbL p b fu k row firsts = climbL p b (fu - 1) (groupL p b row.length k true row firsts).2.2 (groupL p b row.length k true row firsts).1 (groupL p b row.length k true row firsts).2.1 := by
  cases fu with
  | zero => omega
  | succ f => simp only [climbL]; rw [if_neg (by omega)]; rfl
theorem climbL_end (p : Pl) (b f k : Nat) {row : List Sh} (firsts : List Int) (h : row.length ≤ 1) : climbL p b f k row firsts = row.headD leaf0 := by
  cases f with
  | zero => rfl
  | succ f => simp only [climbL]; rw [if_pos h]
end Go.Proofs.Ytjkfigkgeoacfaa
