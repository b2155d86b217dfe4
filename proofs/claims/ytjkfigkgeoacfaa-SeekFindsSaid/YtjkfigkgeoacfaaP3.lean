import Derived.Test.YtjkfigkgeoacfaaP2
set_option linter.unusedVariables false
set_option linter.unusedSimpArgs false
namespace Go.Proofs.Ytjkfigkgeoacfaa
open Go.RowKit

structure ANode where
  inner : Bool
  tagged : Bool
  pairs : List (Int × Int)
  keys : List Int
  ways : List Int
structure ASlot where
  node : ANode
  ways : List Int
  info : Int
  mark : Bool
  count : Int
  used : Bool
structure AArena where
  slots : List ASlot
  free : List Int
  most : Int
  used : Int
  faults : Int

abbrev ints (xs : List Int) : List Value := xs.map (Value.int .i64)
theorem length_ints (xs : List Int) : (ints xs).length = xs.length := by simp
theorem length_pairCells (ps : List (Int × Int)) : (pairCells ps).length = ps.length * 2 := by
  induction ps with
  | nil => rfl
  | cons p ps ih => simp only [pairCells, List.flatMap_cons, List.length_append, List.length_cons, List.length_nil] at *; omega

structure NodeRep (R : HL) (n : ANode) (pv kv wv : Value) : Prop where
  p : Rd R 61 2 pv n.pairs.length (pairCells n.pairs)
  k : Rd R 2 1 kv n.keys.length (ints n.keys)
  w : Rd R 39 1 wv n.ways.length (ints n.ways)
theorem NodeRep.mono {R R' : HL} {n : ANode} {pv kv wv : Value} (h : NodeRep R n pv kv wv) (hs : ∀ p, p ∈ R → p ∈ R') : NodeRep R' n pv kv wv := ⟨h.p.mono hs, h.k.mono hs, h.w.mono hs⟩

abbrev nodeV (n : ANode) (pv kv wv : Value) : Value := .agg #[.bool n.inner, .bool n.tagged, pv, kv, wv]

def slotCells (s : ASlot) (pv kv wv yv : Value) : List Value := [.bool s.node.inner, .bool s.node.tagged, pv, kv, wv, yv, .int .i64 s.info, .bool s.mark, .int .u32 s.count, .bool s.used]
def SlotRep (R : HL) (s : ASlot) (cs : List Value) (L : HL) : Prop :=
  ∃ pv kv wv yv, NodeRep R s.node pv kv wv ∧ Row 39 1 yv s.ways.length (ints s.ways) L ∧ cs = slotCells s pv kv wv yv
theorem SlotRep.mono {R R' : HL} {s : ASlot} {cs : List Value} {L : HL} (h : SlotRep R s cs L) (hs : ∀ p, p ∈ R → p ∈ R') : SlotRep R' s cs L :=
  let ⟨pv, kv, wv, yv, a, b, c⟩ := h; ⟨pv, kv, wv, yv, a.mono hs, b, c⟩
theorem SlotRep.len {R : HL} {s : ASlot} {cs : List Value} {L : HL} (h : SlotRep R s cs L) : cs.length = 10 := by
  obtain ⟨_, _, _, _, _, _, rfl⟩ := h; rfl

inductive SlotsRep (R : HL) : List ASlot → List (List Value) → HL → Prop
  | nil : SlotsRep R [] [] []
  | cons {s : ASlot} {cs : List Value} {L1 : HL} {ss : List ASlot} {css : List (List Value)} {L2 : HL} (h : SlotRep R s cs L1) (t : SlotsRep R ss css L2) : SlotsRep R (s :: ss) (cs :: css) (L1 ++ L2)

theorem SlotsRep.mono {R R' : HL} {ss : List ASlot} {css : List (List Value)} {L : HL} (h : SlotsRep R ss css L) (hs : ∀ p, p ∈ R → p ∈ R') : SlotsRep R' ss css L := by
  induction h with
  | nil => exact .nil
  | cons h _ ih => exact .cons (h.mono hs) ih
theorem SlotsRep.len {R : HL} {ss : List ASlot} {css : List (List Value)} {L : HL} (h : SlotsRep R ss css L) : css.length = ss.length := by
  induction h with
  | nil => rfl
  | cons h _ ih => simp [ih]
theorem SlotsRep.ten {R : HL} {ss : List ASlot} {css : List (List Value)} {L : HL} (h : SlotsRep R ss css L) : ∀ cs ∈ css, cs.length = 10 := by
  induction h with
  | nil => intro _ h; cases h
  | cons h _ ih =>
    intro cs hm
    rcases List.mem_cons.1 hm with rfl | hm
    · exact h.len
    · exact ih cs hm
theorem SlotsRep.split {R : HL} {ss : List ASlot} {css : List (List Value)} {L : HL} (h : SlotsRep R ss css L) : ∀ {i : Nat} {s : ASlot}, ss[i]? = some s →
    ∃ cs L1 Li L2, css[i]? = some cs ∧ L = L1 ++ (Li ++ L2) ∧ SlotRep R s cs Li ∧
      ∀ (R' : HL) (s' : ASlot) (cs' : List Value) (Li' : HL), (∀ p, p ∈ R → p ∈ R') → SlotRep R' s' cs' Li' → SlotsRep R' (ss.set i s') (css.set i cs') (L1 ++ (Li' ++ L2)) := by
  induction h with
  | nil => intro i s h; simp at h
  | @cons s0 cs0 L1 ss css L2 h t ih =>
    intro i s hi
    cases i with
    | zero =>
      have : s0 = s := by simpa using hi
      subst this
      exact ⟨cs0, [], L1, L2, by simp, by simp, h, fun R' s' cs' Li' hs h' => by rw [List.nil_append]; exact .cons h' (t.mono hs)⟩
    | succ i =>
      obtain ⟨cs, A, B, C, h1, rfl, h3, h4⟩ := ih (i := i) (s := s) (by simpa using hi)
      refine ⟨cs, L1 ++ A, B, C, by simpa using h1, by simp [List.append_assoc], h3, fun R' s' cs' Li' hs h' => ?_⟩
      have := SlotsRep.cons (h.mono hs) (h4 R' s' cs' Li' hs h')
      simpa [List.append_assoc] using this
theorem SlotsRep.snoc {R : HL} {ss : List ASlot} {css : List (List Value)} {L : HL} (h : SlotsRep R ss css L) {s : ASlot} {cs : List Value} {L' : HL} (h' : SlotRep R s cs L') : SlotsRep R (ss ++ [s]) (css ++ [cs]) (L ++ L') := by
  induction h with
  | nil => simpa using SlotsRep.cons h' .nil
  | cons h _ ih => simpa [List.append_assoc] using SlotsRep.cons h ih

def ArenaRep (R : HL) (a : Nat) (A : AArena) (L : HL) : Prop :=
  ∃ sv fv css Ls Lf Lw, L = (a, Obj.cells #[sv, fv, .int .i64 A.most, .int .i64 A.used, .int .i64 A.faults] 98 (0, 0)) :: (Ls ++ (Lf ++ Lw)) ∧
    Row 91 10 sv A.slots.length css.flatten Ls ∧ Row 3 1 fv A.free.length (ints A.free) Lf ∧ SlotsRep R A.slots css Lw
theorem ArenaRep.mono {R R' : HL} {a : Nat} {A : AArena} {L : HL} (h : ArenaRep R a A L) (hs : ∀ p, p ∈ R → p ∈ R') : ArenaRep R' a A L :=
  let ⟨sv, fv, css, Ls, Lf, Lw, h1, h2, h3, h4⟩ := h; ⟨sv, fv, css, Ls, Lf, Lw, h1, h2, h3, h4.mono hs⟩

/-! A row of rows of ten cells. -/
theorem flat_at {css : List (List Value)} (h : ∀ cs ∈ css, cs.length = 10) : ∀ {i : Nat} {cs : List Value}, css[i]? = some cs → ∀ (k : Nat), k < 10 → css.flatten[i * 10 + k]? = cs[k]? := by
  induction css with
  | nil => intro i cs h; simp at h
  | cons c css ih =>
    intro i cs hi k hk
    have hc : c.length = 10 := h c (List.mem_cons_self ..)
    cases i with
    | zero =>
      have : c = cs := by simpa using hi
      subst this
      simp only [List.flatten_cons, Nat.zero_mul, Nat.zero_add]
      rw [List.getElem?_append_left (by omega)]
    | succ i =>
      simp only [List.flatten_cons]
      rw [List.getElem?_append_right (by omega)]
      have e : (i + 1) * 10 + k - c.length = i * 10 + k := by omega
      rw [e]
      exact ih (fun cs hm => h cs (List.mem_cons_of_mem _ hm)) (by simpa using hi) k hk
theorem flat_set {css : List (List Value)} (h : ∀ cs ∈ css, cs.length = 10) (cs' : List Value) (h' : cs'.length = 10) : ∀ {i : Nat}, i < css.length →
    css.flatten.take (i * 10) ++ cs' ++ css.flatten.drop (i * 10 + 10) = (css.set i cs').flatten := by
  induction css with
  | nil => intro i hi; simp at hi
  | cons c css ih =>
    intro i hi
    have hc : c.length = 10 := h c (List.mem_cons_self ..)
    cases i with
    | zero =>
      simp only [List.flatten_cons, Nat.zero_mul, Nat.zero_add, List.take_zero, List.nil_append, List.set_cons_zero]
      rw [List.drop_append_of_le_length (by omega), List.drop_eq_nil_of_le (by omega), List.nil_append]
    | succ i =>
      simp only [List.flatten_cons, List.set_cons_succ]
      have e1 : (i + 1) * 10 = c.length + i * 10 := by omega
      have e2 : (i + 1) * 10 + 10 = c.length + (i * 10 + 10) := by omega
      rw [e2, e1, List.take_length_add_append, List.drop_length_add_append, ← ih (fun cs hm => h cs (List.mem_cons_of_mem _ hm)) (by simpa using hi)]
      simp [List.append_assoc]

/-- Cells put into a block, one by one. -/
def putCells (c : Array Value) (base : Nat) : List Value → Array Value
  | [] => c
  | v :: vs => putCells (c.setIfInBounds base v) (base + 1) vs
theorem size_putCells (vs : List Value) : ∀ (c : Array Value) (base : Nat), (putCells c base vs).size = c.size := by
  induction vs with
  | nil => intro c base; rfl
  | cons v vs ih => intro c base; simp [putCells, ih]
theorem putCells_toList (vs : List Value) : ∀ (c : Array Value) (base : Nat), base + vs.length ≤ c.size → (putCells c base vs).toList = c.toList.take base ++ vs ++ c.toList.drop (base + vs.length) := by
  induction vs with
  | nil => intro c base h; simp [putCells]
  | cons v vs ih =>
    intro c base h
    simp only [List.length_cons] at h
    simp only [putCells]
    rw [ih _ _ (by simp; omega), Array.toList_setIfInBounds]
    have := list_seg_step c.toList base v vs (by simp; omega)
    simp only [List.length_cons]
    rw [← this]
end Go.Proofs.Ytjkfigkgeoacfaa
