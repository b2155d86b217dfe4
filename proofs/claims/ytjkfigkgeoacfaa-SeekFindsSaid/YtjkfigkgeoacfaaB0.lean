import Derived.WalkKit
import Derived.WalkSpells
import Derived.WalkLawsBesides
import Derived.Deep.Draws
import Derived.Lib.Hide
set_option linter.unusedVariables false
set_option linter.unusedSimpArgs false
namespace Go.Proofs.Ytjkfigkgeoacfaa
open Go.RowKit

/-! The heap as a list of blocks. -/
abbrev HL := List (Nat × Obj)
noncomputable local instance hlDec : DecidableEq (Nat × Obj) := fun _ _ => Classical.propDecidable _

theorem perm_of_count {L L' : HL} (h : ∀ x, L.count x = L'.count x) : L.Perm L' := List.perm_iff_count.2 h

structure Has (w : World) (L : HL) : Prop where
  nd : (L.map Prod.fst).Nodup
  get : ∀ b o, (b, o) ∈ L → w.heap[b]? = some o

structure Ext (w w' : World) : Prop where
  os : w'.os = w.os
  tape : w'.tape = w.tape
  output : w'.output = w.output
  size : w.heap.size ≤ w'.heap.size

theorem Ext.refl (w : World) : Ext w w := ⟨rfl, rfl, rfl, Nat.le_refl _⟩
theorem Ext.trans {a b c : World} (h : Ext a b) (k : Ext b c) : Ext a c :=
  ⟨k.os.trans h.os, k.tape.trans h.tape, k.output.trans h.output, Nat.le_trans h.size k.size⟩
theorem Ext.alloc {a w : World} (h : Ext a w) (o : Obj) : Ext a (w.alloc o) := h.trans ⟨rfl, rfl, rfl, by simp⟩
theorem Ext.setCell {a w : World} (h : Ext a w) (p : Addr) (v : Value) : Ext a (w.setCell p v) := h.trans ⟨rfl, rfl, rfl, by simp⟩
theorem Ext.drew {a w : World} (h : Ext a w) : Ext a w.drew := h.trans ⟨rfl, rfl, rfl, Nat.le_refl _⟩
theorem Ext.drewN {a w : World} (h : Ext a w) (n : Nat) : Ext a (w.drewN n) := h.trans ⟨rfl, rfl, rfl, Nat.le_refl _⟩
theorem Ext.setRow {a w : World} (h : Ext a w) (g : Nat) (cs : Array Value) : Ext a (w.setRow g cs) := h.trans ⟨rfl, rfl, rfl, by simp [World.setRow]⟩

theorem heap_lt {w : World} {b : Nat} {o : Obj} (h : w.heap[b]? = some o) : b < w.heap.size := by
  rcases Nat.lt_or_ge b w.heap.size with h' | h'
  · exact h'
  · rw [Array.getElem?_eq_none h'] at h; cases h

theorem Has.lt {w : World} {L : HL} (h : Has w L) {b : Nat} {o : Obj} (hm : (b, o) ∈ L) : b < w.heap.size := heap_lt (h.get b o hm)
theorem Has.lt' {w : World} {L : HL} (h : Has w L) {p : Nat × Obj} (hm : p ∈ L) : p.1 < w.heap.size := heap_lt (h.get p.1 p.2 hm)
theorem Has.perm {w : World} {L L' : HL} (h : Has w L) (p : L.Perm L') : Has w L' :=
  ⟨(p.map Prod.fst).nodup_iff.1 h.nd, fun b o hm => h.get b o (p.mem_iff.2 hm)⟩
theorem Has.sub {w : World} {L L' : HL} (h : Has w L) (p : L'.Sublist L) : Has w L' :=
  ⟨(p.map Prod.fst).nodup h.nd, fun b o hm => h.get b o (p.subset hm)⟩
theorem Has.left {w : World} {L R : HL} (h : Has w (L ++ R)) : Has w L := h.sub (List.sublist_append_left L R)
theorem Has.right {w : World} {L R : HL} (h : Has w (L ++ R)) : Has w R := h.sub (List.sublist_append_right L R)
theorem Has.tail {w : World} {p : Nat × Obj} {R : HL} (h : Has w (p :: R)) : Has w R := h.sub (List.sublist_cons_self p R)
theorem Has.drop1 {w : World} {A R : HL} {p : Nat × Obj} (h : Has w (A ++ p :: R)) : Has w (A ++ R) := h.sub (List.Sublist.append (List.Sublist.refl A) (List.sublist_cons_self p R))
theorem Has.nil (w : World) : Has w [] := ⟨by simp, fun _ _ h => by cases h⟩
theorem Has.drew {w : World} {L : HL} (h : Has w L) : Has w.drew L := ⟨h.nd, h.get⟩
theorem Has.drewN {w : World} {L : HL} (h : Has w L) (n : Nat) : Has (w.drewN n) L := ⟨h.nd, h.get⟩
theorem Has.alloc {w : World} {L : HL} (h : Has w L) (o : Obj) : Has (w.alloc o) ((w.heap.size, o) :: L) := by
  refine ⟨?_, ?_⟩
  · simp only [List.map_cons, List.nodup_cons]
    refine ⟨?_, h.nd⟩
    intro hm
    obtain ⟨p, hp, he⟩ := List.mem_map.1 hm
    have := h.lt' hp
    omega
  · intro b o' hm
    rcases List.mem_cons.1 hm with he | hm
    · cases he
      show (w.heap.push o)[w.heap.size]? = some o
      simp
    · have := h.lt hm
      show (w.heap.push o)[b]? = some o'
      rw [Array.getElem?_push, if_neg (by omega)]
      exact h.get b o' hm
theorem Has.ne {w : World} {p : Nat × Obj} {L : HL} (h : Has w (p :: L)) {b : Nat} {o : Obj} (hm : (b, o) ∈ L) : b ≠ p.1 := by
  intro he
  have := h.nd
  simp only [List.map_cons, List.nodup_cons] at this
  exact this.1 (List.mem_map.2 ⟨(b, o), hm, he⟩)
theorem heap_setCell_self {w : World} {b : Nat} {c : Array Value} {t : TypeId} {fr : Nat × Nat} (h : w.heap[b]? = some (.cells c t fr)) (i : Nat) (v : Value) :
    (w.setCell ⟨b, i, none⟩ v).heap[b]? = some (.cells (c.setIfInBounds i v) t fr) := by
  have hlt := heap_lt h
  have h' : w.heap[b] = .cells c t fr := by simpa [Array.getElem?_eq_getElem hlt] using h
  show (w.heap.modify b _)[b]? = _
  rw [Array.getElem?_eq_getElem (by simpa using hlt), Array.getElem_modify_self, h']
  rfl
theorem Has.set {w : World} {b : Nat} {c : Array Value} {t : TypeId} {fr : Nat × Nat} {L : HL} (h : Has w ((b, .cells c t fr) :: L)) (i : Nat) (v : Value) :
    Has (w.setCell ⟨b, i, none⟩ v) ((b, .cells (c.setIfInBounds i v) t fr) :: L) := by
  refine ⟨h.nd, ?_⟩
  intro b' o hm
  rcases List.mem_cons.1 hm with he | hm
  · cases he
    exact heap_setCell_self (h.get b _ (List.mem_cons_self ..)) i v
  · rw [Below.heap_setCell _ _ _ _ (h.ne hm)]
    exact h.get b' o (List.mem_cons_of_mem _ hm)
theorem Has.setRow {w : World} {b : Nat} {c : Array Value} {t : TypeId} {fr : Nat × Nat} {L : HL} (h : Has w ((b, .cells c t fr) :: L)) (c' : Array Value) :
    Has (w.setRow b c') ((b, .cells c' t fr) :: L) := by
  refine ⟨h.nd, ?_⟩
  intro b' o hm
  rcases List.mem_cons.1 hm with he | hm
  · cases he
    exact setRow_heap w b c c' t fr (h.get b _ (List.mem_cons_self ..))
  · rw [setRow_other w b b' c' (h.ne hm)]
    exact h.get b' o (List.mem_cons_of_mem _ hm)

theorem Has.cell {w : World} {L : HL} (h : Has w L) {b : Nat} {c : Array Value} {t : TypeId} {fr : Nat × Nat} (hm : (b, Obj.cells c t fr) ∈ L) (i : Nat) :
    w.cell? ⟨b, i, none⟩ = c[i]? := by simp [World.cell?, h.get b _ hm]
theorem Has.free {w : World} {L : HL} (h : Has w L) {b : Nat} {c : Array Value} {t : TypeId} (hm : (b, Obj.cells c t (0, 0)) ∈ L) (i : Nat) :
    w.frozen? ⟨b, i, none⟩ = false := by simp [World.frozen?, h.get b _ hm]

theorem ca {w : World} {o : Obj} {a : Addr} {v : Value} (h : w.cell? a = some v) : (w.alloc o).cell? a = some v := by
  rw [World.cell?_alloc_lt w o a (World.block_lt_of_cell? w a h)]; exact h
theorem cs {w : World} {a p : Addr} {u v : Value} (h : w.cell? a = some v) (hne : p.block ≠ a.block) : (w.setCell p u).cell? a = some v := by
  rw [World.cell?_setCell_other w p a u (fun e => hne (by rw [e]))]; exact h
theorem add_at (g o j : Nat) : (⟨g, o, none⟩ : Addr).add j = ⟨g, o + j, none⟩ := by unfold Addr.add; split <;> simp_all

theorem Has.blk {w : World} {L : HL} (h : Has w L) {b : Nat} {c : Array Value} {t : TypeId} (hm : (b, Obj.cells c t (0, 0)) ∈ L) :
    (∀ i, w.cell? ⟨b, i, none⟩ = c[i]?) ∧ ∀ i, w.frozen? ⟨b, i, none⟩ = false := ⟨h.cell hm, h.free hm⟩

/-- A number that a length may be (kept from the walk). -/
structure Fits (n : Nat) : Prop where le : n ≤ maxLen

/-! A slice that is read: its cells lie in the list. -/
def Rd (R : HL) (T sz : Nat) (v : Value) (n : Nat) (xs : List Value) : Prop :=
  xs.length = n * sz ∧ ∃ A cap, v = .slice A n cap ∧ n ≤ cap ∧ Fits cap ∧
    (0 < n → ∃ g off cur fr, A = some ⟨g, off, none⟩ ∧ (g, Obj.cells cur T fr) ∈ R ∧ (cur.toList.drop off).take (n * sz) = xs)

theorem Rd.mono {R R' : HL} {T sz : Nat} {v : Value} {n : Nat} {xs : List Value} (h : Rd R T sz v n xs) (hs : ∀ p, p ∈ R → p ∈ R') : Rd R' T sz v n xs := by
  obtain ⟨h0, A, cap, h1, h2, h3, h4⟩ := h
  exact ⟨h0, A, cap, h1, h2, h3, fun hn => let ⟨g, off, cur, fr, a, b, c⟩ := h4 hn; ⟨g, off, cur, fr, a, hs _ b, c⟩⟩
theorem Rd.right {R L : HL} {T sz : Nat} {v : Value} {n : Nat} {xs : List Value} (h : Rd R T sz v n xs) : Rd (L ++ R) T sz v n xs := h.mono fun _ => List.mem_append_right _
theorem Rd.cons {R : HL} {p : Nat × Obj} {T sz : Nat} {v : Value} {n : Nat} {xs : List Value} (h : Rd R T sz v n xs) : Rd (p :: R) T sz v n xs := h.mono fun _ => List.mem_cons_of_mem _

/-- A slice that is read, whatever it lies in. -/
def RdX (R : HL) (sz : Nat) (v : Value) (n : Nat) (xs : List Value) : Prop := ∃ T, Rd R T sz v n xs
theorem RdX.mono {R R' : HL} {sz : Nat} {v : Value} {n : Nat} {xs : List Value} (h : RdX R sz v n xs) (hs : ∀ p, p ∈ R → p ∈ R') : RdX R' sz v n xs := let ⟨T, h⟩ := h; ⟨T, h.mono hs⟩
/-- The cells of a slice that is read, in a world. -/
theorem Rd.cells {R : HL} {T sz : Nat} {v : Value} {n : Nat} {xs : List Value} (h : Rd R T sz v n xs) {w : World} (hw : Has w R) :
    ∃ A cap, v = .slice A n cap ∧ n ≤ cap ∧ Fits cap ∧ (0 < n → ∃ g off, A = some ⟨g, off, none⟩ ∧ g < w.heap.size ∧ ∀ j u, xs[j]? = some u → w.cell? ⟨g, off + j, none⟩ = some u) := by
  obtain ⟨h0, A, cap, h1, h2, h3, h4⟩ := h
  refine ⟨A, cap, h1, h2, h3, fun hn => ?_⟩
  obtain ⟨g, off, cur, fr, e, hm, ht⟩ := h4 hn
  refine ⟨g, off, e, hw.lt hm, fun j u hu => ?_⟩
  rw [hw.cell hm]
  rw [← ht, List.getElem?_take] at hu
  split at hu
  · rw [List.getElem?_drop] at hu
    rw [← hu, Array.getElem?_toList]
  · cases hu

/-! A slice that is owned: L is the block that it lies in (none, if it has no room). -/
def Row (T sz : Nat) (v : Value) (n : Nat) (xs : List Value) (L : HL) : Prop :=
  xs.length = n * sz ∧ ((∃ A, v = .slice A 0 0 ∧ n = 0 ∧ L = []) ∨
    ∃ g off cap cur, v = .slice (some ⟨g, off, none⟩) n cap ∧ L = [(g, Obj.cells cur T (0, 0))] ∧ n ≤ cap ∧ Fits cap ∧ off + cap * sz = cur.size ∧ (cur.toList.drop off).take (n * sz) = xs)

theorem Row.shape {T sz : Nat} {v : Value} {n : Nat} {xs : List Value} {L : HL} (h : Row T sz v n xs L) : ∃ A c, v = .slice A n c := by
  rcases h.2 with ⟨A, rfl, rfl, rfl⟩ | ⟨g, off, cap, cur, rfl, _⟩
  · exact ⟨_, _, rfl⟩
  · exact ⟨_, _, rfl⟩
theorem Row.nil (T sz : Nat) (A : Option Addr) : Row T sz (.slice A 0 0) 0 [] [] := ⟨by simp, .inl ⟨A, rfl, rfl, rfl⟩⟩
theorem Row.rd {T sz : Nat} {v : Value} {n : Nat} {xs : List Value} {L : HL} (h : Row T sz v n xs L) (R : HL) : Rd (L ++ R) T sz v n xs := by
  obtain ⟨h0, h⟩ := h
  rcases h with ⟨A, rfl, rfl, rfl⟩ | ⟨g, off, cap, cur, rfl, rfl, h1, h2, h3, h4⟩
  · exact ⟨h0, A, 0, rfl, Nat.le_refl _, ⟨by simp [maxLen]⟩, fun hn => by omega⟩
  · exact ⟨h0, _, cap, rfl, h1, h2, fun _ => ⟨g, off, cur, (0, 0), rfl, by simp, h4⟩⟩

end Go.Proofs.Ytjkfigkgeoacfaa
