import Derived.Test.YtjkfigkgeoacfaaQ2
set_option linter.unusedVariables false
set_option linter.unusedSimpArgs false
namespace Go.Proofs.Ytjkfigkgeoacfaa
open Go.RowKit

/-- These blocks lie in the world (kept through a region that draws its order). -/
def Knows (w : World) (L : HL) : Prop := ∀ b o, (b, o) ∈ L → w.heap[b]? = some o
theorem Has.knows {w : World} {L L0 : HL} (h : Has w L) (hs : ∀ p, p ∈ L0 → p ∈ L) : Knows w L0 := fun b o hm => h.get b o (hs _ hm)
theorem Knows.mono {w : World} {L L0 : HL} (h : Knows w L) (hs : ∀ p, p ∈ L0 → p ∈ L) : Knows w L0 := fun b o hm => h b o (hs _ hm)
theorem Knows.cell {w : World} {L : HL} (h : Knows w L) {b : Nat} {c : Array Value} {t : TypeId} {fr : Nat × Nat} (hm : (b, Obj.cells c t fr) ∈ L) (i : Nat) : w.cell? ⟨b, i, none⟩ = c[i]? := by simp [World.cell?, h b _ hm]
theorem Knows.src {w : World} {L : HL} (h : Knows w L) {b : Nat} {cs : List Value} {t : TypeId} {fr : Nat × Nat} (hm : (b, Obj.cells cs.toArray t fr) ∈ L) {sz m : Nat} (hl : cs.length = m * sz) (h1 : ∀ u ∈ cs, u.oneCell' = true) :
    Src w (.slice (some ⟨b, 0, none⟩) m m) sz m cs := Src.of_block (h b _ hm) hl h1
noncomputable local instance hlDec2 : DecidableEq (Nat × Obj) := fun _ _ => Classical.propDecidable _
theorem sub_of_count {L0 L : HL} (h : ∀ x, L0.count x ≤ L.count x) : ∀ p, p ∈ L0 → p ∈ L := fun p hp => by
  have h1 := List.count_pos_iff.2 hp
  exact List.count_pos_iff.1 (Nat.lt_of_lt_of_le h1 (h p))
/-- The cells of a slice that is read, in each world that knows its block. -/
theorem Rd.known {R : HL} {T sz : Nat} {v : Value} {n : Nat} {xs : List Value} (h : Rd R T sz v n xs) (hn : 0 < n) :
    ∃ g off cap, v = .slice (some ⟨g, off, none⟩) n cap ∧ n ≤ cap ∧ Fits cap ∧ ∀ (w : World) (L : HL), Knows w L → (∀ p, p ∈ R → p ∈ L) → ∀ j u, xs[j]? = some u → w.cell? ⟨g, off + j, none⟩ = some u := by
  obtain ⟨h0, A, cap, h1, h2, h3, h4⟩ := h
  obtain ⟨g, off, cur, fr, rfl, hm, ht⟩ := h4 hn
  refine ⟨g, off, cap, h1, h2, h3, fun w L hw hs j u hu => ?_⟩
  rw [hw.cell (hs _ hm)]
  exact row_at ht hu
theorem Rd.srcK {w : World} {R L : HL} (hw : Knows w L) (hs : ∀ p, p ∈ R → p ∈ L) {T sz : Nat} {v : Value} {n : Nat} {xs : List Value} (h : Rd R T sz v n xs) (h1 : ∀ u ∈ xs, u.oneCell' = true) : Src w v sz n xs := by
  rcases Nat.eq_zero_or_pos n with h0 | h0
  · subst h0
    obtain ⟨h0, A, cap, rfl, _⟩ := h
    exact ⟨A, cap, rfl, h0, fun h => by omega, h1⟩
  · have hl := h.1
    obtain ⟨g, off, cap, rfl, _, _, hc⟩ := h.known h0
    exact ⟨_, cap, rfl, hl, fun _ => ⟨⟨g, off, none⟩, rfl, fun j u hu => by rw [add_at]; exact hc w L hw hs j u hu⟩, h1⟩

/-- An append in a region that draws its order, the new length told. -/
theorem append_to {P : Program} {ops : Array Oper} {o : Oper} {N : Option Tmp} {a : Act} {w : World} {K : Act → World → Prop} {Q : Exit → Act → World → Prop} (s x : Operand) (t : TypeId)
    (hwt : Region.wanted o (yielded ops a.tmps) = true) (hN : o.dst = N) (ho : o.op = .call { callee := .builtin .append, args := #[s, x], argTypes := #[t, t] })
    {e : TypeId} {sz by_ : Nat} (E : Elem P t e sz by_) {v : Value} {n : Nat} {xs : List Value} {L R : HL}
    (hrow : Row e sz v n xs L) (hw : Has w (L ++ R)) {m : Nat} {news : List Value} (hv : a.eval s = v) (hs : Src w (a.eval x) sz m news)
    (k : Nat) (hk : n + m = k) (h63 : k ≤ maxLen) (hb : k * by_ ≤ 140737488355328)
    (h : ∀ v' w' L', Row e sz v' k (xs ++ news) L' → Has w' (L' ++ R) → Ext w w' → K (a.put N v') w') :
    if Region.wanted o (yielded ops a.tmps) = true then Oper.wp P o a w K Q else K (a.put N undef) w := by
  subst hk
  exact append_step s x t hwt hN ho E hrow hw hv hs h63 hb h

/-- The i-th kid, in each world that knows the row of kids. -/
theorem kid_known {R : HL} {g off : Nat} {css : List (List Value)} {kids : List Sh} (hs : ShRows R css kids)
    (hc : ∀ (w : World) (L : HL), Knows w L → (∀ p, p ∈ R → p ∈ L) → ∀ j u, css.flatten[j]? = some u → w.cell? ⟨g, off + j, none⟩ = some u) {i : Nat} (hi : i < kids.length) :
    ∃ (s : Sh) (Ap : Option Addr) (cp : Nat) (Ak : Option Addr) (ck : Nat) (Ac : Option Addr) (cc : Nat), kids[i]? = some s ∧ ShRep R (shCells s Ap cp Ak ck Ac cc) s ∧ css[i]? = some (shCells s Ap cp Ak ck Ac cc) ∧
      ∀ (L : HL), (∀ p, p ∈ R → p ∈ L) → (∀ w, Knows w L → w.cell? ⟨g, off + i * 5, none⟩ = some (.bool s.leaf)) ∧ (∀ w, Knows w L → w.cell? ⟨g, off + i * 5 + 1, none⟩ = some (.bool s.tagged)) ∧ (∀ w, Knows w L → w.cell? ⟨g, off + i * 5 + 2, none⟩ = some (.slice Ap s.pairs.length cp)) ∧
        (∀ w, Knows w L → w.cell? ⟨g, off + i * 5 + 3, none⟩ = some (.slice Ak s.keys.length ck)) ∧ (∀ w, Knows w L → w.cell? ⟨g, off + i * 5 + 4, none⟩ = some (.slice Ac s.kids.length cc)) := by
  have hi' : i < css.length := by rw [hs.1]; exact hi
  have hsi := hs.2 i css[i] kids[i] (List.getElem?_eq_getElem hi') (List.getElem?_eq_getElem hi)
  have hat := flat_at5 hs.five (List.getElem?_eq_getElem hi')
  have hci := List.getElem?_eq_getElem hi'
  generalize css[i] = cs at hsi hat hci
  obtain ⟨Ap, cp, Ak, ck, Ac, cc, rfl⟩ := hsi.shape
  refine ⟨kids[i], Ap, cp, Ak, ck, Ac, cc, List.getElem?_eq_getElem hi, hsi, hci, fun L hL => ⟨fun w hw => ?_, fun w hw => ?_, fun w hw => ?_, fun w hw => ?_, fun w hw => ?_⟩⟩
  · exact hc w L hw hL (i * 5) _ (hat 0 (by omega))
  · rw [Nat.add_assoc]; exact hc w L hw hL _ _ (hat 1 (by omega))
  · rw [Nat.add_assoc]; exact hc w L hw hL _ _ (hat 2 (by omega))
  · rw [Nat.add_assoc]; exact hc w L hw hL _ _ (hat 3 (by omega))
  · rw [Nat.add_assoc]; exact hc w L hw hL _ _ (hat 4 (by omega))

theorem rd_block {R : HL} {b : Nat} {T sz n : Nat} {cs : List Value} (h : (b, Obj.cells cs.toArray T (0, 0)) ∈ R) (hl : cs.length = n * sz) (hf : Fits n) : Rd R T sz (.slice (some ⟨b, 0, none⟩) n n) n cs :=
  ⟨hl, _, n, rfl, Nat.le_refl _, hf, fun _ => ⟨b, 0, _, _, rfl, h, by rw [← hl]; simp⟩⟩
theorem ShRep.one {R : HL} {cs : List Value} {s : Sh} (h : ShRep R cs s) : One cs := by
  obtain ⟨Ap, cp, Ak, ck, Ac, cc, rfl⟩ := h.shape
  intro u hu
  simp only [shCells, List.mem_cons, List.not_mem_nil, or_false] at hu
  rcases hu with rfl | rfl | rfl | rfl | rfl <;> rfl
theorem ShRows.oneCell {R : HL} {css : List (List Value)} {kids : List Sh} (h : ShRows R css kids) : One css.flatten := by
  intro u hu
  obtain ⟨cs, hm, hu⟩ := List.mem_flatten.1 hu
  obtain ⟨j, hj, rfl⟩ := List.getElem_of_mem hm
  exact (h.2 j css[j] (kids[j]'(by rw [← h.1]; exact hj)) (List.getElem?_eq_getElem hj) (List.getElem?_eq_getElem (by rw [← h.1]; exact hj))).one u hu
theorem One.take {xs : List Value} (h : One xs) (n : Nat) : One (xs.take n) := fun u hu => h u (List.mem_of_mem_take hu)
theorem One.drop {xs : List Value} (h : One xs) (n : Nat) : One (xs.drop n) := fun u hu => h u (List.mem_of_mem_drop hu)
theorem Rd.cast {R : HL} {T sz : Nat} {v v' : Value} {n n' : Nat} {xs xs' : List Value} (h : Rd R T sz v n xs) (hv : v = v') (hn : n = n') (hx : xs = xs') : Rd R T sz v' n' xs' := by subst hv hn hx; exact h
theorem ints_append (a b : List Int) : ints (a ++ b) = ints a ++ ints b := by simp [ints]
theorem ints_take (a : List Int) (n : Nat) : ints (a.take n) = (ints a).take n := by simp [ints, List.map_take]
theorem ints_drop (a : List Int) (n : Nat) : ints (a.drop n) = (ints a).drop n := by simp [ints, List.map_drop]
theorem take2 {α : Type} {l : List α} {i : Nat} {a b : α} (h1 : l[i]? = some a) (h2 : l[i + 1]? = some b) : (l.drop i).take 2 = [a, b] := by
  have e1 : l.drop i = a :: l.drop (i + 1) := by
    have hlt := (List.getElem?_eq_some_iff.1 h1).1
    rw [List.drop_eq_getElem_cons hlt, (List.getElem?_eq_some_iff.1 h1).2]
  have e2 : l.drop (i + 1) = b :: l.drop (i + 2) := by
    have hlt := (List.getElem?_eq_some_iff.1 h2).1
    rw [List.drop_eq_getElem_cons hlt, (List.getElem?_eq_some_iff.1 h2).2]
  rw [e1, e2]; rfl

abbrev shO (l t : Bool) (p k c : Value) : Obj := .cells #[.bool l, .bool t, p, k, c] 31 (0, 0)
abbrev nil0 : Value := .slice none 0 0
theorem Knows.five {w : World} {L : HL} (h : Knows w L) {b : Nat} {l t : Bool} {p k c : Value} (hm : (b, shO l t p k c) ∈ L) :
    (w.cell? ⟨b, 0, none⟩ = some (.bool l) ∧ w.cell? ⟨b, 1, none⟩ = some (.bool t) ∧ w.cell? ⟨b, 2, none⟩ = some p ∧ w.cell? ⟨b, 3, none⟩ = some k ∧ w.cell? ⟨b, 4, none⟩ = some c) :=
  ⟨(h.cell hm 0).trans rfl, (h.cell hm 1).trans rfl, (h.cell hm 2).trans rfl, (h.cell hm 3).trans rfl, (h.cell hm 4).trans rfl⟩
end Go.Proofs.Ytjkfigkgeoacfaa
