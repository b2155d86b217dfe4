import Derived.Test.YtjkfigkgeoacfaaB0
import Derived.Laws.AppendOwn
import Derived.Deep.AppendLies
set_option linter.unusedVariables false
set_option linter.unusedSimpArgs false
namespace Go.Proofs.Ytjkfigkgeoacfaa
open Go.RowKit

/-- What a slice type's element is. -/
structure Elem (P : Program) (t e : TypeId) (sz by_ : Nat) : Prop where
  sl : P.underlying t = some (.slice e)
  info : ∃ i z, P.info? e = some i ∧ i.zero = some z ∧ i.size = sz ∧ i.bytes = by_ ∧ z.cells.size = sz
  pos : 0 < sz

theorem run_firstCells_src {P : Program} {w : World} {A : Option Addr} {size m c : Nat} {news : List Value} (hl : news.length = m * size)
    (hs : 0 < m → ∃ a, A = some a ∧ ∀ j u, news[j]? = some u → w.cell? (a.add j) = some u) :
    (Builtin.firstCells size m (.slice A m c)).run P w = .ok news.toArray w := by
  rcases Nat.eq_zero_or_pos m with h0 | h0
  · subst h0
    have hn : news = [] := List.eq_nil_of_length_eq_zero (by simpa using hl)
    subst hn
    cases A with
    | none => exact run_firstCells_none w size 0 0 c
    | some a => exact run_firstCells_some w size 0 a 0 c [] (by simp) (by simp)
  · obtain ⟨a, rfl, h⟩ := hs h0
    exact run_firstCells_some w size m a m c news hl h

/-- Where the news come from. -/
def Src (w : World) (v : Value) (sz m : Nat) (news : List Value) : Prop :=
  ∃ A c, v = .slice A m c ∧ news.length = m * sz ∧ (0 < m → ∃ a, A = some a ∧ ∀ j u, news[j]? = some u → w.cell? (a.add j) = some u) ∧ ∀ u ∈ news, u.oneCell' = true

theorem Src.of_block {w : World} {b : Nat} {cs : List Value} {t : TypeId} {fr : Nat × Nat} {sz m : Nat} (h : w.heap[b]? = some (.cells cs.toArray t fr)) (hl : cs.length = m * sz) (h1 : ∀ u ∈ cs, u.oneCell' = true) :
    Src w (.slice (some ⟨b, 0, none⟩) m m) sz m cs :=
  ⟨_, _, rfl, hl, fun _ => ⟨_, rfl, fun j u hu => by rw [add_at]; simp [World.cell?, h, hu]⟩, h1⟩

theorem Src.of_rd {w : World} {R : HL} (hw : Has w R) {T sz : Nat} {v : Value} {n : Nat} {xs : List Value} (h : Rd R T sz v n xs) (h1 : ∀ u ∈ xs, u.oneCell' = true) : Src w v sz n xs := by
  obtain ⟨A, cap, e, h2, h3, h4⟩ := h.cells hw
  refine ⟨A, cap, e, h.1, fun hn => ?_, h1⟩
  obtain ⟨g, off, rfl, _, hc⟩ := h4 hn
  exact ⟨_, rfl, fun j u hu => by rw [add_at]; exact hc j u hu⟩

theorem run_append_row {P : Program} {t e : TypeId} {sz by_ : Nat} (E : Elem P t e sz by_) (ty : TypeId) {w : World} {v : Value} {n : Nat} {xs : List Value} {L R : HL}
    (hrow : Row e sz v n xs L) (hw : Has w (L ++ R)) {x : Value} {m : Nat} {news : List Value} (hs : Src w x sz m news)
    (h63 : n + m ≤ maxLen) (hb : (n + m) * by_ ≤ 140737488355328) :
    ∃ v' w' L', (Builtin.append_ #[t, t] ty #[v, x]).run P w = .ok v' w' ∧ Row e sz v' (n + m) (xs ++ news) L' ∧ Has w' (L' ++ R) ∧ Ext w w' := by
  obtain ⟨ht, ⟨i, z, hi, hz, rfl, rfl, hzs⟩, hsz⟩ := E
  obtain ⟨A, c, rfl, hl, hsrc, h1⟩ := hs
  have hsmall : n + m ≤ 9223372036854775807 := by simp only [maxLen] at h63; omega
  have hlen : (xs ++ news).length = (n + m) * i.size := by rw [List.length_append, hrow.1, hl, Nat.add_mul]
  have grown : ∀ (old : Nat), ∃ v' w' L', Result.ok (.slice (some ⟨w.heap.size, 0, none⟩) (n + m) (grownCap w (n + m) old e)) (w.drew.alloc (.cells (xs.toArray ++ news.toArray ++ Builtin.zeroCells z.cells (grownCap w (n + m) old e - (n + m))) e)) = Result.ok v' w' ∧
      Row e i.size v' (n + m) (xs ++ news) L' ∧ Has w' (L' ++ R) ∧ Ext w w' := by
    intro old
    have hge := grownCap_ge w (n + m) old e
    have hcm : grownCap w (n + m) old e ≤ maxLen := grownCap_le_maxLen w (n + m) old e h63
    refine ⟨_, _, [(w.heap.size, _)], rfl, ⟨hlen, .inr ⟨w.heap.size, 0, _, _, rfl, rfl, hge, ⟨hcm⟩, ?_, ?_⟩⟩, (hw.right.drew).alloc _, (Ext.refl w).drew.alloc _⟩
    · simp only [Array.size_append, List.size_toArray, size_zeroCells, hzs, hrow.1, hl, ← Nat.add_mul, Nat.zero_add]
      congr 1
      omega
    · simp only [Array.toList_append, List.append_assoc, List.drop_zero]
      rw [← List.append_assoc, ← hlen]
      exact List.take_left
  have hf := run_firstCells_src (P := P) (c := c) hl hsrc
  obtain ⟨hx0, hrow⟩ := hrow
  rcases hrow with ⟨B, rfl, rfl, rfl⟩ | ⟨g, off, cap, cur, rfl, rfl, hnc, hcm, hcs, htake⟩
  · have hx : xs = [] := List.eq_nil_of_length_eq_zero (by simpa using hx0)
    subst hx
    by_cases hm : m = 0
    · subst hm
      have hn : news = [] := List.eq_nil_of_length_eq_zero (by simpa using hl)
      subst hn
      refine ⟨.slice B 0 0, w, [], ?_, Row.nil _ _ B, hw, Ext.refl w⟩
      cases B <;> cases A <;> simp [Builtin.append_, run_underlying ht, sizeOf, typeInfo, hi, Builtin.lenOf, Builtin.firstCells, loadCells, loadCellsFrom, storeCells]
    · obtain ⟨a, rfl, hnews⟩ := hsrc (by omega)
      have hgr := grown 0
      simp only [Nat.zero_add, List.nil_append, Array.empty_append] at hgr ⊢ hb
      cases B with
      | none =>
        have hr := run_append_nil (P := P) w t ty e i z ht hi hz a m c news hl hnews (by omega) (by omega) (by omega)
        rw [hr]; exact hgr
      | some b =>
        have hr := run_append_grow (P := P) w t ty e i z ht hi hz b 0 0 [] (by simp) (by simp) a m c news hl hnews (by omega) (by omega) (growslice_fits (by omega) (by simpa using hb))
        simp only [Nat.zero_add, Array.empty_append] at hr
        rw [hr]; exact hgr
  · by_cases hroom : n + m ≤ cap
    · have hfit : off + n * i.size + news.length ≤ cur.size := by rw [hl, ← hcs, Nat.add_assoc, ← Nat.add_mul]; exact Nat.add_le_add_left (Nat.mul_le_mul_right _ hroom) _
      have hg := hw.get g (Obj.cells cur e (0, 0)) (by simp)
      have hst := run_storeCells_at P g (off + n * i.size) e news 0 cur w hg (by simpa using hfit) h1
      simp only [Nat.add_zero] at hst
      refine ⟨_, _, [(g, _)], ?_, ⟨hlen, .inr ⟨g, off, cap, _, rfl, rfl, hroom, hcm, ?_, ?_⟩⟩, hw.setRow (cur.toList.take (off + n * i.size) ++ news ++ cur.toList.drop (off + n * i.size + news.length)).toArray, (Ext.refl w).setRow _ _⟩
      · simp [Builtin.append_, run_underlying ht, sizeOf, typeInfo, hi, Builtin.lenOf, hroom, hf, add_at, hst]
      · simp only [List.size_toArray, List.length_append, List.length_take, List.length_drop, Array.length_toList]
        omega
      · simp only []
        have e1 : (cur.toList.take (off + n * i.size)).drop off = xs := by
          rw [← htake, List.drop_take]; congr 1; omega
        have e2 : off ≤ (cur.toList.take (off + n * i.size)).length := by simp; omega
        rw [List.append_assoc, List.drop_append_of_le_length e2, e1, ← List.append_assoc, ← hlen]
        exact List.take_left
    · have hgr := grown cap
      by_cases hm : m = 0
      · omega
      obtain ⟨a, rfl, hnews⟩ := hsrc (by omega)
      have holds : ∀ j u, xs[j]? = some u → w.cell? ((⟨g, off, none⟩ : Addr).add j) = some u := by
        intro j u hu
        rw [add_at, hw.cell (b := g) (c := cur) (t := e) (fr := (0, 0)) (by simp)]
        rw [← htake, List.getElem?_take] at hu
        split at hu
        · rw [List.getElem?_drop] at hu
          rw [← hu, Array.getElem?_toList]
        · cases hu
      have hr := run_append_grow (P := P) w t ty e i z ht hi hz ⟨g, off, none⟩ n cap xs hx0 holds a m c news hl hnews (by omega) (by omega) (growslice_fits (by omega) hb)
      rw [hr]; exact hgr

theorem wp_append_row {P : Program} {o : Oper} {a : Act} {w : World} {K : Act → World → Prop} {Q : Exit → Act → World → Prop} (s x : Operand) (t : TypeId)
    (ho : o.op = .call { callee := .builtin .append, args := #[s, x], argTypes := #[t, t] })
    {e : TypeId} {sz by_ : Nat} (E : Elem P t e sz by_) {v : Value} {n : Nat} {xs : List Value} {L R : HL}
    (hrow : Row e sz v n xs L) (hw : Has w (L ++ R)) {m : Nat} {news : List Value} (hv : a.eval s = v) (hs : Src w (a.eval x) sz m news)
    (h63 : n + m ≤ maxLen) (hb : (n + m) * by_ ≤ 140737488355328)
    (h : ∀ v' w' L', Row e sz v' (n + m) (xs ++ news) L' → Has w' (L' ++ R) → Ext w w' → K (a.put o.dst v') w') : o.wp P a w K Q := by
  obtain ⟨v', w', L', hr, h2, h3, h4⟩ := run_append_row E o.type hrow hw hs h63 hb
  unfold Oper.wp execOp
  simp only [ho, resolve, invoke, builtin, Sem.run_bind, Sem.run_pure, Result.andThen_ok, List.map_toArray, List.map_cons, List.map_nil, hv, hr]
  exact h v' w' L' h2 h3 h4

theorem wpList_append_row {P : Program} {ops : Array Oper} {rest : List Oper} {o : Oper} {a : Act} {w : World} {Q : Exit → Act → World → Prop} (hgd : o.guard = none) (s x : Operand) (t : TypeId)
    (ho : o.op = .call { callee := .builtin .append, args := #[s, x], argTypes := #[t, t] })
    {e : TypeId} {sz by_ : Nat} (E : Elem P t e sz by_) {v : Value} {n : Nat} {xs : List Value} {L R : HL}
    (hrow : Row e sz v n xs L) (hw : Has w (L ++ R)) {m : Nat} {news : List Value} (hv : a.eval s = v) (hs : Src w (a.eval x) sz m news)
    (h63 : n + m ≤ maxLen) (hb : (n + m) * by_ ≤ 140737488355328)
    (h : ∀ v' w' L', Row e sz v' (n + m) (xs ++ news) L' → Has w' (L' ++ R) → Ext w w' → wpList P ops Q rest (a.put o.dst v') w') : wpList P ops Q (o :: rest) a w :=
  wpList_plain hgd fun _ hK => wp_append_row s x t ho E hrow hw hv hs h63 hb fun v' w' L' h2 h3 h4 => hK _ _ (h v' w' L' h2 h3 h4)

end Go.Proofs.Ytjkfigkgeoacfaa
