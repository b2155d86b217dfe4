import Derived.Test.YtjkfigkgeoacfaaP4
set_option linter.unusedVariables false
set_option linter.unusedSimpArgs false
namespace Go.Proofs.Ytjkfigkgeoacfaa
open Go.RowKit Go.Proofs.YtjkfigkgeoacfaaW.PrintLast

theorem el_slot : Elem Try.prog 95 91 10 128 := elem_of (z := .agg #[.bool false, .bool false, .slice none 0 0, .slice none 0 0, .slice none 0 0, .slice none 0 0, .int .i64 0, .bool false, .int .u32 0, .bool false]) (by kernel_rfl) (by kernel_rfl) rfl (by omega)

def zslot : ASlot := ⟨⟨false, false, [], [], []⟩, [], 0, false, 0, false⟩

/-- 's[1:]' of a row. -/
theorem run_tail1 {P : Program} {t e : TypeId} {by_ : Nat} (E : Elem P t e 1 by_) {fg foff m fcap : Nat} {x : Value} {xs : List Value} {cur : Array Value}
    (hc : m + 1 ≤ fcap) (hf : Fits fcap) (hs : foff + fcap * 1 = cur.size) (ht : (cur.toList.drop foff).take ((m + 1) * 1) = x :: xs) (hl : xs.length = m) :
    ∃ v' L', (∀ w, (Instr.slice t (.slice (some ⟨fg, foff, none⟩) (m + 1) fcap) (some (.int .i64 1)) none none).run P w = .ok v' w) ∧ Row e 1 v' m xs L' ∧ (L' = [] ∨ L' = [(fg, Obj.cells cur e (0, 0))]) := by
  obtain ⟨hsl, ⟨i, z, hi, hz, hz1, hz2, hz3⟩, hpos⟩ := E
  by_cases h1 : fcap = 1
  · subst h1
    have hm : m = 0 := by omega
    subst hm
    refine ⟨.slice (some ⟨fg, foff, none⟩) 0 0, [], fun w => ?_, ⟨by omega, .inl ⟨_, rfl, rfl, rfl⟩⟩, .inl rfl⟩
    simp [Instr.slice, run_underlying hsl, Instr.sliceBounds, Instr.sliceBound, asIntOf, sizeOf, typeInfo, hi]
  · refine ⟨.slice (some ⟨fg, foff + 1, none⟩) m (fcap - 1), [(fg, Obj.cells cur e (0, 0))], fun w => ?_, ⟨by omega, .inr ⟨fg, foff + 1, fcap - 1, cur, rfl, rfl, by omega, ⟨by have := hf.le; omega⟩, by omega, ?_⟩⟩, .inr rfl⟩
    · have h2 : (1 : Int) ≤ (m : Int) + 1 := by omega
      simp [Instr.slice, run_underlying hsl, Instr.sliceBounds, Instr.sliceBound, asIntOf, sizeOf, typeInfo, hi, h2, hz1, h1, add_at]
    · have e1 : (cur.toList.drop (foff + 1)) = (cur.toList.drop foff).drop 1 := by rw [List.drop_drop]
      rw [e1, List.take_drop]
      have e2 : 1 + m * 1 = (m + 1) * 1 := by omega
      rw [e2, ht]; rfl

/-- An append in a region that draws its order. -/
theorem append_step {P : Program} {ops : Array Oper} {o : Oper} {N : Option Tmp} {a : Act} {w : World} {K : Act → World → Prop} {Q : Exit → Act → World → Prop} (s x : Operand) (t : TypeId)
    (hwt : Region.wanted o (yielded ops a.tmps) = true) (hN : o.dst = N) (ho : o.op = .call { callee := .builtin .append, args := #[s, x], argTypes := #[t, t] })
    {e : TypeId} {sz by_ : Nat} (E : Elem P t e sz by_) {v : Value} {n : Nat} {xs : List Value} {L R : HL}
    (hrow : Row e sz v n xs L) (hw : Has w (L ++ R)) {m : Nat} {news : List Value} (hv : a.eval s = v) (hs : Src w (a.eval x) sz m news)
    (h63 : n + m ≤ maxLen) (hb : (n + m) * by_ ≤ 140737488355328)
    (h : ∀ v' w' L', Row e sz v' (n + m) (xs ++ news) L' → Has w' (L' ++ R) → Ext w w' → K (a.put N v') w') :
    if Region.wanted o (yielded ops a.tmps) = true then Oper.wp P o a w K Q else K (a.put N undef) w := by
  rw [if_pos hwt]
  subst hN
  exact wp_append_row s x t ho E hrow hw hv hs h63 hb h
end Go.Proofs.Ytjkfigkgeoacfaa
