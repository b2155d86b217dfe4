import Derived.Test.YtjkfigkgeoacfaaB1
import Derived.Test.YtjkfigkgeoacfaaProg
import Derived.KernelRfl
set_option linter.unusedVariables false
set_option linter.unusedSimpArgs false
namespace Go.Proofs.Ytjkfigkgeoacfaa
open Go.RowKit

theorem elem_of {P : Program} {t e : TypeId} {sz by_ : Nat} {z : Value} (h1 : P.underlying t = some (.slice e)) (h2 : (P.info? e).map (fun i => (i.zero, i.size, i.bytes)) = some (some z, sz, by_)) (h3 : z.cells.size = sz) (h4 : 0 < sz) : Elem P t e sz by_ := by
  refine ⟨h1, ?_, h4⟩
  cases hi : P.info? e with
  | none => rw [hi] at h2; cases h2
  | some i =>
    rw [hi] at h2
    simp only [Option.map_some, Option.some.injEq, Prod.mk.injEq] at h2
    exact ⟨i, z, rfl, h2.1, h2.2.1, h2.2.2, h3⟩

theorem el_int : Elem Try.prog 22 2 1 8 := elem_of (z := .int .i64 0) (by kernel_rfl) (by kernel_rfl) rfl (by omega)
theorem el_Int : Elem Try.prog 96 3 1 8 := elem_of (z := .int .i64 0) (by kernel_rfl) (by kernel_rfl) rfl (by omega)
theorem el_ref : Elem Try.prog 65 39 1 8 := elem_of (z := .int .i64 0) (by kernel_rfl) (by kernel_rfl) rfl (by omega)
theorem el_leaf : Elem Try.prog 28 61 2 16 := elem_of (z := .agg #[.int .i64 0, .int .i64 0]) (by kernel_rfl) (by kernel_rfl) rfl (by omega)

abbrev arenaObj (sv fv : Value) (m u f : Int) : Obj := .cells #[sv, fv, .int .i64 m, .int .i64 u, .int .i64 f] 98 (0, 0)
abbrev worldObj (a t e : Nat) (A B entry : Int) : Obj := .cells #[.pointer (some ⟨a, 0, none⟩), .pointer (some ⟨t, 0, none⟩), .pointer (some ⟨e, 0, none⟩), .int .i64 A, .int .i64 B, .int .i64 entry] 41 (0, 0)
abbrev slotObj (c : Array Value) : Obj := .cells c 91 (0, 0)
abbrev nodeObj (i t : Bool) (p k w : Value) : Obj := .cells #[.bool i, .bool t, p, k, w] 69 (0, 0)

def One (xs : List Value) : Prop := ∀ u ∈ xs, u.oneCell' = true

set_option maxHeartbeats 400000 in
theorem clone_int {v : Value} {n : Nat} {xs : List Value} {R : HL} {w : World} (h : Rd R 2 1 v n xs) (hw : Has w R) (h1 : One xs) (hb : n ≤ 1000000) :
    Calls Try.prog 55 #[v] w fun e w' => ∃ v' L', e = .returned v' ∧ Row 2 1 v' n xs L' ∧ Has w' (L' ++ R) ∧ Ext w w' := by
  have hs := Src.of_rd hw h h1
  obtain ⟨h0, A, cap, rfl, hc, hm, hcell⟩ := h
  cases A with
  | none =>
    have hn : n = 0 := by
      rcases Nat.eq_zero_or_pos n with h | h
      · exact h
      · obtain ⟨_, _, e, _, ha, _⟩ := hs
        cases e
        obtain ⟨_, e, _⟩ := ha h
        cases e
    subst hn
    have hx : xs = [] := List.eq_nil_of_length_eq_zero (by simpa using h0)
    subst hx
    have heq := fun w => Lib.run_eql_slice_nil (P := Try.prog) w 22 2 none 0 cap 0 0 Try.underlying22
    go_enter Try.func55, Try.ntmps55
    go_wp2
    go_ret
    exact ⟨_, [], rfl, Row.nil _ _ _, hw, Ext.refl w⟩
  | some a =>
    have h63 : 0 + n ≤ maxLen := by simp [maxLen]; omega
    have H63 := Lib.hid h63
    have h0' := Lib.hid h0
    clear h0 h63 hs
    have heq := fun w => Lib.run_eql_slice_nil (P := Try.prog) w 22 2 (some a) n cap 0 0 Try.underlying22
    go_enter Try.func55, Try.ntmps55
    go_wp2_with (at_builtin; refine wpList_append_row rfl (.tmp 5) (.tmp 6) 22 rfl el_int (Row.nil 2 1 (some ⟨w.heap.size, 0, none⟩)) (L := []) (R := (w.heap.size, Obj.cells #[] 2) :: R) (hw.alloc (Obj.cells #[] 2)) (news := xs) rfl ?h1 H63.out ?h2 ?h3)
    case h1 => exact Src.of_rd (hw.alloc _) (Rd.cons ⟨h0'.out, some a, cap, rfl, hc, hm, hcell⟩) h1
    case h2 => omega
    intro v' w' L' hr hh he
    go_wp2
    go_ret
    exact ⟨v', L', rfl, by simpa using hr, hh.drop1, ((Ext.refl w).alloc _).trans he⟩
set_option maxHeartbeats 400000 in
theorem clone_ref {v : Value} {n : Nat} {xs : List Value} {R : HL} {w : World} (h : Rd R 39 1 v n xs) (hw : Has w R) (h1 : One xs) (hb : n ≤ 1000000) :
    Calls Try.prog 56 #[v] w fun e w' => ∃ v' L', e = .returned v' ∧ Row 39 1 v' n xs L' ∧ Has w' (L' ++ R) ∧ Ext w w' := by
  have hs := Src.of_rd hw h h1
  obtain ⟨h0, A, cap, rfl, hc, hm, hcell⟩ := h
  cases A with
  | none =>
    have hn : n = 0 := by
      rcases Nat.eq_zero_or_pos n with h | h
      · exact h
      · obtain ⟨_, _, e, _, ha, _⟩ := hs
        cases e
        obtain ⟨_, e, _⟩ := ha h
        cases e
    subst hn
    have hx : xs = [] := List.eq_nil_of_length_eq_zero (by simpa using h0)
    subst hx
    have heq := fun w => Lib.run_eql_slice_nil (P := Try.prog) w 65 39 none 0 cap 0 0 Try.underlying65
    go_enter Try.func56, Try.ntmps56
    go_wp2
    go_ret
    exact ⟨_, [], rfl, Row.nil _ _ _, hw, Ext.refl w⟩
  | some a =>
    have h63 : 0 + n ≤ maxLen := by simp [maxLen]; omega
    have H63 := Lib.hid h63
    have h0' := Lib.hid h0
    clear h0 h63 hs
    have heq := fun w => Lib.run_eql_slice_nil (P := Try.prog) w 65 39 (some a) n cap 0 0 Try.underlying65
    go_enter Try.func56, Try.ntmps56
    go_wp2_with (at_builtin; refine wpList_append_row rfl (.tmp 5) (.tmp 6) 65 rfl el_ref (Row.nil 39 1 (some ⟨w.heap.size, 0, none⟩)) (L := []) (R := (w.heap.size, Obj.cells #[] 39) :: R) (hw.alloc (Obj.cells #[] 39)) (news := xs) rfl ?h1 H63.out ?h2 ?h3)
    case h1 => exact Src.of_rd (hw.alloc _) (Rd.cons ⟨h0'.out, some a, cap, rfl, hc, hm, hcell⟩) h1
    case h2 => omega
    intro v' w' L' hr hh he
    go_wp2
    go_ret
    exact ⟨v', L', rfl, by simpa using hr, hh.drop1, ((Ext.refl w).alloc _).trans he⟩
set_option maxHeartbeats 400000 in
theorem clone_leaf {v : Value} {n : Nat} {xs : List Value} {R : HL} {w : World} (h : Rd R 61 2 v n xs) (hw : Has w R) (h1 : One xs) (hb : n ≤ 1000000) :
    Calls Try.prog 54 #[v] w fun e w' => ∃ v' L', e = .returned v' ∧ Row 61 2 v' n xs L' ∧ Has w' (L' ++ R) ∧ Ext w w' := by
  have hs := Src.of_rd hw h h1
  obtain ⟨h0, A, cap, rfl, hc, hm, hcell⟩ := h
  cases A with
  | none =>
    have hn : n = 0 := by
      rcases Nat.eq_zero_or_pos n with h | h
      · exact h
      · obtain ⟨_, _, e, _, ha, _⟩ := hs
        cases e
        obtain ⟨_, e, _⟩ := ha h
        cases e
    subst hn
    have hx : xs = [] := List.eq_nil_of_length_eq_zero (by simpa using h0)
    subst hx
    have heq := fun w => Lib.run_eql_slice_nil (P := Try.prog) w 28 61 none 0 cap 0 0 Try.underlying28
    go_enter Try.func54, Try.ntmps54
    go_wp2
    go_ret
    exact ⟨_, [], rfl, Row.nil _ _ _, hw, Ext.refl w⟩
  | some a =>
    have h63 : 0 + n ≤ maxLen := by simp [maxLen]; omega
    have H63 := Lib.hid h63
    have h0' := Lib.hid h0
    clear h0 h63 hs
    have heq := fun w => Lib.run_eql_slice_nil (P := Try.prog) w 28 61 (some a) n cap 0 0 Try.underlying28
    go_enter Try.func54, Try.ntmps54
    go_wp2_with (at_builtin; refine wpList_append_row rfl (.tmp 5) (.tmp 6) 28 rfl el_leaf (Row.nil 61 2 (some ⟨w.heap.size, 0, none⟩)) (L := []) (R := (w.heap.size, Obj.cells #[] 61) :: R) (hw.alloc (Obj.cells #[] 61)) (news := xs) rfl ?h1 H63.out ?h2 ?h3)
    case h1 => exact Src.of_rd (hw.alloc _) (Rd.cons ⟨h0'.out, some a, cap, rfl, hc, hm, hcell⟩) h1
    case h2 => omega
    intro v' w' L' hr hh he
    go_wp2
    go_ret
    exact ⟨v', L', rfl, by simpa using hr, hh.drop1, ((Ext.refl w).alloc _).trans he⟩
end Go.Proofs.Ytjkfigkgeoacfaa
