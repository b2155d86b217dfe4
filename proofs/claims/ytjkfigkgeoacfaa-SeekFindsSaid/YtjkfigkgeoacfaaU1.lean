import Derived.Test.YtjkfigkgeoacfaaU0
import Derived.Test.YtjkfigkgeoacfaaT0
set_option linter.unusedVariables false
set_option linter.unusedSimpArgs false
namespace Go.Proofs.Ytjkfigkgeoacfaa
open Go.RowKit Go.Proofs.YtjkfigkgeoacfaaW.PrintLast

/-- A task; a step of a path, with its node's slices. -/
abbrev taskO (tb p : Nat) (me : Int) : Obj := .cells #[.pointer (some ⟨tb, 0, none⟩), .pointer (some ⟨p, 0, none⟩), .int .i64 me] 64 (0, 0)
abbrev stepCells (r : Int) (n : ANode) (way : Int) (pv kv wv : Value) : List Value := [.int .i64 r, .bool n.inner, .bool n.tagged, pv, kv, wv, .int .i64 way]
abbrev stepO (r : Int) (n : ANode) (way : Int) (pv kv wv : Value) : Obj := .cells #[.int .i64 r, .bool n.inner, .bool n.tagged, pv, kv, wv, .int .i64 way] 71 (0, 0)
abbrev wldO (a t e : Nat) (x y er : Int) : Obj := .cells #[.pointer (some ⟨a, 0, none⟩), .pointer (some ⟨t, 0, none⟩), .pointer (some ⟨e, 0, none⟩), .int .i64 x, .int .i64 y, .int .i64 er] 41 (0, 0)

set_option maxRecDepth 100000 in
set_option maxHeartbeats 1000000 in
/-- The touch of seek.Path: what the way of a node is. -/
theorem touch_any {R R2 : HL} {a : Nat} {A : AArena} {L : HL} (hA : ArenaRep R a A L) (hO : A.Ok) {tb p t e tv sv av : Nat} {me x y er : Int} {n : ANode} {pv kv wv : Value} {i : Nat} {s : ASlot} (hi : A.slots[i]? = some s) (hu : s.used = true) {k : Nat} {r' : Int} (hk : s.ways[k]? = some r') {w : World}
    (hw : Has w (L ++ R2)) (h1 : (tv, taskO tb p me) ∈ L ++ R2) (h2 : (sv, stepO (refOf i s.count) n k pv kv wv) ∈ L ++ R2) (h3 : (av, Obj.cells #[.int .i64 k] 3 (0, 0)) ∈ L ++ R2) (h4 : (p, wldO a t e x y er) ∈ L ++ R2) :
    Calls Try.prog 69 #[.pointer (some ⟨tv, 0, none⟩), .pointer (some ⟨sv, 0, none⟩), .pointer (some ⟨av, 0, none⟩)] w fun e w' => e = .returned (.int .i64 r') ∧ ∃ n, w' = w.drewN n := by
  have c1 : w.cell? ⟨tv, 1, none⟩ = some (.pointer (some ⟨p, 0, none⟩)) := (hw.cell h1 1).trans rfl
  have c2 : w.cell? ⟨sv, 0, none⟩ = some (.int .i64 (refOf i s.count)) := (hw.cell h2 0).trans rfl
  have c3 : w.cell? ⟨av, 0, none⟩ = some (.int .i64 k) := (hw.cell h3 0).trans rfl
  have c4 : w.cell? ⟨p, 0, none⟩ = some (.pointer (some ⟨a, 0, none⟩)) := (hw.cell h4 0).trans rfl
  have hway : ∀ n, Calls Try.prog 12 #[.pointer (some ⟨a, 0, none⟩), .int .i64 (refOf i s.count), .int .i64 k] (w.drewN n) fun e w' => e = .returned (.int .i64 r') ∧ w' = w.drewN n :=
    fun n => (way_at hA hO (hw.drewN n) hi hu hk rfl rfl).mono fun _ _ h => ⟨h.1, h.2.symm⟩
  generalize refOf i s.count = r at *
  have HW := Lib.hid hway
  clear hway hw h1 h2 h3 h4 hA hO hk hi hu
  go_enter Try.func69, Try.ntmps69
  go_wp2_with fail
  go_quiet ((go_at_call 12; exact Calls.quiet_of_same (HW.out _)))
  go_wp2_with fail
  go_ret
  exact ⟨rfl, _, rfl⟩
end Go.Proofs.Ytjkfigkgeoacfaa
