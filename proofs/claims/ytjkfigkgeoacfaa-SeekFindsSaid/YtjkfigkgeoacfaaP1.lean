import Derived.Test.YtjkfigkgeoacfaaP0
set_option linter.unusedVariables false
set_option linter.unusedSimpArgs false
namespace Go.Proofs.Ytjkfigkgeoacfaa
open Go.RowKit

def refOf (p c : Int) : Int := bits BinOp.or IntKind.i64 (wrap64 (wrap64 (bits BinOp.and IntKind.u32 c 8388607) * 1099511627776)) (bits BinOp.and IntKind.i64 (wrap64 (p + 1)) 1099511627775)
def place (r : Int) : Int := wrap64 (bits BinOp.and IntKind.i64 r 1099511627775 - 1)

set_option maxHeartbeats 400000 in
theorem of_any (p : Int) (c : Int) (w : World) :
    Calls Try.prog 34 #[.int .i64 p, .int .u32 c] w fun e w' => e = .returned (.int .i64 (refOf p c)) ∧ w = w' := by
  go_enter Try.func34, Try.ntmps34
  go_wp2
  go_ret
  exact ⟨rfl, rfl⟩
set_option maxHeartbeats 400000 in
theorem place_any (r : Int) (w : World) :
    Calls Try.prog 65 #[.int .i64 r] w fun e w' => e = .returned (.int .i64 (place r)) ∧ w = w' := by
  go_enter Try.func65, Try.ntmps65
  go_wp2
  go_ret
  exact ⟨rfl, rfl⟩

set_option maxHeartbeats 400000 in
theorem at_raw (a g off : Nat) (n cap : Nat) (r : Int) (i : Nat) (c : Int) (w : World)
   (hi : place r = i) (hn : i < n) (hnn : n ≤ 70000)
   (ha : w.cell? ⟨a, 0, none⟩ = some (.slice (some ⟨g, off, none⟩) n cap))
   (hu : w.cell? ⟨g, off + i * 10 + 9, none⟩ = some (.bool true))
   (hc : w.cell? ⟨g, off + i * 10 + 8, none⟩ = some (.int .u32 c)) (hr : (refOf i c == r) = true) :
    Calls Try.prog 40 #[.pointer (some ⟨a, 0, none⟩), .int .i64 r] w fun e w' => e = .returned (.pointer (some ⟨g, off + i * 10, none⟩)) ∧ w = w' := by
  go_enter Try.func40, Try.ntmps40
  go_wp2_with (first | (go_at_call 65; refine (place_any _ _).mono ?_; rintro e w' ⟨rfl, rfl⟩; rw [hi]) | (go_at_call 34; refine (of_any _ _ _).mono ?_; rintro e w' ⟨rfl, rfl⟩))
  go_ret
  exact ⟨rfl, rfl⟩

set_option maxHeartbeats 400000 in
theorem way_raw (a g off : Nat) (n cap : Nat) (r : Int) (i : Nat) (c : Int) (w : World) (yg yoff m mc k : Nat) (x : Int)
   (hi : place r = i) (hn : i < n) (hnn : n ≤ 70000)
   (ha : w.cell? ⟨a, 0, none⟩ = some (.slice (some ⟨g, off, none⟩) n cap))
   (hu : w.cell? ⟨g, off + i * 10 + 9, none⟩ = some (.bool true))
   (hc : w.cell? ⟨g, off + i * 10 + 8, none⟩ = some (.int .u32 c)) (hr : (refOf i c == r) = true)
   (hy : w.cell? ⟨g, off + i * 10 + 5, none⟩ = some (.slice (some ⟨yg, yoff, none⟩) m mc))
   (hk : k < m) (hmm : m ≤ 70000) (hx : w.cell? ⟨yg, yoff + k, none⟩ = some (.int .i64 x)) :
    Calls Try.prog 12 #[.pointer (some ⟨a, 0, none⟩), .int .i64 r, .int .i64 k] w fun e w' => e = .returned (.int .i64 x) ∧ w = w' := by
  go_enter Try.func12, Try.ntmps12
  go_wp2_with (go_at_call 40; refine (at_raw a g off n cap _ i c _ hi hn hnn ha hu hc hr).mono ?_; rintro e w' ⟨rfl, rfl⟩)
  go_ret
  exact ⟨rfl, rfl⟩

set_option maxHeartbeats 400000 in
theorem swapway_raw (a g off : Nat) (n cap : Nat) (r : Int) (i : Nat) (c : Int) (w : World) (yg yoff m mc k : Nat) (x old now : Int)
   (hi : place r = i) (hn : i < n) (hnn : n ≤ 70000)
   (ha : w.cell? ⟨a, 0, none⟩ = some (.slice (some ⟨g, off, none⟩) n cap))
   (hu : w.cell? ⟨g, off + i * 10 + 9, none⟩ = some (.bool true))
   (hc : w.cell? ⟨g, off + i * 10 + 8, none⟩ = some (.int .u32 c)) (hr : (refOf i c == r) = true)
   (hy : w.cell? ⟨g, off + i * 10 + 5, none⟩ = some (.slice (some ⟨yg, yoff, none⟩) m mc))
   (hk : k < m) (hmm : m ≤ 70000) (hx : w.cell? ⟨yg, yoff + k, none⟩ = some (.int .i64 x)) (hf : w.frozen? ⟨yg, yoff + k, none⟩ = false) :
    Calls Try.prog 62 #[.pointer (some ⟨a, 0, none⟩), .int .i64 r, .int .i64 k, .int .i64 old, .int .i64 now] w fun e w' =>
      e = .returned (.bool (x == old)) ∧ w' = if x == old then w.setCell ⟨yg, yoff + k, none⟩ (.int .i64 now) else w := by
  cases hxo : (x == old) with
  | true =>
    have hxn : (x != old) = false := by simpa [bne] using hxo
    go_enter Try.func62, Try.ntmps62
    go_wp2_with (go_at_call 40; refine (at_raw a g off n cap _ i c _ hi hn hnn ha hu hc hr).mono ?_; rintro e w' ⟨rfl, rfl⟩)
    go_ret
    exact ⟨rfl, rfl⟩
  | false =>
    have hxn : (x != old) = true := by simpa [bne] using hxo
    go_enter Try.func62, Try.ntmps62
    go_wp2_with (go_at_call 40; refine (at_raw a g off n cap _ i c _ hi hn hnn ha hu hc hr).mono ?_; rintro e w' ⟨rfl, rfl⟩)
    go_ret
    exact ⟨rfl, rfl⟩
end Go.Proofs.Ytjkfigkgeoacfaa
