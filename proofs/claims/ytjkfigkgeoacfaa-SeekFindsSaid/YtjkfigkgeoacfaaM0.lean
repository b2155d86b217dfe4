import Derived.Test.YtjkfigkgeoacfaaV2
import Derived.Test.YtjkfigkgeoacfaaQ5
import Derived.Test.YtjkfigkgeoacfaaL1
set_option linter.unusedVariables false
set_option linter.unusedSimpArgs false
namespace Go.Proofs.Ytjkfigkgeoacfaa
open Go.RowKit Go.Proofs.YtjkfigkgeoacfaaW.PrintLast

theorem ShRep.rds {R : HL} {s : Sh} {Ap : Option Addr} {cp : Nat} {Ak : Option Addr} {ck : Nat} {Ac : Option Addr} {cc : Nat} (h : ShRep R (shCells s Ap cp Ak ck Ac cc) s) :
    Rd R 61 2 (.slice Ap s.pairs.length cp) s.pairs.length (pairCells s.pairs) ∧ Rd R 2 1 (.slice Ak s.keys.length ck) s.keys.length (ints s.keys) ∧ ∃ css, Rd R 31 5 (.slice Ac s.kids.length cc) s.kids.length css.flatten ∧ ShRows R css s.kids := by
  cases s with
  | mk l t ps ks kids =>
    cases h with
    | @mk _ _ _ _ _ _ _ _ css hp hk hc hl hs => exact ⟨hp, hk, css, hc, hl, hs⟩

set_option maxRecDepth 100000 in
set_option maxHeartbeats 1000000 in
theorem shWay_any {s : Sh} {R : HL} {cs : List Value} (hs : ShRep R cs s) (hb : s.keys.length ≤ 100000) (key : Int) {w : World} (hw : Has w R) :
    Calls Try.prog 13 #[.agg cs.toArray, .int .i64 key] w fun e w' => e = .returned (.int .i64 (wayN s.keys key : Nat)) ∧ (∃ N, Has w' (N ++ R)) ∧ Ext w w' := by
  obtain ⟨Ap, cp, Ak, ck, Ac, cc, rfl⟩ := hs.shape
  have hk := hs.rds.2.1
  show Calls Try.prog 13 #[.agg #[.bool s.leaf, .bool s.tagged, .slice Ap s.pairs.length cp, .slice Ak s.keys.length ck, .slice Ac s.kids.length cc], .int .i64 key] w _
  have hW := hw.alloc (shO s.leaf s.tagged (.slice Ap s.pairs.length cp) (.slice Ak s.keys.length ck) (.slice Ac s.kids.length cc))
  have hE := (Ext.refl w).alloc (shO s.leaf s.tagged (.slice Ap s.pairs.length cp) (.slice Ak s.keys.length ck) (.slice Ac s.kids.length cc))
  obtain ⟨q0, q1, q2, q3, q4⟩ := hW.five (b := w.heap.size) (l := s.leaf) (t := s.tagged) (p := .slice Ap s.pairs.length cp) (k := .slice Ak s.keys.length ck) (c := .slice Ac s.kids.length cc) (List.mem_cons_self ..)
  obtain ⟨A', cap', he, _, _, hcell⟩ := hk.cons.cells hW
  cases he
  have HW := Lib.hid (And.intro hW hE)
  clear hW hE hw hs hk
  generalize hks : s.keys = ks at *
  go_enter Try.func13, Try.ntmps13
  go_wp2
  obtain ⟨hW, hE⟩ := HW.out
  generalize hEq : World.alloc _ _ = W1 at *
  clear HW q0 q1 q2 q3 q4
  go_loopw [5, 11] (fun n i wr => ∃ k : Nat, k ≤ ks.length ∧ i = .int .i64 k ∧ n = .int .i64 (wayN (ks.take k) key : Nat) ∧ wr = W1) (fun _ i _ => ks.length - (intOf i).toNat)
  case atStart => exact ⟨0, Nat.zero_le _, rfl, rfl, rfl⟩
  case round =>
    obtain ⟨k, hk, rfl, rfl, rfl⟩ := hrel
    by_cases hlt : k < ks.length
    · have hd : decide ((k : Int) < ks.length) = true := decide_eq_true (by omega)
      obtain ⟨g, off, rfl, hgl, hx⟩ := hcell (by omega)
      have hcx := hx k (.int .i64 ks[k]) (by simp [ints, hlt])
      have hle : wayN (ks.take k) key ≤ k := by have := wayN_le (ks.take k) key; rw [List.length_take] at this; omega
      have hst : wayN (ks.take (k + 1)) key = wayN (ks.take k) key + if ks[k] ≤ key then 1 else 0 := by
        rw [List.take_succ_eq_append_getElem hlt]
        simp only [wayN, List.countP_append, List.countP_cons, List.countP_nil, decide_eq_true_eq, Nat.zero_add]
      have Hst := Lib.hid hst
      clear hst hx
      generalize ks[k] = y at hcx Hst
      by_cases hy : y ≤ key
      · have hdy : decide (y ≤ key) = true := decide_eq_true hy
        go_wp2
        go_roundw
        case rel => exact ⟨k + 1, hlt, by go_num, by rw [Hst.out, if_pos hy]; go_num, trivial⟩
        case measure => simp [intOf]; omega
      · have hdy : decide (y ≤ key) = false := decide_eq_false hy
        go_wp2
        go_roundw
        case rel => exact ⟨k + 1, hlt, by go_num, by rw [Hst.out, if_neg hy]; go_num, trivial⟩
        case measure => simp [intOf]; omega
    · have hd : decide ((k : Int) < ks.length) = false := decide_eq_false (by omega)
      have hkk : k = ks.length := by omega
      go_wp2
      go_ret
      rw [hkk, List.take_length]
      exact ⟨rfl, ⟨[_], hW⟩, hE⟩

set_option maxRecDepth 100000 in
set_option maxHeartbeats 1000000 in
theorem faults_any {R R2 : HL} {a : Nat} {A : AArena} {L : HL} (hA : ArenaRep R a A L) {w : World} (hw : Has w (L ++ R2)) :
    Calls Try.prog 16 #[.pointer (some ⟨a, 0, none⟩)] w fun e w' => e = .returned (.int .i64 A.faults) ∧ w = w' := by
  obtain ⟨sv, fv, css, L1, L2, L3, rfl, _⟩ := hA
  have c4 := (hw.cell (b := a) (c := #[sv, fv, .int .i64 A.most, .int .i64 A.used, .int .i64 A.faults]) (t := 98) (fr := (0, 0)) (by simp) 4).trans (show _ = some (.int .i64 A.faults) from rfl)
  clear hw
  go_enter Try.func16, Try.ntmps16
  go_wp2
  go_ret
  exact ⟨rfl, rfl⟩

set_option maxRecDepth 100000 in
set_option maxHeartbeats 1000000 in
theorem wide_any {b : Int} (h0 : 0 ≤ b) (h1 : b < 256) (w : World) : Calls Try.prog 10 #[.int .u8 b] w fun e w' => e = .returned (.int .i64 (3 + b.toNat % 6 : Nat)) ∧ w = w' := by
  obtain ⟨n, rfl⟩ : ∃ n : Nat, b = n := ⟨b.toNat, by omega⟩
  go_enter Try.func10, Try.ntmps10
  go_wp2
  go_ret
  refine ⟨?_, rfl⟩
  show Ending.returned (.int .i64 (3 + (n : Int) % 6)) = _
  simp

def lightB (p : Pl) : Bool := decide (p.keys.length ≤ 50) && decide (p.sizes.length ≤ 30) && decide (p.keeps.length ≤ 30) && decide (p.groups.length ≤ 30) && decide (p.tags.length ≤ 30)
set_option maxRecDepth 100000 in
set_option maxHeartbeats 1000000 in
theorem light_any {p : Pl} {Ak As Ae Ag At : Option Addr} {ck cs ce cg ct : Nat} {R : HL} {w : World} (hw : Has w R) :
    Calls Try.prog 8 #[.agg #[.slice Ak p.keys.length ck, .slice As p.sizes.length cs, .slice Ae p.keeps.length ce, .slice Ag p.groups.length cg, .slice At p.tags.length ct]] w fun e w' => e = .returned (.bool (lightB p)) ∧ (∃ N, Has w' (N ++ R)) ∧ Ext w w' := by
  have hW := hw.alloc (planO (.slice Ak p.keys.length ck) (.slice As p.sizes.length cs) (.slice Ae p.keeps.length ce) (.slice Ag p.groups.length cg) (.slice At p.tags.length ct))
  have hE := (Ext.refl w).alloc (planO (.slice Ak p.keys.length ck) (.slice As p.sizes.length cs) (.slice Ae p.keeps.length ce) (.slice Ag p.groups.length cg) (.slice At p.tags.length ct))
  obtain ⟨q0, q1, q2, q3, q4⟩ := hW.plan (b := w.heap.size) (List.mem_cons_self ..)
  have HW := Lib.hid (And.intro hW hE)
  clear hW hE hw
  by_cases h1 : p.keys.length ≤ 50
  · have d1 : decide ((p.keys.length : Int) ≤ 50) = true := decide_eq_true (by omega)
    by_cases h2 : p.sizes.length ≤ 30
    · have d2 : decide ((p.sizes.length : Int) ≤ 30) = true := decide_eq_true (by omega)
      by_cases h3 : p.keeps.length ≤ 30
      · have d3 : decide ((p.keeps.length : Int) ≤ 30) = true := decide_eq_true (by omega)
        by_cases h4 : p.groups.length ≤ 30
        · have d4 : decide ((p.groups.length : Int) ≤ 30) = true := decide_eq_true (by omega)
          go_enter Try.func8, Try.ntmps8
          go_wp2
          go_ret
          exact ⟨by (simp [lightB, h1, h2, h3, h4]; try omega), ⟨[_], HW.out.1⟩, HW.out.2⟩
        · have d4 : decide ((p.groups.length : Int) ≤ 30) = false := decide_eq_false (by omega)
          go_enter Try.func8, Try.ntmps8
          go_wp2
          go_ret
          exact ⟨by simp [lightB, h1, h2, h3, h4], ⟨[_], HW.out.1⟩, HW.out.2⟩
      · have d3 : decide ((p.keeps.length : Int) ≤ 30) = false := decide_eq_false (by omega)
        go_enter Try.func8, Try.ntmps8
        go_wp2
        go_ret
        exact ⟨by simp [lightB, h1, h2, h3], ⟨[_], HW.out.1⟩, HW.out.2⟩
    · have d2 : decide ((p.sizes.length : Int) ≤ 30) = false := decide_eq_false (by omega)
      go_enter Try.func8, Try.ntmps8
      go_wp2
      go_ret
      exact ⟨by simp [lightB, h1, h2], ⟨[_], HW.out.1⟩, HW.out.2⟩
  · have d1 : decide ((p.keys.length : Int) ≤ 50) = false := decide_eq_false (by omega)
    go_enter Try.func8, Try.ntmps8
    go_wp2
    go_ret
    exact ⟨by simp [lightB, h1], ⟨[_], HW.out.1⟩, HW.out.2⟩
end Go.Proofs.Ytjkfigkgeoacfaa
