import Derived.Test.YtjkfigkgeoacfaaU3
set_option linter.unusedVariables false
set_option linter.unusedSimpArgs false
namespace Go.Proofs.Ytjkfigkgeoacfaa
open Go.RowKit Go.Proofs.YtjkfigkgeoacfaaW.PrintLast

def cmpV (x k : Int) : Int := if x < k then -1 else if k < x then 1 else 0

set_option maxRecDepth 100000 in
set_option maxHeartbeats 1000000 in
theorem cmp_any {R : HL} {x y k : Int} {w : World} (hw : Has w R) : Calls Try.prog 80 #[.agg #[.int .i64 x, .int .i64 y], .int .i64 k] w fun e w' => e = .returned (.int .i64 (cmpV x k)) ∧ (∃ N, Has w' (N ++ R)) ∧ Ext w w' := by
  have hW := hw.alloc (Obj.cells #[.int .i64 x, .int .i64 y] 61)
  have hE := (Ext.refl w).alloc (Obj.cells #[.int .i64 x, .int .i64 y] 61)
  have c0 : (w.alloc (Obj.cells #[.int .i64 x, .int .i64 y] 61)).cell? ⟨w.heap.size, 0, none⟩ = some (.int .i64 x) := (hW.cell (List.mem_cons_self ..) 0).trans rfl
  have HW := Lib.hid (And.intro hW hE)
  clear hW hE hw
  by_cases h1 : x < k
  · have d1 : decide (x < k) = true := decide_eq_true h1
    go_enter Try.func80, Try.ntmps80
    go_wp2
    go_ret
    exact ⟨by simp [cmpV, h1], ⟨[_], HW.out.1⟩, HW.out.2⟩
  · have d1 : decide (x < k) = false := decide_eq_false h1
    by_cases h2 : k < x
    · have d2 : decide (k < x) = true := decide_eq_true h2
      go_enter Try.func80, Try.ntmps80
      go_wp2
      go_ret
      exact ⟨by simp [cmpV, h1, h2], ⟨[_], HW.out.1⟩, HW.out.2⟩
    · have d2 : decide (k < x) = false := decide_eq_false h2
      go_enter Try.func80, Try.ntmps80
      go_wp2
      go_ret
      exact ⟨by have a1 : ¬ x < k := by omega
                have a2 : ¬ k < x := by omega
                simp [cmpV, a1, a2], ⟨[_], HW.out.1⟩, HW.out.2⟩

theorem pair_known {R : HL} {g off : Nat} {ps : List (Int × Int)} {w : World} (hc : ∀ j u, (pairCells ps)[j]? = some u → w.cell? ⟨g, off + j, none⟩ = some u) {i : Nat} (hi : i < ps.length) :
    w.cell? ⟨g, off + i * 2, none⟩ = some (.int .i64 ps[i].1) ∧ w.cell? ⟨g, off + i * 2 + 1, none⟩ = some (.int .i64 ps[i].2) := by
  have h : ∀ (ps : List (Int × Int)) (i : Nat) (hi : i < ps.length), (pairCells ps)[i * 2]? = some (.int .i64 ps[i].1) ∧ (pairCells ps)[i * 2 + 1]? = some (.int .i64 ps[i].2) := by
    intro ps
    induction ps with
    | nil => intro i hi; simp at hi
    | cons p ps ih =>
      intro i hi
      cases i with
      | zero => simp [pairCells]
      | succ i =>
        have := ih i (by simpa using hi)
        have e1 : (i + 1) * 2 = i * 2 + 1 + 1 := by omega
        have e2 : (i + 1) * 2 + 1 = i * 2 + 1 + 1 + 1 := by omega
        rw [e1]
        simp only [pairCells, List.flatMap_cons] at this ⊢
        simpa using this
  obtain ⟨h0, h1⟩ := h ps i hi
  exact ⟨hc _ _ h0, by rw [Nat.add_assoc]; exact hc _ _ h1⟩

set_option maxRecDepth 100000 in
set_option maxHeartbeats 1000000 in
theorem bsf_any {R : HL} {v : Value} {ps : List (Int × Int)} (hk : Rd R 61 2 v ps.length (pairCells ps)) (hr : (ps.map Prod.fst).Pairwise (· < ·)) (hb : ps.length ≤ 100000) (k : Int) {w : World} (hw : Has w R) :
    Calls Try.prog 79 #[v, .int .i64 k, .func (.func 80) #[] #[]] w fun e w' => e = .returned (.tuple #[.int .i64 (lowN (ps.map Prod.fst) k : Nat), .bool (decide ((ps.map Prod.fst)[lowN (ps.map Prod.fst) k]? = some k))]) ∧ (∃ N, Has w' (N ++ R)) ∧ Ext w w' := by
  obtain ⟨A, cap, rfl, hcap, hfit, _, hc⟩ := hk.form
  have hle := lowN_le (ps.map Prod.fst) k
  rw [List.length_map] at hle
  have HC := Lib.hid (And.intro hc hr)
  clear hc hr hk hfit
  go_enter Try.func79, Try.ntmps79
  go_wp2
  go_loopw [9, 10] (fun i j wr => ∃ a b : Nat, i = .int .i64 a ∧ j = .int .i64 b ∧ a ≤ lowN (ps.map Prod.fst) k ∧ lowN (ps.map Prod.fst) k ≤ b ∧ b ≤ ps.length ∧ (∃ N, Has wr (N ++ R)) ∧ Ext w wr) (fun i j _ => (intOf j).toNat - (intOf i).toNat)
  case atStart => exact ⟨0, ps.length, rfl, rfl, Nat.zero_le _, hle, Nat.le_refl _, ⟨[], hw⟩, Ext.refl w⟩
  case round =>
    obtain ⟨a, b, rfl, rfl, h1, h2, h3, ⟨N, hN⟩, hE⟩ := hrel
    by_cases hab : a < b
    · have hd : decide ((a : Int) < b) = true := decide_eq_true (by omega)
      obtain ⟨g, off, rfl, hx⟩ := HC.out.1 wr _ hN (fun q hq => List.mem_append_right _ hq) (by omega)
      have hm : (a + b) / 2 < ps.length := by omega
      obtain ⟨c0, c1⟩ := pair_known (R := R) hx hm
      have hy : (ps.map Prod.fst)[(a + b) / 2]? = some ps[(a + b) / 2].1 := by simp [hm]
      have hiff := lowN_iff HC.out.2 (k := k) hy
      generalize ps[(a + b) / 2] = y at c0 c1 hiff
      generalize lowN (ps.map Prod.fst) k = n at *
      have hcmp := cmp_any (x := y.1) (y := y.2) (k := k) hN
      have Hcmp := Lib.hid (And.intro hcmp (And.intro hiff hE))
      clear hcmp hx hy hiff hE hN
      by_cases hyk : y.1 < k
      · have hm2 := Hcmp.out.2.1.1 hyk
        have hcv : cmpV y.1 k = -1 := by simp [cmpV, hyk]
        go_wp2_with (go_at_call 80; refine Hcmp.out.1.mono ?_; rw [hcv]; rintro ed w2 ⟨rfl, ⟨N2, hN2⟩, hE2⟩)
        go_roundw
        case rel => exact ⟨(a + b) / 2 + 1, b, by go_num, rfl, by omega, h2, h3, ⟨N2 ++ N, by rw [List.append_assoc]; exact hN2⟩, Hcmp.out.2.2.trans hE2⟩
        case measure => simp [intOf]; omega
      · have hm2 : n ≤ (a + b) / 2 := by
          rcases Nat.lt_or_ge ((a + b) / 2) n with h | h
          · exact absurd (Hcmp.out.2.1.2 h) hyk
          · exact h
        obtain ⟨cv, hcv, hcv0⟩ : ∃ cv, cmpV y.1 k = cv ∧ 0 ≤ cv := ⟨_, rfl, by simp only [cmpV, if_neg hyk]; split <;> omega⟩
        have hdc : decide (cv < 0) = false := decide_eq_false (by omega)
        go_wp2_with (go_at_call 80; refine Hcmp.out.1.mono ?_; rw [hcv]; rintro ed w2 ⟨rfl, ⟨N2, hN2⟩, hE2⟩)
        go_roundw
        case rel => exact ⟨a, (a + b) / 2, rfl, by go_num, h1, hm2, by omega, ⟨N2 ++ N, by rw [List.append_assoc]; exact hN2⟩, Hcmp.out.2.2.trans hE2⟩
        case measure => simp [intOf]; omega
    · have hd : decide ((a : Int) < b) = false := decide_eq_false (by omega)
      have hab' : a = lowN (ps.map Prod.fst) k := by omega
      by_cases han : a < ps.length
      · have hd2 : decide ((a : Int) < ps.length) = true := decide_eq_true (by omega)
        obtain ⟨g, off, rfl, hx⟩ := HC.out.1 wr _ hN (fun q hq => List.mem_append_right _ hq) (by omega)
        obtain ⟨c0, c1⟩ := pair_known (R := R) hx han
        have hg : (ps.map Prod.fst)[lowN (ps.map Prod.fst) k]? = some ps[a].1 := by rw [← hab']; simp [han]
        have hcmp := cmp_any (x := ps[a].1) (y := ps[a].2) (k := k) hN
        have Hg := Lib.hid (And.intro hg (And.intro hab' (And.intro hcmp hE)))
        clear hg hab' hcmp h1 h2 hx hE hN
        generalize ps[a] = y at c0 c1 Hg
        by_cases hyk : y.1 = k
        · have hcv : cmpV y.1 k = 0 := by simp [cmpV, hyk]
          have Hyk := Lib.hid hyk
          clear hyk
          go_wp2_with (go_at_call 80; refine Hg.out.2.2.1.mono ?_; rw [hcv]; rintro ed w2 ⟨rfl, ⟨N2, hN2⟩, hE2⟩)
          go_ret2
          refine ⟨?_, ⟨N2 ++ N, by rw [List.append_assoc]; exact hN2⟩, Hg.out.2.2.2.trans hE2⟩
          rw [Hg.out.1, ← Hg.out.2.1]
          simp [Hyk.out]
        · obtain ⟨cv, hcv, hcv0⟩ : ∃ cv, cmpV y.1 k = cv ∧ ¬ cv = 0 := ⟨_, rfl, by simp only [cmpV]; split <;> (try split) <;> omega⟩
          have hq : (cv == 0) = false := beq_false_of_ne hcv0
          go_wp2_with (go_at_call 80; refine Hg.out.2.2.1.mono ?_; rw [hcv]; rintro ed w2 ⟨rfl, ⟨N2, hN2⟩, hE2⟩)
          go_ret2
          refine ⟨?_, ⟨N2 ++ N, by rw [List.append_assoc]; exact hN2⟩, Hg.out.2.2.2.trans hE2⟩
          rw [Hg.out.1, ← Hg.out.2.1]
          simp [hyk]
      · have hd2 : decide ((a : Int) < ps.length) = false := decide_eq_false (by omega)
        have hg : (ps.map Prod.fst)[lowN (ps.map Prod.fst) k]? = none := List.getElem?_eq_none (by rw [List.length_map]; omega)
        have Hg := Lib.hid (And.intro hg hab')
        clear hg hab' h1 h2
        go_wp2
        go_ret2
        refine ⟨?_, ⟨N, hN⟩, hE⟩
        rw [Hg.out.1, ← Hg.out.2]
        rfl
end Go.Proofs.Ytjkfigkgeoacfaa
