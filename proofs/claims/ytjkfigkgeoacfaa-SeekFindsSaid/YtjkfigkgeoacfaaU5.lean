import Derived.Test.YtjkfigkgeoacfaaU4
set_option linter.unusedVariables false
set_option linter.unusedSimpArgs false
namespace Go.Proofs.Ytjkfigkgeoacfaa
open Go.RowKit Go.Proofs.YtjkfigkgeoacfaaW.PrintLast

/-- A key's value, if it is there. -/
def getL (ps : List (Int × Int)) (k : Int) : Option Int := if (ps.map Prod.fst)[lowN (ps.map Prod.fst) k]? = some k then some (ps.getD (lowN (ps.map Prod.fst) k) (0, 0)).2 else none

set_option maxRecDepth 100000 in
set_option maxHeartbeats 1000000 in
theorem find_any {R : HL} {v : Value} {ps : List (Int × Int)} (hk : Rd R 61 2 v ps.length (pairCells ps)) (hr : (ps.map Prod.fst).Pairwise (· < ·)) (hb : ps.length ≤ 100000) (k : Int) {w : World} (hw : Has w R) :
    Calls Try.prog 53 #[v, .int .i64 k] w fun e w' => e = .returned (.tuple #[.int .i64 (lowN (ps.map Prod.fst) k : Nat), .bool (decide ((ps.map Prod.fst)[lowN (ps.map Prod.fst) k]? = some k))]) ∧ (∃ N, Has w' (N ++ R)) ∧ Ext w w' := by
  have hbs := bsf_any hk hr hb k hw
  have HB := Lib.hid hbs
  clear hbs hk hr hw
  obtain ⟨n, hn⟩ : ∃ n, lowN (ps.map Prod.fst) k = n := ⟨_, rfl⟩
  obtain ⟨f, hf⟩ : ∃ f, decide ((ps.map Prod.fst)[lowN (ps.map Prod.fst) k]? = some k) = f := ⟨_, rfl⟩
  rw [hf, hn] at HB
  rw [hf, hn]
  clear hf hn
  go_enter Try.func53, Try.ntmps53
  go_wp2_with (go_at_call 79; refine HB.out.mono ?_; rintro ed w2 ⟨rfl, ⟨N2, hN2⟩, hE2⟩)
  go_ret2
  exact ⟨rfl, ⟨N2, hN2⟩, hE2⟩

set_option maxRecDepth 100000 in
set_option maxHeartbeats 1000000 in
theorem get_any {R : HL} {v : Value} {ps : List (Int × Int)} (hk : Rd R 61 2 v ps.length (pairCells ps)) (hr : (ps.map Prod.fst).Pairwise (· < ·)) (hb : ps.length ≤ 100000) (k : Int) {w : World} (hw : Has w R) :
    Calls Try.prog 29 #[v, .int .i64 k] w fun e w' => e = .returned (.tuple #[.int .i64 ((getL ps k).getD 0), .bool (getL ps k).isSome]) ∧ (∃ N, Has w' (N ++ R)) ∧ Ext w w' := by
  have hbs := find_any hk hr hb k hw
  obtain ⟨A, cap, rfl, hcap, hfit, _, hc⟩ := hk.form
  by_cases hf : (ps.map Prod.fst)[lowN (ps.map Prod.fst) k]? = some k
  · have hg : getL ps k = some (ps.getD (lowN (ps.map Prod.fst) k) (0, 0)).2 := by unfold getL; rw [if_pos hf]
    rw [hg]
    rw [decide_eq_true hf] at hbs
    have hlt : lowN (ps.map Prod.fst) k < ps.length := by have := (List.getElem?_eq_some_iff.1 hf).1; rwa [List.length_map] at this
    generalize lowN (ps.map Prod.fst) k = n at *
    have hgd : ps.getD n (0, 0) = ps[n] := by simp [hlt]
    rw [hgd]
    obtain ⟨g, off, rfl, _⟩ := hc w R hw (fun q hq => hq) (by omega)
    have hcell : ∀ (w : World) (L : HL), Has w L → (∀ q, q ∈ R → q ∈ L) → w.cell? ⟨g, off + n * 2 + 1, none⟩ = some (.int .i64 ps[n].2) := by
      intro w L h hs
      obtain ⟨g', off', e, hx⟩ := hc w L h hs (by omega)
      cases e
      exact (pair_known (R := R) hx hlt).2
    generalize ps[n] = y at hcell ⊢
    have HB := Lib.hid (And.intro hbs hcell)
    clear hbs hcell hc hf hg hgd hw hk hr
    have hlt2 : (n : Int) < ps.length := by omega
    go_enter Try.func29, Try.ntmps29
    go_wp2_with (go_at_call 53; refine HB.out.1.mono ?_; rintro ed w2 ⟨rfl, ⟨N2, hN2⟩, hE2⟩; have c1 := HB.out.2 w2 _ hN2 (fun q hq => List.mem_append_right _ hq))
    go_ret2
    exact ⟨rfl, ⟨N2, hN2⟩, hE2⟩
  · have hg : getL ps k = none := by unfold getL; rw [if_neg hf]
    rw [hg]
    rw [decide_eq_false hf] at hbs
    generalize lowN (ps.map Prod.fst) k = n at *
    have HB := Lib.hid hbs
    clear hbs hc hf hg hw hk hr
    go_enter Try.func29, Try.ntmps29
    go_wp2_with (go_at_call 53; refine HB.out.mono ?_; rintro ed w2 ⟨rfl, ⟨N2, hN2⟩, hE2⟩)
    go_ret2
    exact ⟨rfl, ⟨N2, hN2⟩, hE2⟩
end Go.Proofs.Ytjkfigkgeoacfaa
