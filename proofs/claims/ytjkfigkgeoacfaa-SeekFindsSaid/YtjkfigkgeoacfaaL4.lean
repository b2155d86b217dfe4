import Derived.Test.YtjkfigkgeoacfaaL3
set_option linter.unusedVariables false
set_option linter.unusedSimpArgs false
namespace Go.Proofs.Ytjkfigkgeoacfaa
open Go.RowKit

theorem PathA.swap {A : AArena} {key r : Int} {st : Int × ANode × Nat} {ss1 : List (Int × ANode × Nat)} {r0 : Int} {ts1 : List Int} (h1 : PathA A key r (st :: ss1) (r0 :: ts1)) {ss : List (Int × ANode × Nat)} {ts : List Int} (h2 : PathA A key r0 ss ts) : PathA A key r (st :: ss) (r0 :: ts) := by
  cases h1 with
  | node h hu hi hr hkb hl hw h0 t => exact .node h hu hi hr hkb hl hw h0 h2
/-- The way in a planted world to the leaf that a key belongs to. -/
theorem planted_leaf {a b : Int} {threads : Nat} {s : Sh} {records : Int} (hs : s.Small) (hm : s.many ≤ 8000) {B h : Nat} (hB : B ≤ 8) {lo hi : Option Int} (hg : Good B h lo hi s) (key : Int) :
    ∃ (ss : List (Int × ANode × Nat)) (ts : List Int) (d : Nat) (up at_ : Int × ANode × Nat), PathA (plantedWorld a b threads s 0 records).arena key (refOf 1 1) ss ts ∧ ts.length ≤ 19999 ∧ max ts.length 1 ≤ 1 + s.deep ∧ ss.length = d + 2 ∧ ss[d]? = some up ∧ ss[d + 1]? = some at_ ∧
      (∃ (i : Nat) (sl : ASlot), (plantedWorld a b threads s 0 records).arena.slots[i]? = some sl ∧ sl.used = true ∧ up.1 = refOf i sl.count ∧ sl.node = up.2.1 ∧ sl.node.inner = true ∧ sl.ways[up.2.2]? = some at_.1) ∧
      (∃ (i : Nat) (sl : ASlot), (plantedWorld a b threads s 0 records).arena.slots[i]? = some sl ∧ sl.used = true ∧ at_.1 = refOf i sl.count ∧ sl.node = at_.2.1 ∧ sl.node.inner = false) ∧
      (at_.2.1.pairs.map Prod.fst).Pairwise (· < ·) ∧ at_.2.1.pairs.length ≤ 100000 ∧ (∀ p ∈ s.all, p.1 = key → p ∈ at_.2.1.pairs) ∧ (∀ p ∈ at_.2.1.pairs, p ∈ s.all) := by
  obtain ⟨r0, sl, _, _, hs1, hu1, hc1, hw1, hP1, _, _, _, hin⟩ := planted_path (a := a) (b := b) (threads := threads) (records := records) hs (by omega) hg key
  have hok := planted_ok (a := a) (b := b) (threads := threads) (records := records) hs (by omega)
  obtain ⟨hr0, ss, ts, l, st, hP, hL, hlt, hlast, hpl⟩ := inT_leaf hok key hin hg
  obtain ⟨g1, g2, g3, g4, g5⟩ := leafAt_all hL hg
  have hfull : PathA (plantedWorld a b threads s 0 records).arena key (refOf 1 1) ((refOf 1 1, entryNode (refOf 0 1), 0) :: ss) (r0 :: ts) := hP1.swap hP
  obtain ⟨d, hd⟩ : ∃ d, ss.length = d + 1 := by
    cases ss with
    | nil => simp at hlast
    | cons x xs => exact ⟨xs.length, rfl⟩
  obtain ⟨up, at_, e1, e2, e3, e4⟩ := path_last hfull (d := d) (by simp [hd])
  have hat : at_ = st := by
    have h1 : ((refOf 1 1, entryNode (refOf 0 1), 0) :: ss)[d + 1]? = ss[d]? := by simp
    rw [h1] at e2
    rw [List.getLast?_eq_getElem?, hd] at hlast
    simp only [Nat.add_sub_cancel] at hlast
    rw [hlast] at e2
    exact (Option.some.inj e2).symm
  have hp2 : at_.2.1.pairs = l.pairs := by rw [hat]; exact hpl
  refine ⟨_, _, d, up, at_, hfull, ?_, ?_, by simp [hd], e1, e2, e3, e4, ?_, ?_, ?_, ?_⟩
  · simp only [List.length_cons]; omega
  · simp only [List.length_cons]; omega
  · rw [hp2]; exact g4
  · rw [hp2]; omega
  · rw [hp2]; exact g1
  · rw [hp2]; exact g2

theorem Good.all_len {b h : Nat} {lo hi : Option Int} {s : Sh} (hg : Good b h lo hi s) : s.all.length ≤ b * s.many := by
  induction hg with
  | leaf hb hr hin => simp [Sh.all, Sh.allK, Sh.many, Sh.manyL]; exact hb
  | @node h fr tb t ks kids hb hl hr hin hk ih =>
    simp only [Sh.all, Sh.many, List.nil_append]
    have : ∀ ls : List Sh, (∀ k ∈ ls, k ∈ kids) → (Sh.allK ls).length ≤ b * Sh.manyL ls := by
      intro ls
      induction ls with
      | nil => intro _; simp [Sh.allK]
      | cons x xs ih2 =>
        intro hm
        obtain ⟨i, hi⟩ := List.getElem?_of_mem (hm x (List.mem_cons_self ..))
        have h1 := ih i x hi
        have h2 := ih2 fun k hk => hm k (List.mem_cons_of_mem _ hk)
        simp only [Sh.allK, Sh.manyL, List.length_append, Nat.mul_add]
        omega
    have h1 := this kids fun _ h => h
    rw [Nat.mul_add]
    omega
/-- A key's value in a tree, or that it isn't there. -/
theorem first_of {ps : List (Int × Int)} {k : Int} (h : ∃ p ∈ ps, p.1 = k) : ∃ (j : Nat) (x : Int), ps[j]? = some (k, x) ∧ ∀ i (hi : i < ps.length), i < j → ps[i].1 ≠ k := by
  induction ps with
  | nil => obtain ⟨p, hp, _⟩ := h; cases hp
  | cons y ys ih =>
    by_cases hy : y.1 = k
    · exact ⟨0, y.2, by simp [← hy], fun i hi h0 => absurd h0 (by omega)⟩
    · obtain ⟨p, hp, hpk⟩ := h
      rcases List.mem_cons.1 hp with rfl | hp
      · exact absurd hpk hy
      · obtain ⟨j, x, h1, h2⟩ := ih ⟨p, hp, hpk⟩
        refine ⟨j + 1, x, by simpa using h1, fun i hi hij => ?_⟩
        cases i with
        | zero => simpa using hy
        | succ i => simpa using h2 i (by simpa using hi) (by omega)
end Go.Proofs.Ytjkfigkgeoacfaa
