import Derived.Test.YtjkfigkgeoacfaaQ4
set_option linter.unusedVariables false
set_option linter.unusedSimpArgs false
namespace Go.Proofs.Ytjkfigkgeoacfaa
open Go.RowKit

/-! What a plan's tree is: its keys rise and stand in their places, its leaves lie as deep but for tagged nodes, no node has more than b entries. -/
def fromO (fr : Option Int) (k : Int) : Prop := ∀ x, fr = some x → x ≤ k
def aboveO (fr : Option Int) (k : Int) : Prop := ∀ x, fr = some x → x < k
def belowO (tb : Option Int) (k : Int) : Prop := ∀ x, tb = some x → k < x
def lowB (fr : Option Int) (ks : List Int) (i : Nat) : Option Int := if i = 0 then fr else ks[i - 1]?
def highB (tb : Option Int) (ks : List Int) (i : Nat) : Option Int := if i < ks.length then ks[i]? else tb

inductive Good (b : Nat) : Nat → Option Int → Option Int → Sh → Prop
  | leaf {fr tb : Option Int} {ps : List (Int × Int)} (hb : ps.length ≤ b) (hr : (ps.map Prod.fst).Pairwise (· < ·)) (hin : ∀ p ∈ ps, fromO fr p.1 ∧ belowO tb p.1) : Good b 0 fr tb (.mk true false ps [] [])
  | node {h : Nat} {fr tb : Option Int} {t : Bool} {ks : List Int} {kids : List Sh} (hb : kids.length ≤ b) (hl : ks.length + 1 = kids.length) (hr : ks.Pairwise (· < ·)) (hin : ∀ k ∈ ks, aboveO fr k ∧ belowO tb k)
    (hk : ∀ (i : Nat) (k : Sh), kids[i]? = some k → Good b h (lowB fr ks i) (highB tb ks i) k) : Good b (if t then h else h + 1) fr tb (.mk false t [] ks kids)

theorem Good.any {b h : Nat} {fr tb : Option Int} {s : Sh} (hg : Good b h fr tb s) : Good b h none tb s := by
  induction hg with
  | leaf hb hr hin => exact .leaf hb hr fun p hp => ⟨fun x hx => by (cases hx), (hin p hp).2⟩
  | @node h fr tb t ks kids hb hl hr hin hk ih =>
    refine .node hb hl hr (fun k hk' => ⟨fun x hx => by (cases hx), (hin k hk').2⟩) fun i k hi => ?_
    by_cases h0 : i = 0
    · have := ih i k hi
      simpa [lowB, h0] using this
    · have := hk i k hi
      simpa [lowB, h0] using this

/-- With two kids side by side below a tagged one. -/
theorem Good.tagged {b h : Nat} {fr tb : Option Int} {s : Sh} (hg : Good b h fr tb s) (ht : s.tagged = false) (j : Nat) : Good b h fr tb (taggedS s j) ∧ (taggedS s j).tagged = false := by
  unfold taggedS
  split
  · exact ⟨hg, ht⟩
  · rename_i h3
    cases hg with
    | leaf hb hr hin => simp [Sh.kids] at h3
    | @node h fr tb t ks kids hb hl hr hin hk =>
      simp only [Sh.tagged] at ht
      subst ht
      simp only [Sh.kids, Sh.keys] at h3 ⊢
      refine ⟨?_, rfl⟩
      have hi : min j (kids.length - 2) + 2 ≤ kids.length := by omega
      generalize min j (kids.length - 2) = i at hi ⊢
      have hik : i < ks.length := by omega
      have hmem : ks[i] ∈ ks := List.getElem_mem hik
      have hgd : ks.getD i 0 = ks[i] := by simp [hik]
      have e1 : ks[i]? = some ks[i] := List.getElem?_eq_getElem hik
      refine Good.node (h := h) (t := false) ?_ ?_ ?_ ?_ ?_
      · simp only [List.length_append, List.length_take, List.length_drop, List.length_cons, List.length_nil]; omega
      · simp only [List.length_append, List.length_take, List.length_drop, List.length_cons, List.length_nil]; omega
      · have : (ks.take i ++ ks.drop (i + 1)).Sublist ks := by
          have h2 := List.Sublist.append (List.Sublist.refl (ks.take i)) (List.drop_sublist_drop_left ks (Nat.le_succ i))
          rwa [List.take_append_drop] at h2
        exact hr.sublist this
      · intro k hkm
        refine hin k ?_
        rcases List.mem_append.1 hkm with hm | hm
        · exact List.mem_of_mem_take hm
        · exact List.mem_of_mem_drop hm
      · intro n k hn
        have hpw : ∀ (x y : Nat) (p q : Int), x < y → ks[x]? = some p → ks[y]? = some q → p < q := by
          intro x y p q hxy hx hy
          obtain ⟨hx1, hx2⟩ := List.getElem?_eq_some_iff.1 hx
          obtain ⟨hy1, hy2⟩ := List.getElem?_eq_some_iff.1 hy
          have := List.pairwise_iff_getElem.1 hr x y hx1 hy1 hxy
          rw [hx2, hy2] at this
          exact this
        rcases Nat.lt_trichotomy n i with hlt | heq | hgt
        · have hn' : kids[n]? = some k := by
            rw [List.append_assoc, List.getElem?_append_left (by rw [List.length_take]; omega), List.getElem?_take, if_pos hlt] at hn
            exact hn
          have hg := hk n k hn'
          have el : lowB fr (ks.take i ++ ks.drop (i + 1)) n = lowB fr ks n := by
            unfold lowB
            split
            · rfl
            · rw [List.getElem?_append_left (by rw [List.length_take]; omega), List.getElem?_take, if_pos (by omega)]
          have eh : highB tb (ks.take i ++ ks.drop (i + 1)) n = highB tb ks n := by
            unfold highB
            rw [if_pos (by simp only [List.length_append, List.length_take, List.length_drop]; omega), if_pos (by omega), List.getElem?_append_left (by rw [List.length_take]; omega), List.getElem?_take, if_pos hlt]
          rw [el, eh]
          exact hg
        · subst heq
          have hn' : k = .mk false true [] [ks.getD n 0] ((kids.drop n).take 2) := by
            rw [List.append_assoc, List.getElem?_append_right (by rw [List.length_take]; omega)] at hn
            have e : n - (kids.take n).length = 0 := by rw [List.length_take]; omega
            rw [e] at hn
            simpa using hn.symm
          subst hn'
          have el : lowB fr (ks.take n ++ ks.drop (n + 1)) n = lowB fr ks n := by
            unfold lowB
            split
            · rfl
            · rw [List.getElem?_append_left (by rw [List.length_take]; omega), List.getElem?_take, if_pos (by omega)]
          have eh : highB tb (ks.take n ++ ks.drop (n + 1)) n = highB tb ks (n + 1) := by
            unfold highB
            by_cases hq : n + 1 < ks.length
            · rw [if_pos (by simp only [List.length_append, List.length_take, List.length_drop]; omega), if_pos hq, List.getElem?_append_right (by rw [List.length_take]; omega)]
              have e : n - (ks.take n).length = 0 := by rw [List.length_take]; omega
              rw [e, List.getElem?_drop]
            · rw [if_neg (by simp only [List.length_append, List.length_take, List.length_drop]; omega), if_neg hq]
          rw [el, eh, hgd]
          refine Good.node (h := h) (t := true) ?_ ?_ ?_ ?_ ?_
          · rw [List.length_take, List.length_drop]; omega
          · rw [List.length_take, List.length_drop]; simp only [List.length_cons, List.length_nil]; omega
          · simp
          · intro q hq
            have hq : q = ks[n] := by simpa using hq
            subst hq
            refine ⟨fun x hx => ?_, fun x hx => ?_⟩
            · unfold lowB at hx
              split at hx
              · exact (hin _ hmem).1 x hx
              · exact hpw (n - 1) n x _ (by omega) hx e1
            · unfold highB at hx
              split at hx
              · exact hpw n (n + 1) _ x (by omega) e1 hx
              · exact (hin _ hmem).2 x hx
          · intro m q hm
            rw [List.getElem?_take] at hm
            split at hm
            · rename_i hm2
              rw [List.getElem?_drop] at hm
              have hg := hk (n + m) q hm
              rcases (show m = 0 ∨ m = 1 by omega) with rfl | rfl
              · have a1 : lowB (lowB fr ks n) [ks[n]] 0 = lowB fr ks (n + 0) := by simp [lowB]
                have a2 : highB (highB tb ks (n + 1)) [ks[n]] 0 = highB tb ks (n + 0) := by simp [highB, hik]
                rw [a1, a2]; exact hg
              · have a1 : lowB (lowB fr ks n) [ks[n]] 1 = lowB fr ks (n + 1) := by simp [lowB, hik]
                have a2 : highB (highB tb ks (n + 1)) [ks[n]] 1 = highB tb ks (n + 1) := by simp [highB]
                rw [a1, a2]; exact hg
            · cases hm
        · have hn' : kids[n + 1]? = some k := by
            rw [List.getElem?_append_right (by simp only [List.length_append, List.length_take, List.length_cons, List.length_nil]; omega), List.getElem?_drop] at hn
            have e : i + 2 + (n - (kids.take i ++ [Sh.mk false true [] [ks.getD i 0] ((kids.drop i).take 2)]).length) = n + 1 := by
              simp only [List.length_append, List.length_take, List.length_cons, List.length_nil]; omega
            rw [e] at hn
            exact hn
          have hg := hk (n + 1) k hn'
          have hnl := (List.getElem?_eq_some_iff.1 hn').1
          have el : lowB fr (ks.take i ++ ks.drop (i + 1)) n = lowB fr ks (n + 1) := by
            unfold lowB
            rw [if_neg (by omega), if_neg (by omega), List.getElem?_append_right (by rw [List.length_take]; omega), List.getElem?_drop]
            have e : i + 1 + (n - 1 - (ks.take i).length) = n + 1 - 1 := by rw [List.length_take]; omega
            rw [e]
          have eh : highB tb (ks.take i ++ ks.drop (i + 1)) n = highB tb ks (n + 1) := by
            unfold highB
            by_cases hq : n + 1 < ks.length
            · rw [if_pos (by simp only [List.length_append, List.length_take, List.length_drop]; omega), if_pos hq, List.getElem?_append_right (by rw [List.length_take]; omega), List.getElem?_drop]
              have e : i + 1 + (n - (ks.take i).length) = n + 1 := by rw [List.length_take]; omega
              rw [e]
            · rw [if_neg (by simp only [List.length_append, List.length_take, List.length_drop]; omega), if_neg hq]
          rw [el, eh]
          exact hg

/-- A row of trees that lie side by side, with the keys at which they begin. -/
structure RowGood (b h : Nat) (row : List Sh) (firsts : List Int) : Prop where
  len : firsts.length = row.length
  rise : firsts.Pairwise (· < ·)
  good : ∀ (j : Nat) (k : Sh), row[j]? = some k → Good b h firsts[j]? firsts[j + 1]? k

theorem RowGood.cons {b h : Nat} {row : List Sh} {firsts : List Int} (hr : RowGood b h row firsts) {k : Sh} {x : Int} (hg : Good b h (some x) firsts[0]? k) (hx : ∀ y, firsts[0]? = some y → x < y) : RowGood b h (k :: row) (x :: firsts) := by
  refine ⟨by simp [hr.len], List.pairwise_cons.2 ⟨fun y hy => ?_, hr.rise⟩, fun j q hj => ?_⟩
  · cases firsts with
    | nil => cases hy
    | cons z zs =>
      have h0 := hx z rfl
      rcases List.mem_cons.1 hy with rfl | hy
      · exact h0
      · have := (List.pairwise_cons.1 hr.rise).1 y hy
        omega
  · cases j with
    | zero =>
      have : k = q := by simpa using hj
      subst this
      simpa using hg
    | succ j => simpa using hr.good j q (by simpa using hj)
theorem RowGood.drop {b h : Nat} {row : List Sh} {firsts : List Int} (hr : RowGood b h row firsts) (n : Nat) : RowGood b h (row.drop n) (firsts.drop n) := by
  refine ⟨by simp [hr.len], hr.rise.sublist (List.drop_sublist _ _), fun j k hj => ?_⟩
  rw [List.getElem?_drop] at hj ⊢
  rw [List.getElem?_drop]
  exact hr.good _ k hj

theorem leavesL_first (p : Pl) (b : Nat) : ∀ (f i : Nat) (l : List (Int × Int)), l.length ≤ f → (leavesL p b f i l).2[0]? = (l.head?).map Prod.fst := by
  intro f i l hf
  cases f with
  | zero => have : l = [] := List.eq_nil_of_length_eq_zero (by omega); subst this; rfl
  | succ f => cases l with
    | nil => rfl
    | cons x xs => rfl
theorem leavesL_good {p : Pl} {b : Nat} (hb : 1 ≤ b) : ∀ (f i : Nat) (l : List (Int × Int)), l.length ≤ f → (l.map Prod.fst).Pairwise (· < ·) → RowGood b 0 (leavesL p b f i l).1 (leavesL p b f i l).2 := by
  intro f
  induction f with
  | zero => intro i l _ _; exact ⟨rfl, List.Pairwise.nil, fun j k h => by simp [leavesL] at h⟩
  | succ f ih =>
    intro i l hf hr
    cases l with
    | nil => exact ⟨rfl, List.Pairwise.nil, fun j k h => by simp [leavesL] at h⟩
    | cons x xs =>
      have hn := leafN_pos p b i (len := (x :: xs).length) (by simp)
      have hk := leafK_le p b i (x :: xs).length
      have hnb : leafN p b i (x :: xs).length ≤ b := by unfold leafN; have := Nat.mod_lt (nAt p.sizes i) (show b > 0 by omega); omega
      simp only [leavesL]
      generalize leafN p b i (x :: xs).length = n at *
      generalize leafK p b i (x :: xs).length = kk at *
      have hlen : ((x :: xs).drop n).length ≤ f := by rw [List.length_drop]; simp only [List.length_cons] at hf ⊢; omega
      have hrd : (((x :: xs).drop n).map Prod.fst).Pairwise (· < ·) := hr.sublist ((List.drop_sublist _ _).map _)
      have hI := ih (i + 1) ((x :: xs).drop n) hlen hrd
      have h0 := leavesL_first p b f (i + 1) ((x :: xs).drop n) hlen
      have hsep : ∀ y, (((x :: xs).drop n).head?).map Prod.fst = some y → ∀ q ∈ (x :: xs).take n, q.1 < y := by
        intro y hy q hq
        have hsplit : (((x :: xs).take n).map Prod.fst ++ ((x :: xs).drop n).map Prod.fst).Pairwise (· < ·) := by rw [← List.map_append, List.take_append_drop]; exact hr
        have := (List.pairwise_append.1 hsplit).2.2 q.1 (List.mem_map_of_mem hq) y ?_
        · exact this
        · cases hd : (x :: xs).drop n with
          | nil => rw [hd] at hy; simp at hy
          | cons z zs => rw [hd] at hy; simp at hy; simp [hy]
      have hx0 : x ∈ (x :: xs).take n := by
        obtain ⟨m, rfl⟩ : ∃ m, n = m + 1 := ⟨n - 1, by omega⟩
        simp
      refine hI.cons ?_ ?_
      · rw [h0]
        refine .leaf ?_ (hr.sublist ((List.take_sublist _ _).map _)) fun q hq => ⟨fun z hz => ?_, fun z hz => hsep z hz q ?_⟩
        · rw [List.length_take]; omega
        · cases hz
          have hq := List.mem_of_mem_take hq
          rcases List.mem_cons.1 hq with rfl | hq
          · omega
          · have := (List.pairwise_cons.1 hr).1 q.1 (List.mem_map_of_mem hq)
            show x.1 ≤ q.1
            omega
        · have : (x :: xs).take kk = ((x :: xs).take n).take kk := by rw [List.take_take, Nat.min_eq_left hk]
          rw [this] at hq
          exact List.mem_of_mem_take hq
      · intro y hy
        rw [h0] at hy
        exact hsep y hy x hx0

theorem tagB_good {p : Pl} {b k h : Nat} {fr tb : Option Int} {s : Sh} (hg : Good b h fr tb s) (ht : s.tagged = false) : Good b h fr tb (tagB p b k s) ∧ (tagB p b k s).tagged = false := by
  unfold tagB
  split
  · obtain ⟨h1, t1⟩ := hg.tagged ht (nAt p.tags k / 4 % b)
    split
    · exact h1.tagged t1 _
    · exact ⟨h1, t1⟩
  · exact ⟨hg, ht⟩
theorem groupS_good {p : Pl} {b k n h : Nat} {row : List Sh} {firsts : List Int} (hr : RowGood b h row firsts) (hn : 1 ≤ n) (hn2 : n ≤ row.length) (hb : n ≤ b) : Good b (h + 1) firsts[0]? firsts[n]? (groupS p b k n row firsts) := by
  have hlen := hr.len
  unfold groupS
  refine (tagB_good ?_ rfl).1
  have hget : ∀ (m : Nat) (x : Int), ((firsts.drop 1).take (n - 1))[m]? = some x ↔ (m < n - 1 ∧ firsts[m + 1]? = some x) := by
    intro m x
    rw [List.getElem?_take, List.getElem?_drop]
    have e : 1 + m = m + 1 := by omega
    rw [e]
    by_cases h : m < n - 1 <;> simp [h]
  have hpw : ∀ (x y : Nat) (p q : Int), x < y → firsts[x]? = some p → firsts[y]? = some q → p < q := by
    intro x y p q hxy hx hy
    obtain ⟨hx1, hx2⟩ := List.getElem?_eq_some_iff.1 hx
    obtain ⟨hy1, hy2⟩ := List.getElem?_eq_some_iff.1 hy
    have := List.pairwise_iff_getElem.1 hr.rise x y hx1 hy1 hxy
    rw [hx2, hy2] at this
    exact this
  have hkl : ((firsts.drop 1).take (n - 1)).length = n - 1 := by rw [List.length_take, List.length_drop]; omega
  refine Good.node (h := h) (t := false) ?_ ?_ ?_ ?_ ?_
  · rw [List.length_take]; omega
  · rw [hkl, List.length_take]; omega
  · exact hr.rise.sublist ((List.take_sublist _ _).trans (List.drop_sublist _ _))
  · intro q hq
    obtain ⟨m, hm⟩ := List.getElem?_of_mem hq
    obtain ⟨hm1, hm2⟩ := (hget m q).1 hm
    exact ⟨fun x hx => hpw 0 (m + 1) x q (by omega) hx hm2, fun x hx => hpw (m + 1) n q x (by omega) hm2 hx⟩
  · intro j q hj
    rw [List.getElem?_take] at hj
    split at hj
    · rename_i hjn
      have hg := hr.good j q hj
      have el : lowB firsts[0]? ((firsts.drop 1).take (n - 1)) j = firsts[j]? := by
        unfold lowB
        split
        · rename_i h0; subst h0; rfl
        · rw [List.getElem?_take, if_pos (by omega), List.getElem?_drop]; congr 1; omega
      have eh : highB firsts[n]? ((firsts.drop 1).take (n - 1)) j = firsts[j + 1]? := by
        unfold highB
        rw [hkl]
        split
        · rw [List.getElem?_take, if_pos (by omega), List.getElem?_drop]; congr 1; omega
        · congr 1; omega
      rw [el, eh]
      exact hg
    · cases hj
theorem groupN_le (p : Pl) {b : Nat} (hb : 2 ≤ b) (k : Nat) (first : Bool) (len : Nat) : groupN p b k first len ≤ b := by
  unfold groupN
  have := Nat.mod_lt (nAt p.groups k) (show b > 0 by omega)
  split <;> omega
theorem groupL_first (p : Pl) (b f k : Nat) (first : Bool) {row : List Sh} {firsts : List Int} (hf : row.length ≤ f) (hl : firsts.length = row.length) : (groupL p b f k first row firsts).2.1[0]? = firsts[0]? := by
  cases f with
  | zero =>
    have : row = [] := List.eq_nil_of_length_eq_zero (by omega)
    subst this
    have : firsts = [] := List.eq_nil_of_length_eq_zero (by simpa using hl)
    subst this; rfl
  | succ f => cases row with
    | nil =>
      have : firsts = [] := List.eq_nil_of_length_eq_zero (by simpa using hl)
      subst this; rfl
    | cons x xs => cases firsts with
      | nil => simp at hl
      | cons y ys => rfl
theorem groupL_good {p : Pl} {b h : Nat} (hb : 2 ≤ b) : ∀ (f k : Nat) (first : Bool) (row : List Sh) (firsts : List Int), row.length ≤ f → RowGood b h row firsts → RowGood b (h + 1) (groupL p b f k first row firsts).1 (groupL p b f k first row firsts).2.1 := by
  intro f
  induction f with
  | zero => intro k first row firsts _ _; exact ⟨rfl, List.Pairwise.nil, fun j k h => by simp [groupL] at h⟩
  | succ f ih =>
    intro k first row firsts hf hr
    cases row with
    | nil => exact ⟨rfl, List.Pairwise.nil, fun j k h => by simp [groupL] at h⟩
    | cons x xs =>
      have hn := groupN_pos p b k first (len := (x :: xs).length) (by simp)
      have hnb := groupN_le p hb k first (x :: xs).length
      simp only [groupL]
      generalize groupN p b k first (x :: xs).length = n at *
      have hlen : ((x :: xs).drop n).length ≤ f := by rw [List.length_drop]; simp only [List.length_cons] at hf ⊢; omega
      have hI := ih (k + 1) false _ _ hlen (hr.drop n)
      have h0 := groupL_first p b f (k + 1) false hlen (hr.drop n).len
      have hg := groupS_good (p := p) (k := k) hr hn.1 hn.2 hnb
      have hfl := hr.len
      cases firsts with
      | nil => simp at hfl
      | cons y ys =>
        refine hI.cons ?_ ?_
        · rw [h0, List.getElem?_drop]
          exact hg
        · intro z hz
          rw [h0, List.getElem?_drop] at hz
          have hn1 := hn.1
          obtain ⟨m, rfl⟩ : ∃ m, n = m + 1 := ⟨n - 1, by omega⟩
          simp at hz
          exact (List.pairwise_cons.1 hr.rise).1 z (List.mem_of_getElem? hz)
theorem climbL_good {p : Pl} {b : Nat} (hb : 2 ≤ b) : ∀ (f k h : Nat) (row : List Sh) (firsts : List Int), row.length ≤ f + 1 → 0 < row.length → RowGood b h row firsts → ∃ h', Good b h' none none (climbL p b f k row firsts) := by
  have base : ∀ (h : Nat) (row : List Sh) (firsts : List Int), row.length ≤ 1 → 0 < row.length → RowGood b h row firsts → ∃ h', Good b h' none none (row.headD leaf0) := by
    intro h row firsts h1 h0 hr
    cases row with
    | nil => simp at h0
    | cons x xs =>
      have hg := hr.good 0 x rfl
      have hl := hr.len
      have : firsts[1]? = none := List.getElem?_eq_none (by rw [hl]; exact h1)
      rw [this] at hg
      exact ⟨h, hg.any⟩
  intro f
  induction f with
  | zero => intro k h row firsts hf h0 hr; exact base h row firsts hf h0 hr
  | succ f ih =>
    intro k h row firsts hf h0 hr
    simp only [climbL]
    split
    · rename_i h1
      exact base h row firsts h1 h0 hr
    · rename_i h1
      have hg := groupL_good (p := p) hb row.length k true row firsts (Nat.le_refl _) hr
      obtain ⟨l1, l2, l3, l4⟩ := groupL_len p b row.length k true row firsts
      have := l4 rfl (by omega)
      exact ih _ (h + 1) _ _ (by omega) (groupL_some p b row.length k true firsts (by omega) (by omega)) hg

theorem putStep_rise {k v : Int} : ∀ (l : List (Int × Int)) (st : List (Int × Int) × Bool), ((st.1 ++ l).map Prod.fst).Pairwise (· < ·) → (st.2 = false → ∀ o ∈ st.1, o.1 < k) →
    (((l.foldl (putStep k v) st).1).map Prod.fst).Pairwise (· < ·) ∧ ((l.foldl (putStep k v) st).2 = false → ∀ o ∈ (l.foldl (putStep k v) st).1, o.1 < k) := by
  intro l
  induction l with
  | nil => intro st h1 h2; simp only [List.append_nil] at h1; exact ⟨h1, h2⟩
  | cons q l ih =>
    intro st h1 h2
    simp only [List.foldl_cons]
    have hs := h1
    simp only [List.map_append, List.map_cons, List.pairwise_append, List.pairwise_cons, List.mem_cons] at hs
    obtain ⟨a1, ⟨a2, a3⟩, a4⟩ := hs
    refine ih _ ?_ ?_
    · by_cases hd : st.2 = false ∧ k ≤ q.1
      · simp only [putStep, if_pos hd]
        by_cases hq : q.1 = k
        · rw [if_pos hq]
          simpa [hq] using h1
        · rw [if_neg hq]
          have hlt := h2 hd.1
          simp only [List.map_append, List.map_cons, List.map_nil, List.append_assoc, List.cons_append, List.nil_append, List.pairwise_append, List.pairwise_cons, List.mem_cons]
          refine ⟨a1, ⟨fun x hx => ?_, a2, a3⟩, fun x hx y hy => ?_⟩
          · rcases hx with rfl | hx
            · omega
            · have := a2 x hx; omega
          · rcases hy with rfl | hy
            · obtain ⟨o, ho, rfl⟩ := List.mem_map.1 hx
              exact hlt o ho
            · exact a4 x hx y hy
      · simp only [putStep, if_neg hd]
        split
        · refine h1.sublist ((List.Sublist.append (List.Sublist.refl _) (List.sublist_cons_self _ _)).map _)
        · simpa using h1
    · intro hd2
      by_cases hd : st.2 = false ∧ k ≤ q.1
      · simp [putStep, if_pos hd] at hd2
      · simp only [putStep, if_neg hd] at hd2 ⊢
        have hk : ¬ k ≤ q.1 := fun h => hd ⟨hd2, h⟩
        intro o ho
        split at ho
        · exact h2 hd2 o ho
        · rcases List.mem_append.1 ho with ho | ho
          · exact h2 hd2 o ho
          · simp only [List.mem_singleton] at ho; subst ho; omega
theorem putL_rise {l : List (Int × Int)} (h : (l.map Prod.fst).Pairwise (· < ·)) (k v : Int) : ((putL l k v).map Prod.fst).Pairwise (· < ·) := by
  obtain ⟨h1, h2⟩ := putStep_rise (k := k) (v := v) l ([], false) (by simpa using h) (fun _ o ho => by cases ho)
  unfold putL
  simp only []
  split
  · exact h1
  · rename_i hd
    have h2 := h2 (by simpa using hd)
    simp only [List.map_append, List.map_cons, List.map_nil, List.pairwise_append, List.pairwise_cons, List.mem_cons, List.not_mem_nil, or_false]
    refine ⟨h1, ⟨fun x hx => hx.elim, List.Pairwise.nil⟩, fun x hx y hy => ?_⟩
    obtain ⟨o, ho, rfl⟩ := List.mem_map.1 hx
    subst hy
    exact h2 o ho
theorem risingGo_rise : ∀ (raw : List Int) (i : Nat) (out : List (Int × Int)), (out.map Prod.fst).Pairwise (· < ·) → ((risingGo raw i out).map Prod.fst).Pairwise (· < ·) := by
  intro raw
  induction raw with
  | nil => intro i out h; exact h
  | cons k ks ih => intro i out h; exact ih _ _ (putL_rise h _ _)
theorem rising_rise (raw : List Int) : ((rising raw).map Prod.fst).Pairwise (· < ·) := risingGo_rise raw 0 [] List.Pairwise.nil
theorem leaf0_good (b : Nat) : Good b 0 none none leaf0 := .leaf (by simp) (by simp) (fun p hp => by cases hp)
/-- A plan's tree is good. -/
theorem shapeL_good (p : Pl) {b : Nat} (hb : 2 ≤ b) : ∃ h, Good b h none none (shapeL p b) := by
  unfold shapeL
  simp only []
  have hl := leavesL_good (p := p) (b := b) (by omega) _ 0 (rising p.keys) (Nat.le_refl _) (rising_rise _)
  split
  · exact ⟨0, leaf0_good b⟩
  · exact climbL_good hb _ 0 0 _ _ (by omega) (by omega) hl

/-! How many nodes a plan's tree has. -/
theorem Sh.many_leaf (ps : List (Int × Int)) : (Sh.mk true false ps [] []).many = 1 := by simp [Sh.many, Sh.manyL]
theorem manyL_take_drop (l : List Sh) (n : Nat) : Sh.manyL (l.take n) + Sh.manyL (l.drop n) = Sh.manyL l := by rw [← Sh.manyL_append, List.take_append_drop]
theorem taggedS_many (s : Sh) (j : Nat) : (taggedS s j).many ≤ s.many + 1 := by
  unfold taggedS
  split
  · omega
  · rename_i h3
    cases s with
    | mk l t ps ks kids =>
      simp only [Sh.kids, Sh.keys] at h3 ⊢
      generalize min j (kids.length - 2) = i
      simp only [Sh.many, Sh.manyL_append, Sh.manyL]
      have h1 := manyL_take_drop kids i
      have h2 := manyL_take_drop (kids.drop i) 2
      rw [List.drop_drop] at h2
      omega
theorem tagB_many (p : Pl) (b k : Nat) (s : Sh) : (tagB p b k s).many ≤ s.many + 2 := by
  unfold tagB
  split
  · split
    · have := taggedS_many (taggedS s (nAt p.tags k / 4 % b)) (nAt p.tags k / 8 % b)
      have := taggedS_many s (nAt p.tags k / 4 % b)
      omega
    · have := taggedS_many s (nAt p.tags k / 4 % b); omega
  · omega
theorem leavesL_many (p : Pl) (b : Nat) : ∀ (f i : Nat) (l : List (Int × Int)), Sh.manyL (leavesL p b f i l).1 = (leavesL p b f i l).1.length := by
  intro f
  induction f with
  | zero => intro i l; simp [leavesL, Sh.manyL]
  | succ f ih =>
    intro i l
    cases l with
    | nil => simp [leavesL, Sh.manyL]
    | cons x xs => simp only [leavesL, Sh.manyL, List.length_cons, Sh.many_leaf, ih]; omega
theorem groupL_many (p : Pl) (b : Nat) : ∀ (f k : Nat) (first : Bool) (row : List Sh) (firsts : List Int), Sh.manyL (groupL p b f k first row firsts).1 ≤ Sh.manyL row + 3 * (groupL p b f k first row firsts).1.length := by
  intro f
  induction f with
  | zero => intro k first row firsts; simp [groupL, Sh.manyL]
  | succ f ih =>
    intro k first row firsts
    cases row with
    | nil => simp [groupL, Sh.manyL]
    | cons x xs =>
      simp only [groupL, List.length_cons]
      generalize groupN p b k first (xs.length + 1) = n
      have h1 := ih (k + 1) false ((x :: xs).drop n) (firsts.drop n)
      have h2 := tagB_many p b k (.mk false false [] ((firsts.drop 1).take (n - 1)) ((x :: xs).take n))
      have h3 := manyL_take_drop (x :: xs) n
      simp only [Sh.many] at h2
      show Sh.manyL (groupS p b k n (x :: xs) firsts :: _) ≤ _
      unfold groupS
      rw [Sh.manyL]
      omega
theorem climbL_many (p : Pl) (b : Nat) : ∀ (f k : Nat) (row : List Sh) (firsts : List Int), (climbL p b f k row firsts).many ≤ Sh.manyL row + 3 * (row.length * row.length) + 1 := by
  have base : ∀ row : List Sh, (row.headD leaf0).many ≤ Sh.manyL row + 1 := by
    intro row
    cases row with
    | nil => simp [leaf0, Sh.many, Sh.manyL]
    | cons x xs => simp only [List.headD_cons, Sh.manyL]; omega
  intro f
  induction f with
  | zero => intro k row firsts; have := base row; simp only [climbL]; omega
  | succ f ih =>
    intro k row firsts
    simp only [climbL]
    split
    · have := base row; omega
    · rename_i h1
      obtain ⟨l1, l2, l3, l4⟩ := groupL_len p b row.length k true row firsts
      have l4 := l4 rfl (by omega)
      have hm := groupL_many p b row.length k true row firsts
      have hI := ih (groupL p b row.length k true row firsts).2.2 (groupL p b row.length k true row firsts).1 (groupL p b row.length k true row firsts).2.1
      generalize (groupL p b row.length k true row firsts).1 = up at *
      have hsq : up.length * up.length + up.length ≤ row.length * row.length := by
        obtain ⟨m, hm⟩ : ∃ m, row.length = m + 1 := ⟨row.length - 1, by omega⟩
        rw [hm]
        have h1 : up.length ≤ m := by omega
        have h2 : up.length * up.length ≤ m * m := Nat.mul_le_mul h1 h1
        have h3 : (m + 1) * (m + 1) = m * m + 2 * m + 1 := by rw [Nat.add_mul, Nat.mul_add]; omega
        omega
      omega
end Go.Proofs.Ytjkfigkgeoacfaa
