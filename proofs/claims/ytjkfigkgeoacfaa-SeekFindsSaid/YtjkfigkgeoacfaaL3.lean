import Derived.Test.YtjkfigkgeoacfaaL2
import Derived.Test.YtjkfigkgeoacfaaU5
set_option linter.unusedVariables false
set_option linter.unusedSimpArgs false
namespace Go.Proofs.Ytjkfigkgeoacfaa
open Go.RowKit

namespace Sh
mutual
def all : Sh → List (Int × Int)
  | .mk _ _ ps _ kids => ps ++ allK kids
def allK : List Sh → List (Int × Int)
  | [] => []
  | k :: ks => all k ++ allK ks
end
mutual
def deep : Sh → Nat
  | .mk _ _ _ _ kids => deepK kids
def deepK : List Sh → Nat
  | [] => 0
  | k :: ks => max (1 + deep k) (deepK ks)
end
theorem mem_allK {kids : List Sh} {p : Int × Int} : p ∈ allK kids ↔ ∃ k ∈ kids, p ∈ all k := by
  induction kids with
  | nil => simp [allK]
  | cons k ks ih => simp only [allK, List.mem_append, ih, List.mem_cons]; constructor
                    · rintro (h | ⟨x, hx, h⟩)
                      · exact ⟨k, .inl rfl, h⟩
                      · exact ⟨x, .inr hx, h⟩
                    · rintro ⟨x, rfl | hx, h⟩
                      · exact .inl h
                      · exact .inr ⟨x, hx, h⟩
theorem deepK_mem {kids : List Sh} {k : Sh} (h : k ∈ kids) : 1 + deep k ≤ deepK kids := by
  induction kids with
  | nil => cases h
  | cons x ks ih =>
    simp only [deepK]
    rcases List.mem_cons.1 h with rfl | h
    · omega
    · have := ih h; omega
end Sh

theorem wayN_iff {ks : List Int} (hr : ks.Pairwise (· < ·)) {k : Int} {j : Nat} {x : Int} (h : ks[j]? = some x) : x ≤ k ↔ j < wayN ks k := by
  have hl := lowN_iff hr (k := k) h
  have he := wayN_eq hr k
  constructor
  · intro hx
    rcases Int.lt_or_le x k with h1 | h1
    · have := hl.1 h1; omega
    · have hxk : x = k := by omega
      subst hxk
      have h2 : ¬ j < lowN ks x := fun h3 => by have := hl.2 h3; omega
      have h3 : j = lowN ks x := by
        rcases Nat.lt_or_ge (lowN ks x) j with h4 | h4
        · have hlt := (List.getElem?_eq_some_iff.1 h).1
          have h5 : ks[lowN ks x]? = some ks[lowN ks x] := List.getElem?_eq_getElem (by omega)
          have h6 := (lowN_iff hr (k := x) h5)
          have h7 : ks[lowN ks x] < x := by
            have := List.pairwise_iff_getElem.1 hr (lowN ks x) j (by omega) hlt h4
            rw [(List.getElem?_eq_some_iff.1 h).2] at this
            exact this
          have := h6.1 h7
          omega
        · omega
      rw [← h3, if_pos h] at he
      omega
  · intro hj
    split at he
    · rename_i hh
      rcases Nat.lt_or_ge j (lowN ks k) with h1 | h1
      · have := hl.2 h1; omega
      · have h2 : j = lowN ks k := by omega
        rw [← h2, h] at hh
        have := Option.some.inj hh
        omega
    · have := hl.2 (by omega); omega

theorem Good.all_in {b h : Nat} {lo hi : Option Int} {s : Sh} (hg : Good b h lo hi s) : ∀ p ∈ s.all, fromO lo p.1 ∧ belowO hi p.1 := by
  induction hg with
  | leaf hb hr hin => intro p hp; simp only [Sh.all, Sh.allK, List.append_nil] at hp; exact hin p hp
  | @node h fr tb t ks kids hb hl hr hin hk ih =>
    intro p hp
    simp only [Sh.all, List.nil_append] at hp
    obtain ⟨k, hkm, hpk⟩ := Sh.mem_allK.1 hp
    obtain ⟨i, hi⟩ := List.getElem?_of_mem hkm
    obtain ⟨h1, h2⟩ := ih i k hi p hpk
    have hil := (List.getElem?_eq_some_iff.1 hi).1
    refine ⟨fun x hx => ?_, fun x hx => ?_⟩
    · unfold lowB at h1
      split at h1
      · exact h1 x hx
      · have h3 : ks[i - 1]? = some (ks[i - 1]'(by omega)) := List.getElem?_eq_getElem (by omega)
        have h4 := h1 _ h3
        have h5 := (hin _ (List.mem_of_getElem? h3)).1 x hx
        omega
    · unfold highB at h2
      split at h2
      · rename_i hlt
        have h3 : ks[i]? = some ks[i] := List.getElem?_eq_getElem hlt
        have h4 := h2 _ h3
        have h5 := (hin _ (List.mem_of_getElem? h3)).2 x hx
        omega
      · exact h2 x hx

/-- The leaf on a key's way, and how deep it lies. -/
inductive LeafAt (key : Int) : Sh → Sh → Nat → Prop
  | leaf {s : Sh} (hl : s.leaf = true) : LeafAt key s s 0
  | node {s k l : Sh} {d : Nat} (hl : s.leaf = false) (hk : s.kids[wayN s.keys key]? = some k) (t : LeafAt key k l d) : LeafAt key s l (d + 1)

theorem leafAt_all {key : Int} {s l : Sh} {d : Nat} (hl : LeafAt key s l d) : ∀ {b h : Nat} {lo hi : Option Int}, Good b h lo hi s →
    (∀ p ∈ s.all, p.1 = key → p ∈ l.pairs) ∧ (∀ p ∈ l.pairs, p ∈ s.all) ∧ d ≤ s.deep ∧ (l.pairs.map Prod.fst).Pairwise (· < ·) ∧ l.pairs.length ≤ b := by
  induction hl with
  | leaf hl =>
    intro b h lo hi hg
    cases hg with
    | leaf hb hr hin => exact ⟨fun p hp _ => by simpa [Sh.all, Sh.allK, Sh.pairs] using hp, fun p hp => by simpa [Sh.all, Sh.allK, Sh.pairs] using hp, Nat.zero_le _, hr, hb⟩
    | node => simp [Sh.leaf] at hl
  | @node s k l d hl hk t ih =>
    intro b h lo hi hg
    cases hg with
    | leaf => simp [Sh.leaf] at hl
    | @node h' _ _ t' ks kids hb hlen hr hin hkg =>
      simp only [Sh.kids, Sh.keys] at hk
      obtain ⟨i1, i2, i3, i4, i5⟩ := ih (hkg _ k hk)
      have hkm := List.mem_of_getElem? hk
      refine ⟨fun p hp hpk => ?_, fun p hp => ?_, ?_, i4, i5⟩
      · simp only [Sh.all, List.nil_append] at hp
        obtain ⟨k2, hk2, hpk2⟩ := Sh.mem_allK.1 hp
        obtain ⟨j, hj⟩ := List.getElem?_of_mem hk2
        obtain ⟨r1, r2⟩ := (hkg j k2 hj).all_in p hpk2
        rw [hpk] at r1 r2
        have hjl := (List.getElem?_eq_some_iff.1 hj).1
        have hw : wayN ks key = j := by
          have hwl := wayN_le ks key
          have a1 : j ≤ wayN ks key := by
            unfold lowB at r1
            split at r1
            · omega
            · have h3 : ks[j - 1]? = some (ks[j - 1]'(by omega)) := List.getElem?_eq_getElem (by omega)
              have := (wayN_iff hr (k := key) h3).1 (r1 _ h3)
              omega
          have a2 : wayN ks key ≤ j := by
            unfold highB at r2
            split at r2
            · rename_i hlt
              have h3 : ks[j]? = some ks[j] := List.getElem?_eq_getElem hlt
              have h4 := r2 _ h3
              rcases Nat.lt_or_ge j (wayN ks key) with h5 | h5
              · have := (wayN_iff hr (k := key) h3).2 h5; omega
              · exact h5
            · omega
          omega
        rw [hw, hj] at hk
        cases hk
        exact i1 p hpk2 hpk
      · simp only [Sh.all, List.nil_append]
        exact Sh.mem_allK.2 ⟨k, hkm, i2 p hp⟩
      · have := Sh.deepK_mem hkm
        simp only [Sh.deep]
        omega

theorem getL_mem {ps : List (Int × Int)} (hr : (ps.map Prod.fst).Pairwise (· < ·)) {x : Int × Int} (hx : x ∈ ps) : getL ps x.1 = some x.2 := by
  obtain ⟨j, hj⟩ := List.getElem?_of_mem hx
  have hjl := (List.getElem?_eq_some_iff.1 hj).1
  have hjk : (ps.map Prod.fst)[j]? = some x.1 := by rw [List.getElem?_map, hj]; rfl
  have hn : lowN (ps.map Prod.fst) x.1 = j := by
    have h1 : ¬ j < lowN (ps.map Prod.fst) x.1 := fun h => by have := (lowN_iff hr (k := x.1) hjk).2 h; omega
    rcases Nat.lt_or_ge (lowN (ps.map Prod.fst) x.1) j with h2 | h2
    · have hlt2 : lowN (ps.map Prod.fst) x.1 < (ps.map Prod.fst).length := by rw [List.length_map]; omega
      have h3 : (ps.map Prod.fst)[lowN (ps.map Prod.fst) x.1]? = some (ps.map Prod.fst)[lowN (ps.map Prod.fst) x.1] := List.getElem?_eq_getElem hlt2
      have h4 := List.pairwise_iff_getElem.1 hr (lowN (ps.map Prod.fst) x.1) j hlt2 (by rw [List.length_map]; exact hjl) h2
      rw [(List.getElem?_eq_some_iff.1 hjk).2] at h4
      have := (lowN_iff hr (k := x.1) h3).1 h4
      omega
    · omega
  unfold getL
  rw [hn, if_pos hjk]
  have : ps.getD j (0, 0) = x := by rw [List.getD_eq_getElem?_getD, hj]; rfl
  rw [this]
theorem getL_some {ps : List (Int × Int)} {k v : Int} (h : getL ps k = some v) : (k, v) ∈ ps := by
  unfold getL at h
  split at h
  · rename_i hh
    rw [List.getElem?_map] at hh
    obtain ⟨q, hq, hqk⟩ := Option.map_eq_some_iff.1 hh
    have hg : ps.getD (lowN (ps.map Prod.fst) k) (0, 0) = q := by rw [List.getD_eq_getElem?_getD, hq]; rfl
    rw [hg] at h
    have h2 := Option.some.inj h
    have : q = (k, v) := Prod.ext hqk h2
    rw [← this]
    exact List.mem_of_getElem? hq
  · cases h
theorem getL_none {ps : List (Int × Int)} (hr : (ps.map Prod.fst).Pairwise (· < ·)) {k : Int} (h : getL ps k = none) : ∀ p ∈ ps, p.1 ≠ k := by
  intro p hp he
  have := getL_mem hr hp
  rw [he, h] at this
  cases this

/-- The way down, with the leaf that it leads to. -/
theorem inT_leaf {A : AArena} (hO : A.Ok) (key : Int) {r : Int} {s : Sh} (hs : InT A r s) : ∀ {b h : Nat} {lo hi : Option Int}, Good b h lo hi s → r ≠ 0 ∧ ∃ ss ts l st, PathA A key r ss ts ∧ LeafAt key s l ts.length ∧ ts.length < s.many ∧ ss.getLast? = some st ∧ st.2.1.pairs = l.pairs := by
  induction hs with
  | @mk l t ps ks kids i sl hi2 h hu h1 h2 h3 h4 h5 h6 hk ih =>
    intro b hh lo hi hg
    have hmem := List.mem_of_getElem? h
    have hsz := hO.sizes _ hmem
    have hct := hO.count _ hmem
    have hib := (List.getElem?_eq_some_iff.1 h).1
    have hsl := hO.slots
    refine ⟨refOf_ne (by omega) hct.1 hct.2, ?_⟩
    cases hg with
    | leaf hb hr hin => exact ⟨[(refOf i sl.count, sl.node, 0)], [], _, (refOf i sl.count, sl.node, 0), PathA.leaf h hu h1, LeafAt.leaf rfl, by simp [Sh.many, Sh.manyL], rfl, h3⟩
    | @node h' _ _ _ _ _ hb hl hr hin hkg =>
      have hwl : wayN ks key < kids.length := by have := wayN_le ks key; omega
      have hk0 : kids[wayN ks key]? = some kids[wayN ks key] := List.getElem?_eq_getElem hwl
      have hw0 : sl.ways[wayN ks key]? = some (sl.ways[wayN ks key]'(by omega)) := List.getElem?_eq_getElem (by omega)
      generalize kids[wayN ks key] = k at hk0
      generalize sl.ways[wayN ks key]'(by omega) = r' at hw0
      obtain ⟨hr0, ss, ts, lf, st, hp, hla, hlt, hlast, hpl⟩ := ih (wayN ks key) r' k hw0 hk0 (hkg _ _ hk0)
      have hkm : k.many ≤ Sh.manyL kids := Sh.manyL_mem (List.mem_of_getElem? hk0)
      have hkey : sl.node.keys = ks := h4
      refine ⟨(refOf i sl.count, sl.node, wayN sl.node.keys key) :: ss, r' :: ts, lf, st, PathA.node h hu h1 (by rw [hkey]; exact hr) hsz.2.1 (by rw [hkey]; omega) (by rw [hkey]; exact hw0) hr0 hp, LeafAt.node rfl hk0 hla, ?_, ?_, hpl⟩
      · simp only [List.length_cons, Sh.many]; omega
      · cases ss with
        | nil => simp at hlast
        | cons x xs => rw [List.getLast?_cons_cons]; exact hlast

/-- The last two nodes of a way. -/
theorem path_last {A : AArena} {key r : Int} {ss : List (Int × ANode × Nat)} {ts : List Int} (hp : PathA A key r ss ts) : ∀ {d : Nat}, ss.length = d + 2 → ∃ up at_, ss[d]? = some up ∧ ss[d + 1]? = some at_ ∧
    (∃ (i : Nat) (sl : ASlot), A.slots[i]? = some sl ∧ sl.used = true ∧ up.1 = refOf i sl.count ∧ sl.node = up.2.1 ∧ sl.node.inner = true ∧ sl.ways[up.2.2]? = some at_.1) ∧ (∃ (i : Nat) (sl : ASlot), A.slots[i]? = some sl ∧ sl.used = true ∧ at_.1 = refOf i sl.count ∧ sl.node = at_.2.1 ∧ sl.node.inner = false) := by
  induction hp with
  | leaf h hu hin => intro d hd; simp at hd
  | @node i sl r' ss ts h hu hin hr hkb hl hw h0 tail ih =>
    intro d hd
    simp only [List.length_cons] at hd
    cases d with
    | zero =>
      cases tail with
      | @leaf i2 sl2 g1 g2 g3 => exact ⟨_, _, rfl, rfl, ⟨i, sl, h, hu, rfl, rfl, hin, hw⟩, ⟨i2, sl2, g1, g2, rfl, rfl, g3⟩⟩
      | @node i2 sl2 r2 ss2 ts2 _ _ _ _ _ _ _ _ t2 => have := t2.len; simp at hd; rw [hd] at this; simp at this
    | succ d =>
      obtain ⟨up, at_, a1, a2, a3, a4⟩ := ih (d := d) (by omega)
      exact ⟨up, at_, by simpa using a1, by simpa using a2, a3, a4⟩
end Go.Proofs.Ytjkfigkgeoacfaa
