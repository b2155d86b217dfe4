import Derived.Test.YtjkfigkgeoacfaaU3
import Derived.Test.YtjkfigkgeoacfaaL0
set_option linter.unusedVariables false
set_option linter.unusedSimpArgs false
namespace Go.Proofs.Ytjkfigkgeoacfaa
open Go.RowKit

theorem refOf_ne {i : Nat} {c : Int} (hi : i ≤ 65536) (h0 : 0 ≤ c) (h1 : c < 7000000) : refOf i c ≠ 0 := by
  intro h
  have hp := place_refOf (p := i) (c := c) (by omega) (by omega) h0 (by omega)
  rw [h] at hp
  have : place 0 = -1 := by unfold place; rw [and40 0 (by omega) (by omega)]; unfold wrap64; omega
  omega

/-- The way down a tree that stands in an arena, as the statements' own loop goes. -/
inductive Trace (A : AArena) (key : Int) : Int → Sh → List Int → List Int → Prop
  | leaf {r : Int} {s : Sh} (hl : s.leaf = true) : Trace A key r s [r, 0, -1 - (s.pairs.length : Int)] []
  | node {s k : Sh} {i : Nat} {sl : ASlot} {r' : Int} {out ts : List Int} (hl : s.leaf = false) (hlen : s.keys.length + 1 = s.kids.length) (hk : s.kids[wayN s.keys key]? = some k) (h : A.slots[i]? = some sl) (hu : sl.used = true) (hw : sl.ways[wayN s.keys key]? = some r')
    (t : Trace A key r' k out ts) : Trace A key (refOf i sl.count) s ([refOf i sl.count, (wayN s.keys key : Int), (s.keys.length : Int)] ++ out) (r' :: ts)

theorem tells_cons (s : Int × ANode × Nat) (ss : List (Int × ANode × Nat)) : tells (s :: ss) = tellS s ++ tells ss := by simp [tells]

theorem inT_path {A : AArena} (hO : A.Ok) (key : Int) {r : Int} {s : Sh} (hs : InT A r s) : ∀ {b h : Nat} {lo hi : Option Int}, Good b h lo hi s → r ≠ 0 ∧ ∃ ss ts, PathA A key r ss ts ∧ Trace A key r s (tells ss) ts ∧ ts.length < s.many ∧ ∀ st ∈ ss, st.2.1.pairs.length ≤ 100000 := by
  induction hs with
  | @mk l t ps ks kids i sl hi2 h hu h1 h2 h3 h4 h5 h6 hk ih =>
    intro b hh lo hi hg
    have hmem := List.mem_of_getElem? h
    have hsz := hO.sizes _ hmem
    have hct := hO.count _ hmem
    have hib := (List.getElem?_eq_some_iff.1 h).1
    have hsl := hO.slots
    have hne : refOf i sl.count ≠ 0 := refOf_ne (by omega) hct.1 hct.2
    refine ⟨hne, ?_⟩
    cases hg with
    | leaf hb hr hin =>
      refine ⟨[(refOf i sl.count, sl.node, 0)], [], PathA.leaf h hu h1, ?_, by simp [Sh.many, Sh.manyL], ?_⟩
      · have := Trace.leaf (A := A) (key := key) (r := refOf i sl.count) (s := .mk true false ps [] []) rfl
        have e : tells [(refOf i sl.count, sl.node, 0)] = [refOf i sl.count, 0, -1 - ((Sh.mk true false ps [] []).pairs.length : Int)] := by
          simp [tells, tellS, h1, h3, Sh.pairs]
        rw [e]; exact this
      · intro st hst
        simp only [List.mem_singleton] at hst
        subst hst
        have := hsz.1
        show sl.node.pairs.length ≤ 100000
        omega
    | @node h' _ _ _ _ _ hb hl hr hin hkg =>
      have hwl : wayN ks key < kids.length := by have := wayN_le ks key; omega
      have hk0 : kids[wayN ks key]? = some kids[wayN ks key] := List.getElem?_eq_getElem hwl
      have hw0 : sl.ways[wayN ks key]? = some (sl.ways[wayN ks key]'(by omega)) := List.getElem?_eq_getElem (by omega)
      generalize kids[wayN ks key] = k at hk0
      generalize sl.ways[wayN ks key]'(by omega) = r' at hw0
      obtain ⟨hr0, ss, ts, hp, ht, hlt, hpl⟩ := ih (wayN ks key) r' k hw0 hk0 (hkg _ _ hk0)
      have hkm : k.many ≤ Sh.manyL kids := Sh.manyL_mem (List.mem_of_getElem? hk0)
      have hkey : sl.node.keys = ks := h4
      refine ⟨(refOf i sl.count, sl.node, wayN sl.node.keys key) :: ss, r' :: ts, PathA.node h hu h1 (by rw [hkey]; exact hr) hsz.2.1 (by rw [hkey]; omega) (by rw [hkey]; exact hw0) hr0 hp, ?_, ?_, ?_⟩
      · have := Trace.node (A := A) (key := key) (s := .mk false t [] ks kids) (k := k) rfl hl hk0 h hu hw0 ht
        rw [tells_cons]
        have e : tellS (refOf i sl.count, sl.node, wayN sl.node.keys key) = [refOf i sl.count, (wayN (Sh.mk false t [] ks kids).keys key : Int), ((Sh.mk false t [] ks kids).keys.length : Int)] := by
          simp [tellS, h1, hkey, Sh.keys]
        rw [e]
        exact this
      · simp only [List.length_cons, Sh.many]; omega
      · intro st hst
        rcases List.mem_cons.1 hst with rfl | hst
        · have := hsz.1
          show sl.node.pairs.length ≤ 100000
          omega
        · exact hpl st hst
theorem Good.leafN {b h : Nat} {lo hi : Option Int} {s : Sh} (hg : Good b h lo hi s) : s.pairs.length ≤ b ∧ s.kids.length ≤ b ∧ s.keys.length ≤ b := by
  cases hg with
  | leaf hb hr hin => exact ⟨hb, Nat.zero_le _, Nat.zero_le _⟩
  | node hb hl hr hin hk => exact ⟨Nat.zero_le _, hb, by show _ ≤ _; simp only [Sh.keys]; omega⟩
theorem Good.small {b h : Nat} {lo hi : Option Int} {s : Sh} (hg : Good b h lo hi s) (hb8 : b ≤ 1000) : s.Small := by
  induction hg with
  | leaf hb hr hin => exact .mk (by omega) (by simp) (by simp) (fun k hk => by cases hk)
  | node hb hl hr hin hk ih =>
    refine .mk (by simp) (by omega) (by omega) fun k hkm => ?_
    obtain ⟨i, hi⟩ := List.getElem?_of_mem hkm
    exact ih i k hi
theorem risingGo_len' : ∀ (raw : List Int) (i : Nat) (out : List (Int × Int)), (risingGo raw i out).length ≤ raw.length + out.length := by
  intro raw
  induction raw with
  | nil => intro i out; simp [risingGo]
  | cons k ks ih => intro i out; have := ih (i + 1) (putL out k (i + 100)); have := putL_len out k (i + 100); simp only [risingGo, List.length_cons]; omega
theorem shapeL_many {p : Pl} (b : Nat) (hk : p.keys.length ≤ 50) : (shapeL p b).many ≤ 8000 := by
  have hl : (rising p.keys).length ≤ 50 := by have := risingGo_len' p.keys 0 []; simp only [rising, List.length_nil] at *; omega
  unfold shapeL
  simp only []
  split
  · simp [leaf0, Sh.many, Sh.manyL]
  · have h1 := climbL_many p b (leavesL p b (rising p.keys).length 0 (rising p.keys)).1.length 0 (leavesL p b (rising p.keys).length 0 (rising p.keys)).1 (leavesL p b (rising p.keys).length 0 (rising p.keys)).2
    have h2 := leavesL_many p b (rising p.keys).length 0 (rising p.keys)
    have h3 := (leavesL_len p b (rising p.keys).length 0 (rising p.keys)).2
    generalize (leavesL p b (rising p.keys).length 0 (rising p.keys)).1 = row at *
    have h4 : row.length * row.length ≤ 50 * 50 := Nat.mul_le_mul (by omega) (by omega)
    omega
end Go.Proofs.Ytjkfigkgeoacfaa
