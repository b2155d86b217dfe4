import Derived.Test.YtjkfigkgeoacfaaW4
import Derived.Deep.DeepCutAuto
set_option linter.unusedVariables false
set_option linter.unusedSimpArgs false
namespace Go.Proofs.Ytjkfigkgeoacfaa
open Go.RowKit Go.Proofs.YtjkfigkgeoacfaaW.PrintLast

def bytes (l : List Int) : List Value := l.map (Value.int .u8)
theorem one_bytes (l : List Int) : One (bytes l) := by intro u hu; simp only [bytes, List.mem_map] at hu; obtain ⟨x, _, rfl⟩ := hu; rfl

/-- A number of some, round and round. -/
def atL (l : List Int) (i : Nat) : Int := if l.length = 0 then 0 else l.getD (i % l.length) 0

theorem at_any {R : HL} {w : World} {v : Value} {l : List Int} (hlx : RdX R 1 v l.length (bytes l)) (hw : Has w R) (hb : ∀ x ∈ l, 0 ≤ x ∧ x < 256) (hs : l.length ≤ 1000000) {i : Nat} (hi : i ≤ 1000000) {ii : Int} (hii : ii = i) :
    Calls Try.prog 36 #[v, .int .i64 ii] w fun e w' => e = .returned (.int .i64 (atL l i)) ∧ w = w' := by
  obtain ⟨Tl, hl⟩ := hlx
  subst hii
  obtain ⟨A, cap, rfl, hcap, hfit, hlen, hcell⟩ := hl.form
  by_cases h0 : l.length = 0
  · have e : l = [] := List.eq_nil_of_length_eq_zero h0
    subst e
    clear hcell
    go_enter Try.func36, Try.ntmps36
    go_wp2
    go_ret
    exact ⟨rfl, rfl⟩
  · obtain ⟨g, off, rfl, hc⟩ := hcell w R hw (fun _ h => h) (by omega)
    have hm : i % l.length < l.length := Nat.mod_lt _ (by omega)
    have hq : (bytes l)[i % l.length]? = some (.int .u8 l[i % l.length]) := by rw [bytes, List.getElem?_map, List.getElem?_eq_getElem hm]; rfl
    have hg := hc (i % l.length) _ hq
    have hx := hb l[i % l.length] (List.getElem_mem hm)
    have he : l.getD (i % l.length) 0 = l[i % l.length] := by rw [List.getD_eq_getElem?_getD, List.getElem?_eq_getElem hm]; rfl
    have hat : atL l i = l[i % l.length] := by rw [atL, if_neg h0, he]
    rw [hat]
    generalize l[i % l.length] = x at hg hx
    have hne : decide ((l.length : Int) = 0) = false := decide_eq_false (by omega)
    have hne2 : ((l.length : Int) == 0) = false := beq_false_of_ne (by omega)
    clear hc hlen hcap he hat hcell hl hb hq
    go_enter Try.func36, Try.ntmps36
    go_wp2
    go_ret
    exact ⟨rfl, rfl⟩

/-- Put: one pair of those that were, and whether the new one is in. -/
def putStep (k v : Int) (st : List (Int × Int) × Bool) (p : Int × Int) : List (Int × Int) × Bool :=
  let o1 := if st.2 = false ∧ k ≤ p.1 then st.1 ++ [(k, v)] else st.1
  let d1 := if st.2 = false ∧ k ≤ p.1 then true else st.2
  (if p.1 = k then o1 else o1 ++ [p], d1)
def putL (l : List (Int × Int)) (k v : Int) : List (Int × Int) :=
  let r := l.foldl (putStep k v) ([], false)
  if r.2 then r.1 else r.1 ++ [(k, v)]
def risingGo : List Int → Nat → List (Int × Int) → List (Int × Int)
  | [], _, out => out
  | k :: ks, i, out => risingGo ks (i + 1) (putL out k (i + 100))
def rising (raw : List Int) : List (Int × Int) := risingGo raw 0 []

theorem putStep_len (k v : Int) (st : List (Int × Int) × Bool) (p : Int × Int) : (putStep k v st p).1.length ≤ st.1.length + 2 := by
  simp only [putStep]; split <;> split <;> simp
theorem put_foldl_len (k v : Int) (l : List (Int × Int)) (st : List (Int × Int) × Bool) : (l.foldl (putStep k v) st).1.length ≤ st.1.length + 2 * l.length := by
  induction l generalizing st with
  | nil => simp
  | cons x l ih => have := ih (putStep k v st x); have := putStep_len k v st x; simp only [List.foldl_cons, List.length_cons]; omega
theorem take_fold {α β : Type} (f : β → α → β) (b : β) (l : List α) {k : Nat} {x : α} (h : l[k]? = some x) : (l.take (k + 1)).foldl f b = f ((l.take k).foldl f b) x := by
  have hlt := (List.getElem?_eq_some_iff.1 h).1
  have he := (List.getElem?_eq_some_iff.1 h).2
  rw [List.take_succ_eq_append_getElem hlt, List.foldl_append, he]
  rfl
theorem pairCells_append (a b : List (Int × Int)) : pairCells (a ++ b) = pairCells a ++ pairCells b := by simp [pairCells]
theorem pairCells_len (a : List (Int × Int)) : (pairCells a).length = a.length * 2 := by
  induction a with
  | nil => rfl
  | cons p a ih => simp only [pairCells, List.flatMap_cons, List.length_append, List.length_cons, List.length_nil] at ih ⊢; omega
theorem pairCells_at {l : List (Int × Int)} : ∀ {k : Nat} (h : k < l.length), (pairCells l)[k * 2]? = some (.int .i64 l[k].1) ∧ (pairCells l)[k * 2 + 1]? = some (.int .i64 l[k].2) := by
  induction l with
  | nil => intro k h; simp at h
  | cons p l ih =>
    intro k h
    cases k with
    | zero => simp [pairCells]
    | succ k =>
      have := ih (k := k) (by simpa using h)
      simpa [pairCells, Nat.add_mul, Nat.add_assoc] using this
theorem pairCells_at0 {l : List (Int × Int)} {k : Nat} (h : k < l.length) : (pairCells l)[k * 2]? = some (.int .i64 l[k].1) := (pairCells_at h).1
theorem pairCells_at1 {l : List (Int × Int)} {k : Nat} (h : k < l.length) : (pairCells l)[k * 2 + 1]? = some (.int .i64 l[k].2) := (pairCells_at h).2
end Go.Proofs.Ytjkfigkgeoacfaa
