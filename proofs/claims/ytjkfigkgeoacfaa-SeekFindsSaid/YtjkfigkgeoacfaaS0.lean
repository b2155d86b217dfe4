import Derived.Test.YtjkfigkgeoacfaaP4
set_option linter.unusedVariables false
set_option linter.unusedSimpArgs false
namespace Go.Proofs.Ytjkfigkgeoacfaa
open Go.RowKit

/-- A tree, as the statements' own Shape has it. -/
inductive Sh : Type
  | mk (leaf tagged : Bool) (pairs : List (Int × Int)) (keys : List Int) (kids : List Sh)

namespace Sh
def leaf : Sh → Bool | .mk l _ _ _ _ => l
def tagged : Sh → Bool | .mk _ t _ _ _ => t
def pairs : Sh → List (Int × Int) | .mk _ _ p _ _ => p
def keys : Sh → List Int | .mk _ _ _ k _ => k
def kids : Sh → List Sh | .mk _ _ _ _ k => k
theorem ind {P : Sh → Prop} (h : ∀ l t ps ks kids, (∀ k ∈ kids, P k) → P (.mk l t ps ks kids)) : ∀ s, P s
  | .mk l t ps ks kids => h l t ps ks kids fun k hk => ind h k
termination_by s => SizeOf.sizeOf s
decreasing_by
  have := List.sizeOf_lt_of_mem hk
  simp
  omega
mutual
def many : Sh → Nat
  | .mk _ _ _ _ kids => 1 + manyL kids
def manyL : List Sh → Nat
  | [] => 0
  | k :: ks => many k + manyL ks
end
theorem manyL_append (a b : List Sh) : manyL (a ++ b) = manyL a + manyL b := by
  induction a with
  | nil => simp [manyL]
  | cons x a ih => simp [manyL, ih]; omega
theorem many_pos (s : Sh) : 0 < many s := by cases s; simp only [many]; omega
theorem manyL_mem {k : Sh} {ks : List Sh} (h : k ∈ ks) : many k ≤ manyL ks := by
  induction ks with
  | nil => cases h
  | cons x ks ih =>
    simp only [manyL]
    rcases List.mem_cons.1 h with rfl | h
    · omega
    · have := ih h; omega
theorem len_manyL (kids : List Sh) : kids.length ≤ manyL kids := by
  induction kids with
  | nil => simp
  | cons k ks ih => have := many_pos k; simp only [manyL, List.length_cons]; omega
end Sh

inductive ShRep (R : HL) : List Value → Sh → Prop
  | mk {l t : Bool} {ps : List (Int × Int)} {ks : List Int} {kids : List Sh} {pv kv cv : Value} {css : List (List Value)}
    (hp : Rd R 61 2 pv ps.length (pairCells ps)) (hk : Rd R 2 1 kv ks.length (ints ks)) (hc : Rd R 31 5 cv kids.length css.flatten)
    (hl : css.length = kids.length) (hs : ∀ (i : Nat) (cs : List Value) (k : Sh), css[i]? = some cs → kids[i]? = some k → ShRep R cs k) : ShRep R [.bool l, .bool t, pv, kv, cv] (.mk l t ps ks kids)

theorem ShRep.mono {R R' : HL} {cs : List Value} {s : Sh} (h : ShRep R cs s) (hs : ∀ p, p ∈ R → p ∈ R') : ShRep R' cs s := by
  induction h with
  | mk hp hk hc hl _ ih => exact .mk (hp.mono hs) (hk.mono hs) (hc.mono hs) hl ih
theorem ShRep.five {R : HL} {cs : List Value} {s : Sh} (h : ShRep R cs s) : cs.length = 5 := by cases h; rfl

abbrev shCells (s : Sh) (Ap : Option Addr) (cp : Nat) (Ak : Option Addr) (ck : Nat) (Ac : Option Addr) (cc : Nat) : List Value :=
  [.bool s.leaf, .bool s.tagged, .slice Ap s.pairs.length cp, .slice Ak s.keys.length ck, .slice Ac s.kids.length cc]
theorem ShRep.shape {R : HL} {cs : List Value} {s : Sh} (h : ShRep R cs s) : ∃ Ap cp Ak ck Ac cc, cs = shCells s Ap cp Ak ck Ac cc := by
  cases h with
  | mk hp hk hc hl hs =>
    obtain ⟨_, Ap, cp, rfl, _⟩ := hp
    obtain ⟨_, Ak, ck, rfl, _⟩ := hk
    obtain ⟨_, Ac, cc, rfl, _⟩ := hc
    exact ⟨_, _, _, _, _, _, rfl⟩

theorem flat_at5 {css : List (List Value)} (h : ∀ cs ∈ css, cs.length = 5) : ∀ {i : Nat} {cs : List Value}, css[i]? = some cs → ∀ (k : Nat), k < 5 → css.flatten[i * 5 + k]? = cs[k]? := by
  induction css with
  | nil => intro i cs h; simp at h
  | cons c css ih =>
    intro i cs hi k hk
    have hc : c.length = 5 := h c (List.mem_cons_self ..)
    cases i with
    | zero =>
      have : c = cs := by simpa using hi
      subst this
      simp only [List.flatten_cons, Nat.zero_mul, Nat.zero_add]
      rw [List.getElem?_append_left (by omega)]
    | succ i =>
      simp only [List.flatten_cons]
      rw [List.getElem?_append_right (by omega)]
      have e : (i + 1) * 5 + k - c.length = i * 5 + k := by omega
      rw [e]
      exact ih (fun cs hm => h cs (List.mem_cons_of_mem _ hm)) (by simpa using hi) k hk

/-- What a slice that is read looks like, and where its cells lie. -/
theorem Rd.form {R : HL} {T sz : Nat} {v : Value} {n : Nat} {xs : List Value} (h : Rd R T sz v n xs) :
    ∃ A cap, v = .slice A n cap ∧ n ≤ cap ∧ Fits cap ∧ xs.length = n * sz ∧ ∀ (w : World) (L : HL), Has w L → (∀ p, p ∈ R → p ∈ L) → 0 < n → ∃ g off, A = some ⟨g, off, none⟩ ∧ ∀ j u, xs[j]? = some u → w.cell? ⟨g, off + j, none⟩ = some u := by
  obtain ⟨h0, A, cap, h1, h2, h3, h4⟩ := h
  refine ⟨A, cap, h1, h2, h3, h0, fun w L hw hs hn => ?_⟩
  obtain ⟨g, off, cur, fr, e, hm, ht⟩ := h4 hn
  refine ⟨g, off, e, fun j u hu => ?_⟩
  rw [hw.cell (hs _ hm)]
  exact row_at ht hu

/-- The i-th kid, out of the row of kids. -/
theorem kid_at {R : HL} {A : Option Addr} {css : List (List Value)} {kids : List Sh} (hl : css.length = kids.length) (hs : ∀ (i : Nat) (cs : List Value) (k : Sh), css[i]? = some cs → kids[i]? = some k → ShRep R cs k)
    (hc : ∀ (w : World) (L : HL), Has w L → (∀ p, p ∈ R → p ∈ L) → 0 < kids.length → ∃ g off, A = some ⟨g, off, none⟩ ∧ ∀ j u, css.flatten[j]? = some u → w.cell? ⟨g, off + j, none⟩ = some u)
    {w : World} {L : HL} (hw : Has w L) (hsub : ∀ p, p ∈ R → p ∈ L) {i : Nat} (hi : i < kids.length) :
    ∃ (g off : Nat) (s : Sh) (Ap : Option Addr) (cp : Nat) (Ak : Option Addr) (ck : Nat) (Ac : Option Addr) (cc : Nat), A = some ⟨g, off, none⟩ ∧ kids[i]? = some s ∧ ShRep R (shCells s Ap cp Ak ck Ac cc) s ∧
      w.cell? ⟨g, off + i * 5, none⟩ = some (.bool s.leaf) ∧ w.cell? ⟨g, off + i * 5 + 1, none⟩ = some (.bool s.tagged) ∧ w.cell? ⟨g, off + i * 5 + 2, none⟩ = some (.slice Ap s.pairs.length cp) ∧
      w.cell? ⟨g, off + i * 5 + 3, none⟩ = some (.slice Ak s.keys.length ck) ∧ w.cell? ⟨g, off + i * 5 + 4, none⟩ = some (.slice Ac s.kids.length cc) := by
  obtain ⟨g, off, rfl, hcell⟩ := hc w L hw hsub (by omega)
  have hi' : i < css.length := by omega
  have hsi := hs i css[i] kids[i] (List.getElem?_eq_getElem hi') (List.getElem?_eq_getElem hi)
  have h5 : ∀ cs ∈ css, cs.length = 5 := by
    intro cs hm
    obtain ⟨j, hj, rfl⟩ := List.getElem_of_mem hm
    exact (hs j css[j] (kids[j]'(by omega)) (List.getElem?_eq_getElem hj) (List.getElem?_eq_getElem (by omega))).five
  have hat := flat_at5 h5 (List.getElem?_eq_getElem hi')
  generalize css[i] = cs at hsi hat
  obtain ⟨Ap, cp, Ak, ck, Ac, cc, rfl⟩ := hsi.shape
  refine ⟨g, off, kids[i], Ap, cp, Ak, ck, Ac, cc, rfl, List.getElem?_eq_getElem hi, hsi, ?_, ?_, ?_, ?_, ?_⟩
  · exact hcell (i * 5) _ (hat 0 (by omega))
  · rw [Nat.add_assoc]; exact hcell _ _ (hat 1 (by omega))
  · rw [Nat.add_assoc]; exact hcell _ _ (hat 2 (by omega))
  · rw [Nat.add_assoc]; exact hcell _ _ (hat 3 (by omega))
  · rw [Nat.add_assoc]; exact hcell _ _ (hat 4 (by omega))

theorem Sh.manyL_take {kids : List Sh} {k : Nat} {s : Sh} (h : kids[k]? = some s) : Sh.manyL (kids.take (k + 1)) = Sh.manyL (kids.take k) + s.many := by
  have hlt := (List.getElem?_eq_some_iff.1 h).1
  have he := (List.getElem?_eq_some_iff.1 h).2
  rw [List.take_succ_eq_append_getElem hlt, Sh.manyL_append, he]
  simp [Sh.manyL]
theorem Sh.manyL_take_le (kids : List Sh) (k : Nat) : Sh.manyL (kids.take k) ≤ Sh.manyL kids := by
  have := Sh.manyL_append (kids.take k) (kids.drop k)
  rw [List.take_append_drop] at this
  omega

set_option maxHeartbeats 1000000 in
theorem many_any : ∀ (s : Sh), s.many ≤ 1000000 → ∀ (R : HL) (cs : List Value) (w : World), ShRep R cs s → Has w R →
    Calls Try.prog 38 #[.agg cs.toArray] w fun e w' => e = .returned (.int .i64 s.many) ∧ (∃ N, Has w' (N ++ R)) ∧ Ext w w' := by
  refine Sh.ind ?_
  intro l t ps ks kids ih hb R cs w hr hw
  cases hr with
  | @mk _ _ _ _ _ pv kv cv css hp hk hc hl hs =>
    obtain ⟨A, cap, rfl, hcap, hfit, hlen, hcell⟩ := hc.form
    simp only [Sh.many] at hb
    have hW := hw.alloc (.cells #[.bool l, .bool t, pv, kv, .slice A kids.length cap] 31)
    have hE := (Ext.refl w).alloc (.cells #[.bool l, .bool t, pv, kv, .slice A kids.length cap] 31)
    obtain ⟨cb, _⟩ := hW.blk (List.mem_cons_self ..)
    have HW := Lib.hid (And.intro hW hE)
    clear hW hE
    obtain ⟨_, Ap, cp, rfl, _⟩ := id hp
    obtain ⟨_, Ak, ck, rfl, _⟩ := id hk
    have Hlen := Lib.hid hlen
    clear hlen
    have Hl := Lib.hid hl
    clear hl
    have hkl : kids.length ≤ 1000000 := by
      have := Sh.len_manyL kids
      omega
    go_enter Try.func38, Try.ntmps38
    go_wp2
    obtain ⟨hW, hE⟩ := HW.out
    generalize hEq : World.alloc _ _ = W1
    rw [hEq] at hW hE
    clear hEq HW cb
    have hW1 := hW.tail
    clear hW
    go_loopw [3, 9] (fun n i wr => ∃ k : Nat, k ≤ kids.length ∧ i = .int .i64 k ∧ n = .int .i64 (1 + Sh.manyL (kids.take k)) ∧ (∃ N, Has wr (N ++ R)) ∧ Ext w wr) (fun _ i _ => kids.length - (intOf i).toNat)
    case atStart => exact ⟨0, Nat.zero_le _, rfl, rfl, ⟨[], hW1⟩, hE⟩
    case round =>
      obtain ⟨k, hk, rfl, rfl, ⟨N, hN⟩, hX⟩ := hrel
      by_cases hlt : k < kids.length
      · obtain ⟨g, off, s, Bp, dp, Bk, dk, Bc, dc, rfl, hks, hkid, h0, h1, h2, h3, h4⟩ := kid_at Hl.out hs hcell hN (fun p => List.mem_append_right _) hlt
        have hms := List.mem_of_getElem? hks
        have hle := Sh.manyL_mem hms
        have hss := Sh.manyL_take hks
        have hle2 := Sh.manyL_take_le kids (k + 1)
        have Hss := Lib.hid hss
        have hle3 := Sh.manyL_take_le kids k
        have b1 : Sh.manyL (kids.take k) + s.many ≤ 1000000 := by omega
        clear hss hle2
        have hN1 := hN.alloc (.cells #[.bool s.leaf, .bool s.tagged, .slice Bp s.pairs.length dp, .slice Bk s.keys.length dk, .slice Bc s.kids.length dc] 31)
        have HN := Lib.hid hN1
        clear hN1 hN
        go_wp2_with (go_at_call 38; refine (ih s hms (by omega) R (shCells s Bp dp Bk dk Bc dc) _ hkid (HN.out.sub (List.Sublist.cons _ (List.sublist_append_right _ _)))).mono ?_; rintro e w1 ⟨rfl, ⟨N1, hN1⟩, hX1⟩)
        go_roundw
        case rel => exact ⟨k + 1, by omega, by go_num, by rw [Hss.out]; go_num, ⟨N1, hN1⟩, (hX.alloc _).trans hX1⟩
        case measure => simp [intOf]; omega
      · have hkk : k = kids.length := by omega
        go_wp2
        go_ret
        refine ⟨?_, ⟨N, hN⟩, hX⟩
        rw [hkk, List.take_length]
        simp [Sh.many]
end Go.Proofs.Ytjkfigkgeoacfaa
