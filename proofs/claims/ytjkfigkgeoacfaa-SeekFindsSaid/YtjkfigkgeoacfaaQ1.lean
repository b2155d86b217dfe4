import Derived.Test.YtjkfigkgeoacfaaQ0
set_option linter.unusedVariables false
set_option linter.unusedSimpArgs false
namespace Go.Proofs.Ytjkfigkgeoacfaa
open Go.RowKit Go.Proofs.YtjkfigkgeoacfaaW.PrintLast

abbrev pairObj (a b : Int) : Obj := .cells #[.int .i64 a, .int .i64 b] 61 (0, 0)

theorem Has.pair {w : World} {L : HL} (h : Has w L) {b : Nat} {x y : Int} (hm : (b, pairObj x y) ∈ L) : w.cell? ⟨b, 0, none⟩ = some (.int .i64 x) ∧ w.cell? ⟨b, 1, none⟩ = some (.int .i64 y) :=
  ⟨(h.cell hm 0).trans rfl, (h.cell hm 1).trans rfl⟩
theorem Has.srcPair {w : World} {L : HL} (h : Has w L) (x y : Int) : Src (w.alloc (pairObj x y)) (.slice (some ⟨w.heap.size, 0, none⟩) 1 1) 2 1 [.int .i64 x, .int .i64 y] :=
  Src.of_block (fr := (0, 0)) ((h.alloc (pairObj x y)).get w.heap.size (pairObj x y) (List.mem_cons_self ..)) rfl (by intro u hu; simp at hu; rcases hu with rfl | rfl <;> rfl)

set_option maxRecDepth 100000 in
set_option maxHeartbeats 2000000 in
theorem put_any {R : HL} {w : World} {v : Value} {l : List (Int × Int)} (hl : Rd R 61 2 v l.length (pairCells l)) (hw : Has w R) (hs : l.length ≤ 100000) (key x : Int) :
    Calls Try.prog 61 #[v, .int .i64 key, .int .i64 x] w fun e w' => ∃ v' L N, e = .returned v' ∧ Row 61 2 v' (putL l key x).length (pairCells (putL l key x)) L ∧ Has w' (L ++ (N ++ R)) ∧ Ext w w' := by
  obtain ⟨A, cap, rfl, hcap, hfit, hlen, hcell⟩ := hl.form
  have Hcell := Lib.hid (And.intro hcell hlen)
  clear hcell hlen
  go_enter Try.func61, Try.ntmps61
  go_wp2
  go_loopw [7, 8, 13] (fun o d i wr => ∃ k : Nat, k ≤ l.length ∧ i = .int .i64 k ∧ ∃ (out : List (Int × Int)) (dn : Bool) (L N : HL), (l.take k).foldl (putStep key x) ([], false) = (out, dn) ∧ d = .bool dn ∧ Row 61 2 o out.length (pairCells out) L ∧ Has wr (L ++ (N ++ R)) ∧ Ext w wr) (fun _ _ i _ => l.length - (intOf i).toNat)
  case atStart => exact ⟨0, Nat.zero_le _, rfl, [], false, [], [], rfl, rfl, Row.nil _ _ _, hw, Ext.refl w⟩
  case round =>
    obtain ⟨k, hk, rfl, out, dn, L, N, hst, rfl, hrow, hN, hX⟩ := hrel
    by_cases hlt : k < l.length
    · obtain ⟨g, off, rfl, hc⟩ := Hcell.out.1 wr _ hN (fun p hp => by simp [hp]) (by omega)
      have hx0 := hc (k * 2) (.int .i64 l[k].1) (pairCells_at0 hlt)
      have hx1 := hc (k * 2 + 1) (.int .i64 l[k].2) (pairCells_at1 hlt)
      have hx1 : wr.cell? ⟨g, off + k * 2 + 1, none⟩ = some (.int .i64 l[k].2) := hx1
      have hst2 := take_fold (putStep key x) ([], false) l (List.getElem?_eq_getElem hlt)
      rw [hst] at hst2
      have hlen := put_foldl_len key x (l.take k) ([], false)
      rw [hst] at hlen
      simp only [List.length_take, List.length_nil] at hlen
      generalize l[k] = p at hx0 hx1 hst2
      obtain ⟨p0, p1⟩ := p
      simp only [] at hx0 hx1
      clear hc
      have hN1 := (hN.alloc (pairObj p0 p1)).perm (L' := L ++ ((wr.heap.size, pairObj p0 p1) :: (N ++ R))) (perm_of_count fun x => by simp only [List.count_append, List.count_cons, List.count_nil, arenaObj, slotObj, nodeObj, worldObj, pairObj]; omega)
      have hE1 := hX.alloc (pairObj p0 p1)
      obtain ⟨q0, q1⟩ := hN1.pair (b := wr.heap.size) (x := p0) (y := p1) (by simp)
      have HN := Lib.hid (And.intro hN1 hE1)
      have H63 : Hid (out.length + 2 ≤ maxLen) := Lib.hid (by simp [maxLen]; omega)
      clear hN hX
      go_upto_region 6 with fail
      go_cut [24] (fun b wx => b = .bool (!dn && decide (key ≤ p0)) ∧ wx = wr.alloc (pairObj p0 p1))
      case first =>
        cases dn
        · go_wp2
          go_meet
          case rel => exact ⟨rfl, rfl⟩
        · go_wp2
          go_meet
          case rel => exact ⟨rfl, rfl⟩
      case rest =>
        obtain ⟨rfl, rfl⟩ := hcut
        go_upto_if 24 with fail
        go_cut [7, 8] (fun o d wx => ∃ (out1 : List (Int × Int)) (dn1 : Bool) (L1 N1 : HL), out1 = (if dn = false ∧ key ≤ p0 then out ++ [(key, x)] else out) ∧ dn1 = (if dn = false ∧ key ≤ p0 then true else dn) ∧ d = .bool dn1 ∧ Row 61 2 o out1.length (pairCells out1) L1 ∧ Has wx (L1 ++ ((wr.heap.size, pairObj p0 p1) :: (N1 ++ R))) ∧ Ext w wx)
        case first =>
          by_cases cA : dn = false ∧ key ≤ p0
          · have cB : (!dn && decide (key ≤ p0)) = true := by simp [cA]
            have hsB := HN.out.1.srcPair key x
            have hW := (HN.out.1.alloc (pairObj key x)).perm (L' := L ++ ((wr.heap.size, pairObj p0 p1) :: (((wr.alloc (pairObj p0 p1)).heap.size, pairObj key x) :: (N ++ R)))) (perm_of_count fun x => by simp only [List.count_append, List.count_cons, List.count_nil, arenaObj, slotObj, nodeObj, worldObj, pairObj]; omega)
            have hE := HN.out.2.alloc (pairObj key x)
            generalize hWx : wr.alloc (pairObj p0 p1) = Wx at *
            have hR2 := Lib.hid (And.intro hW (And.intro hsB hE))
            clear hW hsB hE HN q0 q1 hst hst2 hN1 hE1 hx0 hx1
            rw [cB]
            clear cB
            go_wp2_with (at_builtin; refine wpList_append_row rfl (.tmp 25) (.tmp 29) 28 rfl el_leaf hrow hR2.out.1 (m := 1) (news := [.int .i64 key, .int .i64 x]) rfl hR2.out.2.1 (by have := H63.out; omega) (by omega) ?_)
            intro v2 w2 L2 hr2 hW2 hE2
            go_wp2
            go_meet
            case rel => exact ⟨out ++ [(key, x)], true, L2, (Wx.heap.size, pairObj key x) :: N, by rw [if_pos cA], by rw [if_pos cA], rfl, by rw [pairCells_append, List.length_append]; exact hr2, hW2, hR2.out.2.2.trans hE2⟩
          · have cB : (!dn && decide (key ≤ p0)) = false := by
              cases dn
              · simp at cA ⊢; exact cA
              · rfl
            rw [cB]
            clear cB hst hst2 hx0 hx1
            go_wp2
            go_meet
            case rel => exact ⟨out, dn, L, N, by rw [if_neg cA], by rw [if_neg cA], rfl, hrow, HN.out.1, HN.out.2⟩
        case rest =>
          obtain ⟨out1, dn1, L1, N1, ho, hd, rfl, hrow1, hN1, hE1⟩ := hcut
          have hol : out1.length ≤ out.length + 1 := by rw [ho]; split <;> simp
          obtain ⟨q0, q1⟩ := hN1.pair (b := wr.heap.size) (x := p0) (y := p1) (by simp)
          by_cases hk2 : p0 = key
          · have hst3 : (List.take (k + 1) l).foldl (putStep key x) ([], false) = (out1, dn1) := by rw [hst2, ho, hd]; simp [putStep, hk2]
            have HN1 := Lib.hid (And.intro hN1 (And.intro hE1 hst3))
            clear hN1 hE1 hst3 hst2 ho hd HN hst
            go_wp2
            go_roundw
            case rel => exact ⟨k + 1, by omega, by go_num, out1, dn1, L1, (wr.heap.size, pairObj p0 p1) :: N1, HN1.out.2.2, rfl, hrow1, HN1.out.1, HN1.out.2.1⟩
            case measure => simp [intOf]; omega
          · have hst3 : (List.take (k + 1) l).foldl (putStep key x) ([], false) = (out1 ++ [(p0, p1)], dn1) := by rw [hst2, ho, hd]; simp [putStep, hk2]
            have hsB := hN1.srcPair p0 p1
            have hW := (hN1.alloc (pairObj p0 p1)).perm (L' := L1 ++ ((wc.heap.size, pairObj p0 p1) :: ((wr.heap.size, pairObj p0 p1) :: (N1 ++ R)))) (perm_of_count fun x => by simp only [List.count_append, List.count_cons, List.count_nil, arenaObj, slotObj, nodeObj, worldObj, pairObj]; omega)
            have hE := hE1.alloc (pairObj p0 p1)
            have HN1 := Lib.hid (And.intro hW (And.intro hE (And.intro hst3 hsB)))
            clear hN1 hE1 hst3 hst2 ho hd HN hst hW hE hsB
            go_wp2_with (at_builtin; refine wpList_append_row rfl (.tmp 35) (.tmp 37) 28 rfl el_leaf hrow1 HN1.out.1 (m := 1) (news := [.int .i64 p0, .int .i64 p1]) rfl HN1.out.2.2.2 (by have := H63.out; omega) (by omega) ?_)
            intro v2 w2 L2 hr2 hW2 hE2
            go_wp2
            go_roundw
            case rel => exact ⟨k + 1, by omega, by go_num, out1 ++ [(p0, p1)], dn1, L2, (wc.heap.size, pairObj p0 p1) :: (wr.heap.size, pairObj p0 p1) :: N1, HN1.out.2.2.1, rfl, by rw [pairCells_append, List.length_append]; exact hr2, hW2, HN1.out.2.1.trans hE2⟩
            case measure => simp [intOf]; omega
    · have hkk : k = l.length := by omega
      subst hkk
      rw [List.take_length] at hst
      have hput : putL l key x = if dn then out else out ++ [(key, x)] := by simp only [putL, hst]
      have hlen := put_foldl_len key x l ([], false)
      rw [hst] at hlen
      simp only [List.length_nil] at hlen
      have H63 : Hid (out.length + 2 ≤ maxLen) := Lib.hid (by simp [maxLen]; omega)
      have Hput := Lib.hid hput
      clear hput hst
      cases dn
      · have hsB := hN.srcPair key x
        have hW := (hN.alloc (pairObj key x)).perm (L' := L ++ ((wr.heap.size, pairObj key x) :: (N ++ R))) (perm_of_count fun x => by simp only [List.count_append, List.count_cons, List.count_nil, arenaObj, slotObj, nodeObj, worldObj, pairObj]; omega)
        have hE := hX.alloc (pairObj key x)
        have HN1 := Lib.hid (And.intro hW (And.intro hE hsB))
        clear hW hE hsB hN hX
        go_wp2_with (at_builtin; refine wpList_append_row rfl (.tmp 42) (.tmp 46) 28 rfl el_leaf hrow HN1.out.1 (m := 1) (news := [.int .i64 key, .int .i64 x]) rfl HN1.out.2.2 (by have := H63.out; omega) (by omega) ?_)
        intro v2 w2 L2 hr2 hW2 hE2
        go_wp2
        go_ret
        exact ⟨_, L2, (wr.heap.size, pairObj key x) :: N, rfl, by rw [Hput.out]; simp only [Bool.false_eq_true, if_false]; rw [pairCells_append, List.length_append]; exact hr2, hW2, HN1.out.2.1.trans hE2⟩
      · go_wp2
        go_ret
        exact ⟨_, rfl, L, by rw [Hput.out]; exact hrow, ⟨N, hN⟩, hX⟩

def putM (st : List (Int × Int) × Bool) : Nat := st.1.length + (if st.2 then 0 else 1)
theorem putM_step (k v : Int) (st : List (Int × Int) × Bool) (p : Int × Int) : putM (putStep k v st p) ≤ putM st + 1 := by
  obtain ⟨o, d⟩ := st
  simp only [putStep, putM]
  cases d <;> by_cases h1 : k ≤ p.1 <;> by_cases h2 : p.1 = k <;> simp [h1, h2] <;> omega
theorem putM_fold (k v : Int) (l : List (Int × Int)) (st : List (Int × Int) × Bool) : putM (l.foldl (putStep k v) st) ≤ putM st + l.length := by
  induction l generalizing st with
  | nil => simp
  | cons x l ih => have := ih (putStep k v st x); have := putM_step k v st x; simp only [List.foldl_cons, List.length_cons]; omega
theorem putL_len (l : List (Int × Int)) (k v : Int) : (putL l k v).length ≤ l.length + 1 := by
  have := putM_fold k v l ([], false)
  have h0 : putM (([], false) : List (Int × Int) × Bool) = 1 := rfl
  rw [h0] at this
  simp only [putL]
  generalize List.foldl (putStep k v) ([], false) l = r at *
  obtain ⟨o, d⟩ := r
  simp only [putM] at this
  cases d <;> simp at this ⊢ <;> omega

set_option maxRecDepth 100000 in
set_option maxHeartbeats 2000000 in
theorem rising_any {R : HL} {w : World} {v : Value} {raw : List Int} (hlx : RdX R 1 v raw.length (ints raw)) (hw : Has w R) (hs : raw.length ≤ 1000) :
    Calls Try.prog 35 #[v] w fun e w' => ∃ v' L N, e = .returned v' ∧ Row 61 2 v' (rising raw).length (pairCells (rising raw)) L ∧ Has w' (L ++ (N ++ R)) ∧ Ext w w' := by
  obtain ⟨Tl, hl⟩ := hlx
  obtain ⟨A, cap, rfl, hcap, hfit, hlen, hcell⟩ := hl.form
  have Hcell := Lib.hid (And.intro hcell hlen)
  clear hcell hlen
  go_enter Try.func35, Try.ntmps35
  go_wp2
  go_loopw [3, 8] (fun o i wr => ∃ k : Nat, k ≤ raw.length ∧ i = .int .i64 k ∧ ∃ (out : List (Int × Int)) (L N : HL), risingGo (raw.drop k) k out = rising raw ∧ out.length ≤ k ∧ Row 61 2 o out.length (pairCells out) L ∧ Has wr (L ++ (N ++ R)) ∧ Ext w wr) (fun _ i _ => raw.length - (intOf i).toNat)
  case atStart => exact ⟨0, Nat.zero_le _, rfl, [], [], [], rfl, Nat.le_refl _, Row.nil _ _ _, hw, Ext.refl w⟩
  case round =>
    obtain ⟨k, hk, rfl, out, L, N, hst, hol, hrow, hN, hX⟩ := hrel
    by_cases hlt : k < raw.length
    · obtain ⟨g, off, rfl, hc⟩ := Hcell.out.1 wr _ hN (fun p hp => by simp [hp]) (by omega)
      have hx0 := hc k (.int .i64 raw[k]) (by simp [ints, hlt])
      rw [List.drop_eq_getElem_cons hlt] at hst
      simp only [risingGo] at hst
      generalize raw[k] = x at hx0 hst
      have hlen := putL_len out x (k + 100)
      have hput := put_any (R := L ++ (N ++ R)) (hrow.rd (N ++ R)) hN (by omega) x (k + 100)
      have Hput := Lib.hid (And.intro hput hst)
      clear hput hst hc
      go_wp2_with (go_at_call 61; refine Hput.out.1.mono ?_; rintro e w2 ⟨v2, L2, N2, rfl, hr2, hW2, hE2⟩)
      go_roundw
      case rel => exact ⟨k + 1, by omega, by go_num, putL out x (k + 100), L2, N2 ++ (L ++ N), Hput.out.2, by omega, hr2, hW2.perm (perm_of_count fun x => by simp only [List.count_append, List.count_cons, List.count_nil, arenaObj, slotObj, nodeObj, worldObj, pairObj]; omega), hX.trans hE2⟩
      case measure => simp [intOf]; omega
    · have hkk : k = raw.length := by omega
      subst hkk
      rw [List.drop_length] at hst
      simp only [risingGo] at hst
      subst hst
      go_wp2
      go_ret
      exact ⟨_, L, N, rfl, hrow, hN, hX⟩
end Go.Proofs.Ytjkfigkgeoacfaa
