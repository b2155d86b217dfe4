import Derived.Test.YtjkfigkgeoacfaaL3
import Derived.Test.YtjkfigkgeoacfaaM0
set_option linter.unusedVariables false
set_option linter.unusedSimpArgs false
namespace Go.Proofs.Ytjkfigkgeoacfaa
open Go.RowKit Go.Proofs.YtjkfigkgeoacfaaW.PrintLast

theorem Sh.allK_append (a b : List Sh) : Sh.allK (a ++ b) = Sh.allK a ++ Sh.allK b := by
  induction a with
  | nil => simp [Sh.allK]
  | cons x a ih => simp [Sh.allK, ih]
theorem Sh.allK_take {kids : List Sh} {k : Nat} {s : Sh} (h : kids[k]? = some s) : Sh.allK (kids.take (k + 1)) = Sh.allK (kids.take k) ++ s.all := by
  have hlt := (List.getElem?_eq_some_iff.1 h).1
  have he := (List.getElem?_eq_some_iff.1 h).2
  rw [List.take_succ_eq_append_getElem hlt, Sh.allK_append, he]
  simp [Sh.allK]
theorem Sh.allK_take_le (kids : List Sh) (k : Nat) : (Sh.allK (kids.take k)).length ≤ (Sh.allK kids).length := by
  have := Sh.allK_append (kids.take k) (kids.drop k)
  rw [List.take_append_drop] at this
  rw [this, List.length_append]
  omega
theorem Sh.all_mem {k : Sh} {kids : List Sh} (h : k ∈ kids) : k.all.length ≤ (Sh.allK kids).length := by
  induction kids with
  | nil => cases h
  | cons x ks ih =>
    simp only [Sh.allK, List.length_append]
    rcases List.mem_cons.1 h with rfl | h
    · omega
    · have := ih h; omega
theorem Sh.deepK_append (a b : List Sh) : Sh.deepK (a ++ b) = max (Sh.deepK a) (Sh.deepK b) := by
  induction a with
  | nil => simp [Sh.deepK]
  | cons x a ih => simp only [List.cons_append, Sh.deepK, ih]; omega
theorem Sh.deepK_take {kids : List Sh} {k : Nat} {s : Sh} (h : kids[k]? = some s) : Sh.deepK (kids.take (k + 1)) = max (Sh.deepK (kids.take k)) (1 + s.deep) := by
  have hlt := (List.getElem?_eq_some_iff.1 h).1
  have he := (List.getElem?_eq_some_iff.1 h).2
  rw [List.take_succ_eq_append_getElem hlt, Sh.deepK_append, he]
  simp [Sh.deepK]
theorem Sh.deep_many : ∀ s : Sh, s.deep < s.many := by
  refine Sh.ind ?_
  intro l t ps ks kids ih
  simp only [Sh.deep, Sh.many]
  have h : Sh.deepK kids ≤ Sh.manyL kids := by
    clear ps ks
    induction kids with
    | nil => simp [Sh.deepK]
    | cons k ks ih2 =>
      have h1 := ih k (List.mem_cons_self ..)
      have h2 := ih2 fun x hx => ih x (List.mem_cons_of_mem _ hx)
      simp only [Sh.deepK, Sh.manyL]
      omega
  omega

/-- The state of Shape.All's loop. -/
structure AllSt (ps : List (Int × Int)) (kids : List Sh) (R : HL) (w : World) (ov iv : Value) (wr : World) (k : Nat) (xs : List (Int × Int)) (Aw : Option Addr) (cw : Nat) (Lw N : HL) : Prop where
  hk : k ≤ kids.length
  hi : iv = .int .i64 k
  hx : xs = ps ++ Sh.allK (kids.take k)
  ho : ov = .slice Aw xs.length cw
  ro : Row 61 2 (.slice Aw xs.length cw) xs.length (pairCells xs) Lw
  hw : Has wr (Lw ++ (N ++ R))
  he : Ext w wr

set_option maxRecDepth 100000 in
set_option maxHeartbeats 4000000 in
theorem all_any : ∀ (s : Sh), s.all.length ≤ 100000 → s.many ≤ 1000000 → ∀ (R : HL) (cs : List Value) (w : World), ShRep R cs s → Has w R →
    Calls Try.prog 25 #[.agg cs.toArray] w fun e w' => ∃ A c Lo N, e = .returned (.slice A s.all.length c) ∧ Row 61 2 (.slice A s.all.length c) s.all.length (pairCells s.all) Lo ∧ Has w' (Lo ++ (N ++ R)) ∧ Ext w w' := by
  refine Sh.ind ?_
  intro l t ps ks kids ih hb hmb R cs w hr hw
  cases hr with
  | @mk _ _ _ _ _ pv kv cv css hp hk hc hl hs =>
    obtain ⟨A, cap, rfl, hcap, hfit, hlen, hcell⟩ := hc.form
    obtain ⟨_, Ap, cp, rfl, _⟩ := id hp
    obtain ⟨_, Ak, ck, rfl, _⟩ := id hk
    simp only [Sh.all, List.length_append] at hb
    simp only [Sh.many] at hmb
    have hkl : kids.length ≤ 1000000 := by have := Sh.len_manyL kids; omega
    have hW := hw.alloc (shO l t (.slice Ap ps.length cp) (.slice Ak ks.length ck) (.slice A kids.length cap))
    have hE := (Ext.refl w).alloc (shO l t (.slice Ap ps.length cp) (.slice Ak ks.length ck) (.slice A kids.length cap))
    have hWa := (hW.alloc (Obj.cells #[] 61)).perm (L' := [] ++ (((w.alloc (shO l t (.slice Ap ps.length cp) (.slice Ak ks.length ck) (.slice A kids.length cap))).heap.size, Obj.cells #[] 61) :: ((w.heap.size, shO l t (.slice Ap ps.length cp) (.slice Ak ks.length ck) (.slice A kids.length cap)) :: R))) (List.Perm.refl _)
    rw [World.size_alloc] at hWa
    have hsa := Src.of_rd hWa (hp.mono (fun q hq => by simp [hq])) (one_pairs ps)
    have hEa := hE.alloc (Obj.cells #[] 61)
    have q2 := (hWa.five (b := w.heap.size) (l := l) (t := t) (p := .slice Ap ps.length cp) (k := .slice Ak ks.length ck) (c := .slice A kids.length cap) (by simp)).2.2.1
    have Ha := Lib.hid (And.intro hWa (And.intro hsa hEa))
    have Hx := Lib.hid (And.intro hlen (And.intro hl hb))
    clear hWa hsa hEa hlen hl hW hE
    go_enter Try.func25, Try.ntmps25
    go_upto_region 2 with (at_builtin; refine wpList_append_row rfl (.tmp 6) (.tmp 8) 28 rfl el_leaf (Row.nil 61 2 (some ⟨w.heap.size + 1, 0, none⟩)) Ha.out.1 (m := ps.length) (news := pairCells ps) rfl Ha.out.2.1 (by simp [maxLen]; omega) (by omega) ?_; intro v1 w1 L1 r1 h1 e1; obtain ⟨A1, c1, rfl⟩ := r1.shape)
    have hE1 := Ha.out.2.2.trans e1
    have q4 := (h1.five (b := w.heap.size) (l := l) (t := t) (p := .slice Ap ps.length cp) (k := .slice Ak ks.length ck) (c := .slice A kids.length cap) (by simp)).2.2.2.2
    have hr1 : Row 61 2 (.slice A1 ps.length c1) ps.length (pairCells ps) L1 := by have q := r1; simpa using q
    have HW1 := Lib.hid (And.intro h1 (And.intro hE1 hr1))
    generalize w.heap.size = vb at *
    clear q2 Ha e1 r1
    go_wp2
    go_loopw [3, 13] (fun ov iv wr => ∃ k xs Aw cw Lw N, AllSt ps kids R w ov iv wr k xs Aw cw Lw N) (fun _ i _ => kids.length - (intOf i).toNat)
    case atStart => exact ⟨0, ps, A1, c1, L1, [(vb + 1, Obj.cells #[] 61), (vb, shO l t (.slice Ap ps.length cp) (.slice Ak ks.length ck) (.slice A kids.length cap))], ⟨Nat.zero_le _, rfl, by simp [Sh.allK], rfl, HW1.out.2.2, HW1.out.1, HW1.out.2.1⟩⟩
    case round =>
      obtain ⟨k, xs, Aw, cw, Lw, N, hZ⟩ := hrel
      have e1 := hZ.ho
      have e2 := hZ.hi
      subst e1 e2
      by_cases hlt : k < kids.length
      · obtain ⟨g, off, s, Bp, dp, Bk, dk, Bc, dc, rfl, hks, hkid, h0, h1, h2, h3, h4⟩ := kid_at Hx.out.2.1 hs hcell hZ.hw (fun p hp => by simp [hp]) hlt
        have hms := List.mem_of_getElem? hks
        have hle := Sh.manyL_mem hms
        have hal := Sh.allK_take hks
        have hxl : xs.length + s.all.length ≤ 100000 := by
          have h5 := Sh.allK_take_le kids (k + 1)
          have h6 := congrArg List.length hZ.hx
          have h7 := Hx.out.2.2
          rw [hal, List.length_append] at h5
          rw [List.length_append] at h6
          omega
        have hcall := ih s hms (by omega) (by omega)
        have hN1 := (hZ.hw.alloc (shO s.leaf s.tagged (.slice Bp s.pairs.length dp) (.slice Bk s.keys.length dk) (.slice Bc s.kids.length dc)))
        have hcall1 := hcall _ (shCells s Bp dp Bk dk Bc dc) _ (hkid.mono (R' := (wr.heap.size, shO s.leaf s.tagged (.slice Bp s.pairs.length dp) (.slice Bk s.keys.length dk) (.slice Bc s.kids.length dc)) :: (Lw ++ (N ++ R))) (fun q hq => by simp [hq])) hN1
        have HN := Lib.hid (And.intro hcall1 (And.intro (hZ.he.alloc (shO s.leaf s.tagged (.slice Bp s.pairs.length dp) (.slice Bk s.keys.length dk) (.slice Bc s.kids.length dc))) (And.intro hal hZ.hx)))
        have Hro := Lib.hid hZ.ro
        have hZk := hZ.hk
        clear hcall hcall1 hal hN1 hkid hks hle hms hZ
        go_upto_region 6 with first
          | (go_at_call 25; refine HN.out.1.mono ?_; rintro e w5 ⟨A5, c5, L5, N5, rfl, hr5, hW5, hE5⟩; have hW6 := hW5.perm (L' := Lw ++ (L5 ++ (N5 ++ ((wr.heap.size, shO s.leaf s.tagged (.slice Bp s.pairs.length dp) (.slice Bk s.keys.length dk) (.slice Bc s.kids.length dc)) :: (N ++ R))))) (perm_of_count fun x => by simp only [List.count_append, List.count_cons, List.count_nil, arenaObj, slotObj, nodeObj, worldObj, pairObj]; omega); have hs6 := Src.of_rd hW6 ((hr5.rd []).mono (fun q hq => by simp only [List.append_nil] at hq; simp [hq])) (one_pairs s.all); have H6 := Lib.hid (And.intro hW6 (And.intro hs6 (HN.out.2.1.trans hE5))); clear hW5 hW6 hs6 hE5 hr5)
          | (at_builtin; refine wpList_append_row rfl (.tmp 17) (.tmp 19) 28 rfl el_leaf Hro.out H6.out.1 (m := s.all.length) (news := pairCells s.all) rfl H6.out.2.1 (by simp [maxLen]; omega) (by omega) ?_; intro v7 w7 L7 r7 h7 e7; obtain ⟨A7, c7, rfl⟩ := r7.shape)
        have HF := Lib.hid (And.intro h7 (And.intro r7 (H6.out.2.2.trans e7)))
        clear h7 r7 e7
        go_wp2
        go_roundw
        case rel =>
          refine ⟨k + 1, xs ++ s.all, A7, c7, L7, L5 ++ (N5 ++ ((wr.heap.size, shO s.leaf s.tagged (.slice Bp s.pairs.length dp) (.slice Bk s.keys.length dk) (.slice Bc s.kids.length dc)) :: N)), ⟨by omega, by go_num, ?_, by rw [List.length_append], ?_, HF.out.1.perm (perm_of_count fun x => by simp only [List.count_append, List.count_cons, List.count_nil, arenaObj, slotObj, nodeObj, worldObj, pairObj]; omega), HF.out.2.2⟩⟩
          · rw [HN.out.2.2.1, HN.out.2.2.2, List.append_assoc]
          · have h := HF.out.2.1
            rw [pairCells_append, List.length_append]
            exact h
        case measure => simp [intOf]; omega
      · have hZk := hZ.hk
        have hkk : k = kids.length := by omega
        have hxs : xs = ps ++ Sh.allK kids := by rw [hZ.hx, hkk, List.take_length]
        have HZ := Lib.hid (And.intro hZ hxs)
        clear hZ hxs
        go_wp2
        go_ret
        have hall : (Sh.mk l t ps ks kids).all = xs := by rw [HZ.out.2]; rfl
        rw [hall]
        exact ⟨Aw, cw, Lw, N, rfl, HZ.out.1.ro, HZ.out.1.hw, HZ.out.1.he⟩

set_option maxRecDepth 100000 in
set_option maxHeartbeats 1000000 in
theorem deep_any : ∀ (s : Sh), s.many ≤ 1000000 → ∀ (R : HL) (cs : List Value) (w : World), ShRep R cs s → Has w R →
    Calls Try.prog 23 #[.agg cs.toArray] w fun e w' => e = .returned (.int .i64 s.deep) ∧ (∃ N, Has w' (N ++ R)) ∧ Ext w w' := by
  refine Sh.ind ?_
  intro l t ps ks kids ih hb R cs w hr hw
  cases hr with
  | @mk _ _ _ _ _ pv kv cv css hp hk hc hl hs =>
    obtain ⟨A, cap, rfl, hcap, hfit, hlen, hcell⟩ := hc.form
    simp only [Sh.many] at hb
    have hW := hw.alloc (.cells #[.bool l, .bool t, pv, kv, .slice A kids.length cap] 31)
    have hE := (Ext.refl w).alloc (.cells #[.bool l, .bool t, pv, kv, .slice A kids.length cap] 31)
    obtain ⟨cb, _⟩ := hW.blk (List.mem_cons_self ..)
    have HW := Lib.hid (And.intro hW hE)
    clear hW hE
    obtain ⟨_, Ap, cp, rfl, _⟩ := id hp
    obtain ⟨_, Ak, ck, rfl, _⟩ := id hk
    have Hlen := Lib.hid hlen
    clear hlen
    have Hl := Lib.hid hl
    clear hl
    have hkl : kids.length ≤ 1000000 := by
      have := Sh.len_manyL kids
      omega
    go_enter Try.func23, Try.ntmps23
    go_wp2
    obtain ⟨hW, hE⟩ := HW.out
    generalize hEq : World.alloc _ _ = W1
    rw [hEq] at hW hE
    clear hEq HW cb
    have hW1 := hW.tail
    clear hW
    go_loopw [3, 9] (fun n i wr => ∃ (k dd : Nat), k ≤ kids.length ∧ i = .int .i64 k ∧ n = .int .i64 dd ∧ dd ≤ 1000000 ∧ Hid (dd = Sh.deepK (kids.take k)) ∧ (∃ N, Has wr (N ++ R)) ∧ Ext w wr) (fun _ i _ => kids.length - (intOf i).toNat)
    case atStart => exact ⟨0, 0, Nat.zero_le _, rfl, rfl, by omega, Lib.hid (by simp [Sh.deepK]), ⟨[], hW1⟩, hE⟩
    case round =>
      obtain ⟨k, dd, hk, rfl, rfl, hdd, Hdd, ⟨N, hN⟩, hX⟩ := hrel
      by_cases hlt : k < kids.length
      · obtain ⟨g, off, s, Bp, dp, Bk, dk, Bc, dc, rfl, hks, hkid, h0, h1, h2, h3, h4⟩ := kid_at Hl.out hs hcell hN (fun p => List.mem_append_right _) hlt
        have hms := List.mem_of_getElem? hks
        have hle := Sh.manyL_mem hms
        have hss := Sh.deepK_take hks
        rw [← Hdd.out] at hss
        have hdm := Sh.deep_many s
        have hcall := ih s hms (by omega)
        have hsd : s.deep ≤ 999999 := by omega
        generalize s.deep = sd at *
        have Hss := Lib.hid hss
        clear hss hle hdm
        have hN1 := hN.alloc (.cells #[.bool s.leaf, .bool s.tagged, .slice Bp s.pairs.length dp, .slice Bk s.keys.length dk, .slice Bc s.kids.length dc] 31)
        have HN := Lib.hid (And.intro hN1 hcall)
        clear hN1 hN hcall
        by_cases hmx : dd ≤ 1 + sd
        · go_wp2_with (go_at_call 23; refine (HN.out.2 R (shCells s Bp dp Bk dk Bc dc) _ hkid (HN.out.1.sub (List.Sublist.cons _ (List.sublist_append_right _ _)))).mono ?_; rintro e w1 ⟨rfl, ⟨N1, hN1⟩, hX1⟩)
          all_goals try (exfalso; omega)
          all_goals go_roundw
          case rel => exact ⟨k + 1, 1 + sd, by omega, by go_num, by go_num, by omega, Lib.hid (by rw [Hss.out]; omega), ⟨N1, hN1⟩, (hX.alloc _).trans hX1⟩
          case measure => simp [intOf]; omega
        · go_wp2_with (go_at_call 23; refine (HN.out.2 R (shCells s Bp dp Bk dk Bc dc) _ hkid (HN.out.1.sub (List.Sublist.cons _ (List.sublist_append_right _ _)))).mono ?_; rintro e w1 ⟨rfl, ⟨N1, hN1⟩, hX1⟩)
          all_goals try (exfalso; omega)
          all_goals go_roundw
          case rel => exact ⟨k + 1, dd, by omega, by go_num, by go_num, by omega, Lib.hid (by rw [Hss.out]; omega), ⟨N1, hN1⟩, (hX.alloc _).trans hX1⟩
          case measure => simp [intOf]; omega
      · have hkk : k = kids.length := by omega
        have hdk : dd = Sh.deepK kids := by rw [Hdd.out, hkk, List.take_length]
        have HK := Lib.hid hdk
        clear hdk hkk
        go_wp2
        go_ret
        refine ⟨?_, ⟨N, hN⟩, hX⟩
        rw [HK.out]
        rfl

set_option maxRecDepth 100000 in
set_option maxHeartbeats 1000000 in
theorem find_hit {R : HL} {v : Value} {ps : List (Int × Int)} (hk : Rd R 61 2 v ps.length (pairCells ps)) (hb : ps.length ≤ 100000) {k x : Int} {j : Nat} (hj : ps[j]? = some (k, x)) (hf : ∀ i (hi : i < ps.length), i < j → ps[i].1 ≠ k) {w : World} (hw : Has w R) :
    Calls Try.prog 31 #[v, .int .i64 k] w fun e w' => e = .returned (.int .i64 j) ∧ (∃ N, Has w' (N ++ R)) ∧ Ext w w' := by
  obtain ⟨A, cap, rfl, hcap, hfit, hlen, hcell⟩ := hk.form
  obtain ⟨hjl, hje⟩ := List.getElem?_eq_some_iff.1 hj
  have Hc := Lib.hid (And.intro hcell (And.intro hf hje))
  clear hcell hlen hf hje hj hk
  go_enter Try.func31, Try.ntmps31
  go_wp2
  go_loopw [9] (fun i wr => ∃ n : Nat, n ≤ j ∧ i = .int .i64 n ∧ (∃ N, Has wr (N ++ R)) ∧ Ext w wr) (fun i _ => ps.length - (intOf i).toNat)
  case atStart => exact ⟨0, Nat.zero_le _, rfl, ⟨[], hw⟩, Ext.refl w⟩
  case round =>
    obtain ⟨n, hn, rfl, ⟨N, hN⟩, hX⟩ := hrel
    have hlt : n < ps.length := by omega
    obtain ⟨g, off, rfl, hx⟩ := Hc.out.1 wr _ hN (fun q hq => by simp [hq]) (by omega)
    obtain ⟨c0, c1⟩ := pair_known (R := R) hx hlt
    have hne := Hc.out.2.1 n hlt
    have heq := Hc.out.2.2
    clear hx
    by_cases hnj : n < j
    · have hne := hne hnj
      clear heq
      generalize ps[n] = y at c0 c1 hne
      obtain ⟨y0, y1⟩ := y
      simp only [] at c0 c1 hne
      have hN1 := hN.alloc (pairObj y0 y1)
      have HN := Lib.hid (And.intro hN1 (hX.alloc (pairObj y0 y1)))
      clear hN1 hN hX
      go_wp2
      go_roundw
      case rel => exact ⟨n + 1, by omega, by go_num, ⟨(_, pairObj y0 y1) :: N, HN.out.1⟩, HN.out.2⟩
      case measure => simp [intOf]; omega
    · have hnj2 : n = j := by omega
      subst hnj2
      rw [heq] at c0 c1
      simp only [] at c0 c1
      clear heq hne
      have hN1 := hN.alloc (pairObj k x)
      have HN := Lib.hid (And.intro hN1 (hX.alloc (pairObj k x)))
      clear hN1 hN hX
      go_wp2
      go_ret
      exact ⟨rfl, ⟨(_, pairObj k x) :: N, HN.out.1⟩, HN.out.2⟩

set_option maxRecDepth 100000 in
set_option maxHeartbeats 1000000 in
theorem find_miss {R : HL} {v : Value} {ps : List (Int × Int)} (hk : Rd R 61 2 v ps.length (pairCells ps)) (hb : ps.length ≤ 100000) {k : Int} (hf : ∀ p ∈ ps, p.1 ≠ k) {w : World} (hw : Has w R) :
    Calls Try.prog 31 #[v, .int .i64 k] w fun e w' => e = .returned (.int .i64 (-1)) ∧ (∃ N, Has w' (N ++ R)) ∧ Ext w w' := by
  obtain ⟨A, cap, rfl, hcap, hfit, hlen, hcell⟩ := hk.form
  have Hc := Lib.hid (And.intro hcell hf)
  clear hcell hlen hf hk
  go_enter Try.func31, Try.ntmps31
  go_wp2
  go_loopw [9] (fun i wr => ∃ n : Nat, n ≤ ps.length ∧ i = .int .i64 n ∧ (∃ N, Has wr (N ++ R)) ∧ Ext w wr) (fun i _ => ps.length - (intOf i).toNat)
  case atStart => exact ⟨0, Nat.zero_le _, rfl, ⟨[], hw⟩, Ext.refl w⟩
  case round =>
    obtain ⟨n, hn, rfl, ⟨N, hN⟩, hX⟩ := hrel
    by_cases hlt : n < ps.length
    · obtain ⟨g, off, rfl, hx⟩ := Hc.out.1 wr _ hN (fun q hq => by simp [hq]) (by omega)
      obtain ⟨c0, c1⟩ := pair_known (R := R) hx hlt
      have hne := Hc.out.2 ps[n] (List.getElem_mem hlt)
      clear hx
      generalize ps[n] = y at c0 c1 hne
      obtain ⟨y0, y1⟩ := y
      simp only [] at c0 c1 hne
      have hN1 := hN.alloc (pairObj y0 y1)
      have HN := Lib.hid (And.intro hN1 (hX.alloc (pairObj y0 y1)))
      clear hN1 hN hX
      go_wp2
      go_roundw
      case rel => exact ⟨n + 1, by omega, by go_num, ⟨(_, pairObj y0 y1) :: N, HN.out.1⟩, HN.out.2⟩
      case measure => simp [intOf]; omega
    · go_wp2
      go_ret
      exact ⟨rfl, ⟨N, hN⟩, hX⟩
end Go.Proofs.Ytjkfigkgeoacfaa
