import Derived.Test.YtjkfigkgeoacfaaK0
set_option linter.unusedVariables false
set_option linter.unusedSimpArgs false
namespace Go.Proofs.Ytjkfigkgeoacfaa
open Go.RowKit Go.Proofs.YtjkfigkgeoacfaaW.PrintLast

theorem Has.five {w : World} {L : HL} (h : Has w L) {b : Nat} {l t : Bool} {p k c : Value} (hm : (b, shO l t p k c) ∈ L) :
    (w.cell? ⟨b, 0, none⟩ = some (.bool l) ∧ w.cell? ⟨b, 1, none⟩ = some (.bool t) ∧ w.cell? ⟨b, 2, none⟩ = some p ∧ w.cell? ⟨b, 3, none⟩ = some k ∧ w.cell? ⟨b, 4, none⟩ = some c) :=
  ⟨(h.cell hm 0).trans rfl, (h.cell hm 1).trans rfl, (h.cell hm 2).trans rfl, (h.cell hm 3).trans rfl, (h.cell hm 4).trans rfl⟩
/-- A struct stored whole. -/
def set5 (w : World) (b : Nat) (l t : Bool) (p k c : Value) : World := ((((w.setCell ⟨b, 0, none⟩ (.bool l)).setCell ⟨b, 1, none⟩ (.bool t)).setCell ⟨b, 2, none⟩ p).setCell ⟨b, 3, none⟩ k).setCell ⟨b, 4, none⟩ c
theorem Has.set5 {w : World} {R : HL} {b : Nat} {l0 t0 : Bool} {p0 k0 c0 : Value} (h : Has w ((b, shO l0 t0 p0 k0 c0) :: R)) (l t : Bool) (p k c : Value) : Has (set5 w b l t p k c) ((b, shO l t p k c) :: R) :=
  ((((h.set 0 (.bool l)).set 1 (.bool t)).set 2 p).set 3 k).set 4 c
theorem Ext.set5 {w w0 : World} (h : Ext w0 w) (b : Nat) (l t : Bool) (p k c : Value) : Ext w0 (Go.Proofs.Ytjkfigkgeoacfaa.set5 w b l t p k c) :=
  ((((h.setCell _ _).setCell _ _).setCell _ _).setCell _ _).setCell _ _

set_option maxRecDepth 100000 in
set_option maxHeartbeats 2000000 in
theorem tagged_any {s : Sh} {R0 R : HL} {cs : List Value} (hr : ShRep R0 cs s) (hsub : ∀ p, p ∈ R0 → p ∈ R) (hks : s.keys.length + 1 = s.kids.length ∨ s.kids.length < 3) (hb : s.kids.length ≤ 1000) {j : Nat} (hj : j ≤ 1000) {jj : Int} (hjj : jj = j) {w : World} (hw : Has w R) :
    Calls Try.prog 37 #[.agg cs.toArray, .int .i64 jj] w fun e w' => ∃ cs' N, e = .returned (.agg cs'.toArray) ∧ ShRep (N ++ R0) cs' (taggedS s j) ∧ Has w' (N ++ R) ∧ Ext w w' := by
  subst hjj
  cases hr with
  | @mk l t ps ks kids pv kv cv css hp0 hk0 hc0 hl hs0 =>
  have hp := hp0.mono hsub
  have hk := hk0.mono hsub
  have hc := hc0.mono hsub
  have hs : ∀ (i : Nat) (cs : List Value) (k : Sh), css[i]? = some cs → kids[i]? = some k → ShRep R cs k := fun i cs k a b => (hs0 i cs k a b).mono hsub
  have Hs0 := Lib.hid (And.intro hs0 hsub)
  clear hs0 hsub
  obtain ⟨_, Bp, dp, rfl, _⟩ := id hp
  obtain ⟨Bk, dk, rfl, hkcap, hkfit, hklen, hkcell⟩ := hk.form
  obtain ⟨Bc, dc, rfl, hccap, hcfit, hclen, hccell⟩ := hc.form
  simp only [Sh.keys, Sh.kids] at hks hb
  have hW := ((hw.alloc (shO l t (.slice Bp ps.length dp) (.slice Bk ks.length dk) (.slice Bc kids.length dc))).alloc (shO false false nil0 nil0 nil0))
  have hE := ((Ext.refl w).alloc (shO l t (.slice Bp ps.length dp) (.slice Bk ks.length dk) (.slice Bc kids.length dc))).alloc (shO false false nil0 nil0 nil0)
  rw [World.size_alloc] at hW
  obtain ⟨q0, q1, q2, q3, q4⟩ := hW.five (b := w.heap.size) (l := l) (t := t) (p := .slice Bp ps.length dp) (k := .slice Bk ks.length dk) (c := .slice Bc kids.length dc) (by simp)
  by_cases h3 : kids.length < 3
  · have hd : decide ((kids.length : Int) < 3) = true := decide_eq_true (by omega)
    have ht : taggedS (.mk l t ps ks kids) j = .mk l t ps ks kids := by unfold taggedS; rw [dif_pos (.inl h3)]
    have hF := ((hw.alloc (shO l t (.slice Bp ps.length dp) (.slice Bk ks.length dk) (.slice Bc kids.length dc))).alloc (shO l t (.slice Bp ps.length dp) (.slice Bk ks.length dk) (.slice Bc kids.length dc)))
    rw [World.size_alloc] at hF
    obtain ⟨m0, m1, m2, m3, m4⟩ := hF.five (b := w.heap.size + 1) (l := l) (t := t) (p := .slice Bp ps.length dp) (k := .slice Bk ks.length dk) (c := .slice Bc kids.length dc) (by simp)
    have HW := Lib.hid (And.intro hF hE)
    clear hW hE hF
    go_enter Try.func37, Try.ntmps37
    go_wp2
    refine bodyPost_ret (v := .agg #[.bool l, .bool t, .slice Bp ps.length dp, .slice Bk ks.length dk, .slice Bc kids.length dc]) (by simp [results, Try.results37, go_sem, m0, m1, m2, m3, m4]) rfl ?_
    refine ⟨_, [(w.heap.size + 1, shO l t (.slice Bp ps.length dp) (.slice Bk ks.length dk) (.slice Bc kids.length dc)), (w.heap.size, shO l t (.slice Bp ps.length dp) (.slice Bk ks.length dk) (.slice Bc kids.length dc))], rfl, ?_, HW.out.1, ((Ext.refl w).alloc _).alloc _⟩
    rw [ht]
    exact (ShRep.mk hp0 hk0 hc0 hl Hs0.out.1).mono (fun p hp => by simp [hp])
  · have hks : ks.length + 1 = kids.length := by omega
    have hd : decide ((kids.length : Int) < 3) = false := decide_eq_false (by omega)
    have HW := Lib.hid (And.intro hW hE)
    have Hl := Lib.hid (And.intro hl (And.intro hs (And.intro hkcell hccell)))
    clear hW hE hl hs hkcell hccell
    go_enter Try.func37, Try.ntmps37
    go_upto_region 3 with fail
    obtain ⟨hW, hE⟩ := HW.out
    generalize hEq : World.alloc _ _ = W1
    rw [hEq] at hW hE q0 q1 q2 q3 q4
    clear hEq HW
    generalize w.heap.size = vb at hW q0 q1 q2 q3 q4 ⊢
    go_cut [1] (fun v wx => v = .int .i64 (min j (kids.length - 2) : Nat) ∧ wx = W1)
    case first =>
      go_wp2
      all_goals go_meet
      all_goals (refine ⟨?_, rfl⟩; congr 1; omega)
    case rest =>
      obtain ⟨rfl, rfl⟩ := hcut
      have hi : min j (kids.length - 2) + 2 ≤ kids.length := by omega
      have hT : taggedS (.mk l t ps ks kids) j = .mk false false [] (ks.take (min j (kids.length - 2)) ++ ks.drop (min j (kids.length - 2) + 1)) (kids.take (min j (kids.length - 2)) ++ [.mk false true [] [ks.getD (min j (kids.length - 2)) 0] ((kids.drop (min j (kids.length - 2))).take 2)] ++ kids.drop (min j (kids.length - 2) + 2)) := by
        unfold taggedS
        rw [dif_neg (by simp only [Sh.keys, Sh.kids]; omega)]
        rfl
      have HT := Lib.hid hT
      clear hT
      generalize min j (kids.length - 2) = i at hi HT ⊢
      go_upto_region 4 with fail
      obtain ⟨hl, hs, hkcell, hccell⟩ := Hl.out
      obtain ⟨gk, ok, dk, hek, _, _, hkc⟩ := hk.known (by omega)
      cases hek
      obtain ⟨g, off, dc, hec, _, _, hcc⟩ := hc.known (by omega)
      cases hec
      obtain ⟨s1, A1, x1, A2, x2, A3, x3, hk1, hr1, hc1, ha⟩ := kid_known ⟨hl, hs⟩ hcc (i := i) (by omega)
      obtain ⟨s2, B1, y1, B2, y2, B3, y3, hk2, hr2, hc2, hb2⟩ := kid_known ⟨hl, hs⟩ hcc (i := i + 1) (by omega)
      have hx0 : ks[i]? = some (ks.getD i 0) := by
        have : i < ks.length := by omega
        simp [this]
      generalize ks.getD i 0 = x0 at hx0 HT
      go_cut [5] (fun v wx => ∃ n5 n17 n19 : Nat, v = .pointer (some ⟨n19, 0, none⟩) ∧ Has wx ((n19, shO false true nil0 (.slice (some ⟨n5, 0, none⟩) 1 1) (.slice (some ⟨n17, 0, none⟩) 2 2)) :: ([(n5, Obj.cells #[.int .i64 x0] 2)] ++ ([(n17, Obj.cells #[.bool s1.leaf, .bool s1.tagged, .slice A1 s1.pairs.length x1, .slice A2 s1.keys.length x2, .slice A3 s1.kids.length x3, .bool s2.leaf, .bool s2.tagged, .slice B1 s2.pairs.length y1, .slice B2 s2.keys.length y2, .slice B3 s2.kids.length y3] 31)] ++ ([(vb + 1, shO false false nil0 nil0 nil0)] ++ ([(vb, shO l t (.slice Bp ps.length dp) (.slice (some ⟨gk, ok, none⟩) ks.length dk) (.slice (some ⟨g, off, none⟩) kids.length dc))] ++ R))))) ∧ Ext w wx)
      case first =>
        obtain ⟨a0, a1, a2, a3, a4⟩ := ha ((vb, shO l t (.slice Bp ps.length dp) (.slice (some ⟨gk, ok, none⟩) ks.length dk) (.slice (some ⟨g, off, none⟩) kids.length dc)) :: R) (fun p hp => by simp [hp])
        obtain ⟨b0, b1, b2, b3, b4⟩ := hb2 ((vb, shO l t (.slice Bp ps.length dp) (.slice (some ⟨gk, ok, none⟩) ks.length dk) (.slice (some ⟨g, off, none⟩) kids.length dc)) :: R) (fun p hp => by simp [hp])
        have kk : ∀ w, Knows w ((vb, shO l t (.slice Bp ps.length dp) (.slice (some ⟨gk, ok, none⟩) ks.length dk) (.slice (some ⟨g, off, none⟩) kids.length dc)) :: R) → w.cell? ⟨gk, ok + i, none⟩ = some (.int .i64 x0) := fun w hw => hkc w _ hw (fun p hp => by simp [hp]) _ _ (by simp [ints, hx0])
        have v3 : ∀ w, Knows w ((vb, shO l t (.slice Bp ps.length dp) (.slice (some ⟨gk, ok, none⟩) ks.length dk) (.slice (some ⟨g, off, none⟩) kids.length dc)) :: R) → w.cell? ⟨vb, 3, none⟩ = some (.slice (some ⟨gk, ok, none⟩) ks.length dk) := fun w hw => (hw.cell (List.mem_cons_self ..) 3).trans rfl
        have v4 : ∀ w, Knows w ((vb, shO l t (.slice Bp ps.length dp) (.slice (some ⟨gk, ok, none⟩) ks.length dk) (.slice (some ⟨g, off, none⟩) kids.length dc)) :: R) → w.cell? ⟨vb, 4, none⟩ = some (.slice (some ⟨g, off, none⟩) kids.length dc) := fun w hw => (hw.cell (List.mem_cons_self ..) 4).trans rfl
        have l1 : i < ks.length := by omega
        have l2 : i < kids.length := by omega
        have l3 : i + 1 < kids.length := by omega
        have l5 : 0 ≤ (i : Int) + 1 := by omega
        have l6 : (i : Int) + 1 < kids.length := by omega
        have l4 : wrap64 ((i : Int) + 1) = ((i + 1 : Nat) : Int) := by unfold wrap64; omega
        clear q0 q1 q2 q3 q4 hkcell hccell ha hb2
        have KS := Lib.hid (And.intro hs (And.intro hkc hcc))
        clear hs hkc hcc
        refine start_ (n := 21) (S := fun w' => Knows w' ((vb, shO l t (.slice Bp ps.length dp) (.slice (some ⟨gk, ok, none⟩) ks.length dk) (.slice (some ⟨g, off, none⟩) kids.length dc)) :: R)) (ds := [20]) #[false, false, false, false, false, false, false, false, false, false, false, false, false, false, false, false, false, false, false, false, false] (by kernel_rfl) rfl rfl ((hW.drew.knows (sub_of_count fun x => by simp only [List.count_append, List.count_cons, List.count_nil, arenaObj, slotObj, nodeObj, worldObj] <;> omega))) (fun hHeld => ?_)
        refine pure_ (i := 0) (N := some 18) (v := ?_) (a' := ?_) #[true, false, false, false, false, false, false, false, false, false, false, false, false, false, false, false, false, false, false, false, false] rfl rfl (by kernel_rfl) (fun _ _ _ h => h) (Or.inl ⟨by rfl, ?_⟩) ?_ ?_
        rotate_left
        · intro w'
          go_simp
          with_reducible rfl
        rotate_left
        · simp only [Act.put, List.setIfInBounds_toArray, List.set_cons_zero, List.set_cons_succ, i64_w, i32_w]
          rfl
        refine pure_ (i := 2) (N := some 20) (v := ?_) (a' := ?_) #[true, false, true, false, false, false, false, false, false, false, false, false, false, false, false, false, false, false, false, false, false] rfl rfl (by kernel_rfl) (fun _ _ _ h => h) (Or.inl ⟨by rfl, ?_⟩) ?_ ?_
        rotate_left
        · intro w'
          go_simp
          with_reducible rfl
        rotate_left
        · simp only [Act.put, List.setIfInBounds_toArray, List.set_cons_zero, List.set_cons_succ, i64_w, i32_w]
          rfl
        refine pure_ (i := 6) (N := some 24) (v := ?_) (a' := ?_) #[true, false, true, false, false, false, true, false, false, false, false, false, false, false, false, false, false, false, false, false, false] rfl rfl (by kernel_rfl) (fun _ _ _ h => h) (Or.inl ⟨by rfl, ?_⟩) ?_ ?_
        rotate_left
        · intro w'
          go_simp
          with_reducible rfl
        rotate_left
        · simp only [Act.put, List.setIfInBounds_toArray, List.set_cons_zero, List.set_cons_succ, i64_w, i32_w]
          rfl
        refine pure_ (i := 8) (N := some 26) (v := ?_) (a' := ?_) #[true, false, true, false, false, false, true, false, true, false, false, false, false, false, false, false, false, false, false, false, false] rfl rfl (by kernel_rfl) (fun _ _ _ h => h) (Or.inl ⟨by rfl, ?_⟩) ?_ ?_
        rotate_left
        · intro w'
          go_simp
          with_reducible rfl
        rotate_left
        · simp only [Act.put, List.setIfInBounds_toArray, List.set_cons_zero, List.set_cons_succ, i64_w, i32_w]
          rfl
        refine pure_ (i := 11) (N := some 29) (v := ?_) (a' := ?_) #[true, false, true, false, false, false, true, false, true, false, false, true, false, false, false, false, false, false, false, false, false] rfl rfl (by kernel_rfl) (fun _ _ _ h => h) (Or.inl ⟨by rfl, ?_⟩) ?_ ?_
        rotate_left
        · intro w'
          go_simp
          with_reducible rfl
        rotate_left
        · simp only [Act.put, List.setIfInBounds_toArray, List.set_cons_zero, List.set_cons_succ, i64_w, i32_w]
          rfl
        refine pure_ (i := 13) (N := some 31) (v := ?_) (a' := ?_) #[true, false, true, false, false, false, true, false, true, false, false, true, false, true, false, false, false, false, false, false, false] rfl rfl (by kernel_rfl) (fun _ _ _ h => h) (Or.inl ⟨by rfl, ?_⟩) ?_ ?_
        rotate_left
        · intro w'
          go_simp
          with_reducible rfl
        rotate_left
        · simp only [Act.put, List.setIfInBounds_toArray, List.set_cons_zero, List.set_cons_succ, i64_w, i32_w]
          rfl
        refine pure_ (i := 14) (N := some 32) (v := ?_) (a' := ?_) #[true, false, true, false, false, false, true, false, true, false, false, true, false, true, true, false, false, false, false, false, false] rfl rfl (by kernel_rfl) (fun _ _ _ h => h) (Or.inl ⟨by rfl, ?_⟩) ?_ ?_
        rotate_left
        · intro w'
          go_simp
          with_reducible rfl
        rotate_left
        · simp only [Act.put, List.setIfInBounds_toArray, List.set_cons_zero, List.set_cons_succ, i64_w, i32_w]
          rfl
        refine take_ (i := 1) (N := some 19) (v := ?_) (a' := ?_) #[true, true, true, false, false, false, true, false, true, false, false, true, false, true, true, false, false, false, false, false, false] rfl rfl (by kernel_rfl) (fun _ _ _ h => h) (Or.inl ⟨by rfl, ?_⟩) hHeld ?_ ?_
        rotate_left
        · intro w' s0
          go_simp
          with_reducible rfl
        rotate_left
        · simp only [Act.put, List.setIfInBounds_toArray, List.set_cons_zero, List.set_cons_succ, i64_w, i32_w]
          rfl
        refine pure_ (i := 3) (N := some 21) (v := ?_) (a' := ?_) #[true, true, true, true, false, false, true, false, true, false, false, true, false, true, true, false, false, false, false, false, false] rfl rfl (by kernel_rfl) (fun _ _ _ h => h) (Or.inl ⟨by rfl, ?_⟩) ?_ ?_
        rotate_left
        · intro w'
          go_simp
          with_reducible rfl
        rotate_left
        · simp only [Act.put, List.setIfInBounds_toArray, List.set_cons_zero, List.set_cons_succ, i64_w, i32_w]
          rfl
        refine take_ (i := 4) (N := some 22) (v := ?_) (a' := ?_) #[true, true, true, true, true, false, true, false, true, false, false, true, false, true, true, false, false, false, false, false, false] rfl rfl (by kernel_rfl) (fun _ _ _ h => h) (Or.inl ⟨by rfl, ?_⟩) hHeld ?_ ?_
        rotate_left
        · intro w' s0
          go_simp
          with_reducible rfl
        rotate_left
        · simp only [Act.put, List.setIfInBounds_toArray, List.set_cons_zero, List.set_cons_succ, i64_w, i32_w]
          rfl
        refine take_ (i := 7) (N := some 25) (v := ?_) (a' := ?_) #[true, true, true, true, true, false, true, true, true, false, false, true, false, true, true, false, false, false, false, false, false] rfl rfl (by kernel_rfl) (fun _ _ _ h => h) (Or.inl ⟨by rfl, ?_⟩) hHeld ?_ ?_
        rotate_left
        · intro w' s0
          go_simp
          with_reducible rfl
        rotate_left
        · simp only [Act.put, List.setIfInBounds_toArray, List.set_cons_zero, List.set_cons_succ, i64_w, i32_w]
          rfl
        refine pure_ (i := 9) (N := some 27) (v := ?_) (a' := ?_) #[true, true, true, true, true, false, true, true, true, true, false, true, false, true, true, false, false, false, false, false, false] rfl rfl (by kernel_rfl) (fun _ _ _ h => h) (Or.inl ⟨by rfl, ?_⟩) ?_ ?_
        rotate_left
        · intro w'
          go_simp
          with_reducible rfl
        rotate_left
        · simp only [Act.put, List.setIfInBounds_toArray, List.set_cons_zero, List.set_cons_succ, i64_w, i32_w]
          rfl
        refine take_ (i := 10) (N := some 28) (v := ?_) (a' := ?_) #[true, true, true, true, true, false, true, true, true, true, true, true, false, true, true, false, false, false, false, false, false] rfl rfl (by kernel_rfl) (fun _ _ _ h => h) (Or.inl ⟨by rfl, ?_⟩) hHeld ?_ ?_
        rotate_left
        · intro w' s0
          go_simp
          with_reducible rfl
        rotate_left
        · simp only [Act.put, List.setIfInBounds_toArray, List.set_cons_zero, List.set_cons_succ, i64_w, i32_w]
          rfl
        refine take_ (i := 12) (N := some 30) (v := ?_) (a' := ?_) #[true, true, true, true, true, false, true, true, true, true, true, true, true, true, true, false, false, false, false, false, false] rfl rfl (by kernel_rfl) (fun _ _ _ h => h) (Or.inl ⟨by rfl, ?_⟩) hHeld ?_ ?_
        rotate_left
        · intro w' s0
          go_simp
          with_reducible rfl
        rotate_left
        · simp only [Act.put, List.setIfInBounds_toArray, List.set_cons_zero, List.set_cons_succ, i64_w, i32_w]
          rfl
        refine pure_ (i := 15) (N := some 33) (v := ?_) (a' := ?_) #[true, true, true, true, true, false, true, true, true, true, true, true, true, true, true, true, false, false, false, false, false] rfl rfl (by kernel_rfl) (fun _ _ _ h => h) (Or.inl ⟨by rfl, ?_⟩) ?_ ?_
        rotate_left
        · intro w'
          go_simp
          with_reducible rfl
        rotate_left
        · simp only [Act.put, List.setIfInBounds_toArray, List.set_cons_zero, List.set_cons_succ, i64_w, i32_w]
          rfl
        refine take_ (i := 16) (N := some 34) (v := ?_) (a' := ?_) #[true, true, true, true, true, false, true, true, true, true, true, true, true, true, true, true, true, false, false, false, false] rfl rfl (by kernel_rfl) (fun _ _ _ h => h) (Or.inl ⟨by rfl, ?_⟩) hHeld ?_ ?_
        rotate_left
        · intro w' s0
          go_simp
          with_reducible rfl
        rotate_left
        · simp only [Act.put, List.setIfInBounds_toArray, List.set_cons_zero, List.set_cons_succ, i64_w, i32_w]
          rfl
        refine join_ (σ := (Nat) × (Nat) × (Nat)) 1 #[true, true, true, true, true, true, true, true, true, true, true, true, true, true, true, true, true, true, true, true, false] (fun s => [(23, .slice (some ⟨s.1, 0, none⟩) 1 1), (35, .slice (some ⟨s.2.1, 0, none⟩) 2 2), (5, .pointer (some ⟨s.2.2, 0, none⟩)), (36, .agg #[.bool false, .bool true, .slice none 0 0, .slice (some ⟨s.1, 0, none⟩) 1 1, .slice (some ⟨s.2.1, 0, none⟩) 2 2])]) (fun s w' => (Knows w' ((vb, shO l t (.slice Bp ps.length dp) (.slice (some ⟨gk, ok, none⟩) ks.length dk) (.slice (some ⟨g, off, none⟩) kids.length dc)) :: R)) ∧ Has w' ([(s.1, Obj.cells #[.int .i64 x0] 2)] ++ ([(s.2.1, Obj.cells #[.bool s1.leaf, .bool s1.tagged, .slice A1 s1.pairs.length x1, .slice A2 s1.keys.length x2, .slice A3 s1.kids.length x3, .bool s2.leaf, .bool s2.tagged, .slice B1 s2.pairs.length y1, .slice B2 s2.keys.length y2, .slice B3 s2.kids.length y3] 31)] ++ ([(s.2.2, shO false false nil0 nil0 nil0)] ++ ([(vb + 1, shO false false nil0 nil0 nil0)] ++ ([(vb, shO l t (.slice Bp ps.length dp) (.slice (some ⟨gk, ok, none⟩) ks.length dk) (.slice (some ⟨g, off, none⟩) kids.length dc))] ++ (R)))))) ∧ Ext w w') ?_ ?_
        rotate_left
        · intro hCont
          refine three_ (i := 5) (j := 17) (k := 19) (Ni := some 23) (Nj := some 35) (Nk := some 5) #[true, true, true, true, true, true, true, true, true, true, true, true, true, true, true, true, true, false, false, false, false] #[true, true, true, true, true, false, true, true, true, true, true, true, true, true, true, true, true, true, false, false, false] #[true, true, true, true, true, false, true, true, true, true, true, true, true, true, true, true, true, false, false, true, false] rfl rfl rfl rfl rfl rfl (by kernel_rfl) (by decide) (by decide) (by decide) (fun K hK => ?_) (fun K hK => ?_) (fun K hK => ?_)
          · skip
            have h_ := hW.drew
            have e_ := hE.drew
            generalize wc.drew = w_ at h_ e_ ⊢
            refine value_ (w1 := ?_) (v := ?_) (by rfl) rfl ?_ ?_
            rotate_left 2
            · go_simp
              constructor
              · rfl
              · rfl
            have h_5 := h_.alloc (Obj.cells #[.int .i64 x0] 2)
            have e_5 := e_.alloc (Obj.cells #[.int .i64 x0] 2)
            generalize World.alloc w_ _ = w_5 at h_5 e_5 ⊢
            generalize w_.heap.size = b_5 at h_5 ⊢
            have h_5 := h_5.perm (L' := [(b_5, Obj.cells #[.int .i64 x0] 2)] ++ ([(vb + 1, shO false false nil0 nil0 nil0)] ++ ([(vb, shO l t (.slice Bp ps.length dp) (.slice (some ⟨gk, ok, none⟩) ks.length dk) (.slice (some ⟨g, off, none⟩) kids.length dc))] ++ (R)))) (perm_of_count fun x => by simp only [List.count_append, List.count_cons, List.count_nil, arenaObj, slotObj, nodeObj, worldObj] <;> omega)
            refine hK.out _ _ ((h_5.knows (sub_of_count fun x => by simp only [List.count_append, List.count_cons, List.count_nil, arenaObj, slotObj, nodeObj, worldObj] <;> omega))) (fun hHeld => ?_)
            clear hK K
            refine norm_ (a' := ?_) ?_ ?_
            rotate_left
            · show Act.put _ (some 23) _ = _
              simp only [Act.put, List.setIfInBounds_toArray, List.set_cons_zero, List.set_cons_succ, i64_w, i32_w]
              rfl
            refine two_ (i := 17) (j := 19) (Ni := some 35) (Nj := some 5) #[true, true, true, true, true, true, true, true, true, true, true, true, true, true, true, true, true, true, false, false, false] #[true, true, true, true, true, true, true, true, true, true, true, true, true, true, true, true, true, false, false, true, false] rfl rfl rfl rfl (by kernel_rfl) (by decide) (by decide) (fun K hK => ?_) (fun K hK => ?_)
            · skip
              refine value_ (w1 := ?_) (v := ?_) (by rfl) rfl ?_ ?_
              rotate_left 2
              · go_simp
                constructor
                · rfl
                · rfl
              have h_5_17 := h_5.alloc (Obj.cells #[.bool s1.leaf, .bool s1.tagged, .slice A1 s1.pairs.length x1, .slice A2 s1.keys.length x2, .slice A3 s1.kids.length x3, .bool s2.leaf, .bool s2.tagged, .slice B1 s2.pairs.length y1, .slice B2 s2.keys.length y2, .slice B3 s2.kids.length y3] 31)
              have e_5_17 := e_5.alloc (Obj.cells #[.bool s1.leaf, .bool s1.tagged, .slice A1 s1.pairs.length x1, .slice A2 s1.keys.length x2, .slice A3 s1.kids.length x3, .bool s2.leaf, .bool s2.tagged, .slice B1 s2.pairs.length y1, .slice B2 s2.keys.length y2, .slice B3 s2.kids.length y3] 31)
              generalize World.alloc w_5 _ = w_5_17 at h_5_17 e_5_17 ⊢
              generalize w_5.heap.size = b_5_17 at h_5_17 ⊢
              have h_5_17 := h_5_17.perm (L' := [(b_5_17, Obj.cells #[.bool s1.leaf, .bool s1.tagged, .slice A1 s1.pairs.length x1, .slice A2 s1.keys.length x2, .slice A3 s1.kids.length x3, .bool s2.leaf, .bool s2.tagged, .slice B1 s2.pairs.length y1, .slice B2 s2.keys.length y2, .slice B3 s2.kids.length y3] 31)] ++ ([(b_5, Obj.cells #[.int .i64 x0] 2)] ++ ([(vb + 1, shO false false nil0 nil0 nil0)] ++ ([(vb, shO l t (.slice Bp ps.length dp) (.slice (some ⟨gk, ok, none⟩) ks.length dk) (.slice (some ⟨g, off, none⟩) kids.length dc))] ++ (R))))) (perm_of_count fun x => by simp only [List.count_append, List.count_cons, List.count_nil, arenaObj, slotObj, nodeObj, worldObj] <;> omega)
              refine hK.out _ _ ((h_5_17.knows (sub_of_count fun x => by simp only [List.count_append, List.count_cons, List.count_nil, arenaObj, slotObj, nodeObj, worldObj] <;> omega))) (fun hHeld => ?_)
              clear hK K
              refine norm_ (a' := ?_) ?_ ?_
              rotate_left
              · show Act.put _ (some 35) _ = _
                simp only [Act.put, List.setIfInBounds_toArray, List.set_cons_zero, List.set_cons_succ, i64_w, i32_w]
                rfl
              refine pure_ (i := 18) (N := some 36) (v := ?_) (a' := ?_) #[true, true, true, true, true, true, true, true, true, true, true, true, true, true, true, true, true, true, true, false, false] rfl rfl (by kernel_rfl) (fun _ _ _ h => h) (Or.inl ⟨by rfl, ?_⟩) ?_ ?_
              rotate_left
              · intro w'
                go_simp
                with_reducible rfl
              rotate_left
              · simp only [Act.put, List.setIfInBounds_toArray, List.set_cons_zero, List.set_cons_succ, i64_w, i32_w]
                rfl
              refine one_ (i := 19) (N := some 5) #[true, true, true, true, true, true, true, true, true, true, true, true, true, true, true, true, true, true, true, true, false] rfl rfl (by kernel_rfl) (by decide) (fun K hK => ?_)
              refine value_ (w1 := ?_) (v := ?_) (by rfl) rfl ?_ ?_
              rotate_left 2
              · go_simp
                constructor
                · rfl
                · rfl
              have h_5_17_19 := h_5_17.alloc (shO false false nil0 nil0 nil0)
              have e_5_17_19 := e_5_17.alloc (shO false false nil0 nil0 nil0)
              generalize World.alloc w_5_17 _ = w_5_17_19 at h_5_17_19 e_5_17_19 ⊢
              generalize w_5_17.heap.size = b_5_17_19 at h_5_17_19 ⊢
              have h_5_17_19 := h_5_17_19.perm (L' := [(b_5_17_19, shO false false nil0 nil0 nil0)] ++ ([(b_5_17, Obj.cells #[.bool s1.leaf, .bool s1.tagged, .slice A1 s1.pairs.length x1, .slice A2 s1.keys.length x2, .slice A3 s1.kids.length x3, .bool s2.leaf, .bool s2.tagged, .slice B1 s2.pairs.length y1, .slice B2 s2.keys.length y2, .slice B3 s2.kids.length y3] 31)] ++ ([(b_5, Obj.cells #[.int .i64 x0] 2)] ++ ([(vb + 1, shO false false nil0 nil0 nil0)] ++ ([(vb, shO l t (.slice Bp ps.length dp) (.slice (some ⟨gk, ok, none⟩) ks.length dk) (.slice (some ⟨g, off, none⟩) kids.length dc))] ++ (R)))))) (perm_of_count fun x => by simp only [List.count_append, List.count_cons, List.count_nil, arenaObj, slotObj, nodeObj, worldObj] <;> omega)
              refine hK.out _ _ ((h_5_17_19.knows (sub_of_count fun x => by simp only [List.count_append, List.count_cons, List.count_nil, arenaObj, slotObj, nodeObj, worldObj] <;> omega))) (fun hHeld => ?_)
              clear hK K
              refine norm_ (a' := ?_) ?_ ?_
              rotate_left
              · show Act.put _ (some 5) _ = _
                simp only [Act.put, List.setIfInBounds_toArray, List.set_cons_zero, List.set_cons_succ, i64_w, i32_w]
                rfl
              exact norm_ (by first | (simp only [putAll, Act.put, List.setIfInBounds_toArray, List.set_cons_zero, List.set_cons_succ]; done) | (simp only [putAll, Act.put, List.setIfInBounds_toArray, List.set_cons_zero, List.set_cons_succ]; rfl)) (hCont ⟨b_5, b_5_17, b_5_17_19⟩ _ ⟨hHeld, h_5_17_19.perm (L' := [(b_5, Obj.cells #[.int .i64 x0] 2)] ++ ([(b_5_17, Obj.cells #[.bool s1.leaf, .bool s1.tagged, .slice A1 s1.pairs.length x1, .slice A2 s1.keys.length x2, .slice A3 s1.kids.length x3, .bool s2.leaf, .bool s2.tagged, .slice B1 s2.pairs.length y1, .slice B2 s2.keys.length y2, .slice B3 s2.kids.length y3] 31)] ++ ([(b_5_17_19, shO false false nil0 nil0 nil0)] ++ ([(vb + 1, shO false false nil0 nil0 nil0)] ++ ([(vb, shO l t (.slice Bp ps.length dp) (.slice (some ⟨gk, ok, none⟩) ks.length dk) (.slice (some ⟨g, off, none⟩) kids.length dc))] ++ (R)))))) (perm_of_count fun x => by simp only [List.count_append, List.count_cons, List.count_nil, arenaObj, slotObj, nodeObj, worldObj] <;> omega), e_5_17_19⟩)
            · skip
              refine value_ (w1 := ?_) (v := ?_) (by rfl) rfl ?_ ?_
              rotate_left 2
              · go_simp
                constructor
                · rfl
                · rfl
              have h_5_19 := h_5.alloc (shO false false nil0 nil0 nil0)
              have e_5_19 := e_5.alloc (shO false false nil0 nil0 nil0)
              generalize World.alloc w_5 _ = w_5_19 at h_5_19 e_5_19 ⊢
              generalize w_5.heap.size = b_5_19 at h_5_19 ⊢
              have h_5_19 := h_5_19.perm (L' := [(b_5_19, shO false false nil0 nil0 nil0)] ++ ([(b_5, Obj.cells #[.int .i64 x0] 2)] ++ ([(vb + 1, shO false false nil0 nil0 nil0)] ++ ([(vb, shO l t (.slice Bp ps.length dp) (.slice (some ⟨gk, ok, none⟩) ks.length dk) (.slice (some ⟨g, off, none⟩) kids.length dc))] ++ (R))))) (perm_of_count fun x => by simp only [List.count_append, List.count_cons, List.count_nil, arenaObj, slotObj, nodeObj, worldObj] <;> omega)
              refine hK.out _ _ ((h_5_19.knows (sub_of_count fun x => by simp only [List.count_append, List.count_cons, List.count_nil, arenaObj, slotObj, nodeObj, worldObj] <;> omega))) (fun hHeld => ?_)
              clear hK K
              refine norm_ (a' := ?_) ?_ ?_
              rotate_left
              · show Act.put _ (some 5) _ = _
                simp only [Act.put, List.setIfInBounds_toArray, List.set_cons_zero, List.set_cons_succ, i64_w, i32_w]
                rfl
              refine one_ (i := 17) (N := some 35) #[true, true, true, true, true, true, true, true, true, true, true, true, true, true, true, true, true, true, false, true, false] rfl rfl (by kernel_rfl) (by decide) (fun K hK => ?_)
              refine value_ (w1 := ?_) (v := ?_) (by rfl) rfl ?_ ?_
              rotate_left 2
              · go_simp
                constructor
                · rfl
                · rfl
              have h_5_19_17 := h_5_19.alloc (Obj.cells #[.bool s1.leaf, .bool s1.tagged, .slice A1 s1.pairs.length x1, .slice A2 s1.keys.length x2, .slice A3 s1.kids.length x3, .bool s2.leaf, .bool s2.tagged, .slice B1 s2.pairs.length y1, .slice B2 s2.keys.length y2, .slice B3 s2.kids.length y3] 31)
              have e_5_19_17 := e_5_19.alloc (Obj.cells #[.bool s1.leaf, .bool s1.tagged, .slice A1 s1.pairs.length x1, .slice A2 s1.keys.length x2, .slice A3 s1.kids.length x3, .bool s2.leaf, .bool s2.tagged, .slice B1 s2.pairs.length y1, .slice B2 s2.keys.length y2, .slice B3 s2.kids.length y3] 31)
              generalize World.alloc w_5_19 _ = w_5_19_17 at h_5_19_17 e_5_19_17 ⊢
              generalize w_5_19.heap.size = b_5_19_17 at h_5_19_17 ⊢
              have h_5_19_17 := h_5_19_17.perm (L' := [(b_5_19_17, Obj.cells #[.bool s1.leaf, .bool s1.tagged, .slice A1 s1.pairs.length x1, .slice A2 s1.keys.length x2, .slice A3 s1.kids.length x3, .bool s2.leaf, .bool s2.tagged, .slice B1 s2.pairs.length y1, .slice B2 s2.keys.length y2, .slice B3 s2.kids.length y3] 31)] ++ ([(b_5_19, shO false false nil0 nil0 nil0)] ++ ([(b_5, Obj.cells #[.int .i64 x0] 2)] ++ ([(vb + 1, shO false false nil0 nil0 nil0)] ++ ([(vb, shO l t (.slice Bp ps.length dp) (.slice (some ⟨gk, ok, none⟩) ks.length dk) (.slice (some ⟨g, off, none⟩) kids.length dc))] ++ (R)))))) (perm_of_count fun x => by simp only [List.count_append, List.count_cons, List.count_nil, arenaObj, slotObj, nodeObj, worldObj] <;> omega)
              refine hK.out _ _ ((h_5_19_17.knows (sub_of_count fun x => by simp only [List.count_append, List.count_cons, List.count_nil, arenaObj, slotObj, nodeObj, worldObj] <;> omega))) (fun hHeld => ?_)
              clear hK K
              refine norm_ (a' := ?_) ?_ ?_
              rotate_left
              · show Act.put _ (some 35) _ = _
                simp only [Act.put, List.setIfInBounds_toArray, List.set_cons_zero, List.set_cons_succ, i64_w, i32_w]
                rfl
              refine pure_ (i := 18) (N := some 36) (v := ?_) (a' := ?_) #[true, true, true, true, true, true, true, true, true, true, true, true, true, true, true, true, true, true, true, true, false] rfl rfl (by kernel_rfl) (fun _ _ _ h => h) (Or.inl ⟨by rfl, ?_⟩) ?_ ?_
              rotate_left
              · intro w'
                go_simp
                with_reducible rfl
              rotate_left
              · simp only [Act.put, List.setIfInBounds_toArray, List.set_cons_zero, List.set_cons_succ, i64_w, i32_w]
                rfl
              exact norm_ (by first | (simp only [putAll, Act.put, List.setIfInBounds_toArray, List.set_cons_zero, List.set_cons_succ]; done) | (simp only [putAll, Act.put, List.setIfInBounds_toArray, List.set_cons_zero, List.set_cons_succ]; rfl)) (hCont ⟨b_5, b_5_19_17, b_5_19⟩ _ ⟨hHeld, h_5_19_17.perm (L' := [(b_5, Obj.cells #[.int .i64 x0] 2)] ++ ([(b_5_19_17, Obj.cells #[.bool s1.leaf, .bool s1.tagged, .slice A1 s1.pairs.length x1, .slice A2 s1.keys.length x2, .slice A3 s1.kids.length x3, .bool s2.leaf, .bool s2.tagged, .slice B1 s2.pairs.length y1, .slice B2 s2.keys.length y2, .slice B3 s2.kids.length y3] 31)] ++ ([(b_5_19, shO false false nil0 nil0 nil0)] ++ ([(vb + 1, shO false false nil0 nil0 nil0)] ++ ([(vb, shO l t (.slice Bp ps.length dp) (.slice (some ⟨gk, ok, none⟩) ks.length dk) (.slice (some ⟨g, off, none⟩) kids.length dc))] ++ (R)))))) (perm_of_count fun x => by simp only [List.count_append, List.count_cons, List.count_nil, arenaObj, slotObj, nodeObj, worldObj] <;> omega), e_5_19_17⟩)
          · skip
            have h_ := hW.drew
            have e_ := hE.drew
            generalize wc.drew = w_ at h_ e_ ⊢
            refine value_ (w1 := ?_) (v := ?_) (by rfl) rfl ?_ ?_
            rotate_left 2
            · go_simp
              constructor
              · rfl
              · rfl
            have h_17 := h_.alloc (Obj.cells #[.bool s1.leaf, .bool s1.tagged, .slice A1 s1.pairs.length x1, .slice A2 s1.keys.length x2, .slice A3 s1.kids.length x3, .bool s2.leaf, .bool s2.tagged, .slice B1 s2.pairs.length y1, .slice B2 s2.keys.length y2, .slice B3 s2.kids.length y3] 31)
            have e_17 := e_.alloc (Obj.cells #[.bool s1.leaf, .bool s1.tagged, .slice A1 s1.pairs.length x1, .slice A2 s1.keys.length x2, .slice A3 s1.kids.length x3, .bool s2.leaf, .bool s2.tagged, .slice B1 s2.pairs.length y1, .slice B2 s2.keys.length y2, .slice B3 s2.kids.length y3] 31)
            generalize World.alloc w_ _ = w_17 at h_17 e_17 ⊢
            generalize w_.heap.size = b_17 at h_17 ⊢
            have h_17 := h_17.perm (L' := [(b_17, Obj.cells #[.bool s1.leaf, .bool s1.tagged, .slice A1 s1.pairs.length x1, .slice A2 s1.keys.length x2, .slice A3 s1.kids.length x3, .bool s2.leaf, .bool s2.tagged, .slice B1 s2.pairs.length y1, .slice B2 s2.keys.length y2, .slice B3 s2.kids.length y3] 31)] ++ ([(vb + 1, shO false false nil0 nil0 nil0)] ++ ([(vb, shO l t (.slice Bp ps.length dp) (.slice (some ⟨gk, ok, none⟩) ks.length dk) (.slice (some ⟨g, off, none⟩) kids.length dc))] ++ (R)))) (perm_of_count fun x => by simp only [List.count_append, List.count_cons, List.count_nil, arenaObj, slotObj, nodeObj, worldObj] <;> omega)
            refine hK.out _ _ ((h_17.knows (sub_of_count fun x => by simp only [List.count_append, List.count_cons, List.count_nil, arenaObj, slotObj, nodeObj, worldObj] <;> omega))) (fun hHeld => ?_)
            clear hK K
            refine norm_ (a' := ?_) ?_ ?_
            rotate_left
            · show Act.put _ (some 35) _ = _
              simp only [Act.put, List.setIfInBounds_toArray, List.set_cons_zero, List.set_cons_succ, i64_w, i32_w]
              rfl
            refine two_ (i := 5) (j := 19) (Ni := some 23) (Nj := some 5) #[true, true, true, true, true, true, true, true, true, true, true, true, true, true, true, true, true, true, false, false, false] #[true, true, true, true, true, false, true, true, true, true, true, true, true, true, true, true, true, true, false, true, false] rfl rfl rfl rfl (by kernel_rfl) (by decide) (by decide) (fun K hK => ?_) (fun K hK => ?_)
            · skip
              refine value_ (w1 := ?_) (v := ?_) (by rfl) rfl ?_ ?_
              rotate_left 2
              · go_simp
                constructor
                · rfl
                · rfl
              have h_17_5 := h_17.alloc (Obj.cells #[.int .i64 x0] 2)
              have e_17_5 := e_17.alloc (Obj.cells #[.int .i64 x0] 2)
              generalize World.alloc w_17 _ = w_17_5 at h_17_5 e_17_5 ⊢
              generalize w_17.heap.size = b_17_5 at h_17_5 ⊢
              have h_17_5 := h_17_5.perm (L' := [(b_17_5, Obj.cells #[.int .i64 x0] 2)] ++ ([(b_17, Obj.cells #[.bool s1.leaf, .bool s1.tagged, .slice A1 s1.pairs.length x1, .slice A2 s1.keys.length x2, .slice A3 s1.kids.length x3, .bool s2.leaf, .bool s2.tagged, .slice B1 s2.pairs.length y1, .slice B2 s2.keys.length y2, .slice B3 s2.kids.length y3] 31)] ++ ([(vb + 1, shO false false nil0 nil0 nil0)] ++ ([(vb, shO l t (.slice Bp ps.length dp) (.slice (some ⟨gk, ok, none⟩) ks.length dk) (.slice (some ⟨g, off, none⟩) kids.length dc))] ++ (R))))) (perm_of_count fun x => by simp only [List.count_append, List.count_cons, List.count_nil, arenaObj, slotObj, nodeObj, worldObj] <;> omega)
              refine hK.out _ _ ((h_17_5.knows (sub_of_count fun x => by simp only [List.count_append, List.count_cons, List.count_nil, arenaObj, slotObj, nodeObj, worldObj] <;> omega))) (fun hHeld => ?_)
              clear hK K
              refine norm_ (a' := ?_) ?_ ?_
              rotate_left
              · show Act.put _ (some 23) _ = _
                simp only [Act.put, List.setIfInBounds_toArray, List.set_cons_zero, List.set_cons_succ, i64_w, i32_w]
                rfl
              refine pure_ (i := 18) (N := some 36) (v := ?_) (a' := ?_) #[true, true, true, true, true, true, true, true, true, true, true, true, true, true, true, true, true, true, true, false, false] rfl rfl (by kernel_rfl) (fun _ _ _ h => h) (Or.inl ⟨by rfl, ?_⟩) ?_ ?_
              rotate_left
              · intro w'
                go_simp
                with_reducible rfl
              rotate_left
              · simp only [Act.put, List.setIfInBounds_toArray, List.set_cons_zero, List.set_cons_succ, i64_w, i32_w]
                rfl
              refine one_ (i := 19) (N := some 5) #[true, true, true, true, true, true, true, true, true, true, true, true, true, true, true, true, true, true, true, true, false] rfl rfl (by kernel_rfl) (by decide) (fun K hK => ?_)
              refine value_ (w1 := ?_) (v := ?_) (by rfl) rfl ?_ ?_
              rotate_left 2
              · go_simp
                constructor
                · rfl
                · rfl
              have h_17_5_19 := h_17_5.alloc (shO false false nil0 nil0 nil0)
              have e_17_5_19 := e_17_5.alloc (shO false false nil0 nil0 nil0)
              generalize World.alloc w_17_5 _ = w_17_5_19 at h_17_5_19 e_17_5_19 ⊢
              generalize w_17_5.heap.size = b_17_5_19 at h_17_5_19 ⊢
              have h_17_5_19 := h_17_5_19.perm (L' := [(b_17_5_19, shO false false nil0 nil0 nil0)] ++ ([(b_17_5, Obj.cells #[.int .i64 x0] 2)] ++ ([(b_17, Obj.cells #[.bool s1.leaf, .bool s1.tagged, .slice A1 s1.pairs.length x1, .slice A2 s1.keys.length x2, .slice A3 s1.kids.length x3, .bool s2.leaf, .bool s2.tagged, .slice B1 s2.pairs.length y1, .slice B2 s2.keys.length y2, .slice B3 s2.kids.length y3] 31)] ++ ([(vb + 1, shO false false nil0 nil0 nil0)] ++ ([(vb, shO l t (.slice Bp ps.length dp) (.slice (some ⟨gk, ok, none⟩) ks.length dk) (.slice (some ⟨g, off, none⟩) kids.length dc))] ++ (R)))))) (perm_of_count fun x => by simp only [List.count_append, List.count_cons, List.count_nil, arenaObj, slotObj, nodeObj, worldObj] <;> omega)
              refine hK.out _ _ ((h_17_5_19.knows (sub_of_count fun x => by simp only [List.count_append, List.count_cons, List.count_nil, arenaObj, slotObj, nodeObj, worldObj] <;> omega))) (fun hHeld => ?_)
              clear hK K
              refine norm_ (a' := ?_) ?_ ?_
              rotate_left
              · show Act.put _ (some 5) _ = _
                simp only [Act.put, List.setIfInBounds_toArray, List.set_cons_zero, List.set_cons_succ, i64_w, i32_w]
                rfl
              exact norm_ (by first | (simp only [putAll, Act.put, List.setIfInBounds_toArray, List.set_cons_zero, List.set_cons_succ]; done) | (simp only [putAll, Act.put, List.setIfInBounds_toArray, List.set_cons_zero, List.set_cons_succ]; rfl)) (hCont ⟨b_17_5, b_17, b_17_5_19⟩ _ ⟨hHeld, h_17_5_19.perm (L' := [(b_17_5, Obj.cells #[.int .i64 x0] 2)] ++ ([(b_17, Obj.cells #[.bool s1.leaf, .bool s1.tagged, .slice A1 s1.pairs.length x1, .slice A2 s1.keys.length x2, .slice A3 s1.kids.length x3, .bool s2.leaf, .bool s2.tagged, .slice B1 s2.pairs.length y1, .slice B2 s2.keys.length y2, .slice B3 s2.kids.length y3] 31)] ++ ([(b_17_5_19, shO false false nil0 nil0 nil0)] ++ ([(vb + 1, shO false false nil0 nil0 nil0)] ++ ([(vb, shO l t (.slice Bp ps.length dp) (.slice (some ⟨gk, ok, none⟩) ks.length dk) (.slice (some ⟨g, off, none⟩) kids.length dc))] ++ (R)))))) (perm_of_count fun x => by simp only [List.count_append, List.count_cons, List.count_nil, arenaObj, slotObj, nodeObj, worldObj] <;> omega), e_17_5_19⟩)
            · skip
              refine value_ (w1 := ?_) (v := ?_) (by rfl) rfl ?_ ?_
              rotate_left 2
              · go_simp
                constructor
                · rfl
                · rfl
              have h_17_19 := h_17.alloc (shO false false nil0 nil0 nil0)
              have e_17_19 := e_17.alloc (shO false false nil0 nil0 nil0)
              generalize World.alloc w_17 _ = w_17_19 at h_17_19 e_17_19 ⊢
              generalize w_17.heap.size = b_17_19 at h_17_19 ⊢
              have h_17_19 := h_17_19.perm (L' := [(b_17_19, shO false false nil0 nil0 nil0)] ++ ([(b_17, Obj.cells #[.bool s1.leaf, .bool s1.tagged, .slice A1 s1.pairs.length x1, .slice A2 s1.keys.length x2, .slice A3 s1.kids.length x3, .bool s2.leaf, .bool s2.tagged, .slice B1 s2.pairs.length y1, .slice B2 s2.keys.length y2, .slice B3 s2.kids.length y3] 31)] ++ ([(vb + 1, shO false false nil0 nil0 nil0)] ++ ([(vb, shO l t (.slice Bp ps.length dp) (.slice (some ⟨gk, ok, none⟩) ks.length dk) (.slice (some ⟨g, off, none⟩) kids.length dc))] ++ (R))))) (perm_of_count fun x => by simp only [List.count_append, List.count_cons, List.count_nil, arenaObj, slotObj, nodeObj, worldObj] <;> omega)
              refine hK.out _ _ ((h_17_19.knows (sub_of_count fun x => by simp only [List.count_append, List.count_cons, List.count_nil, arenaObj, slotObj, nodeObj, worldObj] <;> omega))) (fun hHeld => ?_)
              clear hK K
              refine norm_ (a' := ?_) ?_ ?_
              rotate_left
              · show Act.put _ (some 5) _ = _
                simp only [Act.put, List.setIfInBounds_toArray, List.set_cons_zero, List.set_cons_succ, i64_w, i32_w]
                rfl
              refine one_ (i := 5) (N := some 23) #[true, true, true, true, true, true, true, true, true, true, true, true, true, true, true, true, true, true, false, true, false] rfl rfl (by kernel_rfl) (by decide) (fun K hK => ?_)
              refine value_ (w1 := ?_) (v := ?_) (by rfl) rfl ?_ ?_
              rotate_left 2
              · go_simp
                constructor
                · rfl
                · rfl
              have h_17_19_5 := h_17_19.alloc (Obj.cells #[.int .i64 x0] 2)
              have e_17_19_5 := e_17_19.alloc (Obj.cells #[.int .i64 x0] 2)
              generalize World.alloc w_17_19 _ = w_17_19_5 at h_17_19_5 e_17_19_5 ⊢
              generalize w_17_19.heap.size = b_17_19_5 at h_17_19_5 ⊢
              have h_17_19_5 := h_17_19_5.perm (L' := [(b_17_19_5, Obj.cells #[.int .i64 x0] 2)] ++ ([(b_17_19, shO false false nil0 nil0 nil0)] ++ ([(b_17, Obj.cells #[.bool s1.leaf, .bool s1.tagged, .slice A1 s1.pairs.length x1, .slice A2 s1.keys.length x2, .slice A3 s1.kids.length x3, .bool s2.leaf, .bool s2.tagged, .slice B1 s2.pairs.length y1, .slice B2 s2.keys.length y2, .slice B3 s2.kids.length y3] 31)] ++ ([(vb + 1, shO false false nil0 nil0 nil0)] ++ ([(vb, shO l t (.slice Bp ps.length dp) (.slice (some ⟨gk, ok, none⟩) ks.length dk) (.slice (some ⟨g, off, none⟩) kids.length dc))] ++ (R)))))) (perm_of_count fun x => by simp only [List.count_append, List.count_cons, List.count_nil, arenaObj, slotObj, nodeObj, worldObj] <;> omega)
              refine hK.out _ _ ((h_17_19_5.knows (sub_of_count fun x => by simp only [List.count_append, List.count_cons, List.count_nil, arenaObj, slotObj, nodeObj, worldObj] <;> omega))) (fun hHeld => ?_)
              clear hK K
              refine norm_ (a' := ?_) ?_ ?_
              rotate_left
              · show Act.put _ (some 23) _ = _
                simp only [Act.put, List.setIfInBounds_toArray, List.set_cons_zero, List.set_cons_succ, i64_w, i32_w]
                rfl
              refine pure_ (i := 18) (N := some 36) (v := ?_) (a' := ?_) #[true, true, true, true, true, true, true, true, true, true, true, true, true, true, true, true, true, true, true, true, false] rfl rfl (by kernel_rfl) (fun _ _ _ h => h) (Or.inl ⟨by rfl, ?_⟩) ?_ ?_
              rotate_left
              · intro w'
                go_simp
                with_reducible rfl
              rotate_left
              · simp only [Act.put, List.setIfInBounds_toArray, List.set_cons_zero, List.set_cons_succ, i64_w, i32_w]
                rfl
              exact norm_ (by first | (simp only [putAll, Act.put, List.setIfInBounds_toArray, List.set_cons_zero, List.set_cons_succ]; done) | (simp only [putAll, Act.put, List.setIfInBounds_toArray, List.set_cons_zero, List.set_cons_succ]; rfl)) (hCont ⟨b_17_19_5, b_17, b_17_19⟩ _ ⟨hHeld, h_17_19_5.perm (L' := [(b_17_19_5, Obj.cells #[.int .i64 x0] 2)] ++ ([(b_17, Obj.cells #[.bool s1.leaf, .bool s1.tagged, .slice A1 s1.pairs.length x1, .slice A2 s1.keys.length x2, .slice A3 s1.kids.length x3, .bool s2.leaf, .bool s2.tagged, .slice B1 s2.pairs.length y1, .slice B2 s2.keys.length y2, .slice B3 s2.kids.length y3] 31)] ++ ([(b_17_19, shO false false nil0 nil0 nil0)] ++ ([(vb + 1, shO false false nil0 nil0 nil0)] ++ ([(vb, shO l t (.slice Bp ps.length dp) (.slice (some ⟨gk, ok, none⟩) ks.length dk) (.slice (some ⟨g, off, none⟩) kids.length dc))] ++ (R)))))) (perm_of_count fun x => by simp only [List.count_append, List.count_cons, List.count_nil, arenaObj, slotObj, nodeObj, worldObj] <;> omega), e_17_19_5⟩)
          · skip
            have h_ := hW.drew
            have e_ := hE.drew
            generalize wc.drew = w_ at h_ e_ ⊢
            refine value_ (w1 := ?_) (v := ?_) (by rfl) rfl ?_ ?_
            rotate_left 2
            · go_simp
              constructor
              · rfl
              · rfl
            have h_19 := h_.alloc (shO false false nil0 nil0 nil0)
            have e_19 := e_.alloc (shO false false nil0 nil0 nil0)
            generalize World.alloc w_ _ = w_19 at h_19 e_19 ⊢
            generalize w_.heap.size = b_19 at h_19 ⊢
            have h_19 := h_19.perm (L' := [(b_19, shO false false nil0 nil0 nil0)] ++ ([(vb + 1, shO false false nil0 nil0 nil0)] ++ ([(vb, shO l t (.slice Bp ps.length dp) (.slice (some ⟨gk, ok, none⟩) ks.length dk) (.slice (some ⟨g, off, none⟩) kids.length dc))] ++ (R)))) (perm_of_count fun x => by simp only [List.count_append, List.count_cons, List.count_nil, arenaObj, slotObj, nodeObj, worldObj] <;> omega)
            refine hK.out _ _ ((h_19.knows (sub_of_count fun x => by simp only [List.count_append, List.count_cons, List.count_nil, arenaObj, slotObj, nodeObj, worldObj] <;> omega))) (fun hHeld => ?_)
            clear hK K
            refine norm_ (a' := ?_) ?_ ?_
            rotate_left
            · show Act.put _ (some 5) _ = _
              simp only [Act.put, List.setIfInBounds_toArray, List.set_cons_zero, List.set_cons_succ, i64_w, i32_w]
              rfl
            refine two_ (i := 5) (j := 17) (Ni := some 23) (Nj := some 35) #[true, true, true, true, true, true, true, true, true, true, true, true, true, true, true, true, true, false, false, true, false] #[true, true, true, true, true, false, true, true, true, true, true, true, true, true, true, true, true, true, false, true, false] rfl rfl rfl rfl (by kernel_rfl) (by decide) (by decide) (fun K hK => ?_) (fun K hK => ?_)
            · skip
              refine value_ (w1 := ?_) (v := ?_) (by rfl) rfl ?_ ?_
              rotate_left 2
              · go_simp
                constructor
                · rfl
                · rfl
              have h_19_5 := h_19.alloc (Obj.cells #[.int .i64 x0] 2)
              have e_19_5 := e_19.alloc (Obj.cells #[.int .i64 x0] 2)
              generalize World.alloc w_19 _ = w_19_5 at h_19_5 e_19_5 ⊢
              generalize w_19.heap.size = b_19_5 at h_19_5 ⊢
              have h_19_5 := h_19_5.perm (L' := [(b_19_5, Obj.cells #[.int .i64 x0] 2)] ++ ([(b_19, shO false false nil0 nil0 nil0)] ++ ([(vb + 1, shO false false nil0 nil0 nil0)] ++ ([(vb, shO l t (.slice Bp ps.length dp) (.slice (some ⟨gk, ok, none⟩) ks.length dk) (.slice (some ⟨g, off, none⟩) kids.length dc))] ++ (R))))) (perm_of_count fun x => by simp only [List.count_append, List.count_cons, List.count_nil, arenaObj, slotObj, nodeObj, worldObj] <;> omega)
              refine hK.out _ _ ((h_19_5.knows (sub_of_count fun x => by simp only [List.count_append, List.count_cons, List.count_nil, arenaObj, slotObj, nodeObj, worldObj] <;> omega))) (fun hHeld => ?_)
              clear hK K
              refine norm_ (a' := ?_) ?_ ?_
              rotate_left
              · show Act.put _ (some 23) _ = _
                simp only [Act.put, List.setIfInBounds_toArray, List.set_cons_zero, List.set_cons_succ, i64_w, i32_w]
                rfl
              refine one_ (i := 17) (N := some 35) #[true, true, true, true, true, true, true, true, true, true, true, true, true, true, true, true, true, true, false, true, false] rfl rfl (by kernel_rfl) (by decide) (fun K hK => ?_)
              refine value_ (w1 := ?_) (v := ?_) (by rfl) rfl ?_ ?_
              rotate_left 2
              · go_simp
                constructor
                · rfl
                · rfl
              have h_19_5_17 := h_19_5.alloc (Obj.cells #[.bool s1.leaf, .bool s1.tagged, .slice A1 s1.pairs.length x1, .slice A2 s1.keys.length x2, .slice A3 s1.kids.length x3, .bool s2.leaf, .bool s2.tagged, .slice B1 s2.pairs.length y1, .slice B2 s2.keys.length y2, .slice B3 s2.kids.length y3] 31)
              have e_19_5_17 := e_19_5.alloc (Obj.cells #[.bool s1.leaf, .bool s1.tagged, .slice A1 s1.pairs.length x1, .slice A2 s1.keys.length x2, .slice A3 s1.kids.length x3, .bool s2.leaf, .bool s2.tagged, .slice B1 s2.pairs.length y1, .slice B2 s2.keys.length y2, .slice B3 s2.kids.length y3] 31)
              generalize World.alloc w_19_5 _ = w_19_5_17 at h_19_5_17 e_19_5_17 ⊢
              generalize w_19_5.heap.size = b_19_5_17 at h_19_5_17 ⊢
              have h_19_5_17 := h_19_5_17.perm (L' := [(b_19_5_17, Obj.cells #[.bool s1.leaf, .bool s1.tagged, .slice A1 s1.pairs.length x1, .slice A2 s1.keys.length x2, .slice A3 s1.kids.length x3, .bool s2.leaf, .bool s2.tagged, .slice B1 s2.pairs.length y1, .slice B2 s2.keys.length y2, .slice B3 s2.kids.length y3] 31)] ++ ([(b_19_5, Obj.cells #[.int .i64 x0] 2)] ++ ([(b_19, shO false false nil0 nil0 nil0)] ++ ([(vb + 1, shO false false nil0 nil0 nil0)] ++ ([(vb, shO l t (.slice Bp ps.length dp) (.slice (some ⟨gk, ok, none⟩) ks.length dk) (.slice (some ⟨g, off, none⟩) kids.length dc))] ++ (R)))))) (perm_of_count fun x => by simp only [List.count_append, List.count_cons, List.count_nil, arenaObj, slotObj, nodeObj, worldObj] <;> omega)
              refine hK.out _ _ ((h_19_5_17.knows (sub_of_count fun x => by simp only [List.count_append, List.count_cons, List.count_nil, arenaObj, slotObj, nodeObj, worldObj] <;> omega))) (fun hHeld => ?_)
              clear hK K
              refine norm_ (a' := ?_) ?_ ?_
              rotate_left
              · show Act.put _ (some 35) _ = _
                simp only [Act.put, List.setIfInBounds_toArray, List.set_cons_zero, List.set_cons_succ, i64_w, i32_w]
                rfl
              refine pure_ (i := 18) (N := some 36) (v := ?_) (a' := ?_) #[true, true, true, true, true, true, true, true, true, true, true, true, true, true, true, true, true, true, true, true, false] rfl rfl (by kernel_rfl) (fun _ _ _ h => h) (Or.inl ⟨by rfl, ?_⟩) ?_ ?_
              rotate_left
              · intro w'
                go_simp
                with_reducible rfl
              rotate_left
              · simp only [Act.put, List.setIfInBounds_toArray, List.set_cons_zero, List.set_cons_succ, i64_w, i32_w]
                rfl
              exact norm_ (by first | (simp only [putAll, Act.put, List.setIfInBounds_toArray, List.set_cons_zero, List.set_cons_succ]; done) | (simp only [putAll, Act.put, List.setIfInBounds_toArray, List.set_cons_zero, List.set_cons_succ]; rfl)) (hCont ⟨b_19_5, b_19_5_17, b_19⟩ _ ⟨hHeld, h_19_5_17.perm (L' := [(b_19_5, Obj.cells #[.int .i64 x0] 2)] ++ ([(b_19_5_17, Obj.cells #[.bool s1.leaf, .bool s1.tagged, .slice A1 s1.pairs.length x1, .slice A2 s1.keys.length x2, .slice A3 s1.kids.length x3, .bool s2.leaf, .bool s2.tagged, .slice B1 s2.pairs.length y1, .slice B2 s2.keys.length y2, .slice B3 s2.kids.length y3] 31)] ++ ([(b_19, shO false false nil0 nil0 nil0)] ++ ([(vb + 1, shO false false nil0 nil0 nil0)] ++ ([(vb, shO l t (.slice Bp ps.length dp) (.slice (some ⟨gk, ok, none⟩) ks.length dk) (.slice (some ⟨g, off, none⟩) kids.length dc))] ++ (R)))))) (perm_of_count fun x => by simp only [List.count_append, List.count_cons, List.count_nil, arenaObj, slotObj, nodeObj, worldObj] <;> omega), e_19_5_17⟩)
            · skip
              refine value_ (w1 := ?_) (v := ?_) (by rfl) rfl ?_ ?_
              rotate_left 2
              · go_simp
                constructor
                · rfl
                · rfl
              have h_19_17 := h_19.alloc (Obj.cells #[.bool s1.leaf, .bool s1.tagged, .slice A1 s1.pairs.length x1, .slice A2 s1.keys.length x2, .slice A3 s1.kids.length x3, .bool s2.leaf, .bool s2.tagged, .slice B1 s2.pairs.length y1, .slice B2 s2.keys.length y2, .slice B3 s2.kids.length y3] 31)
              have e_19_17 := e_19.alloc (Obj.cells #[.bool s1.leaf, .bool s1.tagged, .slice A1 s1.pairs.length x1, .slice A2 s1.keys.length x2, .slice A3 s1.kids.length x3, .bool s2.leaf, .bool s2.tagged, .slice B1 s2.pairs.length y1, .slice B2 s2.keys.length y2, .slice B3 s2.kids.length y3] 31)
              generalize World.alloc w_19 _ = w_19_17 at h_19_17 e_19_17 ⊢
              generalize w_19.heap.size = b_19_17 at h_19_17 ⊢
              have h_19_17 := h_19_17.perm (L' := [(b_19_17, Obj.cells #[.bool s1.leaf, .bool s1.tagged, .slice A1 s1.pairs.length x1, .slice A2 s1.keys.length x2, .slice A3 s1.kids.length x3, .bool s2.leaf, .bool s2.tagged, .slice B1 s2.pairs.length y1, .slice B2 s2.keys.length y2, .slice B3 s2.kids.length y3] 31)] ++ ([(b_19, shO false false nil0 nil0 nil0)] ++ ([(vb + 1, shO false false nil0 nil0 nil0)] ++ ([(vb, shO l t (.slice Bp ps.length dp) (.slice (some ⟨gk, ok, none⟩) ks.length dk) (.slice (some ⟨g, off, none⟩) kids.length dc))] ++ (R))))) (perm_of_count fun x => by simp only [List.count_append, List.count_cons, List.count_nil, arenaObj, slotObj, nodeObj, worldObj] <;> omega)
              refine hK.out _ _ ((h_19_17.knows (sub_of_count fun x => by simp only [List.count_append, List.count_cons, List.count_nil, arenaObj, slotObj, nodeObj, worldObj] <;> omega))) (fun hHeld => ?_)
              clear hK K
              refine norm_ (a' := ?_) ?_ ?_
              rotate_left
              · show Act.put _ (some 35) _ = _
                simp only [Act.put, List.setIfInBounds_toArray, List.set_cons_zero, List.set_cons_succ, i64_w, i32_w]
                rfl
              refine one_ (i := 5) (N := some 23) #[true, true, true, true, true, true, true, true, true, true, true, true, true, true, true, true, true, true, false, true, false] rfl rfl (by kernel_rfl) (by decide) (fun K hK => ?_)
              refine value_ (w1 := ?_) (v := ?_) (by rfl) rfl ?_ ?_
              rotate_left 2
              · go_simp
                constructor
                · rfl
                · rfl
              have h_19_17_5 := h_19_17.alloc (Obj.cells #[.int .i64 x0] 2)
              have e_19_17_5 := e_19_17.alloc (Obj.cells #[.int .i64 x0] 2)
              generalize World.alloc w_19_17 _ = w_19_17_5 at h_19_17_5 e_19_17_5 ⊢
              generalize w_19_17.heap.size = b_19_17_5 at h_19_17_5 ⊢
              have h_19_17_5 := h_19_17_5.perm (L' := [(b_19_17_5, Obj.cells #[.int .i64 x0] 2)] ++ ([(b_19_17, Obj.cells #[.bool s1.leaf, .bool s1.tagged, .slice A1 s1.pairs.length x1, .slice A2 s1.keys.length x2, .slice A3 s1.kids.length x3, .bool s2.leaf, .bool s2.tagged, .slice B1 s2.pairs.length y1, .slice B2 s2.keys.length y2, .slice B3 s2.kids.length y3] 31)] ++ ([(b_19, shO false false nil0 nil0 nil0)] ++ ([(vb + 1, shO false false nil0 nil0 nil0)] ++ ([(vb, shO l t (.slice Bp ps.length dp) (.slice (some ⟨gk, ok, none⟩) ks.length dk) (.slice (some ⟨g, off, none⟩) kids.length dc))] ++ (R)))))) (perm_of_count fun x => by simp only [List.count_append, List.count_cons, List.count_nil, arenaObj, slotObj, nodeObj, worldObj] <;> omega)
              refine hK.out _ _ ((h_19_17_5.knows (sub_of_count fun x => by simp only [List.count_append, List.count_cons, List.count_nil, arenaObj, slotObj, nodeObj, worldObj] <;> omega))) (fun hHeld => ?_)
              clear hK K
              refine norm_ (a' := ?_) ?_ ?_
              rotate_left
              · show Act.put _ (some 23) _ = _
                simp only [Act.put, List.setIfInBounds_toArray, List.set_cons_zero, List.set_cons_succ, i64_w, i32_w]
                rfl
              refine pure_ (i := 18) (N := some 36) (v := ?_) (a' := ?_) #[true, true, true, true, true, true, true, true, true, true, true, true, true, true, true, true, true, true, true, true, false] rfl rfl (by kernel_rfl) (fun _ _ _ h => h) (Or.inl ⟨by rfl, ?_⟩) ?_ ?_
              rotate_left
              · intro w'
                go_simp
                with_reducible rfl
              rotate_left
              · simp only [Act.put, List.setIfInBounds_toArray, List.set_cons_zero, List.set_cons_succ, i64_w, i32_w]
                rfl
              exact norm_ (by first | (simp only [putAll, Act.put, List.setIfInBounds_toArray, List.set_cons_zero, List.set_cons_succ]; done) | (simp only [putAll, Act.put, List.setIfInBounds_toArray, List.set_cons_zero, List.set_cons_succ]; rfl)) (hCont ⟨b_19_17_5, b_19_17, b_19⟩ _ ⟨hHeld, h_19_17_5.perm (L' := [(b_19_17_5, Obj.cells #[.int .i64 x0] 2)] ++ ([(b_19_17, Obj.cells #[.bool s1.leaf, .bool s1.tagged, .slice A1 s1.pairs.length x1, .slice A2 s1.keys.length x2, .slice A3 s1.kids.length x3, .bool s2.leaf, .bool s2.tagged, .slice B1 s2.pairs.length y1, .slice B2 s2.keys.length y2, .slice B3 s2.kids.length y3] 31)] ++ ([(b_19, shO false false nil0 nil0 nil0)] ++ ([(vb + 1, shO false false nil0 nil0 nil0)] ++ ([(vb, shO l t (.slice Bp ps.length dp) (.slice (some ⟨gk, ok, none⟩) ks.length dk) (.slice (some ⟨g, off, none⟩) kids.length dc))] ++ (R)))))) (perm_of_count fun x => by simp only [List.count_append, List.count_cons, List.count_nil, arenaObj, slotObj, nodeObj, worldObj] <;> omega), e_19_17_5⟩)
        rintro ⟨n5, n17, n19⟩ w2 ⟨hHeld, hW2, hE2⟩
        obtain ⟨z0, z1, z2, z3, z4⟩ := hW2.five (b := n19) (l := false) (t := false) (p := nil0) (k := nil0) (c := nil0) (by simp)
        have zf := hW2.free (b := n19) (c := #[.bool false, .bool false, nil0, nil0, nil0]) (t := 31) (by simp)
        refine norm_ (a' := ?_) ?_ ?_
        rotate_left
        · simp only [putAll, Act.put, List.setIfInBounds_toArray, List.set_cons_zero, List.set_cons_succ]
          rfl
        refine last_ (i := 20) (N := none) #[true, true, true, true, true, true, true, true, true, true, true, true, true, true, true, true, true, true, true, true, true] rfl rfl (by kernel_rfl) (by decide) (fun K hK => ?_)
        refine skip_ (w1 := ?_) (by rfl) rfl ?_ ?_
        rotate_left
        · go_simp
          rfl
        refine hK.out _ _ ?_
        clear hK K
        refine done_ (by kernel_rfl) ?_
        have hW3 := (hW2.perm (L' := (n19, shO false false nil0 nil0 nil0) :: ([(n5, Obj.cells #[.int .i64 x0] 2)] ++ ([(n17, Obj.cells #[.bool s1.leaf, .bool s1.tagged, .slice A1 s1.pairs.length x1, .slice A2 s1.keys.length x2, .slice A3 s1.kids.length x3, .bool s2.leaf, .bool s2.tagged, .slice B1 s2.pairs.length y1, .slice B2 s2.keys.length y2, .slice B3 s2.kids.length y3] 31)] ++ ([(vb + 1, shO false false nil0 nil0 nil0)] ++ ([(vb, shO l t (.slice Bp ps.length dp) (.slice (some ⟨gk, ok, none⟩) ks.length dk) (.slice (some ⟨g, off, none⟩) kids.length dc))] ++ R))))) (perm_of_count fun x => by simp only [List.count_append, List.count_cons, List.count_nil, arenaObj, slotObj, nodeObj, worldObj]; omega)).set5 false true nil0 (.slice (some ⟨n5, 0, none⟩) 1 1) (.slice (some ⟨n17, 0, none⟩) 2 2)
        have hE3 := hE2.set5 n19 false true nil0 (.slice (some ⟨n5, 0, none⟩) 1 1) (.slice (some ⟨n17, 0, none⟩) 2 2)
        unfold Go.Proofs.Ytjkfigkgeoacfaa.set5 at hW3 hE3
        generalize World.setCell _ _ _ = w3 at hW3 hE3 ⊢
        go_wp2_with fail
        go_meet
        case rel => exact ⟨n5, n17, n19, rfl, hW3, hE3⟩
      case rest =>
        obtain ⟨n5, n17, n19, rfl, hW3, hE3⟩ := hcut
        generalize hwc : wc = w3 at hW3 hE3 ⊢
        clear hwc hW hE
        have v3 : ∀ w, Knows w ((vb, shO l t (.slice Bp ps.length dp) (.slice (some ⟨gk, ok, none⟩) ks.length dk) (.slice (some ⟨g, off, none⟩) kids.length dc)) :: R) → w.cell? ⟨vb, 3, none⟩ = some (.slice (some ⟨gk, ok, none⟩) ks.length dk) := fun w hw => (hw.cell (List.mem_cons_self ..) 3).trans rfl
        have v4 : ∀ w, Knows w ((vb, shO l t (.slice Bp ps.length dp) (.slice (some ⟨gk, ok, none⟩) ks.length dk) (.slice (some ⟨g, off, none⟩) kids.length dc)) :: R) → w.cell? ⟨vb, 4, none⟩ = some (.slice (some ⟨g, off, none⟩) kids.length dc) := fun w hw => (hw.cell (List.mem_cons_self ..) 4).trans rfl
        go_upto_region 5 with fail
        go_cut [6] (fun v wx => ∃ (m0 m13 : Nat) (A11 : Option Addr) (c11 : Nat) (L11 : HL), v = .pointer (some ⟨m13, 0, none⟩) ∧ Row 2 1 (.slice A11 (i + (ks.length - (i + 1))) c11) (i + (ks.length - (i + 1))) ([] ++ (ints ks).take (i * 1) ++ (ints ks).drop ((i + 1) * 1)) L11 ∧ Has wx ((m13, shO false false nil0 (.slice A11 (i + (ks.length - (i + 1))) c11) nil0) :: (L11 ++ ([(m0, Obj.cells #[] 2)] ++ ([(n19, shO false true nil0 (.slice (some ⟨n5, 0, none⟩) 1 1) (.slice (some ⟨n17, 0, none⟩) 2 2))] ++ ([(n5, Obj.cells #[.int .i64 x0] 2)] ++ ([(n17, Obj.cells #[.bool s1.leaf, .bool s1.tagged, .slice A1 s1.pairs.length x1, .slice A2 s1.keys.length x2, .slice A3 s1.kids.length x3, .bool s2.leaf, .bool s2.tagged, .slice B1 s2.pairs.length y1, .slice B2 s2.keys.length y2, .slice B3 s2.kids.length y3] 31)] ++ ([(vb + 1, shO false false nil0 nil0 nil0)] ++ ([(vb, shO l t (.slice Bp ps.length dp) (.slice (some ⟨gk, ok, none⟩) ks.length dk) (.slice (some ⟨g, off, none⟩) kids.length dc))] ++ R)))))))) ∧ Ext w wx)
        case first =>
          have hk1 : Rd R 2 1 (.slice (some ⟨gk, ok, none⟩) i dk) i ((ints ks).take (i * 1)) := hk.take (by omega)
          have hk2' : Rd R 2 1 (.slice (if dk = i + 1 then some ⟨gk, ok, none⟩ else some ⟨gk, ok + (i + 1), none⟩) (ks.length - (i + 1)) (dk - (i + 1))) (ks.length - (i + 1)) ((ints ks).drop ((i + 1) * 1)) := hk.drop (by omega) (fun h => by rw [if_neg (by omega), Nat.mul_one])
          have o1 : One ((ints ks).take (i * 1)) := fun u hu => one_ints ks u (List.mem_of_mem_take hu)
          have o2 : One ((ints ks).drop ((i + 1) * 1)) := fun u hu => one_ints ks u (List.mem_of_mem_drop hu)
          have HK1 := Lib.hid (And.intro hk1 (And.intro hk2' (And.intro o1 o2)))
          have h63a : Hid (i ≤ maxLen) := Lib.hid (by simp [maxLen]; omega)
          have h63b : Hid (i + (ks.length - (i + 1)) ≤ maxLen) := Lib.hid (by simp [maxLen]; omega)
          have hba : Hid (i * 8 ≤ 140737488355328) := Lib.hid (by omega)
          have hbb : Hid ((i + (ks.length - (i + 1))) * 8 ≤ 140737488355328) := Lib.hid (by omega)
          have l5 : 0 ≤ (i : Int) + 1 := by omega
          have l6 : (i : Int) + 1 ≤ ks.length := by omega
          have l7 : i ≤ dk := by omega
          have l8 : (i : Int) ≤ dk := by omega
          have l4 : wrap64 ((i : Int) + 1) = ((i + 1 : Nat) : Int) := by unfold wrap64; omega
          clear hk1 hk2' o1 o2
          refine start_ (n := 15) (S := fun w' => Knows w' ((vb, shO l t (.slice Bp ps.length dp) (.slice (some ⟨gk, ok, none⟩) ks.length dk) (.slice (some ⟨g, off, none⟩) kids.length dc)) :: R)) (ds := [14]) #[false, false, false, false, false, false, false, false, false, false, false, false, false, false, false] (by kernel_rfl) rfl rfl ((hW3.drew.knows (sub_of_count fun x => by simp only [List.count_append, List.count_cons, List.count_nil, arenaObj, slotObj, nodeObj, worldObj] <;> omega))) (fun hHeld => ?_)
          refine pure_ (i := 1) (N := some 38) (v := ?_) (a' := ?_) #[false, true, false, false, false, false, false, false, false, false, false, false, false, false, false] rfl rfl (by kernel_rfl) (fun _ _ _ h => h) (Or.inl ⟨by rfl, ?_⟩) ?_ ?_
          rotate_left
          · intro w'
            go_simp
            with_reducible rfl
          rotate_left
          · simp only [Act.put, List.setIfInBounds_toArray, List.set_cons_zero, List.set_cons_succ, i64_w, i32_w]
            rfl
          refine pure_ (i := 3) (N := some 40) (v := ?_) (a' := ?_) #[false, true, false, true, false, false, false, false, false, false, false, false, false, false, false] rfl rfl (by kernel_rfl) (fun _ _ _ h => h) (Or.inl ⟨by rfl, ?_⟩) ?_ ?_
          rotate_left
          · intro w'
            go_simp
            with_reducible rfl
          rotate_left
          · simp only [Act.put, List.setIfInBounds_toArray, List.set_cons_zero, List.set_cons_succ, i64_w, i32_w]
            rfl
          refine pure_ (i := 6) (N := some 43) (v := ?_) (a' := ?_) #[false, true, false, true, false, false, true, false, false, false, false, false, false, false, false] rfl rfl (by kernel_rfl) (fun _ _ _ h => h) (Or.inl ⟨by rfl, ?_⟩) ?_ ?_
          rotate_left
          · intro w'
            go_simp
            with_reducible rfl
          rotate_left
          · simp only [Act.put, List.setIfInBounds_toArray, List.set_cons_zero, List.set_cons_succ, i64_w, i32_w]
            rfl
          refine pure_ (i := 8) (N := some 45) (v := ?_) (a' := ?_) #[false, true, false, true, false, false, true, false, true, false, false, false, false, false, false] rfl rfl (by kernel_rfl) (fun _ _ _ h => h) (Or.inl ⟨by rfl, ?_⟩) ?_ ?_
          rotate_left
          · intro w'
            go_simp
            with_reducible rfl
          rotate_left
          · simp only [Act.put, List.setIfInBounds_toArray, List.set_cons_zero, List.set_cons_succ, i64_w, i32_w]
            rfl
          refine pure_ (i := 9) (N := some 46) (v := ?_) (a' := ?_) #[false, true, false, true, false, false, true, false, true, true, false, false, false, false, false] rfl rfl (by kernel_rfl) (fun _ _ _ h => h) (Or.inl ⟨by rfl, ?_⟩) ?_ ?_
          rotate_left
          · intro w'
            go_simp
            with_reducible rfl
          rotate_left
          · simp only [Act.put, List.setIfInBounds_toArray, List.set_cons_zero, List.set_cons_succ, i64_w, i32_w]
            rfl
          refine take_ (i := 2) (N := some 39) (v := ?_) (a' := ?_) #[false, true, true, true, false, false, true, false, true, true, false, false, false, false, false] rfl rfl (by kernel_rfl) (fun _ _ _ h => h) (Or.inl ⟨by rfl, ?_⟩) hHeld ?_ ?_
          rotate_left
          · intro w' s0
            go_simp
            with_reducible rfl
          rotate_left
          · simp only [Act.put, List.setIfInBounds_toArray, List.set_cons_zero, List.set_cons_succ, i64_w, i32_w]
            rfl
          refine pure_ (i := 4) (N := some 41) (v := ?_) (a' := ?_) #[false, true, true, true, true, false, true, false, true, true, false, false, false, false, false] rfl rfl (by kernel_rfl) (fun _ _ _ h => h) (Or.inl ⟨by rfl, ?_⟩) ?_ ?_
          rotate_left
          · intro w'
            go_simp
            with_reducible rfl
          rotate_left
          · simp only [Act.put, List.setIfInBounds_toArray, List.set_cons_zero, List.set_cons_succ, i64_w, i32_w]
            rfl
          refine take_ (i := 7) (N := some 44) (v := ?_) (a' := ?_) #[false, true, true, true, true, false, true, true, true, true, false, false, false, false, false] rfl rfl (by kernel_rfl) (fun _ _ _ h => h) (Or.inl ⟨by rfl, ?_⟩) hHeld ?_ ?_
          rotate_left
          · intro w' s0
            go_simp
            with_reducible rfl
          rotate_left
          · simp only [Act.put, List.setIfInBounds_toArray, List.set_cons_zero, List.set_cons_succ, i64_w, i32_w]
            rfl
          refine pure_ (i := 10) (N := some 47) (v := ?_) (a' := ?_) #[false, true, true, true, true, false, true, true, true, true, true, false, false, false, false] rfl rfl (by kernel_rfl) (fun _ _ _ h => h) (Or.inl ⟨by rfl, ?_⟩) ?_ ?_
          rotate_left
          · intro w'
            go_simp
            with_reducible rfl
          rotate_left
          · simp only [Act.put, List.setIfInBounds_toArray, List.set_cons_zero, List.set_cons_succ, i64_w, i32_w]
            rfl
          refine join_ (σ := Nat × (Option Addr × Nat × HL) × (Option Addr × Nat × HL) × Nat) 1 #[true, true, true, true, true, true, true, true, true, true, true, true, true, true, false] (fun s => [(37, .slice (some ⟨s.1, 0, none⟩) 0 0), (42, .slice s.2.1.1 (i) s.2.1.2.1), (48, .slice s.2.2.1.1 (i + (ks.length - (i + 1))) s.2.2.1.2.1), (6, .pointer (some ⟨s.2.2.2, 0, none⟩)), (49, .agg #[.bool false, .bool false, .slice none 0 0, (.slice s.2.2.1.1 (i + (ks.length - (i + 1))) s.2.2.1.2.1), .slice none 0 0])]) (fun s w' => (Knows w' ((vb, shO l t (.slice Bp ps.length dp) (.slice (some ⟨gk, ok, none⟩) ks.length dk) (.slice (some ⟨g, off, none⟩) kids.length dc)) :: R)) ∧ Has w' ([(s.1, Obj.cells #[] 2)] ++ ([(s.2.2.2, shO false false nil0 nil0 nil0)] ++ (s.2.2.1.2.2 ++ ([(n19, shO false true nil0 (.slice (some ⟨n5, 0, none⟩) 1 1) (.slice (some ⟨n17, 0, none⟩) 2 2))] ++ ([(n5, Obj.cells #[.int .i64 x0] 2)] ++ ([(n17, Obj.cells #[.bool s1.leaf, .bool s1.tagged, .slice A1 s1.pairs.length x1, .slice A2 s1.keys.length x2, .slice A3 s1.kids.length x3, .bool s2.leaf, .bool s2.tagged, .slice B1 s2.pairs.length y1, .slice B2 s2.keys.length y2, .slice B3 s2.kids.length y3] 31)] ++ ([(vb + 1, shO false false nil0 nil0 nil0)] ++ ([(vb, shO l t (.slice Bp ps.length dp) (.slice (some ⟨gk, ok, none⟩) ks.length dk) (.slice (some ⟨g, off, none⟩) kids.length dc))] ++ (R))))))))) ∧ Row 2 1 (.slice s.2.2.1.1 (i + (ks.length - (i + 1))) s.2.2.1.2.1) (i + (ks.length - (i + 1))) ([] ++ (ints ks).take (i * 1) ++ (ints ks).drop ((i + 1) * 1)) s.2.2.1.2.2 ∧ Ext w w') ?_ ?_
          rotate_left
          · intro hJ0_5_11_13
            refine join_ (σ := Nat × (Option Addr × Nat × HL) × (Option Addr × Nat × HL)) 2 #[true, true, true, true, true, true, true, true, true, true, true, true, true, false, false] (fun s => [(37, .slice (some ⟨s.1, 0, none⟩) 0 0), (42, .slice s.2.1.1 (i) s.2.1.2.1), (48, .slice s.2.2.1 (i + (ks.length - (i + 1))) s.2.2.2.1), (49, .agg #[.bool false, .bool false, .slice none 0 0, (.slice s.2.2.1 (i + (ks.length - (i + 1))) s.2.2.2.1), .slice none 0 0])]) (fun s w' => (Knows w' ((vb, shO l t (.slice Bp ps.length dp) (.slice (some ⟨gk, ok, none⟩) ks.length dk) (.slice (some ⟨g, off, none⟩) kids.length dc)) :: R)) ∧ Has w' ([(s.1, Obj.cells #[] 2)] ++ (s.2.2.2.2 ++ ([(n19, shO false true nil0 (.slice (some ⟨n5, 0, none⟩) 1 1) (.slice (some ⟨n17, 0, none⟩) 2 2))] ++ ([(n5, Obj.cells #[.int .i64 x0] 2)] ++ ([(n17, Obj.cells #[.bool s1.leaf, .bool s1.tagged, .slice A1 s1.pairs.length x1, .slice A2 s1.keys.length x2, .slice A3 s1.kids.length x3, .bool s2.leaf, .bool s2.tagged, .slice B1 s2.pairs.length y1, .slice B2 s2.keys.length y2, .slice B3 s2.kids.length y3] 31)] ++ ([(vb + 1, shO false false nil0 nil0 nil0)] ++ ([(vb, shO l t (.slice Bp ps.length dp) (.slice (some ⟨gk, ok, none⟩) ks.length dk) (.slice (some ⟨g, off, none⟩) kids.length dc))] ++ (R)))))))) ∧ Row 2 1 (.slice s.2.2.1 (i + (ks.length - (i + 1))) s.2.2.2.1) (i + (ks.length - (i + 1))) ([] ++ (ints ks).take (i * 1) ++ (ints ks).drop ((i + 1) * 1)) s.2.2.2.2 ∧ Ext w w') ?_ ?_
            rotate_left
            · intro hJ0_5_11
              refine join_ (σ := Nat × (Option Addr × Nat × HL) × Nat) 3 #[true, true, true, true, true, true, true, true, true, true, true, false, false, true, false] (fun s => [(37, .slice (some ⟨s.1, 0, none⟩) 0 0), (42, .slice s.2.1.1 (i) s.2.1.2.1), (6, .pointer (some ⟨s.2.2, 0, none⟩))]) (fun s w' => (Knows w' ((vb, shO l t (.slice Bp ps.length dp) (.slice (some ⟨gk, ok, none⟩) ks.length dk) (.slice (some ⟨g, off, none⟩) kids.length dc)) :: R)) ∧ Has w' ([(s.1, Obj.cells #[] 2)] ++ ([(s.2.2, shO false false nil0 nil0 nil0)] ++ (s.2.1.2.2 ++ ([(n19, shO false true nil0 (.slice (some ⟨n5, 0, none⟩) 1 1) (.slice (some ⟨n17, 0, none⟩) 2 2))] ++ ([(n5, Obj.cells #[.int .i64 x0] 2)] ++ ([(n17, Obj.cells #[.bool s1.leaf, .bool s1.tagged, .slice A1 s1.pairs.length x1, .slice A2 s1.keys.length x2, .slice A3 s1.kids.length x3, .bool s2.leaf, .bool s2.tagged, .slice B1 s2.pairs.length y1, .slice B2 s2.keys.length y2, .slice B3 s2.kids.length y3] 31)] ++ ([(vb + 1, shO false false nil0 nil0 nil0)] ++ ([(vb, shO l t (.slice Bp ps.length dp) (.slice (some ⟨gk, ok, none⟩) ks.length dk) (.slice (some ⟨g, off, none⟩) kids.length dc))] ++ (R))))))))) ∧ Row 2 1 (.slice s.2.1.1 (i) s.2.1.2.1) (i) ([] ++ (ints ks).take (i * 1)) s.2.1.2.2 ∧ Ext w w') ?_ ?_
              rotate_left
              · intro hJ0_5_13
                refine join_ (σ := Nat × (Option Addr × Nat × HL)) 4 #[true, true, true, true, true, true, true, true, true, true, true, false, false, false, false] (fun s => [(37, .slice (some ⟨s.1, 0, none⟩) 0 0), (42, .slice s.2.1 (i) s.2.2.1)]) (fun s w' => (Knows w' ((vb, shO l t (.slice Bp ps.length dp) (.slice (some ⟨gk, ok, none⟩) ks.length dk) (.slice (some ⟨g, off, none⟩) kids.length dc)) :: R)) ∧ Has w' ([(s.1, Obj.cells #[] 2)] ++ (s.2.2.2 ++ ([(n19, shO false true nil0 (.slice (some ⟨n5, 0, none⟩) 1 1) (.slice (some ⟨n17, 0, none⟩) 2 2))] ++ ([(n5, Obj.cells #[.int .i64 x0] 2)] ++ ([(n17, Obj.cells #[.bool s1.leaf, .bool s1.tagged, .slice A1 s1.pairs.length x1, .slice A2 s1.keys.length x2, .slice A3 s1.kids.length x3, .bool s2.leaf, .bool s2.tagged, .slice B1 s2.pairs.length y1, .slice B2 s2.keys.length y2, .slice B3 s2.kids.length y3] 31)] ++ ([(vb + 1, shO false false nil0 nil0 nil0)] ++ ([(vb, shO l t (.slice Bp ps.length dp) (.slice (some ⟨gk, ok, none⟩) ks.length dk) (.slice (some ⟨g, off, none⟩) kids.length dc))] ++ (R)))))))) ∧ Row 2 1 (.slice s.2.1 (i) s.2.2.1) (i) ([] ++ (ints ks).take (i * 1)) s.2.2.2 ∧ Ext w w') ?_ ?_
                rotate_left
                · intro hJ0_5
                  refine join_ (σ := Nat × Nat) 4 #[true, true, true, true, true, false, true, true, true, true, true, false, false, true, false] (fun s => [(37, .slice (some ⟨s.1, 0, none⟩) 0 0), (6, .pointer (some ⟨s.2, 0, none⟩))]) (fun s w' => (Knows w' ((vb, shO l t (.slice Bp ps.length dp) (.slice (some ⟨gk, ok, none⟩) ks.length dk) (.slice (some ⟨g, off, none⟩) kids.length dc)) :: R)) ∧ Has w' ([(s.1, Obj.cells #[] 2)] ++ ([(s.2, shO false false nil0 nil0 nil0)] ++ ([] ++ ([(n19, shO false true nil0 (.slice (some ⟨n5, 0, none⟩) 1 1) (.slice (some ⟨n17, 0, none⟩) 2 2))] ++ ([(n5, Obj.cells #[.int .i64 x0] 2)] ++ ([(n17, Obj.cells #[.bool s1.leaf, .bool s1.tagged, .slice A1 s1.pairs.length x1, .slice A2 s1.keys.length x2, .slice A3 s1.kids.length x3, .bool s2.leaf, .bool s2.tagged, .slice B1 s2.pairs.length y1, .slice B2 s2.keys.length y2, .slice B3 s2.kids.length y3] 31)] ++ ([(vb + 1, shO false false nil0 nil0 nil0)] ++ ([(vb, shO l t (.slice Bp ps.length dp) (.slice (some ⟨gk, ok, none⟩) ks.length dk) (.slice (some ⟨g, off, none⟩) kids.length dc))] ++ (R))))))))) ∧ Ext w w') ?_ ?_
                  rotate_left
                  · intro hJ0_13
                    refine join_ (σ := Nat) 5 #[true, true, true, true, true, false, true, true, true, true, true, false, false, false, false] (fun s => [(37, .slice (some ⟨s, 0, none⟩) 0 0)]) (fun s w' => (Knows w' ((vb, shO l t (.slice Bp ps.length dp) (.slice (some ⟨gk, ok, none⟩) ks.length dk) (.slice (some ⟨g, off, none⟩) kids.length dc)) :: R)) ∧ Has w' ([(s, Obj.cells #[] 2)] ++ ([] ++ ([(n19, shO false true nil0 (.slice (some ⟨n5, 0, none⟩) 1 1) (.slice (some ⟨n17, 0, none⟩) 2 2))] ++ ([(n5, Obj.cells #[.int .i64 x0] 2)] ++ ([(n17, Obj.cells #[.bool s1.leaf, .bool s1.tagged, .slice A1 s1.pairs.length x1, .slice A2 s1.keys.length x2, .slice A3 s1.kids.length x3, .bool s2.leaf, .bool s2.tagged, .slice B1 s2.pairs.length y1, .slice B2 s2.keys.length y2, .slice B3 s2.kids.length y3] 31)] ++ ([(vb + 1, shO false false nil0 nil0 nil0)] ++ ([(vb, shO l t (.slice Bp ps.length dp) (.slice (some ⟨gk, ok, none⟩) ks.length dk) (.slice (some ⟨g, off, none⟩) kids.length dc))] ++ (R)))))))) ∧ Ext w w') ?_ ?_
                    rotate_left
                    · intro hJ0
                      refine join_ (σ := Nat) 5 #[false, true, true, true, true, false, true, true, true, true, true, false, false, true, false] (fun s => [(6, .pointer (some ⟨s, 0, none⟩))]) (fun s w' => (Knows w' ((vb, shO l t (.slice Bp ps.length dp) (.slice (some ⟨gk, ok, none⟩) ks.length dk) (.slice (some ⟨g, off, none⟩) kids.length dc)) :: R)) ∧ Has w' ([(s, shO false false nil0 nil0 nil0)] ++ ([] ++ ([(n19, shO false true nil0 (.slice (some ⟨n5, 0, none⟩) 1 1) (.slice (some ⟨n17, 0, none⟩) 2 2))] ++ ([(n5, Obj.cells #[.int .i64 x0] 2)] ++ ([(n17, Obj.cells #[.bool s1.leaf, .bool s1.tagged, .slice A1 s1.pairs.length x1, .slice A2 s1.keys.length x2, .slice A3 s1.kids.length x3, .bool s2.leaf, .bool s2.tagged, .slice B1 s2.pairs.length y1, .slice B2 s2.keys.length y2, .slice B3 s2.kids.length y3] 31)] ++ ([(vb + 1, shO false false nil0 nil0 nil0)] ++ ([(vb, shO l t (.slice Bp ps.length dp) (.slice (some ⟨gk, ok, none⟩) ks.length dk) (.slice (some ⟨g, off, none⟩) kids.length dc))] ++ (R)))))))) ∧ Ext w w') ?_ ?_
                      rotate_left
                      · intro hJ13
                        refine two_ (i := 0) (j := 13) (Ni := some 37) (Nj := some 6) #[true, true, true, true, true, false, true, true, true, true, true, false, false, false, false] #[false, true, true, true, true, false, true, true, true, true, true, false, false, true, false] rfl rfl rfl rfl (by kernel_rfl) (by decide) (by decide) (fun K hK => ?_) (fun K hK => ?_)
                        · skip
                          have h_ := hW3.drew
                          have e_ := hE3.drew
                          generalize w3.drew = x_ at h_ e_ ⊢
                          refine value_ (w1 := ?_) (v := ?_) (by rfl) rfl ?_ ?_
                          rotate_left 2
                          · go_simp
                            constructor
                            · rfl
                            · rfl
                          have h2_ := h_.alloc (Obj.cells #[] 2)
                          have e2_ := e_.alloc (Obj.cells #[] 2)
                          generalize World.alloc x_ _ = y_ at h2_ e2_ ⊢
                          generalize x_.heap.size = b0_ at h2_ ⊢
                          have h3_ := h2_.perm (L' := [(b0_, Obj.cells #[] 2)] ++ ([] ++ ([(n19, shO false true nil0 (.slice (some ⟨n5, 0, none⟩) 1 1) (.slice (some ⟨n17, 0, none⟩) 2 2))] ++ ([(n5, Obj.cells #[.int .i64 x0] 2)] ++ ([(n17, Obj.cells #[.bool s1.leaf, .bool s1.tagged, .slice A1 s1.pairs.length x1, .slice A2 s1.keys.length x2, .slice A3 s1.kids.length x3, .bool s2.leaf, .bool s2.tagged, .slice B1 s2.pairs.length y1, .slice B2 s2.keys.length y2, .slice B3 s2.kids.length y3] 31)] ++ ([(vb + 1, shO false false nil0 nil0 nil0)] ++ ([(vb, shO l t (.slice Bp ps.length dp) (.slice (some ⟨gk, ok, none⟩) ks.length dk) (.slice (some ⟨g, off, none⟩) kids.length dc))] ++ (R)))))))) (perm_of_count fun x => by simp only [List.count_append, List.count_cons, List.count_nil, arenaObj, slotObj, nodeObj, worldObj] <;> omega)
                          refine hK.out _ _ ((h3_.knows (sub_of_count fun x => by simp only [List.count_append, List.count_cons, List.count_nil, arenaObj, slotObj, nodeObj, worldObj] <;> omega))) (fun hHeld => ?_)
                          clear hK K
                          refine norm_ (a' := ?_) ?_ ?_
                          rotate_left
                          · show Act.put _ (some 37) _ = _
                            simp only [Act.put, List.setIfInBounds_toArray, List.set_cons_zero, List.set_cons_succ, i64_w, i32_w]
                            rfl
                          exact norm_ (by first | (simp only [putAll, Act.put, List.setIfInBounds_toArray, List.set_cons_zero, List.set_cons_succ]; done) | (simp only [putAll, Act.put, List.setIfInBounds_toArray, List.set_cons_zero, List.set_cons_succ]; rfl)) (hJ0 b0_ _ ⟨hHeld, h3_, e2_⟩)
                        · skip
                          have h_ := hW3.drew
                          have e_ := hE3.drew
                          generalize w3.drew = x_ at h_ e_ ⊢
                          refine value_ (w1 := ?_) (v := ?_) (by rfl) rfl ?_ ?_
                          rotate_left 2
                          · go_simp
                            constructor
                            · rfl
                            · rfl
                          have h2_ := h_.alloc (shO false false nil0 nil0 nil0)
                          have e2_ := e_.alloc (shO false false nil0 nil0 nil0)
                          generalize World.alloc x_ _ = y_ at h2_ e2_ ⊢
                          generalize x_.heap.size = b13_ at h2_ ⊢
                          have h3_ := h2_.perm (L' := [(b13_, shO false false nil0 nil0 nil0)] ++ ([] ++ ([(n19, shO false true nil0 (.slice (some ⟨n5, 0, none⟩) 1 1) (.slice (some ⟨n17, 0, none⟩) 2 2))] ++ ([(n5, Obj.cells #[.int .i64 x0] 2)] ++ ([(n17, Obj.cells #[.bool s1.leaf, .bool s1.tagged, .slice A1 s1.pairs.length x1, .slice A2 s1.keys.length x2, .slice A3 s1.kids.length x3, .bool s2.leaf, .bool s2.tagged, .slice B1 s2.pairs.length y1, .slice B2 s2.keys.length y2, .slice B3 s2.kids.length y3] 31)] ++ ([(vb + 1, shO false false nil0 nil0 nil0)] ++ ([(vb, shO l t (.slice Bp ps.length dp) (.slice (some ⟨gk, ok, none⟩) ks.length dk) (.slice (some ⟨g, off, none⟩) kids.length dc))] ++ (R)))))))) (perm_of_count fun x => by simp only [List.count_append, List.count_cons, List.count_nil, arenaObj, slotObj, nodeObj, worldObj] <;> omega)
                          refine hK.out _ _ ((h3_.knows (sub_of_count fun x => by simp only [List.count_append, List.count_cons, List.count_nil, arenaObj, slotObj, nodeObj, worldObj] <;> omega))) (fun hHeld => ?_)
                          clear hK K
                          refine norm_ (a' := ?_) ?_ ?_
                          rotate_left
                          · show Act.put _ (some 6) _ = _
                            simp only [Act.put, List.setIfInBounds_toArray, List.set_cons_zero, List.set_cons_succ, i64_w, i32_w]
                            rfl
                          exact norm_ (by first | (simp only [putAll, Act.put, List.setIfInBounds_toArray, List.set_cons_zero, List.set_cons_succ]; done) | (simp only [putAll, Act.put, List.setIfInBounds_toArray, List.set_cons_zero, List.set_cons_succ]; rfl)) (hJ13 b13_ _ ⟨hHeld, h3_, e2_⟩)
                      · skip
                        rintro b13_ x_ ⟨hHeld, h_, e_⟩
                        refine norm_ (a' := ?_) ?_ ?_
                        rotate_left
                        · simp only [putAll, Act.put, List.setIfInBounds_toArray, List.set_cons_zero, List.set_cons_succ]
                          rfl
                        refine one_ (i := 0) (N := some 37) #[true, true, true, true, true, false, true, true, true, true, true, false, false, true, false] rfl rfl (by kernel_rfl) (by decide) (fun K hK => ?_)
                        refine value_ (w1 := ?_) (v := ?_) (by rfl) rfl ?_ ?_
                        rotate_left 2
                        · go_simp
                          constructor
                          · rfl
                          · rfl
                        have h2_ := h_.alloc (Obj.cells #[] 2)
                        have e2_ := e_.alloc (Obj.cells #[] 2)
                        generalize World.alloc x_ _ = y_ at h2_ e2_ ⊢
                        generalize x_.heap.size = b0_ at h2_ ⊢
                        have h3_ := h2_.perm (L' := [(b0_, Obj.cells #[] 2)] ++ ([(b13_, shO false false nil0 nil0 nil0)] ++ ([] ++ ([(n19, shO false true nil0 (.slice (some ⟨n5, 0, none⟩) 1 1) (.slice (some ⟨n17, 0, none⟩) 2 2))] ++ ([(n5, Obj.cells #[.int .i64 x0] 2)] ++ ([(n17, Obj.cells #[.bool s1.leaf, .bool s1.tagged, .slice A1 s1.pairs.length x1, .slice A2 s1.keys.length x2, .slice A3 s1.kids.length x3, .bool s2.leaf, .bool s2.tagged, .slice B1 s2.pairs.length y1, .slice B2 s2.keys.length y2, .slice B3 s2.kids.length y3] 31)] ++ ([(vb + 1, shO false false nil0 nil0 nil0)] ++ ([(vb, shO l t (.slice Bp ps.length dp) (.slice (some ⟨gk, ok, none⟩) ks.length dk) (.slice (some ⟨g, off, none⟩) kids.length dc))] ++ (R))))))))) (perm_of_count fun x => by simp only [List.count_append, List.count_cons, List.count_nil, arenaObj, slotObj, nodeObj, worldObj] <;> omega)
                        refine hK.out _ _ ((h3_.knows (sub_of_count fun x => by simp only [List.count_append, List.count_cons, List.count_nil, arenaObj, slotObj, nodeObj, worldObj] <;> omega))) (fun hHeld => ?_)
                        clear hK K
                        refine norm_ (a' := ?_) ?_ ?_
                        rotate_left
                        · show Act.put _ (some 37) _ = _
                          simp only [Act.put, List.setIfInBounds_toArray, List.set_cons_zero, List.set_cons_succ, i64_w, i32_w]
                          rfl
                        exact norm_ (by first | (simp only [putAll, Act.put, List.setIfInBounds_toArray, List.set_cons_zero, List.set_cons_succ]; done) | (simp only [putAll, Act.put, List.setIfInBounds_toArray, List.set_cons_zero, List.set_cons_succ]; rfl)) (hJ0_13 ⟨b0_, b13_⟩ _ ⟨hHeld, h3_, e2_⟩)
                    · skip
                      rintro b0_ x_ ⟨hHeld, h_, e_⟩
                      refine norm_ (a' := ?_) ?_ ?_
                      rotate_left
                      · simp only [putAll, Act.put, List.setIfInBounds_toArray, List.set_cons_zero, List.set_cons_succ]
                        rfl
                      refine two_ (i := 5) (j := 13) (Ni := some 42) (Nj := some 6) #[true, true, true, true, true, true, true, true, true, true, true, false, false, false, false] #[true, true, true, true, true, false, true, true, true, true, true, false, false, true, false] rfl rfl rfl rfl (by kernel_rfl) (by decide) (by decide) (fun K hK => ?_) (fun K hK => ?_)
                      · skip
                        have hp_ := h_.perm (L' := [] ++ ([(b0_, Obj.cells #[] 2)] ++ ([(n19, shO false true nil0 (.slice (some ⟨n5, 0, none⟩) 1 1) (.slice (some ⟨n17, 0, none⟩) 2 2))] ++ ([(n5, Obj.cells #[.int .i64 x0] 2)] ++ ([(n17, Obj.cells #[.bool s1.leaf, .bool s1.tagged, .slice A1 s1.pairs.length x1, .slice A2 s1.keys.length x2, .slice A3 s1.kids.length x3, .bool s2.leaf, .bool s2.tagged, .slice B1 s2.pairs.length y1, .slice B2 s2.keys.length y2, .slice B3 s2.kids.length y3] 31)] ++ ([(vb + 1, shO false false nil0 nil0 nil0)] ++ ([(vb, shO l t (.slice Bp ps.length dp) (.slice (some ⟨gk, ok, none⟩) ks.length dk) (.slice (some ⟨g, off, none⟩) kids.length dc))] ++ (R)))))))) (perm_of_count fun x => by simp only [List.count_append, List.count_cons, List.count_nil, arenaObj, slotObj, nodeObj, worldObj] <;> omega)
                        refine append_to (.tmp 37) (.tmp 41) 22 (by rfl) rfl rfl el_int (Row.nil 2 1 (some ⟨b0_, 0, none⟩)) hp_ rfl (Rd.srcK (h_.knows (L0 := R) (sub_of_count fun x => by simp only [List.count_append, List.count_cons, List.count_nil, arenaObj, slotObj, nodeObj, worldObj] <;> omega)) (fun _ h => h) HK1.out.1 HK1.out.2.2.1) (i) (by omega) h63a.out hba.out ?_
                        intro v_ y_ L5_ r5_ h2_ e2_
                        obtain ⟨A5_, c5_, rfl⟩ := r5_.shape
                        have e2_ := e_.trans e2_
                        have h3_ := h2_.perm (L' := [(b0_, Obj.cells #[] 2)] ++ (L5_ ++ ([(n19, shO false true nil0 (.slice (some ⟨n5, 0, none⟩) 1 1) (.slice (some ⟨n17, 0, none⟩) 2 2))] ++ ([(n5, Obj.cells #[.int .i64 x0] 2)] ++ ([(n17, Obj.cells #[.bool s1.leaf, .bool s1.tagged, .slice A1 s1.pairs.length x1, .slice A2 s1.keys.length x2, .slice A3 s1.kids.length x3, .bool s2.leaf, .bool s2.tagged, .slice B1 s2.pairs.length y1, .slice B2 s2.keys.length y2, .slice B3 s2.kids.length y3] 31)] ++ ([(vb + 1, shO false false nil0 nil0 nil0)] ++ ([(vb, shO l t (.slice Bp ps.length dp) (.slice (some ⟨gk, ok, none⟩) ks.length dk) (.slice (some ⟨g, off, none⟩) kids.length dc))] ++ (R)))))))) (perm_of_count fun x => by simp only [List.count_append, List.count_cons, List.count_nil, arenaObj, slotObj, nodeObj, worldObj] <;> omega)
                        refine hK.out _ _ ((h3_.knows (sub_of_count fun x => by simp only [List.count_append, List.count_cons, List.count_nil, arenaObj, slotObj, nodeObj, worldObj] <;> omega))) (fun hHeld => ?_)
                        clear hK K
                        refine norm_ (a' := ?_) ?_ ?_
                        rotate_left
                        · show Act.put _ (some 42) _ = _
                          simp only [Act.put, List.setIfInBounds_toArray, List.set_cons_zero, List.set_cons_succ, i64_w, i32_w]
                          rfl
                        exact norm_ (by first | (simp only [putAll, Act.put, List.setIfInBounds_toArray, List.set_cons_zero, List.set_cons_succ]; done) | (simp only [putAll, Act.put, List.setIfInBounds_toArray, List.set_cons_zero, List.set_cons_succ]; rfl)) (hJ0_5 ⟨b0_, ⟨A5_, c5_, L5_⟩⟩ _ ⟨hHeld, h3_, r5_, e2_⟩)
                      · skip
                        refine value_ (w1 := ?_) (v := ?_) (by rfl) rfl ?_ ?_
                        rotate_left 2
                        · go_simp
                          constructor
                          · rfl
                          · rfl
                        have h2_ := h_.alloc (shO false false nil0 nil0 nil0)
                        have e2_ := e_.alloc (shO false false nil0 nil0 nil0)
                        generalize World.alloc x_ _ = y_ at h2_ e2_ ⊢
                        generalize x_.heap.size = b13_ at h2_ ⊢
                        have h3_ := h2_.perm (L' := [(b0_, Obj.cells #[] 2)] ++ ([(b13_, shO false false nil0 nil0 nil0)] ++ ([] ++ ([(n19, shO false true nil0 (.slice (some ⟨n5, 0, none⟩) 1 1) (.slice (some ⟨n17, 0, none⟩) 2 2))] ++ ([(n5, Obj.cells #[.int .i64 x0] 2)] ++ ([(n17, Obj.cells #[.bool s1.leaf, .bool s1.tagged, .slice A1 s1.pairs.length x1, .slice A2 s1.keys.length x2, .slice A3 s1.kids.length x3, .bool s2.leaf, .bool s2.tagged, .slice B1 s2.pairs.length y1, .slice B2 s2.keys.length y2, .slice B3 s2.kids.length y3] 31)] ++ ([(vb + 1, shO false false nil0 nil0 nil0)] ++ ([(vb, shO l t (.slice Bp ps.length dp) (.slice (some ⟨gk, ok, none⟩) ks.length dk) (.slice (some ⟨g, off, none⟩) kids.length dc))] ++ (R))))))))) (perm_of_count fun x => by simp only [List.count_append, List.count_cons, List.count_nil, arenaObj, slotObj, nodeObj, worldObj] <;> omega)
                        refine hK.out _ _ ((h3_.knows (sub_of_count fun x => by simp only [List.count_append, List.count_cons, List.count_nil, arenaObj, slotObj, nodeObj, worldObj] <;> omega))) (fun hHeld => ?_)
                        clear hK K
                        refine norm_ (a' := ?_) ?_ ?_
                        rotate_left
                        · show Act.put _ (some 6) _ = _
                          simp only [Act.put, List.setIfInBounds_toArray, List.set_cons_zero, List.set_cons_succ, i64_w, i32_w]
                          rfl
                        exact norm_ (by first | (simp only [putAll, Act.put, List.setIfInBounds_toArray, List.set_cons_zero, List.set_cons_succ]; done) | (simp only [putAll, Act.put, List.setIfInBounds_toArray, List.set_cons_zero, List.set_cons_succ]; rfl)) (hJ0_13 ⟨b0_, b13_⟩ _ ⟨hHeld, h3_, e2_⟩)
                  · skip
                    rintro ⟨b0_, b13_⟩ x_ ⟨hHeld, h_, e_⟩
                    refine norm_ (a' := ?_) ?_ ?_
                    rotate_left
                    · simp only [putAll, Act.put, List.setIfInBounds_toArray, List.set_cons_zero, List.set_cons_succ]
                      rfl
                    refine one_ (i := 5) (N := some 42) #[true, true, true, true, true, true, true, true, true, true, true, false, false, true, false] rfl rfl (by kernel_rfl) (by decide) (fun K hK => ?_)
                    have hp_ := h_.perm (L' := [] ++ ([(b0_, Obj.cells #[] 2)] ++ ([(b13_, shO false false nil0 nil0 nil0)] ++ ([(n19, shO false true nil0 (.slice (some ⟨n5, 0, none⟩) 1 1) (.slice (some ⟨n17, 0, none⟩) 2 2))] ++ ([(n5, Obj.cells #[.int .i64 x0] 2)] ++ ([(n17, Obj.cells #[.bool s1.leaf, .bool s1.tagged, .slice A1 s1.pairs.length x1, .slice A2 s1.keys.length x2, .slice A3 s1.kids.length x3, .bool s2.leaf, .bool s2.tagged, .slice B1 s2.pairs.length y1, .slice B2 s2.keys.length y2, .slice B3 s2.kids.length y3] 31)] ++ ([(vb + 1, shO false false nil0 nil0 nil0)] ++ ([(vb, shO l t (.slice Bp ps.length dp) (.slice (some ⟨gk, ok, none⟩) ks.length dk) (.slice (some ⟨g, off, none⟩) kids.length dc))] ++ (R))))))))) (perm_of_count fun x => by simp only [List.count_append, List.count_cons, List.count_nil, arenaObj, slotObj, nodeObj, worldObj] <;> omega)
                    refine append_to (.tmp 37) (.tmp 41) 22 (by rfl) rfl rfl el_int (Row.nil 2 1 (some ⟨b0_, 0, none⟩)) hp_ rfl (Rd.srcK (h_.knows (L0 := R) (sub_of_count fun x => by simp only [List.count_append, List.count_cons, List.count_nil, arenaObj, slotObj, nodeObj, worldObj] <;> omega)) (fun _ h => h) HK1.out.1 HK1.out.2.2.1) (i) (by omega) h63a.out hba.out ?_
                    intro v_ y_ L5_ r5_ h2_ e2_
                    obtain ⟨A5_, c5_, rfl⟩ := r5_.shape
                    have e2_ := e_.trans e2_
                    have h3_ := h2_.perm (L' := [(b0_, Obj.cells #[] 2)] ++ ([(b13_, shO false false nil0 nil0 nil0)] ++ (L5_ ++ ([(n19, shO false true nil0 (.slice (some ⟨n5, 0, none⟩) 1 1) (.slice (some ⟨n17, 0, none⟩) 2 2))] ++ ([(n5, Obj.cells #[.int .i64 x0] 2)] ++ ([(n17, Obj.cells #[.bool s1.leaf, .bool s1.tagged, .slice A1 s1.pairs.length x1, .slice A2 s1.keys.length x2, .slice A3 s1.kids.length x3, .bool s2.leaf, .bool s2.tagged, .slice B1 s2.pairs.length y1, .slice B2 s2.keys.length y2, .slice B3 s2.kids.length y3] 31)] ++ ([(vb + 1, shO false false nil0 nil0 nil0)] ++ ([(vb, shO l t (.slice Bp ps.length dp) (.slice (some ⟨gk, ok, none⟩) ks.length dk) (.slice (some ⟨g, off, none⟩) kids.length dc))] ++ (R))))))))) (perm_of_count fun x => by simp only [List.count_append, List.count_cons, List.count_nil, arenaObj, slotObj, nodeObj, worldObj] <;> omega)
                    refine hK.out _ _ ((h3_.knows (sub_of_count fun x => by simp only [List.count_append, List.count_cons, List.count_nil, arenaObj, slotObj, nodeObj, worldObj] <;> omega))) (fun hHeld => ?_)
                    clear hK K
                    refine norm_ (a' := ?_) ?_ ?_
                    rotate_left
                    · show Act.put _ (some 42) _ = _
                      simp only [Act.put, List.setIfInBounds_toArray, List.set_cons_zero, List.set_cons_succ, i64_w, i32_w]
                      rfl
                    exact norm_ (by first | (simp only [putAll, Act.put, List.setIfInBounds_toArray, List.set_cons_zero, List.set_cons_succ]; done) | (simp only [putAll, Act.put, List.setIfInBounds_toArray, List.set_cons_zero, List.set_cons_succ]; rfl)) (hJ0_5_13 ⟨b0_, ⟨A5_, c5_, L5_⟩, b13_⟩ _ ⟨hHeld, h3_, r5_, e2_⟩)
                · skip
                  rintro ⟨b0_, ⟨A5_, c5_, L5_⟩⟩ x_ ⟨hHeld, h_, r5_, e_⟩
                  refine norm_ (a' := ?_) ?_ ?_
                  rotate_left
                  · simp only [putAll, Act.put, List.setIfInBounds_toArray, List.set_cons_zero, List.set_cons_succ]
                    rfl
                  refine two_ (i := 11) (j := 13) (Ni := some 48) (Nj := some 6) #[true, true, true, true, true, true, true, true, true, true, true, true, false, false, false] #[true, true, true, true, true, true, true, true, true, true, true, false, false, true, false] rfl rfl rfl rfl (by kernel_rfl) (by decide) (by decide) (fun K hK => ?_) (fun K hK => ?_)
                  · skip
                    have hp_ := h_.perm (L' := L5_ ++ ([(b0_, Obj.cells #[] 2)] ++ ([(n19, shO false true nil0 (.slice (some ⟨n5, 0, none⟩) 1 1) (.slice (some ⟨n17, 0, none⟩) 2 2))] ++ ([(n5, Obj.cells #[.int .i64 x0] 2)] ++ ([(n17, Obj.cells #[.bool s1.leaf, .bool s1.tagged, .slice A1 s1.pairs.length x1, .slice A2 s1.keys.length x2, .slice A3 s1.kids.length x3, .bool s2.leaf, .bool s2.tagged, .slice B1 s2.pairs.length y1, .slice B2 s2.keys.length y2, .slice B3 s2.kids.length y3] 31)] ++ ([(vb + 1, shO false false nil0 nil0 nil0)] ++ ([(vb, shO l t (.slice Bp ps.length dp) (.slice (some ⟨gk, ok, none⟩) ks.length dk) (.slice (some ⟨g, off, none⟩) kids.length dc))] ++ (R)))))))) (perm_of_count fun x => by simp only [List.count_append, List.count_cons, List.count_nil, arenaObj, slotObj, nodeObj, worldObj] <;> omega)
                    refine append_to (.tmp 42) (.tmp 47) 22 (by rfl) rfl rfl el_int r5_ hp_ rfl (Rd.srcK (h_.knows (L0 := R) (sub_of_count fun x => by simp only [List.count_append, List.count_cons, List.count_nil, arenaObj, slotObj, nodeObj, worldObj] <;> omega)) (fun _ h => h) HK1.out.2.1 HK1.out.2.2.2) (i + (ks.length - (i + 1))) (by omega) h63b.out hbb.out ?_
                    intro v_ y_ L11_ r11_ h2_ e2_
                    obtain ⟨A11_, c11_, rfl⟩ := r11_.shape
                    have e2_ := e_.trans e2_
                    have h3_ := h2_.perm (L' := [(b0_, Obj.cells #[] 2)] ++ (L11_ ++ ([(n19, shO false true nil0 (.slice (some ⟨n5, 0, none⟩) 1 1) (.slice (some ⟨n17, 0, none⟩) 2 2))] ++ ([(n5, Obj.cells #[.int .i64 x0] 2)] ++ ([(n17, Obj.cells #[.bool s1.leaf, .bool s1.tagged, .slice A1 s1.pairs.length x1, .slice A2 s1.keys.length x2, .slice A3 s1.kids.length x3, .bool s2.leaf, .bool s2.tagged, .slice B1 s2.pairs.length y1, .slice B2 s2.keys.length y2, .slice B3 s2.kids.length y3] 31)] ++ ([(vb + 1, shO false false nil0 nil0 nil0)] ++ ([(vb, shO l t (.slice Bp ps.length dp) (.slice (some ⟨gk, ok, none⟩) ks.length dk) (.slice (some ⟨g, off, none⟩) kids.length dc))] ++ (R)))))))) (perm_of_count fun x => by simp only [List.count_append, List.count_cons, List.count_nil, arenaObj, slotObj, nodeObj, worldObj] <;> omega)
                    refine hK.out _ _ ((h3_.knows (sub_of_count fun x => by simp only [List.count_append, List.count_cons, List.count_nil, arenaObj, slotObj, nodeObj, worldObj] <;> omega))) (fun hHeld => ?_)
                    clear hK K
                    refine norm_ (a' := ?_) ?_ ?_
                    rotate_left
                    · show Act.put _ (some 48) _ = _
                      simp only [Act.put, List.setIfInBounds_toArray, List.set_cons_zero, List.set_cons_succ, i64_w, i32_w]
                      rfl
                    refine pure_ (i := 12) (N := some 49) (v := ?_) (a' := ?_) #[true, true, true, true, true, true, true, true, true, true, true, true, true, false, false] rfl rfl (by kernel_rfl) (fun _ _ _ h => h) (Or.inl ⟨by rfl, ?_⟩) ?_ ?_
                    rotate_left
                    · intro w'
                      go_simp
                      with_reducible rfl
                    rotate_left
                    · simp only [Act.put, List.setIfInBounds_toArray, List.set_cons_zero, List.set_cons_succ, i64_w, i32_w]
                      rfl
                    exact norm_ (by first | (simp only [putAll, Act.put, List.setIfInBounds_toArray, List.set_cons_zero, List.set_cons_succ]; done) | (simp only [putAll, Act.put, List.setIfInBounds_toArray, List.set_cons_zero, List.set_cons_succ]; rfl)) (hJ0_5_11 ⟨b0_, ⟨A5_, c5_, L5_⟩, ⟨A11_, c11_, L11_⟩⟩ _ ⟨hHeld, h3_, r11_, e2_⟩)
                  · skip
                    refine value_ (w1 := ?_) (v := ?_) (by rfl) rfl ?_ ?_
                    rotate_left 2
                    · go_simp
                      constructor
                      · rfl
                      · rfl
                    have h2_ := h_.alloc (shO false false nil0 nil0 nil0)
                    have e2_ := e_.alloc (shO false false nil0 nil0 nil0)
                    generalize World.alloc x_ _ = y_ at h2_ e2_ ⊢
                    generalize x_.heap.size = b13_ at h2_ ⊢
                    have h3_ := h2_.perm (L' := [(b0_, Obj.cells #[] 2)] ++ ([(b13_, shO false false nil0 nil0 nil0)] ++ (L5_ ++ ([(n19, shO false true nil0 (.slice (some ⟨n5, 0, none⟩) 1 1) (.slice (some ⟨n17, 0, none⟩) 2 2))] ++ ([(n5, Obj.cells #[.int .i64 x0] 2)] ++ ([(n17, Obj.cells #[.bool s1.leaf, .bool s1.tagged, .slice A1 s1.pairs.length x1, .slice A2 s1.keys.length x2, .slice A3 s1.kids.length x3, .bool s2.leaf, .bool s2.tagged, .slice B1 s2.pairs.length y1, .slice B2 s2.keys.length y2, .slice B3 s2.kids.length y3] 31)] ++ ([(vb + 1, shO false false nil0 nil0 nil0)] ++ ([(vb, shO l t (.slice Bp ps.length dp) (.slice (some ⟨gk, ok, none⟩) ks.length dk) (.slice (some ⟨g, off, none⟩) kids.length dc))] ++ (R))))))))) (perm_of_count fun x => by simp only [List.count_append, List.count_cons, List.count_nil, arenaObj, slotObj, nodeObj, worldObj] <;> omega)
                    refine hK.out _ _ ((h3_.knows (sub_of_count fun x => by simp only [List.count_append, List.count_cons, List.count_nil, arenaObj, slotObj, nodeObj, worldObj] <;> omega))) (fun hHeld => ?_)
                    clear hK K
                    refine norm_ (a' := ?_) ?_ ?_
                    rotate_left
                    · show Act.put _ (some 6) _ = _
                      simp only [Act.put, List.setIfInBounds_toArray, List.set_cons_zero, List.set_cons_succ, i64_w, i32_w]
                      rfl
                    exact norm_ (by first | (simp only [putAll, Act.put, List.setIfInBounds_toArray, List.set_cons_zero, List.set_cons_succ]; done) | (simp only [putAll, Act.put, List.setIfInBounds_toArray, List.set_cons_zero, List.set_cons_succ]; rfl)) (hJ0_5_13 ⟨b0_, ⟨A5_, c5_, L5_⟩, b13_⟩ _ ⟨hHeld, h3_, r5_, e2_⟩)
              · skip
                rintro ⟨b0_, ⟨A5_, c5_, L5_⟩, b13_⟩ x_ ⟨hHeld, h_, r5_, e_⟩
                refine norm_ (a' := ?_) ?_ ?_
                rotate_left
                · simp only [putAll, Act.put, List.setIfInBounds_toArray, List.set_cons_zero, List.set_cons_succ]
                  rfl
                refine one_ (i := 11) (N := some 48) #[true, true, true, true, true, true, true, true, true, true, true, true, false, true, false] rfl rfl (by kernel_rfl) (by decide) (fun K hK => ?_)
                have hp_ := h_.perm (L' := L5_ ++ ([(b0_, Obj.cells #[] 2)] ++ ([(b13_, shO false false nil0 nil0 nil0)] ++ ([(n19, shO false true nil0 (.slice (some ⟨n5, 0, none⟩) 1 1) (.slice (some ⟨n17, 0, none⟩) 2 2))] ++ ([(n5, Obj.cells #[.int .i64 x0] 2)] ++ ([(n17, Obj.cells #[.bool s1.leaf, .bool s1.tagged, .slice A1 s1.pairs.length x1, .slice A2 s1.keys.length x2, .slice A3 s1.kids.length x3, .bool s2.leaf, .bool s2.tagged, .slice B1 s2.pairs.length y1, .slice B2 s2.keys.length y2, .slice B3 s2.kids.length y3] 31)] ++ ([(vb + 1, shO false false nil0 nil0 nil0)] ++ ([(vb, shO l t (.slice Bp ps.length dp) (.slice (some ⟨gk, ok, none⟩) ks.length dk) (.slice (some ⟨g, off, none⟩) kids.length dc))] ++ (R))))))))) (perm_of_count fun x => by simp only [List.count_append, List.count_cons, List.count_nil, arenaObj, slotObj, nodeObj, worldObj] <;> omega)
                refine append_to (.tmp 42) (.tmp 47) 22 (by rfl) rfl rfl el_int r5_ hp_ rfl (Rd.srcK (h_.knows (L0 := R) (sub_of_count fun x => by simp only [List.count_append, List.count_cons, List.count_nil, arenaObj, slotObj, nodeObj, worldObj] <;> omega)) (fun _ h => h) HK1.out.2.1 HK1.out.2.2.2) (i + (ks.length - (i + 1))) (by omega) h63b.out hbb.out ?_
                intro v_ y_ L11_ r11_ h2_ e2_
                obtain ⟨A11_, c11_, rfl⟩ := r11_.shape
                have e2_ := e_.trans e2_
                have h3_ := h2_.perm (L' := [(b0_, Obj.cells #[] 2)] ++ ([(b13_, shO false false nil0 nil0 nil0)] ++ (L11_ ++ ([(n19, shO false true nil0 (.slice (some ⟨n5, 0, none⟩) 1 1) (.slice (some ⟨n17, 0, none⟩) 2 2))] ++ ([(n5, Obj.cells #[.int .i64 x0] 2)] ++ ([(n17, Obj.cells #[.bool s1.leaf, .bool s1.tagged, .slice A1 s1.pairs.length x1, .slice A2 s1.keys.length x2, .slice A3 s1.kids.length x3, .bool s2.leaf, .bool s2.tagged, .slice B1 s2.pairs.length y1, .slice B2 s2.keys.length y2, .slice B3 s2.kids.length y3] 31)] ++ ([(vb + 1, shO false false nil0 nil0 nil0)] ++ ([(vb, shO l t (.slice Bp ps.length dp) (.slice (some ⟨gk, ok, none⟩) ks.length dk) (.slice (some ⟨g, off, none⟩) kids.length dc))] ++ (R))))))))) (perm_of_count fun x => by simp only [List.count_append, List.count_cons, List.count_nil, arenaObj, slotObj, nodeObj, worldObj] <;> omega)
                refine hK.out _ _ ((h3_.knows (sub_of_count fun x => by simp only [List.count_append, List.count_cons, List.count_nil, arenaObj, slotObj, nodeObj, worldObj] <;> omega))) (fun hHeld => ?_)
                clear hK K
                refine norm_ (a' := ?_) ?_ ?_
                rotate_left
                · show Act.put _ (some 48) _ = _
                  simp only [Act.put, List.setIfInBounds_toArray, List.set_cons_zero, List.set_cons_succ, i64_w, i32_w]
                  rfl
                refine pure_ (i := 12) (N := some 49) (v := ?_) (a' := ?_) #[true, true, true, true, true, true, true, true, true, true, true, true, true, true, false] rfl rfl (by kernel_rfl) (fun _ _ _ h => h) (Or.inl ⟨by rfl, ?_⟩) ?_ ?_
                rotate_left
                · intro w'
                  go_simp
                  with_reducible rfl
                rotate_left
                · simp only [Act.put, List.setIfInBounds_toArray, List.set_cons_zero, List.set_cons_succ, i64_w, i32_w]
                  rfl
                exact norm_ (by first | (simp only [putAll, Act.put, List.setIfInBounds_toArray, List.set_cons_zero, List.set_cons_succ]; done) | (simp only [putAll, Act.put, List.setIfInBounds_toArray, List.set_cons_zero, List.set_cons_succ]; rfl)) (hJ0_5_11_13 ⟨b0_, ⟨A5_, c5_, L5_⟩, ⟨A11_, c11_, L11_⟩, b13_⟩ _ ⟨hHeld, h3_, r11_, e2_⟩)
            · skip
              rintro ⟨b0_, ⟨A5_, c5_, L5_⟩, ⟨A11_, c11_, L11_⟩⟩ x_ ⟨hHeld, h_, r11_, e_⟩
              refine norm_ (a' := ?_) ?_ ?_
              rotate_left
              · simp only [putAll, Act.put, List.setIfInBounds_toArray, List.set_cons_zero, List.set_cons_succ]
                rfl
              refine one_ (i := 13) (N := some 6) #[true, true, true, true, true, true, true, true, true, true, true, true, true, true, false] rfl rfl (by kernel_rfl) (by decide) (fun K hK => ?_)
              refine value_ (w1 := ?_) (v := ?_) (by rfl) rfl ?_ ?_
              rotate_left 2
              · go_simp
                constructor
                · rfl
                · rfl
              have h2_ := h_.alloc (shO false false nil0 nil0 nil0)
              have e2_ := e_.alloc (shO false false nil0 nil0 nil0)
              generalize World.alloc x_ _ = y_ at h2_ e2_ ⊢
              generalize x_.heap.size = b13_ at h2_ ⊢
              have h3_ := h2_.perm (L' := [(b0_, Obj.cells #[] 2)] ++ ([(b13_, shO false false nil0 nil0 nil0)] ++ (L11_ ++ ([(n19, shO false true nil0 (.slice (some ⟨n5, 0, none⟩) 1 1) (.slice (some ⟨n17, 0, none⟩) 2 2))] ++ ([(n5, Obj.cells #[.int .i64 x0] 2)] ++ ([(n17, Obj.cells #[.bool s1.leaf, .bool s1.tagged, .slice A1 s1.pairs.length x1, .slice A2 s1.keys.length x2, .slice A3 s1.kids.length x3, .bool s2.leaf, .bool s2.tagged, .slice B1 s2.pairs.length y1, .slice B2 s2.keys.length y2, .slice B3 s2.kids.length y3] 31)] ++ ([(vb + 1, shO false false nil0 nil0 nil0)] ++ ([(vb, shO l t (.slice Bp ps.length dp) (.slice (some ⟨gk, ok, none⟩) ks.length dk) (.slice (some ⟨g, off, none⟩) kids.length dc))] ++ (R))))))))) (perm_of_count fun x => by simp only [List.count_append, List.count_cons, List.count_nil, arenaObj, slotObj, nodeObj, worldObj] <;> omega)
              refine hK.out _ _ ((h3_.knows (sub_of_count fun x => by simp only [List.count_append, List.count_cons, List.count_nil, arenaObj, slotObj, nodeObj, worldObj] <;> omega))) (fun hHeld => ?_)
              clear hK K
              refine norm_ (a' := ?_) ?_ ?_
              rotate_left
              · show Act.put _ (some 6) _ = _
                simp only [Act.put, List.setIfInBounds_toArray, List.set_cons_zero, List.set_cons_succ, i64_w, i32_w]
                rfl
              exact norm_ (by first | (simp only [putAll, Act.put, List.setIfInBounds_toArray, List.set_cons_zero, List.set_cons_succ]; done) | (simp only [putAll, Act.put, List.setIfInBounds_toArray, List.set_cons_zero, List.set_cons_succ]; rfl)) (hJ0_5_11_13 ⟨b0_, ⟨A5_, c5_, L5_⟩, ⟨A11_, c11_, L11_⟩, b13_⟩ _ ⟨hHeld, h3_, r11_, e2_⟩)
          rintro ⟨m0, ⟨A5, c5, L5⟩, ⟨A11, c11, L11⟩, m13⟩ w4 ⟨hHeld, hW4, hr4, hE4⟩
          obtain ⟨z0, z1, z2, z3, z4⟩ := hW4.five (b := m13) (l := false) (t := false) (p := nil0) (k := nil0) (c := nil0) (by simp)
          have zf := hW4.free (b := m13) (c := #[.bool false, .bool false, nil0, nil0, nil0]) (t := 31) (by simp)
          refine norm_ (a' := ?_) ?_ ?_
          rotate_left
          · simp only [putAll, Act.put, List.setIfInBounds_toArray, List.set_cons_zero, List.set_cons_succ]
            rfl
          refine last_ (i := 14) (N := none) #[true, true, true, true, true, true, true, true, true, true, true, true, true, true, true] rfl rfl (by kernel_rfl) (by decide) (fun K hK => ?_)
          refine skip_ (w1 := ?_) (by rfl) rfl ?_ ?_
          rotate_left
          · go_simp
            rfl
          refine hK.out _ _ ?_
          clear hK K
          refine done_ (by kernel_rfl) ?_
          have hW5 := (hW4.perm (L' := (m13, shO false false nil0 nil0 nil0) :: (L11 ++ ([(m0, Obj.cells #[] 2)] ++ ([(n19, shO false true nil0 (.slice (some ⟨n5, 0, none⟩) 1 1) (.slice (some ⟨n17, 0, none⟩) 2 2))] ++ ([(n5, Obj.cells #[.int .i64 x0] 2)] ++ ([(n17, Obj.cells #[.bool s1.leaf, .bool s1.tagged, .slice A1 s1.pairs.length x1, .slice A2 s1.keys.length x2, .slice A3 s1.kids.length x3, .bool s2.leaf, .bool s2.tagged, .slice B1 s2.pairs.length y1, .slice B2 s2.keys.length y2, .slice B3 s2.kids.length y3] 31)] ++ ([(vb + 1, shO false false nil0 nil0 nil0)] ++ ([(vb, shO l t (.slice Bp ps.length dp) (.slice (some ⟨gk, ok, none⟩) ks.length dk) (.slice (some ⟨g, off, none⟩) kids.length dc))] ++ R)))))))) (perm_of_count fun x => by simp only [List.count_append, List.count_cons, List.count_nil, arenaObj, slotObj, nodeObj, worldObj]; omega)).set5 false false nil0 (.slice A11 (i + (ks.length - (i + 1))) c11) nil0
          have hE5 := hE4.set5 m13 false false nil0 (.slice A11 (i + (ks.length - (i + 1))) c11) nil0
          unfold Go.Proofs.Ytjkfigkgeoacfaa.set5 at hW5 hE5
          generalize World.setCell _ _ _ = w5 at hW5 hE5 ⊢
          generalize (if dk = i + 1 then some ⟨gk, ok, none⟩ else some ⟨gk, ok + (i + 1), none⟩ : Option Addr) = AX
          go_wp2_with fail
          go_meet
          case rel => exact ⟨m0, m13, A11, c11, L11, rfl, hr4, hW5, hE5⟩
        case rest =>
          obtain ⟨m0, m13, A11, c11, L11, rfl, hrk, hW5, hE5⟩ := hcut
          clear hW3 hE3
          generalize hwc : wc = w5 at hW5 hE5 ⊢
          clear hwc
          go_upto_region 6 with fail
          go_cut [6] (fun v wx => ∃ (A : Option Addr) (c : Nat) (LK : HL), v = .pointer (some ⟨m13, 0, none⟩) ∧ Row 31 5 (.slice A (i) c) (i) ([] ++ css.flatten.take (i * 5)) LK ∧ Has wx ((m13, shO false false nil0 (.slice A11 (i + (ks.length - (i + 1))) c11) (.slice A (i) c)) :: (LK ++ (L11 ++ ([(m0, Obj.cells #[] 2)] ++ ([(n19, shO false true nil0 (.slice (some ⟨n5, 0, none⟩) 1 1) (.slice (some ⟨n17, 0, none⟩) 2 2))] ++ ([(n5, Obj.cells #[.int .i64 x0] 2)] ++ ([(n17, Obj.cells #[.bool s1.leaf, .bool s1.tagged, .slice A1 s1.pairs.length x1, .slice A2 s1.keys.length x2, .slice A3 s1.kids.length x3, .bool s2.leaf, .bool s2.tagged, .slice B1 s2.pairs.length y1, .slice B2 s2.keys.length y2, .slice B3 s2.kids.length y3] 31)] ++ ([(vb + 1, shO false false nil0 nil0 nil0)] ++ ([(vb, shO l t (.slice Bp ps.length dp) (.slice (some ⟨gk, ok, none⟩) ks.length dk) (.slice (some ⟨g, off, none⟩) kids.length dc))] ++ R))))))))) ∧ Ext w wx)
          case first =>
            clear v3 v4
            have o6 : One (css.flatten.take (i * 5)) := (ShRows.oneCell ⟨hl, hs⟩).take _
            have hk6 : Rd R 31 5 (.slice (some ⟨g, off, none⟩) i dc) i (css.flatten.take (i * 5)) := hc.take (by omega)
            have HK6 := Lib.hid (And.intro hk6 o6)
            have l7 : i ≤ dc := by omega
            have l8 : (i : Int) ≤ dc := by omega
            clear hk6 o6
            have vm : ∀ w, Knows w ((m13, shO false false nil0 (.slice A11 (i + (ks.length - (i + 1))) c11) nil0) :: (vb, shO l t (.slice Bp ps.length dp) (.slice (some ⟨gk, ok, none⟩) ks.length dk) (.slice (some ⟨g, off, none⟩) kids.length dc)) :: R) → w.cell? ⟨m13, 4, none⟩ = some nil0 := fun w hw => (hw.five (b := m13) (l := false) (t := false) (p := nil0) (k := (.slice A11 (i + (ks.length - (i + 1))) c11)) (c := nil0) (by simp)).2.2.2.2
            have v4 : ∀ w, Knows w ((m13, shO false false nil0 (.slice A11 (i + (ks.length - (i + 1))) c11) nil0) :: (vb, shO l t (.slice Bp ps.length dp) (.slice (some ⟨gk, ok, none⟩) ks.length dk) (.slice (some ⟨g, off, none⟩) kids.length dc)) :: R) → w.cell? ⟨vb, 4, none⟩ = some (.slice (some ⟨g, off, none⟩) kids.length dc) := fun w hw => (hw.cell (List.mem_cons_of_mem _ (List.mem_cons_self ..)) 4).trans rfl
            refine start_ (n := 9) (S := fun w' => Knows w' ((m13, shO false false nil0 (.slice A11 (i + (ks.length - (i + 1))) c11) nil0) :: (vb, shO l t (.slice Bp ps.length dp) (.slice (some ⟨gk, ok, none⟩) ks.length dk) (.slice (some ⟨g, off, none⟩) kids.length dc)) :: R)) (ds := [8]) #[false, false, false, false, false, false, false, false, false] (by kernel_rfl) rfl rfl ((hW5.drew.knows (sub_of_count fun x => by simp only [List.count_append, List.count_cons, List.count_nil, arenaObj, slotObj, nodeObj, worldObj] <;> omega))) (fun hHeld => ?_)
            refine pure_ (i := 0) (N := some 50) (v := ?_) (a' := ?_) #[true, false, false, false, false, false, false, false, false] rfl rfl (by kernel_rfl) (fun _ _ _ h => h) (Or.inl ⟨by rfl, ?_⟩) ?_ ?_
            rotate_left
            · intro w'
              go_simp
              with_reducible rfl
            rotate_left
            · simp only [Act.put, List.setIfInBounds_toArray, List.set_cons_zero, List.set_cons_succ, i64_w, i32_w]
              rfl
            refine pure_ (i := 2) (N := some 52) (v := ?_) (a' := ?_) #[true, false, true, false, false, false, false, false, false] rfl rfl (by kernel_rfl) (fun _ _ _ h => h) (Or.inl ⟨by rfl, ?_⟩) ?_ ?_
            rotate_left
            · intro w'
              go_simp
              with_reducible rfl
            rotate_left
            · simp only [Act.put, List.setIfInBounds_toArray, List.set_cons_zero, List.set_cons_succ, i64_w, i32_w]
              rfl
            refine pure_ (i := 4) (N := some 54) (v := ?_) (a' := ?_) #[true, false, true, false, true, false, false, false, false] rfl rfl (by kernel_rfl) (fun _ _ _ h => h) (Or.inl ⟨by rfl, ?_⟩) ?_ ?_
            rotate_left
            · intro w'
              go_simp
              with_reducible rfl
            rotate_left
            · simp only [Act.put, List.setIfInBounds_toArray, List.set_cons_zero, List.set_cons_succ, i64_w, i32_w]
              rfl
            refine take_ (i := 1) (N := some 51) (v := ?_) (a' := ?_) #[true, true, true, false, true, false, false, false, false] rfl rfl (by kernel_rfl) (fun _ _ _ h => h) (Or.inl ⟨by rfl, ?_⟩) hHeld ?_ ?_
            rotate_left
            · intro w' s0
              go_simp
              with_reducible rfl
            rotate_left
            · simp only [Act.put, List.setIfInBounds_toArray, List.set_cons_zero, List.set_cons_succ, i64_w, i32_w]
              rfl
            refine take_ (i := 3) (N := some 53) (v := ?_) (a' := ?_) #[true, true, true, true, true, false, false, false, false] rfl rfl (by kernel_rfl) (fun _ _ _ h => h) (Or.inl ⟨by rfl, ?_⟩) hHeld ?_ ?_
            rotate_left
            · intro w' s0
              go_simp
              with_reducible rfl
            rotate_left
            · simp only [Act.put, List.setIfInBounds_toArray, List.set_cons_zero, List.set_cons_succ, i64_w, i32_w]
              rfl
            refine pure_ (i := 5) (N := some 55) (v := ?_) (a' := ?_) #[true, true, true, true, true, true, false, false, false] rfl rfl (by kernel_rfl) (fun _ _ _ h => h) (Or.inl ⟨by rfl, ?_⟩) ?_ ?_
            rotate_left
            · intro w'
              go_simp
              with_reducible rfl
            rotate_left
            · simp only [Act.put, List.setIfInBounds_toArray, List.set_cons_zero, List.set_cons_succ, i64_w, i32_w]
              rfl
            refine one_ (i := 6) (N := some 56) #[true, true, true, true, true, true, true, false, false] rfl rfl (by kernel_rfl) (by decide) (fun K hK => ?_)
            have hp := (hW5.drew).perm (L' := [] ++ ((m13, shO false false nil0 (.slice A11 (i + (ks.length - (i + 1))) c11) nil0) :: (L11 ++ ([(m0, Obj.cells #[] 2)] ++ ([(n19, shO false true nil0 (.slice (some ⟨n5, 0, none⟩) 1 1) (.slice (some ⟨n17, 0, none⟩) 2 2))] ++ ([(n5, Obj.cells #[.int .i64 x0] 2)] ++ ([(n17, Obj.cells #[.bool s1.leaf, .bool s1.tagged, .slice A1 s1.pairs.length x1, .slice A2 s1.keys.length x2, .slice A3 s1.kids.length x3, .bool s2.leaf, .bool s2.tagged, .slice B1 s2.pairs.length y1, .slice B2 s2.keys.length y2, .slice B3 s2.kids.length y3] 31)] ++ ([(vb + 1, shO false false nil0 nil0 nil0)] ++ ([(vb, shO l t (.slice Bp ps.length dp) (.slice (some ⟨gk, ok, none⟩) ks.length dk) (.slice (some ⟨g, off, none⟩) kids.length dc))] ++ R)))))))) ) (perm_of_count fun x => by simp only [List.count_append, List.count_cons, List.count_nil, arenaObj, slotObj, nodeObj, worldObj] <;> omega)
            refine append_to (.tmp 51) (.tmp 55) 29 (by rfl) rfl rfl el_shape (Row.nil 31 5 none) hp rfl (Rd.srcK (hp.knows (L0 := R) (sub_of_count fun x => by simp only [List.count_append, List.count_cons, List.count_nil, arenaObj, slotObj, nodeObj, worldObj] <;> omega)) (fun _ h => h) HK6.out.1 HK6.out.2) i (by omega) (by simp [maxLen]; omega) (by omega) ?_
            intro v6 w6 L6 r6 h6 e6
            obtain ⟨A6, c6, rfl⟩ := r6.shape
            obtain ⟨z0, z1, z2, z3, z4⟩ := h6.five (b := m13) (l := false) (t := false) (p := nil0) (k := (.slice A11 (i + (ks.length - (i + 1))) c11)) (c := nil0) (by simp)
            have zf := h6.free (b := m13) (c := #[.bool false, .bool false, nil0, (.slice A11 (i + (ks.length - (i + 1))) c11), nil0]) (t := 31) (by simp)
            refine hK.out _ _ ((h6.knows (sub_of_count fun x => by simp only [List.count_append, List.count_cons, List.count_nil, arenaObj, slotObj, nodeObj, worldObj] <;> omega))) (fun hHeld => ?_)
            clear hK K
            refine norm_ (a' := ?_) ?_ ?_
            rotate_left
            · show Act.put _ (some 56) _ = _
              simp only [Act.put, List.setIfInBounds_toArray, List.set_cons_zero, List.set_cons_succ, i64_w, i32_w]
              rfl
            refine pure_ (i := 7) (N := some 57) (v := ?_) (a' := ?_) #[true, true, true, true, true, true, true, true, false] rfl rfl (by kernel_rfl) (fun _ _ _ h => h) (Or.inl ⟨by rfl, ?_⟩) ?_ ?_
            rotate_left
            · intro w'
              go_simp
              with_reducible rfl
            rotate_left
            · simp only [Act.put, List.setIfInBounds_toArray, List.set_cons_zero, List.set_cons_succ, i64_w, i32_w]
              rfl
            refine last_ (i := 8) (N := none) #[true, true, true, true, true, true, true, true, true] rfl rfl (by kernel_rfl) (by decide) (fun K hK => ?_)
            refine skip_ (w1 := ?_) (by rfl) rfl ?_ ?_
            rotate_left
            · go_simp
              rfl
            refine hK.out _ _ ?_
            clear hK K
            refine done_ (by kernel_rfl) ?_
            have hW7 : Has (World.setCell w6 ⟨m13, 4, none⟩ (.slice A6 i c6)) ((m13, shO false false nil0 (.slice A11 (i + (ks.length - (i + 1))) c11) (.slice A6 i c6)) :: (L6 ++ (L11 ++ ([(m0, Obj.cells #[] 2)] ++ ([(n19, shO false true nil0 (.slice (some ⟨n5, 0, none⟩) 1 1) (.slice (some ⟨n17, 0, none⟩) 2 2))] ++ ([(n5, Obj.cells #[.int .i64 x0] 2)] ++ ([(n17, Obj.cells #[.bool s1.leaf, .bool s1.tagged, .slice A1 s1.pairs.length x1, .slice A2 s1.keys.length x2, .slice A3 s1.kids.length x3, .bool s2.leaf, .bool s2.tagged, .slice B1 s2.pairs.length y1, .slice B2 s2.keys.length y2, .slice B3 s2.kids.length y3] 31)] ++ ([(vb + 1, shO false false nil0 nil0 nil0)] ++ ([(vb, shO l t (.slice Bp ps.length dp) (.slice (some ⟨gk, ok, none⟩) ks.length dk) (.slice (some ⟨g, off, none⟩) kids.length dc))] ++ R))))))))) := (h6.perm (L' := (m13, shO false false nil0 (.slice A11 (i + (ks.length - (i + 1))) c11) nil0) :: (L6 ++ (L11 ++ ([(m0, Obj.cells #[] 2)] ++ ([(n19, shO false true nil0 (.slice (some ⟨n5, 0, none⟩) 1 1) (.slice (some ⟨n17, 0, none⟩) 2 2))] ++ ([(n5, Obj.cells #[.int .i64 x0] 2)] ++ ([(n17, Obj.cells #[.bool s1.leaf, .bool s1.tagged, .slice A1 s1.pairs.length x1, .slice A2 s1.keys.length x2, .slice A3 s1.kids.length x3, .bool s2.leaf, .bool s2.tagged, .slice B1 s2.pairs.length y1, .slice B2 s2.keys.length y2, .slice B3 s2.kids.length y3] 31)] ++ ([(vb + 1, shO false false nil0 nil0 nil0)] ++ ([(vb, shO l t (.slice Bp ps.length dp) (.slice (some ⟨gk, ok, none⟩) ks.length dk) (.slice (some ⟨g, off, none⟩) kids.length dc))] ++ R))))))))) (perm_of_count fun x => by simp only [List.count_append, List.count_cons, List.count_nil, arenaObj, slotObj, nodeObj, worldObj]; omega)).set 4 (.slice A6 i c6)
            have hE7 := (hE5.drew.trans e6).setCell ⟨m13, 4, none⟩ (.slice A6 i c6)
            generalize World.setCell _ _ _ = w7 at hW7 hE7 ⊢
            go_wp2_with fail
            go_meet
            case rel => exact ⟨A6, c6, L6, rfl, r6, hW7, hE7⟩
          case rest =>
            obtain ⟨A6, c6, L6, rfl, hr6, hW6, hE6⟩ := hcut
            clear hW5 hE5
            generalize hwc : wc = w6 at hW6 hE6 ⊢
            clear hwc
            go_upto_region 7 with fail
            go_cut [6] (fun v wx => ∃ (A : Option Addr) (c : Nat) (LK : HL), v = .pointer (some ⟨m13, 0, none⟩) ∧ Row 31 5 (.slice A (i + 1) c) (i + 1) (([] ++ css.flatten.take (i * 5)) ++ [.bool false, .bool true, nil0, .slice (some ⟨n5, 0, none⟩) 1 1, .slice (some ⟨n17, 0, none⟩) 2 2]) LK ∧ Has wx ((m13, shO false false nil0 (.slice A11 (i + (ks.length - (i + 1))) c11) (.slice A (i + 1) c)) :: (LK ++ (L11 ++ ([(m0, Obj.cells #[] 2)] ++ ([(n19, shO false true nil0 (.slice (some ⟨n5, 0, none⟩) 1 1) (.slice (some ⟨n17, 0, none⟩) 2 2))] ++ ([(n5, Obj.cells #[.int .i64 x0] 2)] ++ ([(n17, Obj.cells #[.bool s1.leaf, .bool s1.tagged, .slice A1 s1.pairs.length x1, .slice A2 s1.keys.length x2, .slice A3 s1.kids.length x3, .bool s2.leaf, .bool s2.tagged, .slice B1 s2.pairs.length y1, .slice B2 s2.keys.length y2, .slice B3 s2.kids.length y3] 31)] ++ ([(vb + 1, shO false false nil0 nil0 nil0)] ++ ([(vb, shO l t (.slice Bp ps.length dp) (.slice (some ⟨gk, ok, none⟩) ks.length dk) (.slice (some ⟨g, off, none⟩) kids.length dc))] ++ R))))))))) ∧ Ext w wx)
            case first =>
              obtain ⟨_, _, _, _, q4⟩ := hW6.five (b := m13) (l := false) (t := false) (p := nil0) (k := (.slice A11 (i + (ks.length - (i + 1))) c11)) (c := .slice A6 i c6) (by simp)
              obtain ⟨u0, u1, u2, u3, u4⟩ := hW6.five (b := n19) (l := false) (t := true) (p := nil0) (k := .slice (some ⟨n5, 0, none⟩) 1 1) (c := .slice (some ⟨n17, 0, none⟩) 2 2) (by simp)
              have hWa := (hW6.alloc (shO false true nil0 (.slice (some ⟨n5, 0, none⟩) 1 1) (.slice (some ⟨n17, 0, none⟩) 2 2))).perm (L' := L6 ++ ([(w6.heap.size, shO false true nil0 (.slice (some ⟨n5, 0, none⟩) 1 1) (.slice (some ⟨n17, 0, none⟩) 2 2))] ++ ((m13, shO false false nil0 (.slice A11 (i + (ks.length - (i + 1))) c11) (.slice A6 i c6)) :: (L11 ++ ([(m0, Obj.cells #[] 2)] ++ ([(n19, shO false true nil0 (.slice (some ⟨n5, 0, none⟩) 1 1) (.slice (some ⟨n17, 0, none⟩) 2 2))] ++ ([(n5, Obj.cells #[.int .i64 x0] 2)] ++ ([(n17, Obj.cells #[.bool s1.leaf, .bool s1.tagged, .slice A1 s1.pairs.length x1, .slice A2 s1.keys.length x2, .slice A3 s1.kids.length x3, .bool s2.leaf, .bool s2.tagged, .slice B1 s2.pairs.length y1, .slice B2 s2.keys.length y2, .slice B3 s2.kids.length y3] 31)] ++ ([(vb + 1, shO false false nil0 nil0 nil0)] ++ ([(vb, shO l t (.slice Bp ps.length dp) (.slice (some ⟨gk, ok, none⟩) ks.length dk) (.slice (some ⟨g, off, none⟩) kids.length dc))] ++ R)))))))))) (perm_of_count fun x => by simp only [List.count_append, List.count_cons, List.count_nil, arenaObj, slotObj, nodeObj, worldObj]; omega)
              have hEa := hE6.alloc (shO false true nil0 (.slice (some ⟨n5, 0, none⟩) 1 1) (.slice (some ⟨n17, 0, none⟩) 2 2))
              have hsa : Src (w6.alloc (shO false true nil0 (.slice (some ⟨n5, 0, none⟩) 1 1) (.slice (some ⟨n17, 0, none⟩) 2 2))) (.slice (some ⟨w6.heap.size, 0, none⟩) 1 1) 5 1 [.bool false, .bool true, nil0, .slice (some ⟨n5, 0, none⟩) 1 1, .slice (some ⟨n17, 0, none⟩) 2 2] := Src.of_block (hWa.get w6.heap.size (shO false true nil0 (.slice (some ⟨n5, 0, none⟩) 1 1) (.slice (some ⟨n17, 0, none⟩) 2 2)) (by simp)) rfl (by intro u hu; simp at hu; rcases hu with rfl | rfl | rfl | rfl | rfl <;> rfl)
              have Ha := Lib.hid (And.intro hWa (And.intro hsa hEa))
              clear hWa hsa hEa
              go_wp2_with (at_builtin; refine wpList_append_row rfl (.tmp 59) (.tmp 61) 29 rfl el_shape hr6 Ha.out.1 (m := 1) (news := [.bool false, .bool true, nil0, .slice (some ⟨n5, 0, none⟩) 1 1, .slice (some ⟨n17, 0, none⟩) 2 2]) rfl Ha.out.2.1 (by simp [maxLen]; omega) (by omega) ?_)
              intro v7 w7 L7 r7 h7 e7
              obtain ⟨A7, c7, rfl⟩ := r7.shape
              have z4 := (h7.five (b := m13) (l := false) (t := false) (p := nil0) (k := (.slice A11 (i + (ks.length - (i + 1))) c11)) (c := .slice A6 i c6) (by simp)).2.2.2.2
              have zf := h7.free (b := m13) (c := #[.bool false, .bool false, nil0, (.slice A11 (i + (ks.length - (i + 1))) c11), .slice A6 i c6]) (t := 31) (by simp)
              clear q4 u0 u1 u2 u3 u4
              go_wp2_with fail
              have hW7 : Has (World.setCell w7 ⟨m13, 4, none⟩ (.slice A7 (i + 1) c7)) ((m13, shO false false nil0 (.slice A11 (i + (ks.length - (i + 1))) c11) (.slice A7 (i + 1) c7)) :: (L7 ++ ([(w6.heap.size, shO false true nil0 (.slice (some ⟨n5, 0, none⟩) 1 1) (.slice (some ⟨n17, 0, none⟩) 2 2))] ++ (L11 ++ ([(m0, Obj.cells #[] 2)] ++ ([(n19, shO false true nil0 (.slice (some ⟨n5, 0, none⟩) 1 1) (.slice (some ⟨n17, 0, none⟩) 2 2))] ++ ([(n5, Obj.cells #[.int .i64 x0] 2)] ++ ([(n17, Obj.cells #[.bool s1.leaf, .bool s1.tagged, .slice A1 s1.pairs.length x1, .slice A2 s1.keys.length x2, .slice A3 s1.kids.length x3, .bool s2.leaf, .bool s2.tagged, .slice B1 s2.pairs.length y1, .slice B2 s2.keys.length y2, .slice B3 s2.kids.length y3] 31)] ++ ([(vb + 1, shO false false nil0 nil0 nil0)] ++ ([(vb, shO l t (.slice Bp ps.length dp) (.slice (some ⟨gk, ok, none⟩) ks.length dk) (.slice (some ⟨g, off, none⟩) kids.length dc))] ++ R)))))))))) := (h7.perm (L' := (m13, shO false false nil0 (.slice A11 (i + (ks.length - (i + 1))) c11) (.slice A6 i c6)) :: (L7 ++ ([(w6.heap.size, shO false true nil0 (.slice (some ⟨n5, 0, none⟩) 1 1) (.slice (some ⟨n17, 0, none⟩) 2 2))] ++ (L11 ++ ([(m0, Obj.cells #[] 2)] ++ ([(n19, shO false true nil0 (.slice (some ⟨n5, 0, none⟩) 1 1) (.slice (some ⟨n17, 0, none⟩) 2 2))] ++ ([(n5, Obj.cells #[.int .i64 x0] 2)] ++ ([(n17, Obj.cells #[.bool s1.leaf, .bool s1.tagged, .slice A1 s1.pairs.length x1, .slice A2 s1.keys.length x2, .slice A3 s1.kids.length x3, .bool s2.leaf, .bool s2.tagged, .slice B1 s2.pairs.length y1, .slice B2 s2.keys.length y2, .slice B3 s2.kids.length y3] 31)] ++ ([(vb + 1, shO false false nil0 nil0 nil0)] ++ ([(vb, shO l t (.slice Bp ps.length dp) (.slice (some ⟨gk, ok, none⟩) ks.length dk) (.slice (some ⟨g, off, none⟩) kids.length dc))] ++ R)))))))))) (perm_of_count fun x => by simp only [List.count_append, List.count_cons, List.count_nil, arenaObj, slotObj, nodeObj, worldObj]; omega)).set 4 (.slice A7 (i + 1) c7)
              have hE7 := (Ha.out.2.2.trans e7).setCell ⟨m13, 4, none⟩ (.slice A7 (i + 1) c7)
              generalize World.setCell _ _ _ = w8 at hW7 hE7 ⊢
              go_meet
              case rel => exact ⟨A7, c7, L7, rfl, r7, hW7.sub (List.Sublist.cons_cons _ (List.Sublist.append_left (List.sublist_append_right _ _) _)), hE7⟩
            case rest =>
              obtain ⟨A7, c7, L7, rfl, hr7, hW7, hE7⟩ := hcut
              clear hW6 hE6 hr6
              generalize hwc : wc = w7 at hW7 hE7 ⊢
              clear hwc
              go_upto_region 8 with fail
              go_cut [6] (fun v wx => ∃ (A : Option Addr) (c : Nat) (LK : HL), v = .pointer (some ⟨m13, 0, none⟩) ∧ Row 31 5 (.slice A (i + 1 + (kids.length - (i + 2))) c) (i + 1 + (kids.length - (i + 2))) ((([] ++ css.flatten.take (i * 5)) ++ [.bool false, .bool true, nil0, .slice (some ⟨n5, 0, none⟩) 1 1, .slice (some ⟨n17, 0, none⟩) 2 2]) ++ css.flatten.drop ((i + 2) * 5)) LK ∧ Has wx ((m13, shO false false nil0 (.slice A11 (i + (ks.length - (i + 1))) c11) (.slice A (i + 1 + (kids.length - (i + 2))) c)) :: (LK ++ (L11 ++ ([(m0, Obj.cells #[] 2)] ++ ([(n19, shO false true nil0 (.slice (some ⟨n5, 0, none⟩) 1 1) (.slice (some ⟨n17, 0, none⟩) 2 2))] ++ ([(n5, Obj.cells #[.int .i64 x0] 2)] ++ ([(n17, Obj.cells #[.bool s1.leaf, .bool s1.tagged, .slice A1 s1.pairs.length x1, .slice A2 s1.keys.length x2, .slice A3 s1.kids.length x3, .bool s2.leaf, .bool s2.tagged, .slice B1 s2.pairs.length y1, .slice B2 s2.keys.length y2, .slice B3 s2.kids.length y3] 31)] ++ ([(vb + 1, shO false false nil0 nil0 nil0)] ++ ([(vb, shO l t (.slice Bp ps.length dp) (.slice (some ⟨gk, ok, none⟩) ks.length dk) (.slice (some ⟨g, off, none⟩) kids.length dc))] ++ R))))))))) ∧ Ext w wx)
              case first =>
                have o6 : One (css.flatten.drop ((i + 2) * 5)) := (ShRows.oneCell ⟨hl, hs⟩).drop _
                have hk6 : Rd R 31 5 (.slice (if dc = i + 2 then some ⟨g, off, none⟩ else some ⟨g, off + (i + 2) * 5, none⟩) (kids.length - (i + 2)) (dc - (i + 2))) (kids.length - (i + 2)) (css.flatten.drop ((i + 2) * 5)) := hc.drop (by omega) (fun h => by rw [if_neg (by omega)])
                have HK6 := Lib.hid (And.intro hk6 o6)
                have h63 : Hid (i + 1 + (kids.length - (i + 2)) ≤ maxLen) := Lib.hid (by simp [maxLen]; omega)
                have hb80 : Hid ((i + 1 + (kids.length - (i + 2))) * 80 ≤ 140737488355328) := Lib.hid (by omega)
                have l5 : 0 ≤ (i : Int) + 2 := by omega
                have l6 : (i : Int) + 2 ≤ kids.length := by omega
                have l9 : ((i : Int) + 2).toNat = i + 2 := by omega
                have l4 : wrap64 ((i : Int) + 2) = ((i + 2 : Nat) : Int) := by unfold wrap64; omega
                clear hk6 o6
                have vm : ∀ w, Knows w ((m13, shO false false nil0 (.slice A11 (i + (ks.length - (i + 1))) c11) (.slice A7 (i + 1) c7)) :: (vb, shO l t (.slice Bp ps.length dp) (.slice (some ⟨gk, ok, none⟩) ks.length dk) (.slice (some ⟨g, off, none⟩) kids.length dc)) :: R) → w.cell? ⟨m13, 4, none⟩ = some (.slice A7 (i + 1) c7) := fun w hw => (hw.five (b := m13) (l := false) (t := false) (p := nil0) (k := (.slice A11 (i + (ks.length - (i + 1))) c11)) (c := (.slice A7 (i + 1) c7)) (by simp)).2.2.2.2
                have v4 : ∀ w, Knows w ((m13, shO false false nil0 (.slice A11 (i + (ks.length - (i + 1))) c11) (.slice A7 (i + 1) c7)) :: (vb, shO l t (.slice Bp ps.length dp) (.slice (some ⟨gk, ok, none⟩) ks.length dk) (.slice (some ⟨g, off, none⟩) kids.length dc)) :: R) → w.cell? ⟨vb, 4, none⟩ = some (.slice (some ⟨g, off, none⟩) kids.length dc) := fun w hw => (hw.cell (List.mem_cons_of_mem _ (List.mem_cons_self ..)) 4).trans rfl
                refine start_ (n := 10) (S := fun w' => Knows w' ((m13, shO false false nil0 (.slice A11 (i + (ks.length - (i + 1))) c11) (.slice A7 (i + 1) c7)) :: (vb, shO l t (.slice Bp ps.length dp) (.slice (some ⟨gk, ok, none⟩) ks.length dk) (.slice (some ⟨g, off, none⟩) kids.length dc)) :: R)) (ds := [9]) #[false, false, false, false, false, false, false, false, false, false] (by kernel_rfl) rfl rfl ((hW7.drew.knows (sub_of_count fun x => by simp only [List.count_append, List.count_cons, List.count_nil, arenaObj, slotObj, nodeObj, worldObj] <;> omega))) (fun hHeld => ?_)
                refine pure_ (i := 0) (N := some 64) (v := ?_) (a' := ?_) #[true, false, false, false, false, false, false, false, false, false] rfl rfl (by kernel_rfl) (fun _ _ _ h => h) (Or.inl ⟨by rfl, ?_⟩) ?_ ?_
                rotate_left
                · intro w'
                  go_simp
                  with_reducible rfl
                rotate_left
                · simp only [Act.put, List.setIfInBounds_toArray, List.set_cons_zero, List.set_cons_succ, i64_w, i32_w]
                  rfl
                refine pure_ (i := 2) (N := some 66) (v := ?_) (a' := ?_) #[true, false, true, false, false, false, false, false, false, false] rfl rfl (by kernel_rfl) (fun _ _ _ h => h) (Or.inl ⟨by rfl, ?_⟩) ?_ ?_
                rotate_left
                · intro w'
                  go_simp
                  with_reducible rfl
                rotate_left
                · simp only [Act.put, List.setIfInBounds_toArray, List.set_cons_zero, List.set_cons_succ, i64_w, i32_w]
                  rfl
                refine pure_ (i := 4) (N := some 68) (v := ?_) (a' := ?_) #[true, false, true, false, true, false, false, false, false, false] rfl rfl (by kernel_rfl) (fun _ _ _ h => h) (Or.inl ⟨by rfl, ?_⟩) ?_ ?_
                rotate_left
                · intro w'
                  go_simp
                  with_reducible rfl
                rotate_left
                · simp only [Act.put, List.setIfInBounds_toArray, List.set_cons_zero, List.set_cons_succ, i64_w, i32_w]
                  rfl
                refine pure_ (i := 5) (N := some 69) (v := ?_) (a' := ?_) #[true, false, true, false, true, true, false, false, false, false] rfl rfl (by kernel_rfl) (fun _ _ _ h => h) (Or.inl ⟨by rfl, ?_⟩) ?_ ?_
                rotate_left
                · intro w'
                  go_simp
                  with_reducible rfl
                rotate_left
                · simp only [Act.put, List.setIfInBounds_toArray, List.set_cons_zero, List.set_cons_succ, i64_w, i32_w]
                  rfl
                refine take_ (i := 1) (N := some 65) (v := ?_) (a' := ?_) #[true, true, true, false, true, true, false, false, false, false] rfl rfl (by kernel_rfl) (fun _ _ _ h => h) (Or.inl ⟨by rfl, ?_⟩) hHeld ?_ ?_
                rotate_left
                · intro w' s0
                  go_simp
                  with_reducible rfl
                rotate_left
                · simp only [Act.put, List.setIfInBounds_toArray, List.set_cons_zero, List.set_cons_succ, i64_w, i32_w]
                  rfl
                refine take_ (i := 3) (N := some 67) (v := ?_) (a' := ?_) #[true, true, true, true, true, true, false, false, false, false] rfl rfl (by kernel_rfl) (fun _ _ _ h => h) (Or.inl ⟨by rfl, ?_⟩) hHeld ?_ ?_
                rotate_left
                · intro w' s0
                  go_simp
                  with_reducible rfl
                rotate_left
                · simp only [Act.put, List.setIfInBounds_toArray, List.set_cons_zero, List.set_cons_succ, i64_w, i32_w]
                  rfl
                refine pure_ (i := 6) (N := some 70) (v := ?_) (a' := ?_) #[true, true, true, true, true, true, true, false, false, false] rfl rfl (by kernel_rfl) (fun _ _ _ h => h) (Or.inl ⟨by rfl, ?_⟩) ?_ ?_
                rotate_left
                · intro w'
                  go_simp
                  with_reducible rfl
                rotate_left
                · simp only [Act.put, List.setIfInBounds_toArray, List.set_cons_zero, List.set_cons_succ, i64_w, i32_w]
                  rfl
                refine one_ (i := 7) (N := some 71) #[true, true, true, true, true, true, true, true, false, false] rfl rfl (by kernel_rfl) (by decide) (fun K hK => ?_)
                have hp := (hW7.drew).perm (L' := L7 ++ ((m13, shO false false nil0 (.slice A11 (i + (ks.length - (i + 1))) c11) (.slice A7 (i + 1) c7)) :: (L11 ++ ([(m0, Obj.cells #[] 2)] ++ ([(n19, shO false true nil0 (.slice (some ⟨n5, 0, none⟩) 1 1) (.slice (some ⟨n17, 0, none⟩) 2 2))] ++ ([(n5, Obj.cells #[.int .i64 x0] 2)] ++ ([(n17, Obj.cells #[.bool s1.leaf, .bool s1.tagged, .slice A1 s1.pairs.length x1, .slice A2 s1.keys.length x2, .slice A3 s1.kids.length x3, .bool s2.leaf, .bool s2.tagged, .slice B1 s2.pairs.length y1, .slice B2 s2.keys.length y2, .slice B3 s2.kids.length y3] 31)] ++ ([(vb + 1, shO false false nil0 nil0 nil0)] ++ ([(vb, shO l t (.slice Bp ps.length dp) (.slice (some ⟨gk, ok, none⟩) ks.length dk) (.slice (some ⟨g, off, none⟩) kids.length dc))] ++ R))))))))) (perm_of_count fun x => by simp only [List.count_append, List.count_cons, List.count_nil, arenaObj, slotObj, nodeObj, worldObj] <;> omega)
                refine append_to (.tmp 65) (.tmp 70) 29 (by rfl) rfl rfl el_shape hr7 hp rfl (Rd.srcK (hp.knows (L0 := R) (sub_of_count fun x => by simp only [List.count_append, List.count_cons, List.count_nil, arenaObj, slotObj, nodeObj, worldObj] <;> omega)) (fun _ h => h) HK6.out.1 HK6.out.2) (i + 1 + (kids.length - (i + 2))) rfl h63.out hb80.out ?_
                intro v8 w8 L8 r8 h8 e8
                obtain ⟨A8, c8, rfl⟩ := r8.shape
                have z4 := (h8.five (b := m13) (l := false) (t := false) (p := nil0) (k := (.slice A11 (i + (ks.length - (i + 1))) c11)) (c := .slice A7 (i + 1) c7) (by simp)).2.2.2.2
                have zf := h8.free (b := m13) (c := #[.bool false, .bool false, nil0, (.slice A11 (i + (ks.length - (i + 1))) c11), .slice A7 (i + 1) c7]) (t := 31) (by simp)
                refine hK.out _ _ ((h8.knows (sub_of_count fun x => by simp only [List.count_append, List.count_cons, List.count_nil, arenaObj, slotObj, nodeObj, worldObj] <;> omega))) (fun hHeld => ?_)
                clear hK K
                refine norm_ (a' := ?_) ?_ ?_
                rotate_left
                · show Act.put _ (some 71) _ = _
                  simp only [Act.put, List.setIfInBounds_toArray, List.set_cons_zero, List.set_cons_succ, i64_w, i32_w]
                  rfl
                refine pure_ (i := 8) (N := some 72) (v := ?_) (a' := ?_) #[true, true, true, true, true, true, true, true, true, false] rfl rfl (by kernel_rfl) (fun _ _ _ h => h) (Or.inl ⟨by rfl, ?_⟩) ?_ ?_
                rotate_left
                · intro w'
                  go_simp
                  with_reducible rfl
                rotate_left
                · simp only [Act.put, List.setIfInBounds_toArray, List.set_cons_zero, List.set_cons_succ, i64_w, i32_w]
                  rfl
                refine last_ (i := 9) (N := none) #[true, true, true, true, true, true, true, true, true, true] rfl rfl (by kernel_rfl) (by decide) (fun K hK => ?_)
                refine skip_ (w1 := ?_) (by rfl) rfl ?_ ?_
                rotate_left
                · go_simp
                  rfl
                refine hK.out _ _ ?_
                clear hK K
                refine done_ (by kernel_rfl) ?_
                have hW9 : Has (World.setCell w8 ⟨m13, 4, none⟩ (.slice A8 (i + 1 + (kids.length - (i + 2))) c8)) ((m13, shO false false nil0 (.slice A11 (i + (ks.length - (i + 1))) c11) (.slice A8 (i + 1 + (kids.length - (i + 2))) c8)) :: (L8 ++ (L11 ++ ([(m0, Obj.cells #[] 2)] ++ ([(n19, shO false true nil0 (.slice (some ⟨n5, 0, none⟩) 1 1) (.slice (some ⟨n17, 0, none⟩) 2 2))] ++ ([(n5, Obj.cells #[.int .i64 x0] 2)] ++ ([(n17, Obj.cells #[.bool s1.leaf, .bool s1.tagged, .slice A1 s1.pairs.length x1, .slice A2 s1.keys.length x2, .slice A3 s1.kids.length x3, .bool s2.leaf, .bool s2.tagged, .slice B1 s2.pairs.length y1, .slice B2 s2.keys.length y2, .slice B3 s2.kids.length y3] 31)] ++ ([(vb + 1, shO false false nil0 nil0 nil0)] ++ ([(vb, shO l t (.slice Bp ps.length dp) (.slice (some ⟨gk, ok, none⟩) ks.length dk) (.slice (some ⟨g, off, none⟩) kids.length dc))] ++ R))))))))) := (h8.perm (L' := (m13, shO false false nil0 (.slice A11 (i + (ks.length - (i + 1))) c11) (.slice A7 (i + 1) c7)) :: (L8 ++ (L11 ++ ([(m0, Obj.cells #[] 2)] ++ ([(n19, shO false true nil0 (.slice (some ⟨n5, 0, none⟩) 1 1) (.slice (some ⟨n17, 0, none⟩) 2 2))] ++ ([(n5, Obj.cells #[.int .i64 x0] 2)] ++ ([(n17, Obj.cells #[.bool s1.leaf, .bool s1.tagged, .slice A1 s1.pairs.length x1, .slice A2 s1.keys.length x2, .slice A3 s1.kids.length x3, .bool s2.leaf, .bool s2.tagged, .slice B1 s2.pairs.length y1, .slice B2 s2.keys.length y2, .slice B3 s2.kids.length y3] 31)] ++ ([(vb + 1, shO false false nil0 nil0 nil0)] ++ ([(vb, shO l t (.slice Bp ps.length dp) (.slice (some ⟨gk, ok, none⟩) ks.length dk) (.slice (some ⟨g, off, none⟩) kids.length dc))] ++ R))))))))) (perm_of_count fun x => by simp only [List.count_append, List.count_cons, List.count_nil, arenaObj, slotObj, nodeObj, worldObj]; omega)).set 4 (.slice A8 (i + 1 + (kids.length - (i + 2))) c8)
                have hE9 := (hE7.drew.trans e8).setCell ⟨m13, 4, none⟩ (.slice A8 (i + 1 + (kids.length - (i + 2))) c8)
                generalize World.setCell _ _ _ = w9 at hW9 hE9 ⊢
                generalize (if dc = i + 2 then some ⟨g, off, none⟩ else some ⟨g, off + (i + 2) * 5, none⟩ : Option Addr) = AX
                go_wp2_with fail
                go_meet
                case rel => exact ⟨A8, c8, L8, rfl, r8, hW9, hE9⟩
              case rest =>
                obtain ⟨A8, c8, L8, rfl, hr8, hW8, hE8⟩ := hcut
                clear hW7 hE7 hr7
                generalize hwc : wc = w8 at hW8 hE8 ⊢
                clear hwc
                obtain ⟨q0, q1, q2, q3, q4⟩ := hW8.five (b := m13) (l := false) (t := false) (p := nil0) (k := (.slice A11 (i + (ks.length - (i + 1))) c11)) (c := (.slice A8 (i + 1 + (kids.length - (i + 2))) c8)) (by simp)
                obtain ⟨z0, z1, z2, z3, z4⟩ := hW8.five (b := vb + 1) (l := false) (t := false) (p := nil0) (k := nil0) (c := nil0) (by simp)
                have zf := hW8.free (b := vb + 1) (c := #[.bool false, .bool false, nil0, nil0, nil0]) (t := 31) (by simp)
                go_wp2
                have hW9 := (hW8.perm (L' := (vb + 1, shO false false nil0 nil0 nil0) :: ((m13, shO false false nil0 (.slice A11 (i + (ks.length - (i + 1))) c11) (.slice A8 (i + 1 + (kids.length - (i + 2))) c8)) :: (L8 ++ (L11 ++ ([(m0, Obj.cells #[] 2)] ++ ([(n19, shO false true nil0 (.slice (some ⟨n5, 0, none⟩) 1 1) (.slice (some ⟨n17, 0, none⟩) 2 2))] ++ ([(n5, Obj.cells #[.int .i64 x0] 2)] ++ ([(n17, Obj.cells #[.bool s1.leaf, .bool s1.tagged, .slice A1 s1.pairs.length x1, .slice A2 s1.keys.length x2, .slice A3 s1.kids.length x3, .bool s2.leaf, .bool s2.tagged, .slice B1 s2.pairs.length y1, .slice B2 s2.keys.length y2, .slice B3 s2.kids.length y3] 31)] ++ ([(vb, shO l t (.slice Bp ps.length dp) (.slice (some ⟨gk, ok, none⟩) ks.length dk) (.slice (some ⟨g, off, none⟩) kids.length dc))] ++ R))))))))) (perm_of_count fun x => by simp only [List.count_append, List.count_cons, List.count_nil, arenaObj, slotObj, nodeObj, worldObj]; omega)).set5 false false nil0 (.slice A11 (i + (ks.length - (i + 1))) c11) (.slice A8 (i + 1 + (kids.length - (i + 2))) c8)
                have hE9 := hE8.set5 (vb + 1) false false nil0 (.slice A11 (i + (ks.length - (i + 1))) c11) (.slice A8 (i + 1 + (kids.length - (i + 2))) c8)
                unfold Go.Proofs.Ytjkfigkgeoacfaa.set5 at hW9 hE9
                generalize World.setCell _ _ _ = w9 at hW9 hE9 ⊢
                obtain ⟨m0', m1', m2', m3', m4'⟩ := hW9.five (b := vb + 1) (l := false) (t := false) (p := nil0) (k := (.slice A11 (i + (ks.length - (i + 1))) c11)) (c := (.slice A8 (i + 1 + (kids.length - (i + 2))) c8)) (List.mem_cons_self ..)
                refine bodyPost_ret (v := .agg #[.bool false, .bool false, nil0, (.slice A11 (i + (ks.length - (i + 1))) c11), (.slice A8 (i + 1 + (kids.length - (i + 2))) c8)]) (by simp [results, Try.results37, go_sem, m0', m1', m2', m3', m4']) rfl ?_
                have hall := hW9.perm (L' := (L8 ++ (L11 ++ ((vb + 1, shO false false nil0 (.slice A11 (i + (ks.length - (i + 1))) c11) (.slice A8 (i + 1 + (kids.length - (i + 2))) c8)) :: (m13, shO false false nil0 (.slice A11 (i + (ks.length - (i + 1))) c11) (.slice A8 (i + 1 + (kids.length - (i + 2))) c8)) :: (m0, Obj.cells #[] 2) :: (n19, shO false true nil0 (.slice (some ⟨n5, 0, none⟩) 1 1) (.slice (some ⟨n17, 0, none⟩) 2 2)) :: (n5, Obj.cells #[.int .i64 x0] 2) ::
                  (n17, Obj.cells #[.bool s1.leaf, .bool s1.tagged, .slice A1 s1.pairs.length x1, .slice A2 s1.keys.length x2, .slice A3 s1.kids.length x3, .bool s2.leaf, .bool s2.tagged, .slice B1 s2.pairs.length y1, .slice B2 s2.keys.length y2, .slice B3 s2.kids.length y3] 31) ::
                  (vb, shO l t (.slice Bp ps.length dp) (.slice (some ⟨gk, ok, none⟩) ks.length dk) (.slice (some ⟨g, off, none⟩) kids.length dc)) :: []))) ++ R) (perm_of_count fun x => by simp only [List.count_append, List.count_cons, List.count_nil, arenaObj, slotObj, nodeObj, worldObj]; omega)
                refine ⟨_, _, rfl, ?_, hall, hE9⟩
                rw [HT.out]
                clear hall hW9 hE9 m0' m1' m2' m3' m4' q0 q1 q2 q3 q4 z0 z1 z2 z3 z4 zf
                refine ShRep.mk (css := css.take i ++ [[.bool false, .bool true, nil0, .slice (some ⟨n5, 0, none⟩) 1 1, .slice (some ⟨n17, 0, none⟩) 2 2]] ++ css.drop (i + 2)) (rd_nil _ _ _ _ _ (fits_of (by omega))) ?_ ?_ ?_ ?_
                · refine ((hrk.rd []).mono ?_).cast rfl ?_ ?_
                  · intro p hp; simp only [List.append_nil] at hp; simp [hp]
                  · simp; omega
                  · rw [ints_append, ints_take, ints_drop]; simp
                · refine ((hr8.rd []).mono ?_).cast rfl ?_ ?_
                  · intro p hp; simp only [List.append_nil] at hp; simp [hp]
                  · simp; omega
                  · rw [flat5_take (ShRows.five ⟨hl, hs⟩), flat5_drop (ShRows.five ⟨hl, hs⟩)]; simp
                · simp only [List.length_append, List.length_take, List.length_drop, List.length_cons, List.length_nil, hl]
                · have h0 : ShRows R0 css kids := ⟨hl, Hs0.out.1⟩
                  refine (ShRows.append (ShRows.append ((h0.take i).mono ?_) (ShRows.one ?_)) ((h0.drop (i + 2)).mono ?_)).2
                  · intro p hp; simp [hp]
                  · rw [take2 hk1 hk2]
                    refine ShRep.mk (css := [shCells s1 A1 x1 A2 x2 A3 x3, shCells s2 B1 y1 B2 y2 B3 y3]) (rd_nil _ _ _ _ _ (fits_of (by omega))) (rd_block (by simp) rfl (fits_of (by simp))) (rd_block (by simp) rfl (fits_of (by simp))) rfl ?_
                    exact (ShRows.append (ShRows.one ((Hs0.out.1 i _ _ hc1 hk1).mono (by intro p hp; simp [hp]))) (ShRows.one ((Hs0.out.1 (i + 1) _ _ hc2 hk2).mono (by intro p hp; simp [hp])))).2
                  · intro p hp; simp [hp]
end Go.Proofs.Ytjkfigkgeoacfaa
