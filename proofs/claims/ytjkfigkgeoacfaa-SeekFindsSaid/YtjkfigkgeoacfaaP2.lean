import Derived.Test.YtjkfigkgeoacfaaP1
import Derived.Deep.RegionHeld3
import Derived.Deep.QuietTactic
import Derived.BigQuiet
import Derived.BigRegion
import Derived.StillTailTactics
import Derived.Test.YtjkfigkgeoacfaaWLast
set_option linter.unusedVariables false
set_option linter.unusedSimpArgs false
namespace Go.Proofs.Ytjkfigkgeoacfaa
open Go.RowKit Go.Proofs.YtjkfigkgeoacfaaW.PrintLast

theorem one_ints (xs : List Int) : One (xs.map (Value.int .i64)) := by intro u hu; obtain ⟨x, _, rfl⟩ := List.mem_map.1 hu; rfl
def pairCells (ps : List (Int × Int)) : List Value := ps.flatMap fun p => [.int .i64 p.1, .int .i64 p.2]
theorem one_pairs (ps : List (Int × Int)) : One (pairCells ps) := by
  intro u hu
  simp only [pairCells, List.mem_flatMap, List.mem_cons, List.not_mem_nil, or_false] at hu
  obtain ⟨p, _, rfl | rfl⟩ := hu <;> rfl

set_option maxHeartbeats 1000000 in
set_option maxRecDepth 100000 in
theorem look_raw (a g off : Nat) (n cap : Nat) (r : Int) (i : Nat) (c : Int) (w : World) (R : HL) (hw : Has w R)
   (hi : place r = i) (hn : i < n) (hnn : n ≤ 70000)
   (ha : w.cell? ⟨a, 0, none⟩ = some (.slice (some ⟨g, off, none⟩) n cap)) (hga : g < w.heap.size) (haa : a < w.heap.size)
   (hu : w.cell? ⟨g, off + i * 10 + 9, none⟩ = some (.bool true))
   (hc : w.cell? ⟨g, off + i * 10 + 8, none⟩ = some (.int .u32 c)) (hr : (refOf i c == r) = true)
   (b0 b1 : Bool) (pv kv wv : Value) (np nk nw : Nat) (ps : List (Int × Int)) (ks ws : List Int)
   (h0 : w.cell? ⟨g, off + i * 10, none⟩ = some (.bool b0)) (h1 : w.cell? ⟨g, off + i * 10 + 1, none⟩ = some (.bool b1))
   (h2 : w.cell? ⟨g, off + i * 10 + 2, none⟩ = some pv) (h3 : w.cell? ⟨g, off + i * 10 + 3, none⟩ = some kv) (h4 : w.cell? ⟨g, off + i * 10 + 4, none⟩ = some wv)
   (hp : Rd R 61 2 pv np (pairCells ps)) (hk : Rd R 2 1 kv nk (ks.map (Value.int .i64))) (hv : Rd R 39 1 wv nw (ws.map (Value.int .i64)))
   (bp : np ≤ 1000000) (bk : nk ≤ 1000000) (bw : nw ≤ 1000000) :
    Calls Try.prog 32 #[.pointer (some ⟨a, 0, none⟩), .int .i64 r] w fun e w' =>
      ∃ pv' kv' wv' L1 L2 L3, e = .returned (.agg #[.bool b0, .bool b1, pv', kv', wv']) ∧ Row 61 2 pv' np (pairCells ps) L1 ∧ Row 2 1 kv' nk (ks.map (Value.int .i64)) L2 ∧ Row 39 1 wv' nw (ws.map (Value.int .i64)) L3 ∧
        Has w' (L3 ++ (L2 ++ (L1 ++ R))) ∧ Ext w w' := by
  obtain ⟨_, Ap, cp, rfl, _⟩ := id hp
  obtain ⟨_, Ak, ck, rfl, _⟩ := id hk
  obtain ⟨_, Av, cv, rfl, _⟩ := id hv
  go_enter Try.func32, Try.ntmps32
  go_wp2_with (go_at_call 40; refine (at_raw a g off n cap _ i c _ hi hn hnn (ca ha) (ca hu) (ca hc) hr).mono ?_; rintro e w' ⟨rfl, rfl⟩)
  have hW := (hw.alloc (.cells #[Value.bool false, Value.bool false, Value.slice none 0 0, Value.slice none 0 0, Value.slice none 0 0] 69)).alloc (.cells #[Value.bool b0, Value.bool b1, Value.slice Ap np cp, Value.slice Ak nk ck, Value.slice Av nw cv] 69)
  have hE := ((Ext.refl w).alloc (.cells #[Value.bool false, Value.bool false, Value.slice none 0 0, Value.slice none 0 0, Value.slice none 0 0] 69)).alloc (.cells #[Value.bool b0, Value.bool b1, Value.slice Ap np cp, Value.slice Ak nk ck, Value.slice Av nw cv] 69)
  rw [World.size_alloc] at hW
  generalize ((w.alloc (.cells #[Value.bool false, Value.bool false, Value.slice none 0 0, Value.slice none 0 0, Value.slice none 0 0] 69)).alloc (.cells #[Value.bool b0, Value.bool b1, Value.slice Ap np cp, Value.slice Ak nk ck, Value.slice Av nw cv] 69)) = W0 at hW hE ⊢
  generalize w.heap.size = b4 at hW ⊢
  have k2 : ∀ (w' : World) (L : HL), Has w' L → (b4 + 1, Obj.cells #[Value.bool b0, Value.bool b1, Value.slice Ap np cp, Value.slice Ak nk ck, Value.slice Av nw cv] 69) ∈ L →
      w'.cell? ⟨b4 + 1, 2, none⟩ = some (Value.slice Ap np cp) ∧ w'.cell? ⟨b4 + 1, 3, none⟩ = some (Value.slice Ak nk ck) ∧ w'.cell? ⟨b4 + 1, 4, none⟩ = some (Value.slice Av nw cv) :=
    fun _ _ h hm => ⟨(h.cell hm 2).trans rfl, (h.cell hm 3).trans rfl, (h.cell hm 4).trans rfl⟩
  obtain ⟨c2, c3, c4⟩ := k2 _ _ hW (by simp)
  have K2 := Lib.hid k2
  clear k2 ha hu hc h0 h1 h2 h3 h4
  have fr : ∀ (w' : World) (L : HL), Has w' L → (b4 + 1, Obj.cells #[Value.bool b0, Value.bool b1, Value.slice Ap np cp, Value.slice Ak nk ck, Value.slice Av nw cv] 69) ∈ L → ∀ j, w'.frozen? ⟨b4 + 1, j, none⟩ = false :=
    fun _ _ h hm j => h.free hm j
  have FR := Lib.hid fr
  clear fr
  go_wp2_with fail
  refine start_ (n := 16) (S := fun w' => w'.cell? ⟨b4 + 1, 2, none⟩ = some (Value.slice Ap np cp) ∧ w'.cell? ⟨b4 + 1, 3, none⟩ = some (Value.slice Ak nk ck) ∧ w'.cell? ⟨b4 + 1, 4, none⟩ = some (Value.slice Av nw cv)) (ds := [13, 15]) #[false, false, false, false, false, false, false, false, false, false, false, false, false, false, false, false] (by kernel_rfl) rfl rfl ⟨c2, c3, c4⟩ (fun hHeld => ?_)
  refine pure_ (i := 0) (N := some 17) (v := ?_) (a' := ?_) #[true, false, false, false, false, false, false, false, false, false, false, false, false, false, false, false] rfl rfl (by kernel_rfl) (fun _ _ _ h => h) (Or.inl ⟨by rfl, ?_⟩) ?_ ?_
  rotate_left
  · intro w'
    go_simp
    with_reducible rfl
  rotate_left
  · simp only [Act.put, List.setIfInBounds_toArray, List.set_cons_zero, List.set_cons_succ, i64_w, i32_w]
    rfl
  refine pure_ (i := 3) (N := some 20) (v := ?_) (a' := ?_) #[true, false, false, true, false, false, false, false, false, false, false, false, false, false, false, false] rfl rfl (by kernel_rfl) (fun _ _ _ h => h) (Or.inl ⟨by rfl, ?_⟩) ?_ ?_
  rotate_left
  · intro w'
    go_simp
    with_reducible rfl
  rotate_left
  · simp only [Act.put, List.setIfInBounds_toArray, List.set_cons_zero, List.set_cons_succ, i64_w, i32_w]
    rfl
  refine pure_ (i := 4) (N := some 21) (v := ?_) (a' := ?_) #[true, false, false, true, true, false, false, false, false, false, false, false, false, false, false, false] rfl rfl (by kernel_rfl) (fun _ _ _ h => h) (Or.inl ⟨by rfl, ?_⟩) ?_ ?_
  rotate_left
  · intro w'
    go_simp
    with_reducible rfl
  rotate_left
  · simp only [Act.put, List.setIfInBounds_toArray, List.set_cons_zero, List.set_cons_succ, i64_w, i32_w]
    rfl
  refine pure_ (i := 7) (N := some 24) (v := ?_) (a' := ?_) #[true, false, false, true, true, false, false, true, false, false, false, false, false, false, false, false] rfl rfl (by kernel_rfl) (fun _ _ _ h => h) (Or.inl ⟨by rfl, ?_⟩) ?_ ?_
  rotate_left
  · intro w'
    go_simp
    with_reducible rfl
  rotate_left
  · simp only [Act.put, List.setIfInBounds_toArray, List.set_cons_zero, List.set_cons_succ, i64_w, i32_w]
    rfl
  refine pure_ (i := 8) (N := some 25) (v := ?_) (a' := ?_) #[true, false, false, true, true, false, false, true, true, false, false, false, false, false, false, false] rfl rfl (by kernel_rfl) (fun _ _ _ h => h) (Or.inl ⟨by rfl, ?_⟩) ?_ ?_
  rotate_left
  · intro w'
    go_simp
    with_reducible rfl
  rotate_left
  · simp only [Act.put, List.setIfInBounds_toArray, List.set_cons_zero, List.set_cons_succ, i64_w, i32_w]
    rfl
  refine take_ (i := 1) (N := some 18) (v := ?_) (a' := ?_) #[true, true, false, true, true, false, false, true, true, false, false, false, false, false, false, false] rfl rfl (by kernel_rfl) (fun _ _ _ h => h) (Or.inl ⟨by rfl, ?_⟩) hHeld ?_ ?_
  rotate_left
  · rintro w' ⟨s0, s1, s2⟩
    go_simp
    with_reducible rfl
  rotate_left
  · simp only [Act.put, List.setIfInBounds_toArray, List.set_cons_zero, List.set_cons_succ, i64_w, i32_w]
    rfl
  refine take_ (i := 5) (N := some 22) (v := ?_) (a' := ?_) #[true, true, false, true, true, true, false, true, true, false, false, false, false, false, false, false] rfl rfl (by kernel_rfl) (fun _ _ _ h => h) (Or.inl ⟨by rfl, ?_⟩) hHeld ?_ ?_
  rotate_left
  · rintro w' ⟨s0, s1, s2⟩
    go_simp
    with_reducible rfl
  rotate_left
  · simp only [Act.put, List.setIfInBounds_toArray, List.set_cons_zero, List.set_cons_succ, i64_w, i32_w]
    rfl
  refine take_ (i := 9) (N := some 26) (v := ?_) (a' := ?_) #[true, true, false, true, true, true, false, true, true, true, false, false, false, false, false, false] rfl rfl (by kernel_rfl) (fun _ _ _ h => h) (Or.inl ⟨by rfl, ?_⟩) hHeld ?_ ?_
  rotate_left
  · rintro w' ⟨s0, s1, s2⟩
    go_simp
    with_reducible rfl
  rotate_left
  · simp only [Act.put, List.setIfInBounds_toArray, List.set_cons_zero, List.set_cons_succ, i64_w, i32_w]
    rfl
  refine one_ (i := 2) (N := some 19) #[true, true, true, true, true, true, false, true, true, true, false, false, false, false, false, false] rfl rfl (by kernel_rfl) (by decide) (fun K hK => ?_)
  refine goes_ Try.func54 (by kernel_rfl) rfl #[Value.slice Ap np cp] (by rfl) rfl rfl (by simp only [List.map_toArray, List.map_cons, List.map_nil]; rfl) ?_
  with_reducible refine (clone_leaf (hp.mono fun _ h => List.mem_cons_of_mem _ (List.mem_cons_of_mem _ h)) hW.drew (one_pairs _) bp).mono ?_
  rintro e w1 ⟨v1, L1, rfl, hr1, hw1, he1⟩
  refine ⟨_, rfl, ?_⟩
  refine hK.out _ _ ⟨(K2.out _ _ hw1 (by simp)).1, (K2.out _ _ hw1 (by simp)).2.1, (K2.out _ _ hw1 (by simp)).2.2⟩ (fun hHeld => ?_)
  clear hK K
  refine norm_ (a' := ?_) ?_ ?_
  rotate_left
  · show Act.put _ (some 19) _ = _
    simp only [Act.put, List.setIfInBounds_toArray, List.set_cons_zero, List.set_cons_succ, i64_w, i32_w]
    rfl
  refine pure_ (i := 12) (N := some 29) (v := ?_) (a' := ?_) #[true, true, true, true, true, true, false, true, true, true, false, false, true, false, false, false] rfl rfl (by kernel_rfl) (fun _ _ _ h => h) (Or.inl ⟨by rfl, ?_⟩) ?_ ?_
  rotate_left
  · intro w'
    go_simp
    with_reducible rfl
  rotate_left
  · simp only [Act.put, List.setIfInBounds_toArray, List.set_cons_zero, List.set_cons_succ, i64_w, i32_w]
    rfl
  refine one_ (i := 6) (N := some 23) #[true, true, true, true, true, true, true, true, true, true, false, false, true, false, false, false] rfl rfl (by kernel_rfl) (by decide) (fun K hK => ?_)
  refine goes_ Try.func55 (by kernel_rfl) rfl #[Value.slice Ak nk ck] (by rfl) rfl rfl (by simp only [List.map_toArray, List.map_cons, List.map_nil]; rfl) ?_
  with_reducible refine (clone_int (hk.mono fun _ h => List.mem_append_right _ (List.mem_cons_of_mem _ (List.mem_cons_of_mem _ h))) hw1 (one_ints _) bk).mono ?_
  rintro e w2 ⟨v2, L2, rfl, hr2, hw2, he2⟩
  refine ⟨_, rfl, ?_⟩
  refine hK.out _ _ ⟨(K2.out _ _ hw2 (by simp)).1, (K2.out _ _ hw2 (by simp)).2.1, (K2.out _ _ hw2 (by simp)).2.2⟩ (fun hHeld => ?_)
  clear hK K
  refine norm_ (a' := ?_) ?_ ?_
  rotate_left
  · show Act.put _ (some 23) _ = _
    simp only [Act.put, List.setIfInBounds_toArray, List.set_cons_zero, List.set_cons_succ, i64_w, i32_w]
    rfl
  refine one_ (i := 10) (N := some 27) #[true, true, true, true, true, true, true, true, true, true, true, false, true, false, false, false] rfl rfl (by kernel_rfl) (by decide) (fun K hK => ?_)
  refine goes_ Try.func56 (by kernel_rfl) rfl #[Value.slice Av nw cv] (by rfl) rfl rfl (by simp only [List.map_toArray, List.map_cons, List.map_nil]; rfl) ?_
  with_reducible refine (clone_ref (hv.mono fun _ h => List.mem_append_right _ (List.mem_append_right _ (List.mem_cons_of_mem _ (List.mem_cons_of_mem _ h)))) hw2 (one_ints _) bw).mono ?_
  rintro e w3 ⟨v3, L3, rfl, hr3, hw3, he3⟩
  refine ⟨_, rfl, ?_⟩
  obtain ⟨A1, c1, rfl⟩ := hr1.shape
  obtain ⟨A2, c2', rfl⟩ := hr2.shape
  obtain ⟨A3, c3', rfl⟩ := hr3.shape
  have f2 := FR.out _ _ hw3 (by simp) 2
  have f3 := FR.out _ _ hw3 (by simp) 3
  have f4 := FR.out _ _ hw3 (by simp) 4
  refine hK.out _ _ ⟨(K2.out _ _ hw3 (by simp)).1, (K2.out _ _ hw3 (by simp)).2.1, (K2.out _ _ hw3 (by simp)).2.2⟩ (fun hHeld => ?_)
  clear hK K
  refine norm_ (a' := ?_) ?_ ?_
  rotate_left
  · show Act.put _ (some 27) _ = _
    simp only [Act.put, List.setIfInBounds_toArray, List.set_cons_zero, List.set_cons_succ, i64_w, i32_w]
    rfl
  refine pure_ (i := 11) (N := some 28) (v := ?_) (a' := ?_) #[true, true, true, true, true, true, true, true, true, true, true, true, true, false, false, false] rfl rfl (by kernel_rfl) (fun _ _ _ h => h) (Or.inl ⟨by rfl, ?_⟩) ?_ ?_
  rotate_left
  · intro w'
    go_simp
    with_reducible rfl
  rotate_left
  · simp only [Act.put, List.setIfInBounds_toArray, List.set_cons_zero, List.set_cons_succ, i64_w, i32_w]
    rfl
  refine last_ (i := 13) (N := none) #[true, true, true, true, true, true, true, true, true, true, true, true, true, true, false, false] rfl rfl (by kernel_rfl) (by decide) (fun K hK => ?_)
  refine skip_ (w1 := ?_) (by rfl) rfl ?_ ?_
  rotate_left
  · go_simp
    rfl
  refine hK.out _ _ ?_
  clear hK K
  refine pure_ (i := 14) (N := some 30) (v := ?_) (a' := ?_) #[true, true, true, true, true, true, true, true, true, true, true, true, true, true, true, false] rfl rfl (by kernel_rfl) (fun _ _ _ h => h) (Or.inl ⟨by rfl, ?_⟩) ?_ ?_
  rotate_left
  · intro w'
    go_simp
    with_reducible rfl
  rotate_left
  · simp only [Act.put, List.setIfInBounds_toArray, List.set_cons_zero, List.set_cons_succ, i64_w, i32_w]
    rfl
  refine last_ (i := 15) (N := none) #[true, true, true, true, true, true, true, true, true, true, true, true, true, true, true, true] rfl rfl (by kernel_rfl) (by decide) (fun K hK => ?_)
  refine skip_ (w1 := ?_) (by rfl) rfl ?_ ?_
  rotate_left
  · go_simp
    rfl
  refine hK.out _ _ ?_
  clear hK K
  refine done_ (by kernel_rfl) ?_
  have hw4 := (((hw3.perm (L' := (b4 + 1, Obj.cells #[Value.bool b0, Value.bool b1, Value.slice Ap np cp, Value.slice Ak nk ck, Value.slice Av nw cv] 69) :: (b4, Obj.cells #[Value.bool false, Value.bool false, Value.slice none 0 0, Value.slice none 0 0, Value.slice none 0 0] 69) :: (L3 ++ (L2 ++ (L1 ++ R)))) (perm_of_count fun x => by simp only [List.count_append, List.count_cons, List.count_nil, arenaObj, slotObj, nodeObj, worldObj]; omega)).set 2 (Value.slice A1 np c1)).set 3 (Value.slice A2 nk c2')).set 4 (Value.slice A3 nw c3')
  have he4 := ((((((hE.drew).trans he1).trans he2).trans he3).setCell ⟨b4 + 1, 2, none⟩ (Value.slice A1 np c1)).setCell ⟨b4 + 1, 3, none⟩ (Value.slice A2 nk c2')).setCell ⟨b4 + 1, 4, none⟩ (Value.slice A3 nw c3')
  generalize ((w3.setCell ⟨b4 + 1, 2, none⟩ (Value.slice A1 np c1)).setCell ⟨b4 + 1, 3, none⟩ (Value.slice A2 nk c2')).setCell ⟨b4 + 1, 4, none⟩ (Value.slice A3 nw c3') = W4 at hw4 he4 ⊢
  have m1 := hw4.blk (List.mem_cons_self ..)
  have m2 := hw4.blk (List.mem_cons_of_mem _ (List.mem_cons_self ..))
  obtain ⟨m1, _⟩ := m1
  obtain ⟨m2, m3⟩ := m2
  clear f2 f3 f4 hHeld K2 FR
  go_wp2
  have hw5 := (((((hw4.perm (L' := (b4, Obj.cells #[Value.bool false, Value.bool false, Value.slice none 0 0, Value.slice none 0 0, Value.slice none 0 0] 69) :: (b4 + 1, Obj.cells #[Value.bool b0, Value.bool b1, Value.slice A1 np c1, Value.slice A2 nk c2', Value.slice A3 nw c3'] 69) :: (L3 ++ (L2 ++ (L1 ++ R)))) (List.Perm.swap ..)).set 0 (Value.bool b0)).set 1 (Value.bool b1)).set 2 (Value.slice A1 np c1)).set 3 (Value.slice A2 nk c2')).set 4 (Value.slice A3 nw c3')
  have he5 := (((((he4.setCell ⟨b4, 0, none⟩ (Value.bool b0)).setCell ⟨b4, 1, none⟩ (Value.bool b1)).setCell ⟨b4, 2, none⟩ (Value.slice A1 np c1))).setCell ⟨b4, 3, none⟩ (Value.slice A2 nk c2')).setCell ⟨b4, 4, none⟩ (Value.slice A3 nw c3')
  generalize ((((W4.setCell ⟨b4, 0, none⟩ (Value.bool b0)).setCell ⟨b4, 1, none⟩ (Value.bool b1)).setCell ⟨b4, 2, none⟩ (Value.slice A1 np c1)).setCell ⟨b4, 3, none⟩ (Value.slice A2 nk c2')).setCell ⟨b4, 4, none⟩ (Value.slice A3 nw c3') = W5 at hw5 he5 ⊢
  obtain ⟨m5, _⟩ := hw5.blk (List.mem_cons_self ..)
  refine bodyPost_ret (v := .agg #[.bool b0, .bool b1, Value.slice A1 np c1, Value.slice A2 nk c2', Value.slice A3 nw c3']) (by simp [results, Try.results32, go_sem, m5]) rfl ?_
  exact ⟨_, _, _, L1, L2, L3, rfl, hr1, hr2, hr3, hw5.tail.tail, he5⟩
end Go.Proofs.Ytjkfigkgeoacfaa
