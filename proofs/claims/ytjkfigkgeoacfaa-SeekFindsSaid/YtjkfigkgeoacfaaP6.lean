import Derived.Test.YtjkfigkgeoacfaaP5
set_option linter.unusedVariables false
set_option linter.unusedSimpArgs false
namespace Go.Proofs.Ytjkfigkgeoacfaa
open Go.RowKit Go.Proofs.YtjkfigkgeoacfaaW.PrintLast

theorem flat_len {css : List (List Value)} (h : ∀ cs ∈ css, cs.length = 10) : css.flatten.length = css.length * 10 := by
  induction css with
  | nil => rfl
  | cons c css ih =>
    simp only [List.flatten_cons, List.length_append, List.length_cons]
    rw [h c (List.mem_cons_self ..), ih fun cs hm => h cs (List.mem_cons_of_mem _ hm)]
    omega
theorem SlotsRep.set_ten {R : HL} {ss : List ASlot} {css : List (List Value)} {L : HL} (h : SlotsRep R ss css L) {i : Nat} {cs' : List Value} (h' : cs'.length = 10) : ∀ cs ∈ css.set i cs', cs.length = 10 := by
  intro cs hm
  rcases List.mem_or_eq_of_mem_set hm with hm | rfl
  · exact h.ten cs hm
  · exact h'
/-- One element of a row of tens written anew. -/
theorem slots_store {cur cur1 cur2 : Array Value} {off N i : Nat} {F cs' : List Value} {v : Value} (h : (cur.toList.drop off).take (N * 10) = F) (_ : True) (hi : i < N) (h1 : cur1 = cur.setIfInBounds (off + i * 10 + 8) v) (hc : cs'.length = 10)
    (h2 : cur2.toList = cur1.toList.take (off + i * 10) ++ cs' ++ cur1.toList.drop (off + i * 10 + cs'.length)) (hs : off + i * 10 + 10 ≤ cur.size) :
    (cur2.toList.drop off).take (N * 10) = F.take (i * 10) ++ cs' ++ F.drop (i * 10 + 10) := by
  subst h h1
  apply List.ext_getElem?
  intro j
  rw [h2, hc]
  simp only [List.getElem?_take, List.getElem?_drop, List.getElem?_append, List.length_take, List.length_append, List.length_drop, Array.toList_setIfInBounds, List.length_set, Array.length_toList, List.getElem?_set]
  by_cases a : j < i * 10
  · have e1 : off + j < off + i * 10 := by omega
    have e2 : j < N * 10 := by omega
    have e3 : off + j < min (off + i * 10) cur.size + cs'.length := by omega
    have e4 : off + j < min (off + i * 10) cur.size := by omega
    have e5 : ¬ off + i * 10 + 8 = off + j := by omega
    have e6 : j < min (i * 10) (min (N * 10) (cur.size - off)) + cs'.length := by omega
    have e7 : j < min (i * 10) (min (N * 10) (cur.size - off)) := by omega
    simp [e1, e2, e3, e4, e5, e6, e7, a]
  · by_cases b : j < i * 10 + 10
    · have e2 : j < N * 10 := by omega
      have e3 : off + j < min (off + i * 10) cur.size + cs'.length := by omega
      have e4 : ¬ off + j < min (off + i * 10) cur.size := by omega
      have e6 : j < min (i * 10) (min (N * 10) (cur.size - off)) + cs'.length := by omega
      have e7 : ¬ j < min (i * 10) (min (N * 10) (cur.size - off)) := by omega
      have e8 : off + j - min (off + i * 10) cur.size = j - min (i * 10) (min (N * 10) (cur.size - off)) := by omega
      simp [e2, e3, e4, e6, e7, e8]
    · have e3 : ¬ off + j < min (off + i * 10) cur.size + cs'.length := by omega
      have e6 : ¬ j < min (i * 10) (min (N * 10) (cur.size - off)) + cs'.length := by omega
      have e8 : off + i * 10 + 10 + (off + j - (min (off + i * 10) cur.size + cs'.length)) = off + j := by omega
      have e9 : i * 10 + 10 + (j - (min (i * 10) (min (N * 10) (cur.size - off)) + cs'.length)) = j := by omega
      have e5 : ¬ off + i * 10 + 8 = off + j := by omega
      simp only [e3, e6, e8, e9, e5, if_false]

set_option maxRecDepth 100000 in
set_option maxHeartbeats 2000000 in
theorem alloc_B {R R2 : HL} {a : Nat} {A : AArena} {L : HL} (hA : ArenaRep R a A L) (hO : A.Ok) {w : World} (hw : Has w (L ++ R2)) {n : ANode} {pv kv wv : Value} (hn : NodeRep R2 n pv kv wv)
    (hz1 : n.pairs.length ≤ 60000) (hz2 : n.keys.length ≤ 60000) (hz3 : n.ways.length ≤ 60000) (hu0 : 0 ≤ A.used) (hlt : A.used < A.most) (hmost : A.most ≤ 65536)
    (hfr : A.free = []) (hlen : A.slots.length ≤ 65535) :
    Calls Try.prog 60 #[.pointer (some ⟨a, 0, none⟩), nodeV n pv kv wv] w fun e w' =>
      ∃ L' N, e = .returned (.tuple #[.int .i64 (refOf A.slots.length 1), .bool true]) ∧
        ArenaRep (N ++ R) a { A with slots := A.slots ++ [⟨n, n.ways, 0, false, 1, true⟩], free := [], used := A.used + 1 } L' ∧ Has w' (L' ++ (N ++ R2)) ∧ Ext w w' := by
  obtain ⟨sv, fv, css, Ls, Lf, Lw, rfl, hs, hf, hl⟩ := hA
  obtain ⟨_, Ap, cp, rfl, _⟩ := id hn.p
  obtain ⟨_, Ak, ck, rfl, _⟩ := id hn.k
  obtain ⟨_, Av, cv, rfl, _⟩ := id hn.w
  rw [hfr, List.length_nil] at hf
  obtain ⟨Af, cfp, rfl⟩ := hf.shape
  obtain ⟨As, cas, rfl⟩ := hs.shape
  have Hfr := Lib.hid hfr
  clear hfr
  go_enter Try.func60, Try.ntmps60
  go_wp2_with fail
  have hW := hw.alloc (nodeObj n.inner n.tagged (.slice Ap n.pairs.length cp) (.slice Ak n.keys.length ck) (.slice Av n.ways.length cv))
  have hE := (Ext.refl w).alloc (nodeObj n.inner n.tagged (.slice Ap n.pairs.length cp) (.slice Ak n.keys.length ck) (.slice Av n.ways.length cv))
  generalize hEq : World.alloc _ _ = W1
  rw [hEq] at hW hE
  generalize w.heap.size = b3 at hW ⊢
  obtain ⟨ca, fa⟩ := hW.blk (b := a) (t := 98) (c := #[.slice As A.slots.length cas, .slice Af 0 cfp, .int .i64 A.most, .int .i64 A.used, .int .i64 A.faults]) (by simp)
  clear hEq
  refine start_ (n := 13) (S := fun w' => w'.cell? ⟨a, 2, none⟩ = some (.int .i64 A.most) ∧ w'.cell? ⟨a, 3, none⟩ = some (.int .i64 A.used)) (ds := []) #[false, false, false, false, false, false, false, false, false, false, false, false, false] (by kernel_rfl) rfl rfl ⟨ca 2, ca 3⟩ (fun hHeld => ?_)
  refine pure_ (i := 0) (N := some 8) (v := ?_) (a' := ?_) #[true, false, false, false, false, false, false, false, false, false, false, false, false] rfl rfl (by kernel_rfl) (fun _ _ _ h => h) (Or.inl ⟨by rfl, ?_⟩) ?_ ?_
  rotate_left
  · intro w'
    go_simp
    with_reducible rfl
  rotate_left
  · simp only [Act.put, List.setIfInBounds_toArray, List.set_cons_zero, List.set_cons_succ, i64_w, i32_w]
    rfl
  refine pure_ (i := 1) (N := some 9) (v := ?_) (a' := ?_) #[true, true, false, false, false, false, false, false, false, false, false, false, false] rfl rfl (by kernel_rfl) (fun _ _ _ h => h) (Or.inl ⟨by rfl, ?_⟩) ?_ ?_
  rotate_left
  · intro w'
    go_simp
    with_reducible rfl
  rotate_left
  · simp only [Act.put, List.setIfInBounds_toArray, List.set_cons_zero, List.set_cons_succ, i64_w, i32_w]
    rfl
  refine pure_ (i := 2) (N := some 10) (v := ?_) (a' := ?_) #[true, true, true, false, false, false, false, false, false, false, false, false, false] rfl rfl (by kernel_rfl) (fun _ _ _ h => h) (Or.inl ⟨by rfl, ?_⟩) ?_ ?_
  rotate_left
  · intro w'
    go_simp
    with_reducible rfl
  rotate_left
  · simp only [Act.put, List.setIfInBounds_toArray, List.set_cons_zero, List.set_cons_succ, i64_w, i32_w]
    rfl
  refine pure_ (i := 3) (N := some 11) (v := ?_) (a' := ?_) #[true, true, true, true, false, false, false, false, false, false, false, false, false] rfl rfl (by kernel_rfl) (fun _ _ _ h => h) (Or.inl ⟨by rfl, ?_⟩) ?_ ?_
  rotate_left
  · intro w'
    go_simp
    with_reducible rfl
  rotate_left
  · simp only [Act.put, List.setIfInBounds_toArray, List.set_cons_zero, List.set_cons_succ, i64_w, i32_w]
    rfl
  refine pure_ (i := 4) (N := some 12) (v := ?_) (a' := ?_) #[true, true, true, true, true, false, false, false, false, false, false, false, false] rfl rfl (by kernel_rfl) (fun _ _ _ h => h) (Or.inl ⟨by rfl, ?_⟩) ?_ ?_
  rotate_left
  · intro w'
    go_simp
    with_reducible rfl
  rotate_left
  · simp only [Act.put, List.setIfInBounds_toArray, List.set_cons_zero, List.set_cons_succ, i64_w, i32_w]
    rfl
  refine pure_ (i := 5) (N := some 13) (v := ?_) (a' := ?_) #[true, true, true, true, true, true, false, false, false, false, false, false, false] rfl rfl (by kernel_rfl) (fun _ _ _ h => h) (Or.inl ⟨by rfl, ?_⟩) ?_ ?_
  rotate_left
  · intro w'
    go_simp
    with_reducible rfl
  rotate_left
  · simp only [Act.put, List.setIfInBounds_toArray, List.set_cons_zero, List.set_cons_succ, i64_w, i32_w]
    rfl
  refine pure_ (i := 7) (N := some 15) (v := ?_) (a' := ?_) #[true, true, true, true, true, true, false, true, false, false, false, false, false] rfl rfl (by kernel_rfl) (fun _ _ _ h => h) (Or.inl ⟨by rfl, ?_⟩) ?_ ?_
  rotate_left
  · intro w'
    go_simp
    with_reducible rfl
  rotate_left
  · simp only [Act.put, List.setIfInBounds_toArray, List.set_cons_zero, List.set_cons_succ, i64_w, i32_w]
    rfl
  refine pure_ (i := 8) (N := some 16) (v := ?_) (a' := ?_) #[true, true, true, true, true, true, false, true, true, false, false, false, false] rfl rfl (by kernel_rfl) (fun _ _ _ h => h) (Or.inl ⟨by rfl, ?_⟩) ?_ ?_
  rotate_left
  · intro w'
    go_simp
    with_reducible rfl
  rotate_left
  · simp only [Act.put, List.setIfInBounds_toArray, List.set_cons_zero, List.set_cons_succ, i64_w, i32_w]
    rfl
  refine pure_ (i := 9) (N := some 17) (v := ?_) (a' := ?_) #[true, true, true, true, true, true, false, true, true, true, false, false, false] rfl rfl (by kernel_rfl) (fun _ _ _ h => h) (Or.inl ⟨by rfl, ?_⟩) ?_ ?_
  rotate_left
  · intro w'
    go_simp
    with_reducible rfl
  rotate_left
  · simp only [Act.put, List.setIfInBounds_toArray, List.set_cons_zero, List.set_cons_succ, i64_w, i32_w]
    rfl
  refine take_ (i := 6) (N := some 14) (v := ?_) (a' := ?_) #[true, true, true, true, true, true, true, true, true, true, false, false, false] rfl rfl (by kernel_rfl) (fun _ _ _ h => h) (Or.inl ⟨by rfl, ?_⟩) hHeld ?_ ?_
  rotate_left
  · rintro w' ⟨s0, s1⟩
    go_simp
    with_reducible rfl
  rotate_left
  · simp only [Act.put, List.setIfInBounds_toArray, List.set_cons_zero, List.set_cons_succ, i64_w, i32_w]
    rfl
  refine take_ (i := 10) (N := some 18) (v := ?_) (a' := ?_) #[true, true, true, true, true, true, true, true, true, true, true, false, false] rfl rfl (by kernel_rfl) (fun _ _ _ h => h) (Or.inl ⟨by rfl, ?_⟩) hHeld ?_ ?_
  rotate_left
  · rintro w' ⟨s0, s1⟩
    go_simp
    with_reducible rfl
  rotate_left
  · simp only [Act.put, List.setIfInBounds_toArray, List.set_cons_zero, List.set_cons_succ, i64_w, i32_w]
    rfl
  refine pure_ (i := 11) (N := some 19) (v := ?_) (a' := ?_) #[true, true, true, true, true, true, true, true, true, true, true, true, false] rfl rfl (by kernel_rfl) (fun _ _ _ h => h) (Or.inl ⟨by rfl, ?_⟩) ?_ ?_
  rotate_left
  · intro w'
    go_simp
    with_reducible rfl
  rotate_left
  · simp only [Act.put, List.setIfInBounds_toArray, List.set_cons_zero, List.set_cons_succ, i64_w, i32_w]
    rfl
  refine pure_ (i := 12) (N := some 20) (v := ?_) (a' := ?_) #[true, true, true, true, true, true, true, true, true, true, true, true, true] rfl rfl (by kernel_rfl) (fun _ _ _ h => h) (Or.inl ⟨by rfl, ?_⟩) ?_ ?_
  rotate_left
  · intro w'
    go_simp
    with_reducible rfl
  rotate_left
  · simp only [Act.put, List.setIfInBounds_toArray, List.set_cons_zero, List.set_cons_succ, i64_w, i32_w]
    rfl
  refine done_ (by kernel_rfl) ?_
  have hwB : Has (W1.alloc (slotObj #[.bool false, .bool false, .slice none 0 0, .slice none 0 0, .slice none 0 0, .slice none 0 0, .int .i64 0, .bool false, .int .u32 0, .bool false])).drew
      (Ls ++ ((a, arenaObj (.slice As A.slots.length cas) (.slice Af 0 cfp) A.most A.used A.faults) :: (b3, nodeObj n.inner n.tagged (.slice Ap n.pairs.length cp) (.slice Ak n.keys.length ck) (.slice Av n.ways.length cv)) :: (W1.heap.size, slotObj #[.bool false, .bool false, .slice none 0 0, .slice none 0 0, .slice none 0 0, .slice none 0 0, .int .i64 0, .bool false, .int .u32 0, .bool false]) :: (Lf ++ (Lw ++ R2)))) :=
    (hW.alloc _).drew.perm (perm_of_count fun x => by simp only [List.count_append, List.count_cons, List.count_nil, arenaObj, slotObj, nodeObj, worldObj]; omega)
  have hsB : Src (W1.alloc (slotObj #[.bool false, .bool false, .slice none 0 0, .slice none 0 0, .slice none 0 0, .slice none 0 0, .int .i64 0, .bool false, .int .u32 0, .bool false])).drew (.slice (some ⟨W1.heap.size, 0, none⟩) 1 1) 10 1 (slotCells zslot (.slice none 0 0) (.slice none 0 0) (.slice none 0 0) (.slice none 0 0)) :=
    Src.of_block (fr := (0, 0)) (hwB.get W1.heap.size (slotObj #[.bool false, .bool false, .slice none 0 0, .slice none 0 0, .slice none 0 0, .slice none 0 0, .int .i64 0, .bool false, .int .u32 0, .bool false]) (by simp)) rfl (by intro u hu; simp only [slotCells, List.mem_cons, List.not_mem_nil, or_false] at hu; rcases hu with rfl | rfl | rfl | rfl | rfl | rfl | rfl | rfl | rfl | rfl <;> rfl)
  have H63 : Hid (A.slots.length + 1 ≤ maxLen) := Lib.hid (by simp [maxLen]; omega)
  have HwB := Lib.hid hwB
  clear hwB
  go_wp2_with (at_builtin; refine wpList_append_row rfl (.tmp 50) (.tmp 52) 95 rfl el_slot hs HwB.out rfl hsB H63.out ?h2 ?h3)
  case h2 => omega
  intro v' w2 Ls' hr hh he
  obtain ⟨g, off, cap, cur, rfl, rfl, hg1, hg2, hg3, hg4⟩ := row_some hr (by omega)
  clear ca fa
  obtain ⟨ca, fa⟩ := hh.blk (b := a) (t := 98) (c := #[.slice As A.slots.length cas, .slice Af 0 cfp, .int .i64 A.most, .int .i64 A.used, .int .i64 A.faults]) (by simp)
  have Hg := Lib.hid (And.intro hg3 hg4)
  clear hg3 hg4
  go_wp2_with fail
  obtain ⟨hg3, hg4⟩ := Hg.out
  generalize hEq : World.setCell _ _ _ = W2
  have hW2 : Has W2 ((a, arenaObj (.slice (some ⟨g, off, none⟩) (A.slots.length + 1) cap) (.slice Af 0 cfp) A.most A.used A.faults) :: (g, slotObj cur) :: (b3, nodeObj n.inner n.tagged (.slice Ap n.pairs.length cp) (.slice Ak n.keys.length ck) (.slice Av n.ways.length cv)) :: (Lf ++ (Lw ++ R2))) := by
    rw [← hEq]
    exact ((hh.perm (L' := (a, arenaObj (.slice As A.slots.length cas) (.slice Af 0 cfp) A.most A.used A.faults) :: (g, slotObj cur) :: (b3, nodeObj n.inner n.tagged (.slice Ap n.pairs.length cp) (.slice Ak n.keys.length ck) (.slice Av n.ways.length cv)) :: (W1.heap.size, slotObj #[.bool false, .bool false, .slice none 0 0, .slice none 0 0, .slice none 0 0, .slice none 0 0, .int .i64 0, .bool false, .int .u32 0, .bool false]) :: (Lf ++ (Lw ++ R2))) (perm_of_count fun x => by simp only [List.count_append, List.count_cons, List.count_nil, arenaObj, slotObj, nodeObj, worldObj]; omega)).set 0 _).sub
      (List.Sublist.cons_cons _ (List.Sublist.cons_cons _ (List.Sublist.cons_cons _ (List.sublist_cons_self _ _))))
  have hE2 : Ext w W2 := by rw [← hEq]; exact (((hE.alloc _).drew).trans he).setCell _ _
  clear hEq ca fa HwB hsB hh
  have hFl := flat_len hl.ten
  rw [hl.len] at hFl
  have e := fun k v (hv : (slotCells zslot (.slice none 0 0) (.slice none 0 0) (.slice none 0 0) (.slice none 0 0))[k]? = some v) => (show cur[off + A.slots.length * 10 + k]? = some v from by
    rw [Nat.add_assoc]
    refine row_at hg4 ?_
    rw [List.getElem?_append_right (by omega), hFl]
    have : A.slots.length * 10 + k - A.slots.length * 10 = k := by omega
    rw [this]
    exact hv)
  have HFl := Lib.hid hFl
  clear hFl
  have e0 := e 0 _ rfl
  have e1 := e 1 _ rfl
  have e2 := e 2 _ rfl
  have e3 := e 3 _ rfl
  have e4 := e 4 _ rfl
  have e5 := e 5 _ rfl
  have e6 := e 6 _ rfl
  have e7 := e 7 _ rfl
  have e8 := e 8 _ rfl
  have e9 := e 9 _ rfl
  clear e
  obtain ⟨ca, fa⟩ := hW2.blk (b := a) (List.mem_cons_self ..)
  try go_wp2_with fail
  clear ca fa
  obtain ⟨cb, fb⟩ := hW2.blk (b := b3) (List.mem_cons_of_mem _ (List.mem_cons_of_mem _ (List.mem_cons_self ..)))
  have kb : ∀ (w' : World) (L : HL), Has w' L → (b3, nodeObj n.inner n.tagged (.slice Ap n.pairs.length cp) (.slice Ak n.keys.length ck) (.slice Av n.ways.length cv)) ∈ L →
      (w'.cell? ⟨b3, 2, none⟩ = some (.slice Ap n.pairs.length cp) ∧ w'.cell? ⟨b3, 3, none⟩ = some (.slice Ak n.keys.length ck) ∧ w'.cell? ⟨b3, 4, none⟩ = some (.slice Av n.ways.length cv)) ∧ ∀ j, w'.frozen? ⟨b3, j, none⟩ = false :=
    fun _ _ h hm => ⟨⟨(h.cell hm 2).trans rfl, (h.cell hm 3).trans rfl, (h.cell hm 4).trans rfl⟩, h.free hm⟩
  have KB := Lib.hid kb
  clear kb
  refine start_ (n := 16) (S := fun w' => w'.cell? ⟨b3, 2, none⟩ = some (.slice Ap n.pairs.length cp) ∧ w'.cell? ⟨b3, 3, none⟩ = some (.slice Ak n.keys.length ck) ∧ w'.cell? ⟨b3, 4, none⟩ = some (.slice Av n.ways.length cv)) (ds := [13, 15]) #[false, false, false, false, false, false, false, false, false, false, false, false, false, false, false, false] (by kernel_rfl) rfl rfl ⟨cb 2, cb 3, cb 4⟩ (fun hHeld => ?_)
  refine pure_ (i := 0) (N := some 62) (v := ?_) (a' := ?_) #[true, false, false, false, false, false, false, false, false, false, false, false, false, false, false, false] rfl rfl (by kernel_rfl) (fun _ _ _ h => h) (Or.inl ⟨by rfl, ?_⟩) ?_ ?_
  rotate_left
  · intro w'
    go_simp
    with_reducible rfl
  rotate_left
  · simp only [Act.put, List.setIfInBounds_toArray, List.set_cons_zero, List.set_cons_succ, i64_w, i32_w]
    rfl
  refine pure_ (i := 3) (N := some 65) (v := ?_) (a' := ?_) #[true, false, false, true, false, false, false, false, false, false, false, false, false, false, false, false] rfl rfl (by kernel_rfl) (fun _ _ _ h => h) (Or.inl ⟨by rfl, ?_⟩) ?_ ?_
  rotate_left
  · intro w'
    go_simp
    with_reducible rfl
  rotate_left
  · simp only [Act.put, List.setIfInBounds_toArray, List.set_cons_zero, List.set_cons_succ, i64_w, i32_w]
    rfl
  refine pure_ (i := 4) (N := some 66) (v := ?_) (a' := ?_) #[true, false, false, true, true, false, false, false, false, false, false, false, false, false, false, false] rfl rfl (by kernel_rfl) (fun _ _ _ h => h) (Or.inl ⟨by rfl, ?_⟩) ?_ ?_
  rotate_left
  · intro w'
    go_simp
    with_reducible rfl
  rotate_left
  · simp only [Act.put, List.setIfInBounds_toArray, List.set_cons_zero, List.set_cons_succ, i64_w, i32_w]
    rfl
  refine pure_ (i := 7) (N := some 69) (v := ?_) (a' := ?_) #[true, false, false, true, true, false, false, true, false, false, false, false, false, false, false, false] rfl rfl (by kernel_rfl) (fun _ _ _ h => h) (Or.inl ⟨by rfl, ?_⟩) ?_ ?_
  rotate_left
  · intro w'
    go_simp
    with_reducible rfl
  rotate_left
  · simp only [Act.put, List.setIfInBounds_toArray, List.set_cons_zero, List.set_cons_succ, i64_w, i32_w]
    rfl
  refine pure_ (i := 8) (N := some 70) (v := ?_) (a' := ?_) #[true, false, false, true, true, false, false, true, true, false, false, false, false, false, false, false] rfl rfl (by kernel_rfl) (fun _ _ _ h => h) (Or.inl ⟨by rfl, ?_⟩) ?_ ?_
  rotate_left
  · intro w'
    go_simp
    with_reducible rfl
  rotate_left
  · simp only [Act.put, List.setIfInBounds_toArray, List.set_cons_zero, List.set_cons_succ, i64_w, i32_w]
    rfl
  refine take_ (i := 1) (N := some 63) (v := ?_) (a' := ?_) #[true, true, false, true, true, false, false, true, true, false, false, false, false, false, false, false] rfl rfl (by kernel_rfl) (fun _ _ _ h => h) (Or.inl ⟨by rfl, ?_⟩) hHeld ?_ ?_
  rotate_left
  · rintro w' ⟨s0, s1, s2⟩
    go_simp
    with_reducible rfl
  rotate_left
  · simp only [Act.put, List.setIfInBounds_toArray, List.set_cons_zero, List.set_cons_succ, i64_w, i32_w]
    rfl
  refine take_ (i := 5) (N := some 67) (v := ?_) (a' := ?_) #[true, true, false, true, true, true, false, true, true, false, false, false, false, false, false, false] rfl rfl (by kernel_rfl) (fun _ _ _ h => h) (Or.inl ⟨by rfl, ?_⟩) hHeld ?_ ?_
  rotate_left
  · rintro w' ⟨s0, s1, s2⟩
    go_simp
    with_reducible rfl
  rotate_left
  · simp only [Act.put, List.setIfInBounds_toArray, List.set_cons_zero, List.set_cons_succ, i64_w, i32_w]
    rfl
  refine take_ (i := 9) (N := some 71) (v := ?_) (a' := ?_) #[true, true, false, true, true, true, false, true, true, true, false, false, false, false, false, false] rfl rfl (by kernel_rfl) (fun _ _ _ h => h) (Or.inl ⟨by rfl, ?_⟩) hHeld ?_ ?_
  rotate_left
  · rintro w' ⟨s0, s1, s2⟩
    go_simp
    with_reducible rfl
  rotate_left
  · simp only [Act.put, List.setIfInBounds_toArray, List.set_cons_zero, List.set_cons_succ, i64_w, i32_w]
    rfl
  refine one_ (i := 2) (N := some 64) #[true, true, true, true, true, true, false, true, true, true, false, false, false, false, false, false] rfl rfl (by kernel_rfl) (by decide) (fun K hK => ?_)
  refine goes_ Try.func54 (by kernel_rfl) rfl #[Value.slice Ap n.pairs.length cp] (by rfl) rfl rfl (by simp only [List.map_toArray, List.map_cons, List.map_nil]; rfl) ?_
  with_reducible refine (clone_leaf (R := (a, arenaObj (.slice (some ⟨g, off, none⟩) (A.slots.length + 1) cap) (.slice Af 0 cfp) A.most A.used A.faults) :: (g, slotObj cur) :: (b3, nodeObj n.inner n.tagged (.slice Ap n.pairs.length cp) (.slice Ak n.keys.length ck) (.slice Av n.ways.length cv)) :: (Lf ++ (Lw ++ R2))) (hn.p.mono (by intro p hp; simp only [List.mem_append, List.mem_cons] at hp ⊢; grind)) hW2.drew (one_pairs _) (by omega)).mono ?_
  rintro e w1 ⟨v1, L1, rfl, hr1, hw1, he1⟩
  refine ⟨_, rfl, ?_⟩
  refine hK.out _ _ ⟨(KB.out _ _ hw1 (by simp)).1.1, (KB.out _ _ hw1 (by simp)).1.2.1, (KB.out _ _ hw1 (by simp)).1.2.2⟩ (fun hHeld => ?_)
  clear hK K
  refine norm_ (a' := ?_) ?_ ?_
  rotate_left
  · show Act.put _ (some 64) _ = _
    simp only [Act.put, List.setIfInBounds_toArray, List.set_cons_zero, List.set_cons_succ, i64_w, i32_w]
    rfl
  refine pure_ (i := 12) (N := some 74) (v := ?_) (a' := ?_) #[true, true, true, true, true, true, false, true, true, true, false, false, true, false, false, false] rfl rfl (by kernel_rfl) (fun _ _ _ h => h) (Or.inl ⟨by rfl, ?_⟩) ?_ ?_
  rotate_left
  · intro w'
    go_simp
    with_reducible rfl
  rotate_left
  · simp only [Act.put, List.setIfInBounds_toArray, List.set_cons_zero, List.set_cons_succ, i64_w, i32_w]
    rfl
  refine one_ (i := 6) (N := some 68) #[true, true, true, true, true, true, true, true, true, true, false, false, true, false, false, false] rfl rfl (by kernel_rfl) (by decide) (fun K hK => ?_)
  refine goes_ Try.func55 (by kernel_rfl) rfl #[Value.slice Ak n.keys.length ck] (by rfl) rfl rfl (by simp only [List.map_toArray, List.map_cons, List.map_nil]; rfl) ?_
  with_reducible refine (clone_int (hn.k.mono (by intro p hp; simp only [List.mem_append, List.mem_cons] at hp ⊢; grind)) hw1 (one_ints _) (by omega)).mono ?_
  rintro e w2 ⟨v2, L2, rfl, hr2, hw2, he2⟩
  refine ⟨_, rfl, ?_⟩
  refine hK.out _ _ ⟨(KB.out _ _ hw2 (by simp)).1.1, (KB.out _ _ hw2 (by simp)).1.2.1, (KB.out _ _ hw2 (by simp)).1.2.2⟩ (fun hHeld => ?_)
  clear hK K
  refine norm_ (a' := ?_) ?_ ?_
  rotate_left
  · show Act.put _ (some 68) _ = _
    simp only [Act.put, List.setIfInBounds_toArray, List.set_cons_zero, List.set_cons_succ, i64_w, i32_w]
    rfl
  refine one_ (i := 10) (N := some 72) #[true, true, true, true, true, true, true, true, true, true, true, false, true, false, false, false] rfl rfl (by kernel_rfl) (by decide) (fun K hK => ?_)
  refine goes_ Try.func56 (by kernel_rfl) rfl #[Value.slice Av n.ways.length cv] (by rfl) rfl rfl (by simp only [List.map_toArray, List.map_cons, List.map_nil]; rfl) ?_
  with_reducible refine (clone_ref (hn.w.mono (by intro p hp; simp only [List.mem_append, List.mem_cons] at hp ⊢; grind)) hw2 (one_ints _) (by omega)).mono ?_
  rintro e w3 ⟨v3, L3, rfl, hr3, hw3, he3⟩
  refine ⟨_, rfl, ?_⟩
  obtain ⟨A1, c1, rfl⟩ := hr1.shape
  obtain ⟨A2, c2', rfl⟩ := hr2.shape
  obtain ⟨A3, c3', rfl⟩ := hr3.shape
  have f2 := (KB.out _ _ hw3 (by simp)).2
  refine hK.out _ _ ⟨(KB.out _ _ hw3 (by simp)).1.1, (KB.out _ _ hw3 (by simp)).1.2.1, (KB.out _ _ hw3 (by simp)).1.2.2⟩ (fun hHeld => ?_)
  clear hK K
  refine norm_ (a' := ?_) ?_ ?_
  rotate_left
  · show Act.put _ (some 72) _ = _
    simp only [Act.put, List.setIfInBounds_toArray, List.set_cons_zero, List.set_cons_succ, i64_w, i32_w]
    rfl
  refine pure_ (i := 11) (N := some 73) (v := ?_) (a' := ?_) #[true, true, true, true, true, true, true, true, true, true, true, true, true, false, false, false] rfl rfl (by kernel_rfl) (fun _ _ _ h => h) (Or.inl ⟨by rfl, ?_⟩) ?_ ?_
  rotate_left
  · intro w'
    go_simp
    with_reducible rfl
  rotate_left
  · simp only [Act.put, List.setIfInBounds_toArray, List.set_cons_zero, List.set_cons_succ, i64_w, i32_w]
    rfl
  refine last_ (i := 13) (N := none) #[true, true, true, true, true, true, true, true, true, true, true, true, true, true, false, false] rfl rfl (by kernel_rfl) (by decide) (fun K hK => ?_)
  refine skip_ (w1 := ?_) (by rfl) rfl ?_ ?_
  rotate_left
  · go_simp
    rfl
  refine hK.out _ _ ?_
  clear hK K
  refine pure_ (i := 14) (N := some 75) (v := ?_) (a' := ?_) #[true, true, true, true, true, true, true, true, true, true, true, true, true, true, true, false] rfl rfl (by kernel_rfl) (fun _ _ _ h => h) (Or.inl ⟨by rfl, ?_⟩) ?_ ?_
  rotate_left
  · intro w'
    go_simp
    with_reducible rfl
  rotate_left
  · simp only [Act.put, List.setIfInBounds_toArray, List.set_cons_zero, List.set_cons_succ, i64_w, i32_w]
    rfl
  refine last_ (i := 15) (N := none) #[true, true, true, true, true, true, true, true, true, true, true, true, true, true, true, true] rfl rfl (by kernel_rfl) (by decide) (fun K hK => ?_)
  refine skip_ (w1 := ?_) (by rfl) rfl ?_ ?_
  rotate_left
  · go_simp
    rfl
  refine hK.out _ _ ?_
  clear hK K
  refine done_ (by kernel_rfl) ?_
  clear hHeld f2 cb fb KB
  generalize hEq : World.setCell _ _ _ = W4
  have hW4 : Has W4 ((b3, nodeObj n.inner n.tagged (.slice A1 n.pairs.length c1) (.slice A2 n.keys.length c2') (.slice A3 n.ways.length c3')) :: (g, slotObj cur) :: (a, arenaObj (.slice (some ⟨g, off, none⟩) (A.slots.length + 1) cap) (.slice Af 0 cfp) A.most A.used A.faults) :: (L3 ++ (L2 ++ (L1 ++ (Lf ++ (Lw ++ R2)))))) := by
    rw [← hEq]
    exact (((hw3.perm (L' := (b3, nodeObj n.inner n.tagged (.slice Ap n.pairs.length cp) (.slice Ak n.keys.length ck) (.slice Av n.ways.length cv)) :: (g, slotObj cur) :: (a, arenaObj (.slice (some ⟨g, off, none⟩) (A.slots.length + 1) cap) (.slice Af 0 cfp) A.most A.used A.faults) :: (L3 ++ (L2 ++ (L1 ++ (Lf ++ (Lw ++ R2)))))) (perm_of_count fun x => by simp only [List.count_append, List.count_cons, List.count_nil, arenaObj, slotObj, nodeObj, worldObj]; omega)).set 2 _).set 3 _).set 4 _
  have hE4 : Ext w W4 := by rw [← hEq]; exact ((((((hE2.drew).trans he1).trans he2).trans he3).setCell _ _).setCell _ _).setCell _ _
  clear hEq
  obtain ⟨cg, fg_⟩ := hW4.blk (b := g) (List.mem_cons_of_mem _ (List.mem_cons_self ..))
  go_wp2_with fail
  clear cg fg_
  generalize hEq : World.setCell _ _ _ = W5
  have hW5 : Has W5 ((g, slotObj (cur.setIfInBounds (off + A.slots.length * 10 + 8) (.int .u32 1))) :: (b3, nodeObj n.inner n.tagged (.slice A1 n.pairs.length c1) (.slice A2 n.keys.length c2') (.slice A3 n.ways.length c3')) :: (a, arenaObj (.slice (some ⟨g, off, none⟩) (A.slots.length + 1) cap) (.slice Af 0 cfp) A.most A.used A.faults) :: (L3 ++ (L2 ++ (L1 ++ (Lf ++ (Lw ++ R2)))))) := by
    rw [← hEq]
    exact (hW4.perm (List.Perm.swap ..)).set _ _
  have hE5 : Ext w W5 := by rw [← hEq]; exact hE4.setCell _ _
  clear hEq
  have hsz : off + A.slots.length * 10 + 10 ≤ cur.size := by
    have := (Array.getElem?_eq_some_iff.1 e9).1
    omega
  obtain ⟨cur1, hcur1⟩ : ∃ c, c = cur.setIfInBounds (off + A.slots.length * 10 + 8) (.int .u32 1) := ⟨_, rfl⟩
  rw [← hcur1] at hW5
  have d8 : cur1[off + A.slots.length * 10 + 8]? = some (.int .u32 1) := by rw [hcur1, Array.getElem?_setIfInBounds, if_pos rfl, if_pos (by omega)]
  have dk : ∀ k v, k ≠ 8 → cur[off + A.slots.length * 10 + k]? = some v → cur1[off + A.slots.length * 10 + k]? = some v := by
    intro k v hk hv
    rw [hcur1, Array.getElem?_setIfInBounds_ne (by omega)]
    exact hv
  have d0 : cur1[off + A.slots.length * 10]? = _ := dk 0 _ (by omega) e0
  have d1 := dk 1 _ (by omega) e1
  have d2 := dk 2 _ (by omega) e2
  have d3 := dk 3 _ (by omega) e3
  have d4 := dk 4 _ (by omega) e4
  have d5 := dk 5 _ (by omega) e5
  have d6 := dk 6 _ (by omega) e6
  have d7 := dk 7 _ (by omega) e7
  have d9 := dk 9 _ (by omega) e9
  have Hcur1 := Lib.hid hcur1
  clear dk e0 e1 e2 e3 e4 e5 e6 e7 e8 e9 hcur1
  obtain ⟨cb, _⟩ := hW5.blk (b := b3) (List.mem_cons_of_mem _ (List.mem_cons_self ..))
  obtain ⟨cg, _⟩ := hW5.blk (b := g) (List.mem_cons_self ..)
  have kb : ∀ (w' : World) (L : HL), Has w' L → (b3, nodeObj n.inner n.tagged (.slice A1 n.pairs.length c1) (.slice A2 n.keys.length c2') (.slice A3 n.ways.length c3')) ∈ L → (g, slotObj cur1) ∈ L →
      (w'.cell? ⟨b3, 0, none⟩ = some (.bool n.inner) ∧ w'.cell? ⟨b3, 1, none⟩ = some (.bool n.tagged) ∧ w'.cell? ⟨b3, 2, none⟩ = some (.slice A1 n.pairs.length c1) ∧ w'.cell? ⟨b3, 3, none⟩ = some (.slice A2 n.keys.length c2') ∧ w'.cell? ⟨b3, 4, none⟩ = some (.slice A3 n.ways.length c3')) ∧
      w'.cell? ⟨g, off + A.slots.length * 10 + 8, none⟩ = some (.int .u32 1) :=
    fun _ _ h hm hg => ⟨⟨(h.cell hm 0).trans rfl, (h.cell hm 1).trans rfl, (h.cell hm 2).trans rfl, (h.cell hm 3).trans rfl, (h.cell hm 4).trans rfl⟩, (h.cell hg _).trans d8⟩
  have KB := Lib.hid kb
  clear kb
  refine start_ (n := 13) (S := fun w' => w'.cell? ⟨b3, 0, none⟩ = some (.bool n.inner) ∧ w'.cell? ⟨b3, 1, none⟩ = some (.bool n.tagged) ∧ w'.cell? ⟨b3, 2, none⟩ = some (.slice A1 n.pairs.length c1) ∧ w'.cell? ⟨b3, 3, none⟩ = some (.slice A2 n.keys.length c2') ∧ w'.cell? ⟨b3, 4, none⟩ = some (.slice A3 n.ways.length c3') ∧ w'.cell? ⟨g, off + A.slots.length * 10 + 8, none⟩ = some (.int .u32 1)) (ds := [12]) #[false, false, false, false, false, false, false, false, false, false, false, false, false] (by kernel_rfl) rfl rfl ⟨cb 0, cb 1, cb 2, cb 3, cb 4, (cg _).trans d8⟩ (fun hHeld => ?_)
  refine pure_ (i := 0) (N := some 83) (v := ?_) (a' := ?_) #[true, false, false, false, false, false, false, false, false, false, false, false, false] rfl rfl (by kernel_rfl) (fun _ _ _ h => h) (Or.inl ⟨by rfl, ?_⟩) ?_ ?_
  rotate_left
  · intro w'
    go_simp
    with_reducible rfl
  rotate_left
  · simp only [Act.put, List.setIfInBounds_toArray, List.set_cons_zero, List.set_cons_succ, i64_w, i32_w]
    rfl
  refine pure_ (i := 2) (N := some 85) (v := ?_) (a' := ?_) #[true, false, true, false, false, false, false, false, false, false, false, false, false] rfl rfl (by kernel_rfl) (fun _ _ _ h => h) (Or.inl ⟨by rfl, ?_⟩) ?_ ?_
  rotate_left
  · intro w'
    go_simp
    with_reducible rfl
  rotate_left
  · simp only [Act.put, List.setIfInBounds_toArray, List.set_cons_zero, List.set_cons_succ, i64_w, i32_w]
    rfl
  refine pure_ (i := 3) (N := some 86) (v := ?_) (a' := ?_) #[true, false, true, true, false, false, false, false, false, false, false, false, false] rfl rfl (by kernel_rfl) (fun _ _ _ h => h) (Or.inl ⟨by rfl, ?_⟩) ?_ ?_
  rotate_left
  · intro w'
    go_simp
    with_reducible rfl
  rotate_left
  · simp only [Act.put, List.setIfInBounds_toArray, List.set_cons_zero, List.set_cons_succ, i64_w, i32_w]
    rfl
  refine pure_ (i := 6) (N := some 89) (v := ?_) (a' := ?_) #[true, false, true, true, false, false, true, false, false, false, false, false, false] rfl rfl (by kernel_rfl) (fun _ _ _ h => h) (Or.inl ⟨by rfl, ?_⟩) ?_ ?_
  rotate_left
  · intro w'
    go_simp
    with_reducible rfl
  rotate_left
  · simp only [Act.put, List.setIfInBounds_toArray, List.set_cons_zero, List.set_cons_succ, i64_w, i32_w]
    rfl
  refine pure_ (i := 7) (N := some 90) (v := ?_) (a' := ?_) #[true, false, true, true, false, false, true, true, false, false, false, false, false] rfl rfl (by kernel_rfl) (fun _ _ _ h => h) (Or.inl ⟨by rfl, ?_⟩) ?_ ?_
  rotate_left
  · intro w'
    go_simp
    with_reducible rfl
  rotate_left
  · simp only [Act.put, List.setIfInBounds_toArray, List.set_cons_zero, List.set_cons_succ, i64_w, i32_w]
    rfl
  refine pure_ (i := 8) (N := some 91) (v := ?_) (a' := ?_) #[true, false, true, true, false, false, true, true, true, false, false, false, false] rfl rfl (by kernel_rfl) (fun _ _ _ h => h) (Or.inl ⟨by rfl, ?_⟩) ?_ ?_
  rotate_left
  · intro w'
    go_simp
    with_reducible rfl
  rotate_left
  · simp only [Act.put, List.setIfInBounds_toArray, List.set_cons_zero, List.set_cons_succ, i64_w, i32_w]
    rfl
  refine take_ (i := 1) (N := some 84) (v := ?_) (a' := ?_) #[true, true, true, true, false, false, true, true, true, false, false, false, false] rfl rfl (by kernel_rfl) (fun _ _ _ h => h) (Or.inl ⟨by rfl, ?_⟩) hHeld ?_ ?_
  rotate_left
  · rintro w' ⟨s0, s1, s2, s3, s4, s5⟩
    go_simp
    with_reducible rfl
  rotate_left
  · simp only [Act.put, List.setIfInBounds_toArray, List.set_cons_zero, List.set_cons_succ, i64_w, i32_w]
    rfl
  refine take_ (i := 4) (N := some 87) (v := ?_) (a' := ?_) #[true, true, true, true, true, false, true, true, true, false, false, false, false] rfl rfl (by kernel_rfl) (fun _ _ _ h => h) (Or.inl ⟨by rfl, ?_⟩) hHeld ?_ ?_
  rotate_left
  · rintro w' ⟨s0, s1, s2, s3, s4, s5⟩
    go_simp
    with_reducible rfl
  rotate_left
  · simp only [Act.put, List.setIfInBounds_toArray, List.set_cons_zero, List.set_cons_succ, i64_w, i32_w]
    rfl
  refine take_ (i := 9) (N := some 92) (v := ?_) (a' := ?_) #[true, true, true, true, true, false, true, true, true, true, false, false, false] rfl rfl (by kernel_rfl) (fun _ _ _ h => h) (Or.inl ⟨by rfl, ?_⟩) hHeld ?_ ?_
  rotate_left
  · rintro w' ⟨s0, s1, s2, s3, s4, s5⟩
    go_simp
    with_reducible rfl
  rotate_left
  · simp only [Act.put, List.setIfInBounds_toArray, List.set_cons_zero, List.set_cons_succ, i64_w, i32_w]
    rfl
  refine one_ (i := 5) (N := some 88) #[true, true, true, true, true, true, true, true, true, true, false, false, false] rfl rfl (by kernel_rfl) (by decide) (fun K hK => ?_)
  refine goes_ Try.func56 (by kernel_rfl) rfl #[Value.slice A3 n.ways.length c3'] (by rfl) rfl rfl (by simp only [List.map_toArray, List.map_cons, List.map_nil]; rfl) ?_
  with_reducible refine (clone_ref ((hr3.rd []).mono (by intro p hp; simp only [List.mem_append, List.mem_cons] at hp ⊢; grind)) hW5.drew (one_ints _) (by omega)).mono ?_
  rintro e w4 ⟨v4, L4, rfl, hr4, hw4, he4⟩
  refine ⟨_, rfl, ?_⟩
  obtain ⟨A4, c4, rfl⟩ := hr4.shape
  clear cb cg
  obtain ⟨cg, fgz⟩ := hw4.blk (b := g) (c := cur1) (t := 91) (by simp)
  refine hK.out _ _ ⟨(KB.out _ _ hw4 (by simp) (by simp)).1.1, (KB.out _ _ hw4 (by simp) (by simp)).1.2.1, (KB.out _ _ hw4 (by simp) (by simp)).1.2.2.1, (KB.out _ _ hw4 (by simp) (by simp)).1.2.2.2.1, (KB.out _ _ hw4 (by simp) (by simp)).1.2.2.2.2, (KB.out _ _ hw4 (by simp) (by simp)).2⟩ (fun hHeld => ?_)
  clear hK K
  refine norm_ (a' := ?_) ?_ ?_
  rotate_left
  · show Act.put _ (some 88) _ = _
    simp only [Act.put, List.setIfInBounds_toArray, List.set_cons_zero, List.set_cons_succ, i64_w, i32_w]
    rfl
  refine pure_ (i := 10) (N := some 93) (v := ?_) (a' := ?_) #[true, true, true, true, true, true, true, true, true, true, true, false, false] rfl rfl (by kernel_rfl) (fun _ _ _ h => h) (Or.inl ⟨by rfl, ?_⟩) ?_ ?_
  rotate_left
  · intro w'
    go_simp
    with_reducible rfl
  rotate_left
  · simp only [Act.put, List.setIfInBounds_toArray, List.set_cons_zero, List.set_cons_succ, i64_w, i32_w]
    rfl
  refine pure_ (i := 11) (N := some 94) (v := ?_) (a' := ?_) #[true, true, true, true, true, true, true, true, true, true, true, true, false] rfl rfl (by kernel_rfl) (fun _ _ _ h => h) (Or.inl ⟨by rfl, ?_⟩) ?_ ?_
  rotate_left
  · intro w'
    go_simp
    with_reducible rfl
  rotate_left
  · simp only [Act.put, List.setIfInBounds_toArray, List.set_cons_zero, List.set_cons_succ, i64_w, i32_w]
    rfl
  refine last_ (i := 12) (N := none) #[true, true, true, true, true, true, true, true, true, true, true, true, true] rfl rfl (by kernel_rfl) (by decide) (fun K hK => ?_)
  refine skip_ (w1 := ?_) (by rfl) rfl ?_ ?_
  rotate_left
  · go_simp
    rfl
  refine hK.out _ _ ?_
  clear hK K
  refine done_ (by kernel_rfl) ?_
  clear hHeld cg fgz KB
  generalize hEq : World.setCell _ _ _ = W7
  have hW7 : Has W7 ((g, slotObj (putCells cur1 (off + A.slots.length * 10) (slotCells ⟨n, n.ways, 0, false, 1, true⟩ (.slice A1 n.pairs.length c1) (.slice A2 n.keys.length c2') (.slice A3 n.ways.length c3') (.slice A4 n.ways.length c4)))) ::
      (a, arenaObj (.slice (some ⟨g, off, none⟩) (A.slots.length + 1) cap) (.slice Af 0 cfp) A.most A.used A.faults) :: (b3, nodeObj n.inner n.tagged (.slice A1 n.pairs.length c1) (.slice A2 n.keys.length c2') (.slice A3 n.ways.length c3')) :: (L4 ++ (L3 ++ (L2 ++ (L1 ++ (Lf ++ (Lw ++ R2))))))) := by
    rw [← hEq]
    exact ((((((((((hw4.perm (L' := (g, slotObj cur1) :: (a, arenaObj (.slice (some ⟨g, off, none⟩) (A.slots.length + 1) cap) (.slice Af 0 cfp) A.most A.used A.faults) :: (b3, nodeObj n.inner n.tagged (.slice A1 n.pairs.length c1) (.slice A2 n.keys.length c2') (.slice A3 n.ways.length c3')) :: (L4 ++ (L3 ++ (L2 ++ (L1 ++ (Lf ++ (Lw ++ R2))))))) (perm_of_count fun x => by simp only [List.count_append, List.count_cons, List.count_nil, arenaObj, slotObj, nodeObj, worldObj]; omega)).set _ _).set _ _).set _ _).set _ _).set _ _).set _ _).set _ _).set _ _).set _ _).set _ _
  have hE7 : Ext w W7 := by rw [← hEq]; exact ((((((((((((hE5.drew).trans he4).setCell _ _).setCell _ _).setCell _ _).setCell _ _).setCell _ _).setCell _ _).setCell _ _).setCell _ _).setCell _ _).setCell _ _)
  clear hEq
  have hsz1 : off + A.slots.length * 10 + 10 ≤ cur1.size := by
    have := (Array.getElem?_eq_some_iff.1 d9).1
    omega
  have hpl := putCells_toList (slotCells ⟨n, n.ways, 0, false, 1, true⟩ (.slice A1 n.pairs.length c1) (.slice A2 n.keys.length c2') (.slice A3 n.ways.length c3') (.slice A4 n.ways.length c4)) cur1 (off + A.slots.length * 10) (by simp [slotCells]; omega)
  have hps := size_putCells (slotCells ⟨n, n.ways, 0, false, 1, true⟩ (.slice A1 n.pairs.length c1) (.slice A2 n.keys.length c2') (.slice A3 n.ways.length c3') (.slice A4 n.ways.length c4)) cur1 (off + A.slots.length * 10)
  generalize hcur2 : putCells _ _ _ = cur2 at hpl hps hW7
  have d8' : cur2[off + A.slots.length * 10 + 8]? = some (.int .u32 1) := by
    rw [← Array.getElem?_toList, hpl, List.append_assoc, List.getElem?_append_right (by simp; omega), List.getElem?_append_left (by simp [slotCells]; omega)]
    have : off + A.slots.length * 10 + 8 - (List.take (off + A.slots.length * 10) cur1.toList).length = 8 := by simp; omega
    rw [this]
    rfl
  have Hpl := Lib.hid hpl
  have Hps := Lib.hid hps
  clear hpl hps hcur2 d0 d1 d2 d3 d4 d5 d6 d7 d8 d9
  obtain ⟨ca, fa⟩ := hW7.blk (b := a) (List.mem_cons_of_mem _ (List.mem_cons_self ..))
  obtain ⟨cg, _⟩ := hW7.blk (b := g) (List.mem_cons_self ..)
  go_wp2_with (go_at_call 34; refine (of_any _ _ _).mono ?_; rintro e w' ⟨rfl, rfl⟩)
  generalize hEq : World.setCell _ _ _ = W8
  have hW8 : Has W8 ((a, arenaObj (.slice (some ⟨g, off, none⟩) (A.slots.length + 1) cap) (.slice Af 0 cfp) A.most (A.used + 1) A.faults) :: (g, slotObj cur2) :: (b3, nodeObj n.inner n.tagged (.slice A1 n.pairs.length c1) (.slice A2 n.keys.length c2') (.slice A3 n.ways.length c3')) :: (L4 ++ (L3 ++ (L2 ++ (L1 ++ (Lf ++ (Lw ++ R2))))))) := by
    rw [← hEq]
    exact (hW7.perm (List.Perm.swap ..)).set 3 _
  have hE8 : Ext w W8 := by rw [← hEq]; exact hE7.setCell _ _
  have hst := slots_store (v := .int .u32 1) hg4 (by simp) (by omega) Hcur1.out (by simp [slotCells]) Hpl.out hsz
  have hsr : SlotRep ((L3 ++ (L2 ++ L1)) ++ R) ⟨n, n.ways, 0, false, 1, true⟩ (slotCells ⟨n, n.ways, 0, false, 1, true⟩ (.slice A1 n.pairs.length c1) (.slice A2 n.keys.length c2') (.slice A3 n.ways.length c3') (.slice A4 n.ways.length c4)) L4 :=
    ⟨_, _, _, _, ⟨(hr1.rd R).mono (by intro p hp; simp only [List.mem_append, List.mem_cons] at hp ⊢; grind), (hr2.rd R).mono (by intro p hp; simp only [List.mem_append, List.mem_cons] at hp ⊢; grind), (hr3.rd R).mono (by intro p hp; simp only [List.mem_append, List.mem_cons] at hp ⊢; grind)⟩, hr4, rfl⟩
  go_ret2
  refine ⟨(a, arenaObj (.slice (some ⟨g, off, none⟩) (A.slots.length + 1) cap) (.slice Af 0 cfp) A.most (A.used + 1) A.faults) :: ([(g, slotObj cur2)] ++ (Lf ++ (Lw ++ L4))), L3 ++ (L2 ++ L1), rfl, ⟨_, _, css ++ [slotCells ⟨n, n.ways, 0, false, 1, true⟩ (.slice A1 n.pairs.length c1) (.slice A2 n.keys.length c2') (.slice A3 n.ways.length c3') (.slice A4 n.ways.length c4)], [(g, slotObj cur2)], Lf, Lw ++ L4, rfl, ⟨?_, .inr ⟨g, off, cap, cur2, by simp, rfl, by simpa using hg1, hg2, ?_, ?_⟩⟩, ?_, (hl.mono (fun p => List.mem_append_right _)).snoc hsr⟩, ?_, hE8⟩
  · rw [List.flatten_append, List.length_append, HFl.out]; simp [slotCells]; omega
  · rw [Hps.out, Hcur1.out]; simpa using hg3
  · simp only [List.length_append, List.length_cons, List.length_nil]
    rw [hst, List.flatten_append, List.take_append_of_le_length (by rw [HFl.out]; omega), List.take_of_length_le (by rw [HFl.out]; omega), List.drop_eq_nil_of_le (by rw [List.length_append, HFl.out]; simp [slotCells]), List.append_nil]
    simp
  · simpa [Hfr.out] using hf
  · exact (hW8.perm (L' := ((a, arenaObj (.slice (some ⟨g, off, none⟩) (A.slots.length + 1) cap) (.slice Af 0 cfp) A.most (A.used + 1) A.faults) :: ([(g, slotObj cur2)] ++ (Lf ++ (Lw ++ L4))) ++ ((L3 ++ (L2 ++ L1)) ++ R2)) ++ ((b3, nodeObj n.inner n.tagged (.slice A1 n.pairs.length c1) (.slice A2 n.keys.length c2') (.slice A3 n.ways.length c3')) :: [])) (perm_of_count fun x => by simp only [List.count_append, List.count_cons, List.count_nil, arenaObj, slotObj, nodeObj, worldObj]; omega)).left
set_option maxRecDepth 100000 in
set_option maxHeartbeats 2000000 in
theorem alloc_A {R R2 : HL} {a : Nat} {A : AArena} {L : HL} (hA : ArenaRep R a A L) (hO : A.Ok) {w : World} (hw : Has w (L ++ R2)) {n : ANode} {pv kv wv : Value} (hn : NodeRep R2 n pv kv wv)
    (hz1 : n.pairs.length ≤ 60000) (hz2 : n.keys.length ≤ 60000) (hz3 : n.ways.length ≤ 60000) (hu0 : 0 ≤ A.used) (hlt : A.used < A.most) (hmost : A.most ≤ 65536)
    {i : Nat} {rest : List Int} {s0 : ASlot} (hfr : A.free = (i : Int) :: rest) (hi : A.slots[i]? = some s0) (hlen : True) :
    Calls Try.prog 60 #[.pointer (some ⟨a, 0, none⟩), nodeV n pv kv wv] w fun e w' =>
      ∃ L' N, e = .returned (.tuple #[.int .i64 (refOf i (s0.count + 1)), .bool true]) ∧
        ArenaRep (N ++ R) a { A with slots := A.slots.set i ⟨n, n.ways, 0, false, s0.count + 1, true⟩, free := rest, used := A.used + 1 } L' ∧ Has w' (L' ++ (N ++ R2)) ∧ Ext w w' := by
  obtain ⟨sv, fv, css, Ls, Lf, Lw, rfl, hs, hf, hl⟩ := hA
  obtain ⟨_, Ap, cp, rfl, _⟩ := id hn.p
  obtain ⟨_, Ak, ck, rfl, _⟩ := id hn.k
  obtain ⟨_, Av, cv, rfl, _⟩ := id hn.w
  rw [hfr, List.length_cons] at hf
  obtain ⟨fg, foff, fcap, fcur, rfl, rfl, hf1, hf2, hf3, hf4⟩ := row_some hf (by simp)
  have hilt : i < A.slots.length := (List.getElem?_eq_some_iff.1 hi).1
  obtain ⟨cs, Lw1, Li, Lw2, hcs, rfl, hsl, hback⟩ := hl.split hi
  obtain ⟨g, off, cap, cur, rfl, rfl, hg1, hg2, hg3, hg4⟩ := row_some hs (by omega)
  obtain ⟨fv', Lf', hfv, hfrow, hfL⟩ := run_tail1 el_Int (fg := fg) (m := rest.length) (by simpa using hf1) hf2 hf3 (by simpa using hf4) (by simp)
  obtain ⟨Af', cf', rfl⟩ := hfrow.shape
  obtain ⟨pv0, kv0, wv0, yv0, hn0, hy0, rfl⟩ := hsl
  have hcnt := hO.count s0 (List.mem_of_getElem? hi)
  have hhead : fcur[foff]? = some (.int .i64 i) := by simpa using row_at (j := 0) (u := .int .i64 i) hf4 (by simp)
  have Hfr := Lib.hid hfr
  have Hi := Lib.hid hi
  clear hfr hi hf4
  go_enter Try.func60, Try.ntmps60
  go_wp2_with fail
  have hW := hw.alloc (nodeObj n.inner n.tagged (.slice Ap n.pairs.length cp) (.slice Ak n.keys.length ck) (.slice Av n.ways.length cv))
  have hE := (Ext.refl w).alloc (nodeObj n.inner n.tagged (.slice Ap n.pairs.length cp) (.slice Ak n.keys.length ck) (.slice Av n.ways.length cv))
  generalize hEq : World.alloc _ _ = W1
  rw [hEq] at hW hE
  generalize w.heap.size = b3 at hW ⊢
  obtain ⟨ca, fa⟩ := hW.blk (b := a) (t := 98) (c := #[.slice (some ⟨g, off, none⟩) A.slots.length cap, .slice (some ⟨fg, foff, none⟩) (rest.length + 1) fcap, .int .i64 A.most, .int .i64 A.used, .int .i64 A.faults]) (by simp)
  clear hEq
  refine start_ (n := 13) (S := fun w' => w'.cell? ⟨a, 2, none⟩ = some (.int .i64 A.most) ∧ w'.cell? ⟨a, 3, none⟩ = some (.int .i64 A.used)) (ds := []) #[false, false, false, false, false, false, false, false, false, false, false, false, false] (by kernel_rfl) rfl rfl ⟨ca 2, ca 3⟩ (fun hHeld => ?_)
  refine pure_ (i := 0) (N := some 8) (v := ?_) (a' := ?_) #[true, false, false, false, false, false, false, false, false, false, false, false, false] rfl rfl (by kernel_rfl) (fun _ _ _ h => h) (Or.inl ⟨by rfl, ?_⟩) ?_ ?_
  rotate_left
  · intro w'
    go_simp
    with_reducible rfl
  rotate_left
  · simp only [Act.put, List.setIfInBounds_toArray, List.set_cons_zero, List.set_cons_succ, i64_w, i32_w]
    rfl
  refine pure_ (i := 1) (N := some 9) (v := ?_) (a' := ?_) #[true, true, false, false, false, false, false, false, false, false, false, false, false] rfl rfl (by kernel_rfl) (fun _ _ _ h => h) (Or.inl ⟨by rfl, ?_⟩) ?_ ?_
  rotate_left
  · intro w'
    go_simp
    with_reducible rfl
  rotate_left
  · simp only [Act.put, List.setIfInBounds_toArray, List.set_cons_zero, List.set_cons_succ, i64_w, i32_w]
    rfl
  refine pure_ (i := 2) (N := some 10) (v := ?_) (a' := ?_) #[true, true, true, false, false, false, false, false, false, false, false, false, false] rfl rfl (by kernel_rfl) (fun _ _ _ h => h) (Or.inl ⟨by rfl, ?_⟩) ?_ ?_
  rotate_left
  · intro w'
    go_simp
    with_reducible rfl
  rotate_left
  · simp only [Act.put, List.setIfInBounds_toArray, List.set_cons_zero, List.set_cons_succ, i64_w, i32_w]
    rfl
  refine pure_ (i := 3) (N := some 11) (v := ?_) (a' := ?_) #[true, true, true, true, false, false, false, false, false, false, false, false, false] rfl rfl (by kernel_rfl) (fun _ _ _ h => h) (Or.inl ⟨by rfl, ?_⟩) ?_ ?_
  rotate_left
  · intro w'
    go_simp
    with_reducible rfl
  rotate_left
  · simp only [Act.put, List.setIfInBounds_toArray, List.set_cons_zero, List.set_cons_succ, i64_w, i32_w]
    rfl
  refine pure_ (i := 4) (N := some 12) (v := ?_) (a' := ?_) #[true, true, true, true, true, false, false, false, false, false, false, false, false] rfl rfl (by kernel_rfl) (fun _ _ _ h => h) (Or.inl ⟨by rfl, ?_⟩) ?_ ?_
  rotate_left
  · intro w'
    go_simp
    with_reducible rfl
  rotate_left
  · simp only [Act.put, List.setIfInBounds_toArray, List.set_cons_zero, List.set_cons_succ, i64_w, i32_w]
    rfl
  refine pure_ (i := 5) (N := some 13) (v := ?_) (a' := ?_) #[true, true, true, true, true, true, false, false, false, false, false, false, false] rfl rfl (by kernel_rfl) (fun _ _ _ h => h) (Or.inl ⟨by rfl, ?_⟩) ?_ ?_
  rotate_left
  · intro w'
    go_simp
    with_reducible rfl
  rotate_left
  · simp only [Act.put, List.setIfInBounds_toArray, List.set_cons_zero, List.set_cons_succ, i64_w, i32_w]
    rfl
  refine pure_ (i := 7) (N := some 15) (v := ?_) (a' := ?_) #[true, true, true, true, true, true, false, true, false, false, false, false, false] rfl rfl (by kernel_rfl) (fun _ _ _ h => h) (Or.inl ⟨by rfl, ?_⟩) ?_ ?_
  rotate_left
  · intro w'
    go_simp
    with_reducible rfl
  rotate_left
  · simp only [Act.put, List.setIfInBounds_toArray, List.set_cons_zero, List.set_cons_succ, i64_w, i32_w]
    rfl
  refine pure_ (i := 8) (N := some 16) (v := ?_) (a' := ?_) #[true, true, true, true, true, true, false, true, true, false, false, false, false] rfl rfl (by kernel_rfl) (fun _ _ _ h => h) (Or.inl ⟨by rfl, ?_⟩) ?_ ?_
  rotate_left
  · intro w'
    go_simp
    with_reducible rfl
  rotate_left
  · simp only [Act.put, List.setIfInBounds_toArray, List.set_cons_zero, List.set_cons_succ, i64_w, i32_w]
    rfl
  refine pure_ (i := 9) (N := some 17) (v := ?_) (a' := ?_) #[true, true, true, true, true, true, false, true, true, true, false, false, false] rfl rfl (by kernel_rfl) (fun _ _ _ h => h) (Or.inl ⟨by rfl, ?_⟩) ?_ ?_
  rotate_left
  · intro w'
    go_simp
    with_reducible rfl
  rotate_left
  · simp only [Act.put, List.setIfInBounds_toArray, List.set_cons_zero, List.set_cons_succ, i64_w, i32_w]
    rfl
  refine take_ (i := 6) (N := some 14) (v := ?_) (a' := ?_) #[true, true, true, true, true, true, true, true, true, true, false, false, false] rfl rfl (by kernel_rfl) (fun _ _ _ h => h) (Or.inl ⟨by rfl, ?_⟩) hHeld ?_ ?_
  rotate_left
  · rintro w' ⟨s0, s1⟩
    go_simp
    with_reducible rfl
  rotate_left
  · simp only [Act.put, List.setIfInBounds_toArray, List.set_cons_zero, List.set_cons_succ, i64_w, i32_w]
    rfl
  refine take_ (i := 10) (N := some 18) (v := ?_) (a' := ?_) #[true, true, true, true, true, true, true, true, true, true, true, false, false] rfl rfl (by kernel_rfl) (fun _ _ _ h => h) (Or.inl ⟨by rfl, ?_⟩) hHeld ?_ ?_
  rotate_left
  · rintro w' ⟨s0, s1⟩
    go_simp
    with_reducible rfl
  rotate_left
  · simp only [Act.put, List.setIfInBounds_toArray, List.set_cons_zero, List.set_cons_succ, i64_w, i32_w]
    rfl
  refine pure_ (i := 11) (N := some 19) (v := ?_) (a' := ?_) #[true, true, true, true, true, true, true, true, true, true, true, true, false] rfl rfl (by kernel_rfl) (fun _ _ _ h => h) (Or.inl ⟨by rfl, ?_⟩) ?_ ?_
  rotate_left
  · intro w'
    go_simp
    with_reducible rfl
  rotate_left
  · simp only [Act.put, List.setIfInBounds_toArray, List.set_cons_zero, List.set_cons_succ, i64_w, i32_w]
    rfl
  refine pure_ (i := 12) (N := some 20) (v := ?_) (a' := ?_) #[true, true, true, true, true, true, true, true, true, true, true, true, true] rfl rfl (by kernel_rfl) (fun _ _ _ h => h) (Or.inl ⟨by rfl, ?_⟩) ?_ ?_
  rotate_left
  · intro w'
    go_simp
    with_reducible rfl
  rotate_left
  · simp only [Act.put, List.setIfInBounds_toArray, List.set_cons_zero, List.set_cons_succ, i64_w, i32_w]
    rfl
  refine done_ (by kernel_rfl) ?_
  obtain ⟨cf, ff⟩ := hW.blk (b := fg) (t := 3) (c := fcur) (by simp)
  go_wp2_with fail
  refine start_ (n := 16) (S := fun w' => w'.cell? ⟨a, 1, none⟩ = some (.slice (some ⟨fg, foff, none⟩) (rest.length + 1) fcap) ∧ w'.cell? ⟨fg, foff, none⟩ = some (.int .i64 i)) (ds := [15]) #[false, false, false, false, false, false, false, false, false, false, false, false, false, false, false, false] (by kernel_rfl) rfl rfl ⟨ca 1, (cf foff).trans hhead⟩ (fun hHeld => ?_)
  refine pure_ (i := 0) (N := some 32) (v := ?_) (a' := ?_) #[true, false, false, false, false, false, false, false, false, false, false, false, false, false, false, false] rfl rfl (by kernel_rfl) (fun _ _ _ h => h) (Or.inl ⟨by rfl, ?_⟩) ?_ ?_
  rotate_left
  · intro w'
    go_simp
    with_reducible rfl
  rotate_left
  · simp only [Act.put, List.setIfInBounds_toArray, List.set_cons_zero, List.set_cons_succ, i64_w, i32_w]
    rfl
  refine pure_ (i := 1) (N := some 33) (v := ?_) (a' := ?_) #[true, true, false, false, false, false, false, false, false, false, false, false, false, false, false, false] rfl rfl (by kernel_rfl) (fun _ _ _ h => h) (Or.inl ⟨by rfl, ?_⟩) ?_ ?_
  rotate_left
  · intro w'
    go_simp
    with_reducible rfl
  rotate_left
  · simp only [Act.put, List.setIfInBounds_toArray, List.set_cons_zero, List.set_cons_succ, i64_w, i32_w]
    rfl
  refine pure_ (i := 2) (N := some 34) (v := ?_) (a' := ?_) #[true, true, true, false, false, false, false, false, false, false, false, false, false, false, false, false] rfl rfl (by kernel_rfl) (fun _ _ _ h => h) (Or.inl ⟨by rfl, ?_⟩) ?_ ?_
  rotate_left
  · intro w'
    go_simp
    with_reducible rfl
  rotate_left
  · simp only [Act.put, List.setIfInBounds_toArray, List.set_cons_zero, List.set_cons_succ, i64_w, i32_w]
    rfl
  refine pure_ (i := 3) (N := some 35) (v := ?_) (a' := ?_) #[true, true, true, true, false, false, false, false, false, false, false, false, false, false, false, false] rfl rfl (by kernel_rfl) (fun _ _ _ h => h) (Or.inl ⟨by rfl, ?_⟩) ?_ ?_
  rotate_left
  · intro w'
    go_simp
    with_reducible rfl
  rotate_left
  · simp only [Act.put, List.setIfInBounds_toArray, List.set_cons_zero, List.set_cons_succ, i64_w, i32_w]
    rfl
  refine pure_ (i := 7) (N := some 39) (v := ?_) (a' := ?_) #[true, true, true, true, false, false, false, true, false, false, false, false, false, false, false, false] rfl rfl (by kernel_rfl) (fun _ _ _ h => h) (Or.inl ⟨by rfl, ?_⟩) ?_ ?_
  rotate_left
  · intro w'
    go_simp
    with_reducible rfl
  rotate_left
  · simp only [Act.put, List.setIfInBounds_toArray, List.set_cons_zero, List.set_cons_succ, i64_w, i32_w]
    rfl
  refine pure_ (i := 8) (N := some 40) (v := ?_) (a' := ?_) #[true, true, true, true, false, false, false, true, true, false, false, false, false, false, false, false] rfl rfl (by kernel_rfl) (fun _ _ _ h => h) (Or.inl ⟨by rfl, ?_⟩) ?_ ?_
  rotate_left
  · intro w'
    go_simp
    with_reducible rfl
  rotate_left
  · simp only [Act.put, List.setIfInBounds_toArray, List.set_cons_zero, List.set_cons_succ, i64_w, i32_w]
    rfl
  refine pure_ (i := 9) (N := some 41) (v := ?_) (a' := ?_) #[true, true, true, true, false, false, false, true, true, true, false, false, false, false, false, false] rfl rfl (by kernel_rfl) (fun _ _ _ h => h) (Or.inl ⟨by rfl, ?_⟩) ?_ ?_
  rotate_left
  · intro w'
    go_simp
    with_reducible rfl
  rotate_left
  · simp only [Act.put, List.setIfInBounds_toArray, List.set_cons_zero, List.set_cons_succ, i64_w, i32_w]
    rfl
  refine take_ (i := 4) (N := some 36) (v := ?_) (a' := ?_) #[true, true, true, true, true, false, false, true, true, true, false, false, false, false, false, false] rfl rfl (by kernel_rfl) (fun _ _ _ h => h) (Or.inl ⟨by rfl, ?_⟩) hHeld ?_ ?_
  rotate_left
  · rintro w' ⟨s0, s1⟩
    go_simp
    with_reducible rfl
  rotate_left
  · simp only [Act.put, List.setIfInBounds_toArray, List.set_cons_zero, List.set_cons_succ, i64_w, i32_w]
    rfl
  refine pure_ (i := 5) (N := some 37) (v := ?_) (a' := ?_) #[true, true, true, true, true, true, false, true, true, true, false, false, false, false, false, false] rfl rfl (by kernel_rfl) (fun _ _ _ h => h) (Or.inl ⟨by rfl, ?_⟩) ?_ ?_
  rotate_left
  · intro w'
    go_simp
    with_reducible rfl
  rotate_left
  · simp only [Act.put, List.setIfInBounds_toArray, List.set_cons_zero, List.set_cons_succ, i64_w, i32_w]
    rfl
  refine take_ (i := 6) (N := some 38) (v := ?_) (a' := ?_) #[true, true, true, true, true, true, true, true, true, true, false, false, false, false, false, false] rfl rfl (by kernel_rfl) (fun _ _ _ h => h) (Or.inl ⟨by rfl, ?_⟩) hHeld ?_ ?_
  rotate_left
  · rintro w' ⟨s0, s1⟩
    go_simp
    with_reducible rfl
  rotate_left
  · simp only [Act.put, List.setIfInBounds_toArray, List.set_cons_zero, List.set_cons_succ, i64_w, i32_w]
    rfl
  refine pure_ (i := 12) (N := some 6) (v := ?_) (a' := ?_) #[true, true, true, true, true, true, true, true, true, true, false, false, true, false, false, false] rfl rfl (by kernel_rfl) (fun _ _ _ h => h) (Or.inl ⟨by rfl, ?_⟩) ?_ ?_
  rotate_left
  · intro w'
    go_simp
    with_reducible rfl
  rotate_left
  · simp only [Act.put, List.setIfInBounds_toArray, List.set_cons_zero, List.set_cons_succ, i64_w, i32_w]
    rfl
  refine take_ (i := 10) (N := some 42) (v := ?_) (a' := ?_) #[true, true, true, true, true, true, true, true, true, true, true, false, true, false, false, false] rfl rfl (by kernel_rfl) (fun _ _ _ h => h) (Or.inl ⟨by rfl, ?_⟩) hHeld ?_ ?_
  rotate_left
  · rintro w' ⟨s0, s1⟩
    go_simp
    with_reducible rfl
  rotate_left
  · simp only [Act.put, List.setIfInBounds_toArray, List.set_cons_zero, List.set_cons_succ, i64_w, i32_w]
    rfl
  refine pure_ (i := 11) (N := some 43) (v := ?_) (a' := ?_) #[true, true, true, true, true, true, true, true, true, true, true, true, true, false, false, false] rfl rfl (by kernel_rfl) (fun _ _ _ h => h) (Or.inl ⟨by rfl, ?_⟩) ?_ ?_
  rotate_left
  · intro w'
    go_simp
    with_reducible rfl
  rotate_left
  · simp only [Act.put, List.setIfInBounds_toArray, List.set_cons_zero, List.set_cons_succ, i64_w, i32_w]
    rfl
  refine pure_ (i := 13) (N := some 44) (v := ?_) (a' := ?_) #[true, true, true, true, true, true, true, true, true, true, true, true, true, true, false, false] rfl rfl (by kernel_rfl) (fun _ _ _ h => h) (Or.inl ⟨by rfl, ?_⟩) ?_ ?_
  rotate_left
  · intro w'
    go_simp
    with_reducible rfl
  rotate_left
  · simp only [Act.put, List.setIfInBounds_toArray, List.set_cons_zero, List.set_cons_succ, i64_w, i32_w]
    rfl
  refine pure_ (i := 14) (N := some 45) (v := ?_) (a' := ?_) #[true, true, true, true, true, true, true, true, true, true, true, true, true, true, true, false] rfl rfl (by kernel_rfl) (fun _ _ _ h => h) (Or.inl ⟨by rfl, ?_⟩) ?_ ?_
  rotate_left
  · intro w'
    go_simp
    with_reducible rfl
  rotate_left
  · simp only [Act.put, List.setIfInBounds_toArray, List.set_cons_zero, List.set_cons_succ, i64_w, i32_w]
    rfl
  refine last_ (i := 15) (N := none) #[true, true, true, true, true, true, true, true, true, true, true, true, true, true, true, true] rfl rfl (by kernel_rfl) (by decide) (fun K hK => ?_)
  refine skip_ (w1 := ?_) (by rfl) rfl ?_ ?_
  rotate_left
  · go_simp
    rfl
  refine hK.out _ _ ?_
  clear hK K
  refine done_ (by kernel_rfl) ?_
  generalize hEq : World.setCell _ _ _ = W2
  have hW2 : Has W2 ((a, arenaObj (.slice (some ⟨g, off, none⟩) A.slots.length cap) (.slice Af' rest.length cf') A.most A.used A.faults) :: (g, slotObj cur) :: (b3, nodeObj n.inner n.tagged (.slice Ap n.pairs.length cp) (.slice Ak n.keys.length ck) (.slice Av n.ways.length cv)) :: (Lf' ++ ((Lw1 ++ (Li ++ Lw2)) ++ R2))) := by
    have q := (hW.perm (L' := (a, arenaObj (.slice (some ⟨g, off, none⟩) A.slots.length cap) (.slice (some ⟨fg, foff, none⟩) (rest.length + 1) fcap) A.most A.used A.faults) :: (g, slotObj cur) :: (b3, nodeObj n.inner n.tagged (.slice Ap n.pairs.length cp) (.slice Ak n.keys.length ck) (.slice Av n.ways.length cv)) :: ([(fg, Obj.cells fcur 3)] ++ ((Lw1 ++ (Li ++ Lw2)) ++ R2))) (perm_of_count fun x => by simp only [List.count_append, List.count_cons, List.count_nil, arenaObj, slotObj, nodeObj, worldObj]; omega)).set 1 (.slice Af' rest.length cf')
    rw [hEq] at q
    rcases hfL with rfl | rfl
    · exact q.sub (List.Sublist.cons_cons _ (List.Sublist.cons_cons _ (List.Sublist.cons_cons _ (List.sublist_append_right _ _))))
    · exact q
  have hE2 : Ext w W2 := by rw [← hEq]; exact hE.setCell _ _
  clear hEq ca fa cf ff
  obtain ⟨c0, hc0⟩ : ∃ c0, c0 = s0.count := ⟨_, rfl⟩
  have e := fun k v (hv : (slotCells s0 pv0 kv0 wv0 yv0)[k]? = some v) => (show cur[off + i * 10 + k]? = some v from by
    have hk : k < 10 := (List.getElem?_eq_some_iff.1 hv).1
    rw [Nat.add_assoc]
    refine row_at hg4 ?_
    rw [flat_at hl.ten hcs k hk]
    exact hv)
  have e0 := e 0 _ rfl
  have e1 := e 1 _ rfl
  have e2 := e 2 _ rfl
  have e3 := e 3 _ rfl
  have e4 := e 4 _ rfl
  have e5 := e 5 _ rfl
  have e6 := e 6 _ rfl
  have e7 := e 7 _ rfl
  have e8 := e 8 _ rfl
  have e9 := e 9 _ rfl
  clear e
  obtain ⟨ca, fa⟩ := hW2.blk (b := a) (List.mem_cons_self ..)
  try go_wp2_with fail
  clear ca fa
  obtain ⟨cb, fb⟩ := hW2.blk (b := b3) (List.mem_cons_of_mem _ (List.mem_cons_of_mem _ (List.mem_cons_self ..)))
  have kb : ∀ (w' : World) (L : HL), Has w' L → (b3, nodeObj n.inner n.tagged (.slice Ap n.pairs.length cp) (.slice Ak n.keys.length ck) (.slice Av n.ways.length cv)) ∈ L →
      (w'.cell? ⟨b3, 2, none⟩ = some (.slice Ap n.pairs.length cp) ∧ w'.cell? ⟨b3, 3, none⟩ = some (.slice Ak n.keys.length ck) ∧ w'.cell? ⟨b3, 4, none⟩ = some (.slice Av n.ways.length cv)) ∧ ∀ j, w'.frozen? ⟨b3, j, none⟩ = false :=
    fun _ _ h hm => ⟨⟨(h.cell hm 2).trans rfl, (h.cell hm 3).trans rfl, (h.cell hm 4).trans rfl⟩, h.free hm⟩
  have KB := Lib.hid kb
  clear kb
  refine start_ (n := 16) (S := fun w' => w'.cell? ⟨b3, 2, none⟩ = some (.slice Ap n.pairs.length cp) ∧ w'.cell? ⟨b3, 3, none⟩ = some (.slice Ak n.keys.length ck) ∧ w'.cell? ⟨b3, 4, none⟩ = some (.slice Av n.ways.length cv)) (ds := [13, 15]) #[false, false, false, false, false, false, false, false, false, false, false, false, false, false, false, false] (by kernel_rfl) rfl rfl ⟨cb 2, cb 3, cb 4⟩ (fun hHeld => ?_)
  refine pure_ (i := 0) (N := some 62) (v := ?_) (a' := ?_) #[true, false, false, false, false, false, false, false, false, false, false, false, false, false, false, false] rfl rfl (by kernel_rfl) (fun _ _ _ h => h) (Or.inl ⟨by rfl, ?_⟩) ?_ ?_
  rotate_left
  · intro w'
    go_simp
    with_reducible rfl
  rotate_left
  · simp only [Act.put, List.setIfInBounds_toArray, List.set_cons_zero, List.set_cons_succ, i64_w, i32_w]
    rfl
  refine pure_ (i := 3) (N := some 65) (v := ?_) (a' := ?_) #[true, false, false, true, false, false, false, false, false, false, false, false, false, false, false, false] rfl rfl (by kernel_rfl) (fun _ _ _ h => h) (Or.inl ⟨by rfl, ?_⟩) ?_ ?_
  rotate_left
  · intro w'
    go_simp
    with_reducible rfl
  rotate_left
  · simp only [Act.put, List.setIfInBounds_toArray, List.set_cons_zero, List.set_cons_succ, i64_w, i32_w]
    rfl
  refine pure_ (i := 4) (N := some 66) (v := ?_) (a' := ?_) #[true, false, false, true, true, false, false, false, false, false, false, false, false, false, false, false] rfl rfl (by kernel_rfl) (fun _ _ _ h => h) (Or.inl ⟨by rfl, ?_⟩) ?_ ?_
  rotate_left
  · intro w'
    go_simp
    with_reducible rfl
  rotate_left
  · simp only [Act.put, List.setIfInBounds_toArray, List.set_cons_zero, List.set_cons_succ, i64_w, i32_w]
    rfl
  refine pure_ (i := 7) (N := some 69) (v := ?_) (a' := ?_) #[true, false, false, true, true, false, false, true, false, false, false, false, false, false, false, false] rfl rfl (by kernel_rfl) (fun _ _ _ h => h) (Or.inl ⟨by rfl, ?_⟩) ?_ ?_
  rotate_left
  · intro w'
    go_simp
    with_reducible rfl
  rotate_left
  · simp only [Act.put, List.setIfInBounds_toArray, List.set_cons_zero, List.set_cons_succ, i64_w, i32_w]
    rfl
  refine pure_ (i := 8) (N := some 70) (v := ?_) (a' := ?_) #[true, false, false, true, true, false, false, true, true, false, false, false, false, false, false, false] rfl rfl (by kernel_rfl) (fun _ _ _ h => h) (Or.inl ⟨by rfl, ?_⟩) ?_ ?_
  rotate_left
  · intro w'
    go_simp
    with_reducible rfl
  rotate_left
  · simp only [Act.put, List.setIfInBounds_toArray, List.set_cons_zero, List.set_cons_succ, i64_w, i32_w]
    rfl
  refine take_ (i := 1) (N := some 63) (v := ?_) (a' := ?_) #[true, true, false, true, true, false, false, true, true, false, false, false, false, false, false, false] rfl rfl (by kernel_rfl) (fun _ _ _ h => h) (Or.inl ⟨by rfl, ?_⟩) hHeld ?_ ?_
  rotate_left
  · rintro w' ⟨s0, s1, s2⟩
    go_simp
    with_reducible rfl
  rotate_left
  · simp only [Act.put, List.setIfInBounds_toArray, List.set_cons_zero, List.set_cons_succ, i64_w, i32_w]
    rfl
  refine take_ (i := 5) (N := some 67) (v := ?_) (a' := ?_) #[true, true, false, true, true, true, false, true, true, false, false, false, false, false, false, false] rfl rfl (by kernel_rfl) (fun _ _ _ h => h) (Or.inl ⟨by rfl, ?_⟩) hHeld ?_ ?_
  rotate_left
  · rintro w' ⟨s0, s1, s2⟩
    go_simp
    with_reducible rfl
  rotate_left
  · simp only [Act.put, List.setIfInBounds_toArray, List.set_cons_zero, List.set_cons_succ, i64_w, i32_w]
    rfl
  refine take_ (i := 9) (N := some 71) (v := ?_) (a' := ?_) #[true, true, false, true, true, true, false, true, true, true, false, false, false, false, false, false] rfl rfl (by kernel_rfl) (fun _ _ _ h => h) (Or.inl ⟨by rfl, ?_⟩) hHeld ?_ ?_
  rotate_left
  · rintro w' ⟨s0, s1, s2⟩
    go_simp
    with_reducible rfl
  rotate_left
  · simp only [Act.put, List.setIfInBounds_toArray, List.set_cons_zero, List.set_cons_succ, i64_w, i32_w]
    rfl
  refine one_ (i := 2) (N := some 64) #[true, true, true, true, true, true, false, true, true, true, false, false, false, false, false, false] rfl rfl (by kernel_rfl) (by decide) (fun K hK => ?_)
  refine goes_ Try.func54 (by kernel_rfl) rfl #[Value.slice Ap n.pairs.length cp] (by rfl) rfl rfl (by simp only [List.map_toArray, List.map_cons, List.map_nil]; rfl) ?_
  with_reducible refine (clone_leaf (R := (a, arenaObj (.slice (some ⟨g, off, none⟩) A.slots.length cap) (.slice Af' rest.length cf') A.most A.used A.faults) :: (g, slotObj cur) :: (b3, nodeObj n.inner n.tagged (.slice Ap n.pairs.length cp) (.slice Ak n.keys.length ck) (.slice Av n.ways.length cv)) :: (Lf' ++ ((Lw1 ++ (Li ++ Lw2)) ++ R2))) (hn.p.mono (by intro p hp; simp only [List.mem_append, List.mem_cons] at hp ⊢; grind)) hW2.drew.drew.drew (one_pairs _) (by omega)).mono ?_
  rintro e w1 ⟨v1, L1, rfl, hr1, hw1, he1⟩
  refine ⟨_, rfl, ?_⟩
  refine hK.out _ _ ⟨(KB.out _ _ hw1 (by simp)).1.1, (KB.out _ _ hw1 (by simp)).1.2.1, (KB.out _ _ hw1 (by simp)).1.2.2⟩ (fun hHeld => ?_)
  clear hK K
  refine norm_ (a' := ?_) ?_ ?_
  rotate_left
  · show Act.put _ (some 64) _ = _
    simp only [Act.put, List.setIfInBounds_toArray, List.set_cons_zero, List.set_cons_succ, i64_w, i32_w]
    rfl
  refine pure_ (i := 12) (N := some 74) (v := ?_) (a' := ?_) #[true, true, true, true, true, true, false, true, true, true, false, false, true, false, false, false] rfl rfl (by kernel_rfl) (fun _ _ _ h => h) (Or.inl ⟨by rfl, ?_⟩) ?_ ?_
  rotate_left
  · intro w'
    go_simp
    with_reducible rfl
  rotate_left
  · simp only [Act.put, List.setIfInBounds_toArray, List.set_cons_zero, List.set_cons_succ, i64_w, i32_w]
    rfl
  refine one_ (i := 6) (N := some 68) #[true, true, true, true, true, true, true, true, true, true, false, false, true, false, false, false] rfl rfl (by kernel_rfl) (by decide) (fun K hK => ?_)
  refine goes_ Try.func55 (by kernel_rfl) rfl #[Value.slice Ak n.keys.length ck] (by rfl) rfl rfl (by simp only [List.map_toArray, List.map_cons, List.map_nil]; rfl) ?_
  with_reducible refine (clone_int (hn.k.mono (by intro p hp; simp only [List.mem_append, List.mem_cons] at hp ⊢; grind)) hw1 (one_ints _) (by omega)).mono ?_
  rintro e w2 ⟨v2, L2, rfl, hr2, hw2, he2⟩
  refine ⟨_, rfl, ?_⟩
  refine hK.out _ _ ⟨(KB.out _ _ hw2 (by simp)).1.1, (KB.out _ _ hw2 (by simp)).1.2.1, (KB.out _ _ hw2 (by simp)).1.2.2⟩ (fun hHeld => ?_)
  clear hK K
  refine norm_ (a' := ?_) ?_ ?_
  rotate_left
  · show Act.put _ (some 68) _ = _
    simp only [Act.put, List.setIfInBounds_toArray, List.set_cons_zero, List.set_cons_succ, i64_w, i32_w]
    rfl
  refine one_ (i := 10) (N := some 72) #[true, true, true, true, true, true, true, true, true, true, true, false, true, false, false, false] rfl rfl (by kernel_rfl) (by decide) (fun K hK => ?_)
  refine goes_ Try.func56 (by kernel_rfl) rfl #[Value.slice Av n.ways.length cv] (by rfl) rfl rfl (by simp only [List.map_toArray, List.map_cons, List.map_nil]; rfl) ?_
  with_reducible refine (clone_ref (hn.w.mono (by intro p hp; simp only [List.mem_append, List.mem_cons] at hp ⊢; grind)) hw2 (one_ints _) (by omega)).mono ?_
  rintro e w3 ⟨v3, L3, rfl, hr3, hw3, he3⟩
  refine ⟨_, rfl, ?_⟩
  obtain ⟨A1, c1, rfl⟩ := hr1.shape
  obtain ⟨A2, c2', rfl⟩ := hr2.shape
  obtain ⟨A3, c3', rfl⟩ := hr3.shape
  have f2 := (KB.out _ _ hw3 (by simp)).2
  refine hK.out _ _ ⟨(KB.out _ _ hw3 (by simp)).1.1, (KB.out _ _ hw3 (by simp)).1.2.1, (KB.out _ _ hw3 (by simp)).1.2.2⟩ (fun hHeld => ?_)
  clear hK K
  refine norm_ (a' := ?_) ?_ ?_
  rotate_left
  · show Act.put _ (some 72) _ = _
    simp only [Act.put, List.setIfInBounds_toArray, List.set_cons_zero, List.set_cons_succ, i64_w, i32_w]
    rfl
  refine pure_ (i := 11) (N := some 73) (v := ?_) (a' := ?_) #[true, true, true, true, true, true, true, true, true, true, true, true, true, false, false, false] rfl rfl (by kernel_rfl) (fun _ _ _ h => h) (Or.inl ⟨by rfl, ?_⟩) ?_ ?_
  rotate_left
  · intro w'
    go_simp
    with_reducible rfl
  rotate_left
  · simp only [Act.put, List.setIfInBounds_toArray, List.set_cons_zero, List.set_cons_succ, i64_w, i32_w]
    rfl
  refine last_ (i := 13) (N := none) #[true, true, true, true, true, true, true, true, true, true, true, true, true, true, false, false] rfl rfl (by kernel_rfl) (by decide) (fun K hK => ?_)
  refine skip_ (w1 := ?_) (by rfl) rfl ?_ ?_
  rotate_left
  · go_simp
    rfl
  refine hK.out _ _ ?_
  clear hK K
  refine pure_ (i := 14) (N := some 75) (v := ?_) (a' := ?_) #[true, true, true, true, true, true, true, true, true, true, true, true, true, true, true, false] rfl rfl (by kernel_rfl) (fun _ _ _ h => h) (Or.inl ⟨by rfl, ?_⟩) ?_ ?_
  rotate_left
  · intro w'
    go_simp
    with_reducible rfl
  rotate_left
  · simp only [Act.put, List.setIfInBounds_toArray, List.set_cons_zero, List.set_cons_succ, i64_w, i32_w]
    rfl
  refine last_ (i := 15) (N := none) #[true, true, true, true, true, true, true, true, true, true, true, true, true, true, true, true] rfl rfl (by kernel_rfl) (by decide) (fun K hK => ?_)
  refine skip_ (w1 := ?_) (by rfl) rfl ?_ ?_
  rotate_left
  · go_simp
    rfl
  refine hK.out _ _ ?_
  clear hK K
  refine done_ (by kernel_rfl) ?_
  clear hHeld f2 cb fb KB
  generalize hEq : World.setCell _ _ _ = W4
  have hW4 : Has W4 ((b3, nodeObj n.inner n.tagged (.slice A1 n.pairs.length c1) (.slice A2 n.keys.length c2') (.slice A3 n.ways.length c3')) :: (g, slotObj cur) :: (a, arenaObj (.slice (some ⟨g, off, none⟩) A.slots.length cap) (.slice Af' rest.length cf') A.most A.used A.faults) :: (L3 ++ (L2 ++ (L1 ++ (Lf' ++ ((Lw1 ++ (Li ++ Lw2)) ++ R2)))))) := by
    rw [← hEq]
    exact (((hw3.perm (L' := (b3, nodeObj n.inner n.tagged (.slice Ap n.pairs.length cp) (.slice Ak n.keys.length ck) (.slice Av n.ways.length cv)) :: (g, slotObj cur) :: (a, arenaObj (.slice (some ⟨g, off, none⟩) A.slots.length cap) (.slice Af' rest.length cf') A.most A.used A.faults) :: (L3 ++ (L2 ++ (L1 ++ (Lf' ++ ((Lw1 ++ (Li ++ Lw2)) ++ R2)))))) (perm_of_count fun x => by simp only [List.count_append, List.count_cons, List.count_nil, arenaObj, slotObj, nodeObj, worldObj]; omega)).set 2 _).set 3 _).set 4 _
  have hE4 : Ext w W4 := by rw [← hEq]; exact ((((((hE2.drew.drew.drew).trans he1).trans he2).trans he3).setCell _ _).setCell _ _).setCell _ _
  clear hEq
  obtain ⟨cg, fg_⟩ := hW4.blk (b := g) (List.mem_cons_of_mem _ (List.mem_cons_self ..))
  go_wp2_with fail
  clear cg fg_
  generalize hEq : World.setCell _ _ _ = W5
  have hW5 : Has W5 ((g, slotObj (cur.setIfInBounds (off + i * 10 + 8) (.int .u32 (s0.count + 1)))) :: (b3, nodeObj n.inner n.tagged (.slice A1 n.pairs.length c1) (.slice A2 n.keys.length c2') (.slice A3 n.ways.length c3')) :: (a, arenaObj (.slice (some ⟨g, off, none⟩) A.slots.length cap) (.slice Af' rest.length cf') A.most A.used A.faults) :: (L3 ++ (L2 ++ (L1 ++ (Lf' ++ ((Lw1 ++ (Li ++ Lw2)) ++ R2)))))) := by
    rw [← hEq]
    exact (hW4.perm (List.Perm.swap ..)).set _ _
  have hE5 : Ext w W5 := by rw [← hEq]; exact hE4.setCell _ _
  clear hEq
  have hsz : off + i * 10 + 10 ≤ cur.size := by
    have := (Array.getElem?_eq_some_iff.1 e9).1
    omega
  obtain ⟨cur1, hcur1⟩ : ∃ c, c = cur.setIfInBounds (off + i * 10 + 8) (.int .u32 (s0.count + 1)) := ⟨_, rfl⟩
  rw [← hcur1] at hW5
  have d8 : cur1[off + i * 10 + 8]? = some (.int .u32 (s0.count + 1)) := by rw [hcur1, Array.getElem?_setIfInBounds, if_pos rfl, if_pos (by omega)]
  have dk : ∀ k v, k ≠ 8 → cur[off + i * 10 + k]? = some v → cur1[off + i * 10 + k]? = some v := by
    intro k v hk hv
    rw [hcur1, Array.getElem?_setIfInBounds_ne (by omega)]
    exact hv
  have d0 : cur1[off + i * 10]? = _ := dk 0 _ (by omega) e0
  have d1 := dk 1 _ (by omega) e1
  have d2 := dk 2 _ (by omega) e2
  have d3 := dk 3 _ (by omega) e3
  have d4 := dk 4 _ (by omega) e4
  have d5 := dk 5 _ (by omega) e5
  have d6 := dk 6 _ (by omega) e6
  have d7 := dk 7 _ (by omega) e7
  have d9 := dk 9 _ (by omega) e9
  have Hcur1 := Lib.hid hcur1
  clear dk e0 e1 e2 e3 e4 e5 e6 e7 e8 e9 hcur1
  obtain ⟨cb, _⟩ := hW5.blk (b := b3) (List.mem_cons_of_mem _ (List.mem_cons_self ..))
  obtain ⟨cg, _⟩ := hW5.blk (b := g) (List.mem_cons_self ..)
  have kb : ∀ (w' : World) (L : HL), Has w' L → (b3, nodeObj n.inner n.tagged (.slice A1 n.pairs.length c1) (.slice A2 n.keys.length c2') (.slice A3 n.ways.length c3')) ∈ L → (g, slotObj cur1) ∈ L →
      (w'.cell? ⟨b3, 0, none⟩ = some (.bool n.inner) ∧ w'.cell? ⟨b3, 1, none⟩ = some (.bool n.tagged) ∧ w'.cell? ⟨b3, 2, none⟩ = some (.slice A1 n.pairs.length c1) ∧ w'.cell? ⟨b3, 3, none⟩ = some (.slice A2 n.keys.length c2') ∧ w'.cell? ⟨b3, 4, none⟩ = some (.slice A3 n.ways.length c3')) ∧
      w'.cell? ⟨g, off + i * 10 + 8, none⟩ = some (.int .u32 (s0.count + 1)) :=
    fun _ _ h hm hg => ⟨⟨(h.cell hm 0).trans rfl, (h.cell hm 1).trans rfl, (h.cell hm 2).trans rfl, (h.cell hm 3).trans rfl, (h.cell hm 4).trans rfl⟩, (h.cell hg _).trans d8⟩
  have KB := Lib.hid kb
  clear kb
  refine start_ (n := 13) (S := fun w' => w'.cell? ⟨b3, 0, none⟩ = some (.bool n.inner) ∧ w'.cell? ⟨b3, 1, none⟩ = some (.bool n.tagged) ∧ w'.cell? ⟨b3, 2, none⟩ = some (.slice A1 n.pairs.length c1) ∧ w'.cell? ⟨b3, 3, none⟩ = some (.slice A2 n.keys.length c2') ∧ w'.cell? ⟨b3, 4, none⟩ = some (.slice A3 n.ways.length c3') ∧ w'.cell? ⟨g, off + i * 10 + 8, none⟩ = some (.int .u32 (s0.count + 1))) (ds := [12]) #[false, false, false, false, false, false, false, false, false, false, false, false, false] (by kernel_rfl) rfl rfl ⟨cb 0, cb 1, cb 2, cb 3, cb 4, (cg _).trans d8⟩ (fun hHeld => ?_)
  refine pure_ (i := 0) (N := some 83) (v := ?_) (a' := ?_) #[true, false, false, false, false, false, false, false, false, false, false, false, false] rfl rfl (by kernel_rfl) (fun _ _ _ h => h) (Or.inl ⟨by rfl, ?_⟩) ?_ ?_
  rotate_left
  · intro w'
    go_simp
    with_reducible rfl
  rotate_left
  · simp only [Act.put, List.setIfInBounds_toArray, List.set_cons_zero, List.set_cons_succ, i64_w, i32_w]
    rfl
  refine pure_ (i := 2) (N := some 85) (v := ?_) (a' := ?_) #[true, false, true, false, false, false, false, false, false, false, false, false, false] rfl rfl (by kernel_rfl) (fun _ _ _ h => h) (Or.inl ⟨by rfl, ?_⟩) ?_ ?_
  rotate_left
  · intro w'
    go_simp
    with_reducible rfl
  rotate_left
  · simp only [Act.put, List.setIfInBounds_toArray, List.set_cons_zero, List.set_cons_succ, i64_w, i32_w]
    rfl
  refine pure_ (i := 3) (N := some 86) (v := ?_) (a' := ?_) #[true, false, true, true, false, false, false, false, false, false, false, false, false] rfl rfl (by kernel_rfl) (fun _ _ _ h => h) (Or.inl ⟨by rfl, ?_⟩) ?_ ?_
  rotate_left
  · intro w'
    go_simp
    with_reducible rfl
  rotate_left
  · simp only [Act.put, List.setIfInBounds_toArray, List.set_cons_zero, List.set_cons_succ, i64_w, i32_w]
    rfl
  refine pure_ (i := 6) (N := some 89) (v := ?_) (a' := ?_) #[true, false, true, true, false, false, true, false, false, false, false, false, false] rfl rfl (by kernel_rfl) (fun _ _ _ h => h) (Or.inl ⟨by rfl, ?_⟩) ?_ ?_
  rotate_left
  · intro w'
    go_simp
    with_reducible rfl
  rotate_left
  · simp only [Act.put, List.setIfInBounds_toArray, List.set_cons_zero, List.set_cons_succ, i64_w, i32_w]
    rfl
  refine pure_ (i := 7) (N := some 90) (v := ?_) (a' := ?_) #[true, false, true, true, false, false, true, true, false, false, false, false, false] rfl rfl (by kernel_rfl) (fun _ _ _ h => h) (Or.inl ⟨by rfl, ?_⟩) ?_ ?_
  rotate_left
  · intro w'
    go_simp
    with_reducible rfl
  rotate_left
  · simp only [Act.put, List.setIfInBounds_toArray, List.set_cons_zero, List.set_cons_succ, i64_w, i32_w]
    rfl
  refine pure_ (i := 8) (N := some 91) (v := ?_) (a' := ?_) #[true, false, true, true, false, false, true, true, true, false, false, false, false] rfl rfl (by kernel_rfl) (fun _ _ _ h => h) (Or.inl ⟨by rfl, ?_⟩) ?_ ?_
  rotate_left
  · intro w'
    go_simp
    with_reducible rfl
  rotate_left
  · simp only [Act.put, List.setIfInBounds_toArray, List.set_cons_zero, List.set_cons_succ, i64_w, i32_w]
    rfl
  refine take_ (i := 1) (N := some 84) (v := ?_) (a' := ?_) #[true, true, true, true, false, false, true, true, true, false, false, false, false] rfl rfl (by kernel_rfl) (fun _ _ _ h => h) (Or.inl ⟨by rfl, ?_⟩) hHeld ?_ ?_
  rotate_left
  · rintro w' ⟨s0, s1, s2, s3, s4, s5⟩
    go_simp
    with_reducible rfl
  rotate_left
  · simp only [Act.put, List.setIfInBounds_toArray, List.set_cons_zero, List.set_cons_succ, i64_w, i32_w]
    rfl
  refine take_ (i := 4) (N := some 87) (v := ?_) (a' := ?_) #[true, true, true, true, true, false, true, true, true, false, false, false, false] rfl rfl (by kernel_rfl) (fun _ _ _ h => h) (Or.inl ⟨by rfl, ?_⟩) hHeld ?_ ?_
  rotate_left
  · rintro w' ⟨s0, s1, s2, s3, s4, s5⟩
    go_simp
    with_reducible rfl
  rotate_left
  · simp only [Act.put, List.setIfInBounds_toArray, List.set_cons_zero, List.set_cons_succ, i64_w, i32_w]
    rfl
  refine take_ (i := 9) (N := some 92) (v := ?_) (a' := ?_) #[true, true, true, true, true, false, true, true, true, true, false, false, false] rfl rfl (by kernel_rfl) (fun _ _ _ h => h) (Or.inl ⟨by rfl, ?_⟩) hHeld ?_ ?_
  rotate_left
  · rintro w' ⟨s0, s1, s2, s3, s4, s5⟩
    go_simp
    with_reducible rfl
  rotate_left
  · simp only [Act.put, List.setIfInBounds_toArray, List.set_cons_zero, List.set_cons_succ, i64_w, i32_w]
    rfl
  refine one_ (i := 5) (N := some 88) #[true, true, true, true, true, true, true, true, true, true, false, false, false] rfl rfl (by kernel_rfl) (by decide) (fun K hK => ?_)
  refine goes_ Try.func56 (by kernel_rfl) rfl #[Value.slice A3 n.ways.length c3'] (by rfl) rfl rfl (by simp only [List.map_toArray, List.map_cons, List.map_nil]; rfl) ?_
  with_reducible refine (clone_ref ((hr3.rd []).mono (by intro p hp; simp only [List.mem_append, List.mem_cons] at hp ⊢; grind)) hW5.drew (one_ints _) (by omega)).mono ?_
  rintro e w4 ⟨v4, L4, rfl, hr4, hw4, he4⟩
  refine ⟨_, rfl, ?_⟩
  obtain ⟨A4, c4, rfl⟩ := hr4.shape
  clear cb cg
  obtain ⟨cg, fgz⟩ := hw4.blk (b := g) (c := cur1) (t := 91) (by simp)
  refine hK.out _ _ ⟨(KB.out _ _ hw4 (by simp) (by simp)).1.1, (KB.out _ _ hw4 (by simp) (by simp)).1.2.1, (KB.out _ _ hw4 (by simp) (by simp)).1.2.2.1, (KB.out _ _ hw4 (by simp) (by simp)).1.2.2.2.1, (KB.out _ _ hw4 (by simp) (by simp)).1.2.2.2.2, (KB.out _ _ hw4 (by simp) (by simp)).2⟩ (fun hHeld => ?_)
  clear hK K
  refine norm_ (a' := ?_) ?_ ?_
  rotate_left
  · show Act.put _ (some 88) _ = _
    simp only [Act.put, List.setIfInBounds_toArray, List.set_cons_zero, List.set_cons_succ, i64_w, i32_w]
    rfl
  refine pure_ (i := 10) (N := some 93) (v := ?_) (a' := ?_) #[true, true, true, true, true, true, true, true, true, true, true, false, false] rfl rfl (by kernel_rfl) (fun _ _ _ h => h) (Or.inl ⟨by rfl, ?_⟩) ?_ ?_
  rotate_left
  · intro w'
    go_simp
    with_reducible rfl
  rotate_left
  · simp only [Act.put, List.setIfInBounds_toArray, List.set_cons_zero, List.set_cons_succ, i64_w, i32_w]
    rfl
  refine pure_ (i := 11) (N := some 94) (v := ?_) (a' := ?_) #[true, true, true, true, true, true, true, true, true, true, true, true, false] rfl rfl (by kernel_rfl) (fun _ _ _ h => h) (Or.inl ⟨by rfl, ?_⟩) ?_ ?_
  rotate_left
  · intro w'
    go_simp
    with_reducible rfl
  rotate_left
  · simp only [Act.put, List.setIfInBounds_toArray, List.set_cons_zero, List.set_cons_succ, i64_w, i32_w]
    rfl
  refine last_ (i := 12) (N := none) #[true, true, true, true, true, true, true, true, true, true, true, true, true] rfl rfl (by kernel_rfl) (by decide) (fun K hK => ?_)
  refine skip_ (w1 := ?_) (by rfl) rfl ?_ ?_
  rotate_left
  · go_simp
    rfl
  refine hK.out _ _ ?_
  clear hK K
  refine done_ (by kernel_rfl) ?_
  clear hHeld cg fgz KB
  generalize hEq : World.setCell _ _ _ = W7
  have hW7 : Has W7 ((g, slotObj (putCells cur1 (off + i * 10) (slotCells ⟨n, n.ways, 0, false, (s0.count + 1), true⟩ (.slice A1 n.pairs.length c1) (.slice A2 n.keys.length c2') (.slice A3 n.ways.length c3') (.slice A4 n.ways.length c4)))) ::
      (a, arenaObj (.slice (some ⟨g, off, none⟩) A.slots.length cap) (.slice Af' rest.length cf') A.most A.used A.faults) :: (b3, nodeObj n.inner n.tagged (.slice A1 n.pairs.length c1) (.slice A2 n.keys.length c2') (.slice A3 n.ways.length c3')) :: (L4 ++ (L3 ++ (L2 ++ (L1 ++ (Lf' ++ ((Lw1 ++ (Li ++ Lw2)) ++ R2))))))) := by
    rw [← hEq]
    exact ((((((((((hw4.perm (L' := (g, slotObj cur1) :: (a, arenaObj (.slice (some ⟨g, off, none⟩) A.slots.length cap) (.slice Af' rest.length cf') A.most A.used A.faults) :: (b3, nodeObj n.inner n.tagged (.slice A1 n.pairs.length c1) (.slice A2 n.keys.length c2') (.slice A3 n.ways.length c3')) :: (L4 ++ (L3 ++ (L2 ++ (L1 ++ (Lf' ++ ((Lw1 ++ (Li ++ Lw2)) ++ R2))))))) (perm_of_count fun x => by simp only [List.count_append, List.count_cons, List.count_nil, arenaObj, slotObj, nodeObj, worldObj]; omega)).set _ _).set _ _).set _ _).set _ _).set _ _).set _ _).set _ _).set _ _).set _ _).set _ _
  have hE7 : Ext w W7 := by rw [← hEq]; exact ((((((((((((hE5.drew).trans he4).setCell _ _).setCell _ _).setCell _ _).setCell _ _).setCell _ _).setCell _ _).setCell _ _).setCell _ _).setCell _ _).setCell _ _)
  clear hEq
  have hsz1 : off + i * 10 + 10 ≤ cur1.size := by
    have := (Array.getElem?_eq_some_iff.1 d9).1
    omega
  have hpl := putCells_toList (slotCells ⟨n, n.ways, 0, false, (s0.count + 1), true⟩ (.slice A1 n.pairs.length c1) (.slice A2 n.keys.length c2') (.slice A3 n.ways.length c3') (.slice A4 n.ways.length c4)) cur1 (off + i * 10) (by simp [slotCells]; omega)
  have hps := size_putCells (slotCells ⟨n, n.ways, 0, false, (s0.count + 1), true⟩ (.slice A1 n.pairs.length c1) (.slice A2 n.keys.length c2') (.slice A3 n.ways.length c3') (.slice A4 n.ways.length c4)) cur1 (off + i * 10)
  generalize hcur2 : putCells _ _ _ = cur2 at hpl hps hW7
  have d8' : cur2[off + i * 10 + 8]? = some (.int .u32 (s0.count + 1)) := by
    rw [← Array.getElem?_toList, hpl, List.append_assoc, List.getElem?_append_right (by simp; omega), List.getElem?_append_left (by simp [slotCells]; omega)]
    have : off + i * 10 + 8 - (List.take (off + i * 10) cur1.toList).length = 8 := by simp; omega
    rw [this]
    rfl
  have Hpl := Lib.hid hpl
  have Hps := Lib.hid hps
  clear hpl hps hcur2 d0 d1 d2 d3 d4 d5 d6 d7 d8 d9
  obtain ⟨ca, fa⟩ := hW7.blk (b := a) (List.mem_cons_of_mem _ (List.mem_cons_self ..))
  obtain ⟨cg, _⟩ := hW7.blk (b := g) (List.mem_cons_self ..)
  go_wp2_with (go_at_call 34; refine (of_any _ _ _).mono ?_; rintro e w' ⟨rfl, rfl⟩)
  generalize hEq : World.setCell _ _ _ = W8
  have hW8 : Has W8 ((a, arenaObj (.slice (some ⟨g, off, none⟩) A.slots.length cap) (.slice Af' rest.length cf') A.most (A.used + 1) A.faults) :: (g, slotObj cur2) :: (b3, nodeObj n.inner n.tagged (.slice A1 n.pairs.length c1) (.slice A2 n.keys.length c2') (.slice A3 n.ways.length c3')) :: (L4 ++ (L3 ++ (L2 ++ (L1 ++ (Lf' ++ ((Lw1 ++ (Li ++ Lw2)) ++ R2))))))) := by
    rw [← hEq]
    exact (hW7.perm (List.Perm.swap ..)).set 3 _
  have hE8 : Ext w W8 := by rw [← hEq]; exact hE7.setCell _ _
  have hst := slots_store (v := .int .u32 (s0.count + 1)) hg4 (by simp) hilt Hcur1.out (by simp [slotCells]) Hpl.out hsz
  have hsr : SlotRep ((L3 ++ (L2 ++ L1)) ++ R) ⟨n, n.ways, 0, false, (s0.count + 1), true⟩ (slotCells ⟨n, n.ways, 0, false, (s0.count + 1), true⟩ (.slice A1 n.pairs.length c1) (.slice A2 n.keys.length c2') (.slice A3 n.ways.length c3') (.slice A4 n.ways.length c4)) L4 :=
    ⟨_, _, _, _, ⟨(hr1.rd R).mono (by intro p hp; simp only [List.mem_append, List.mem_cons] at hp ⊢; grind), (hr2.rd R).mono (by intro p hp; simp only [List.mem_append, List.mem_cons] at hp ⊢; grind), (hr3.rd R).mono (by intro p hp; simp only [List.mem_append, List.mem_cons] at hp ⊢; grind)⟩, hr4, rfl⟩
  go_ret2
  refine ⟨(a, arenaObj (.slice (some ⟨g, off, none⟩) A.slots.length cap) (.slice Af' rest.length cf') A.most (A.used + 1) A.faults) :: ([(g, slotObj cur2)] ++ (Lf' ++ (Lw1 ++ (L4 ++ Lw2)))), L3 ++ (L2 ++ L1), rfl, ⟨_, _, _, [(g, slotObj cur2)], Lf', Lw1 ++ (L4 ++ Lw2), rfl, ⟨?_, .inr ⟨g, off, cap, cur2, by simp, rfl, by simpa using hg1, hg2, ?_, ?_⟩⟩, hfrow, hback _ _ _ _ (fun p => List.mem_append_right _) hsr⟩, ?_, hE8⟩
  · rw [flat_len (hl.set_ten hsr.len), List.length_set, hl.len]; simp
  · rw [Hps.out, Hcur1.out]; simpa using hg3
  · simp only [List.length_set]
    rw [hst, flat_set hl.ten _ hsr.len (by rw [hl.len]; exact hilt)]
  · exact (hW8.perm (L' := ((a, arenaObj (.slice (some ⟨g, off, none⟩) A.slots.length cap) (.slice Af' rest.length cf') A.most (A.used + 1) A.faults) :: ([(g, slotObj cur2)] ++ (Lf' ++ (Lw1 ++ (L4 ++ Lw2)))) ++ ((L3 ++ (L2 ++ L1)) ++ R2)) ++ ((b3, nodeObj n.inner n.tagged (.slice A1 n.pairs.length c1) (.slice A2 n.keys.length c2') (.slice A3 n.ways.length c3')) :: Li)) (perm_of_count fun x => by simp only [List.count_append, List.count_cons, List.count_nil, arenaObj, slotObj, nodeObj, worldObj]; omega)).left
end Go.Proofs.Ytjkfigkgeoacfaa
