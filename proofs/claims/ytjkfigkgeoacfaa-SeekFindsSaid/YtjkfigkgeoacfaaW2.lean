import Derived.Test.YtjkfigkgeoacfaaW1
set_option linter.unusedVariables false
set_option linter.unusedSimpArgs false
namespace Go.Proofs.Ytjkfigkgeoacfaa
open Go.RowKit Go.Proofs.YtjkfigkgeoacfaaW.PrintLast

def AArena.setSlot (A : AArena) (i : Nat) (s : ASlot) : AArena := { A with slots := A.slots.set i s }

/-- A place's ways, opened for a store. -/
theorem ArenaRep.ways {R R2 : HL} {a : Nat} {A : AArena} {L : HL} (hA : ArenaRep R a A L) {w : World} (hw : Has w (L ++ R2)) {i : Nat} {s : ASlot} (hi : A.slots[i]? = some s) (hn : 0 < s.ways.length) :
    ∃ g off cap pv kv wv yg yoff ymc ycur L1 L2, SlotAt w a A.slots.length i s g off cap pv kv wv (.slice (some ⟨yg, yoff, none⟩) s.ways.length ymc) ∧ L = L1 ++ ((yg, Obj.cells ycur 39) :: L2) ∧
      (ycur.toList.drop yoff).take (s.ways.length * 1) = ints s.ways ∧ yoff + s.ways.length ≤ ycur.size ∧
      ∀ (ws : List Int) (ycur' : Array Value), ws.length = s.ways.length → ycur'.size = ycur.size → (ycur'.toList.drop yoff).take (s.ways.length * 1) = ints ws → ArenaRep R a (A.setSlot i { s with ways := ws }) (L1 ++ ((yg, Obj.cells ycur' 39) :: L2)) := by
  obtain ⟨sv, fv, css, Ls, Lf, Lw, rfl, hs, hf, hl⟩ := hA
  have hlt : i < A.slots.length := (List.getElem?_eq_some_iff.1 hi).1
  obtain ⟨cs, L1, Li, L2, h1, rfl, h3, hback⟩ := hl.split hi
  obtain ⟨g, off, cap, cur, rfl, rfl, hr1, hr2, hr3, htake⟩ := row_some hs (by omega)
  obtain ⟨pv, kv, wv, yv, hnr, hy, rfl⟩ := h3
  obtain ⟨yg, yoff, ymc, ycur, rfl, rfl, hy1, hy2, hy3, hy4⟩ := row_some hy hn
  refine ⟨g, off, cap, pv, kv, wv, yg, yoff, ymc, ycur, (a, arenaObj (.slice (some ⟨g, off, none⟩) A.slots.length cap) fv A.most A.used A.faults) :: ([(g, slotObj cur)] ++ (Lf ++ L1)), L2, ⟨(hw.cell (b := a) (List.mem_append_left _ (List.mem_cons_self ..)) 0).trans rfl, fun k v hv => ?_⟩, by simp, hy4, by omega, fun ws ycur' hwl hsz htk => ?_⟩
  · have hk : k < 10 := (List.getElem?_eq_some_iff.1 hv).1
    rw [hw.cell (b := g) (c := cur) (t := 91) (fr := (0, 0)) (by simp), Nat.add_assoc]
    refine row_at htake ?_
    rw [flat_at hl.ten h1 k hk]
    exact hv
  · have hb := hback R { s with ways := ws } (slotCells s pv kv wv (.slice (some ⟨yg, yoff, none⟩) s.ways.length ymc)) [(yg, Obj.cells ycur' 39)] (fun _ h => h)
      ⟨pv, kv, wv, .slice (some ⟨yg, yoff, none⟩) s.ways.length ymc, hnr, ⟨by simp [hwl], .inr ⟨yg, yoff, ymc, ycur', by rw [hwl], rfl, by rw [hwl]; exact hy1, hy2, by rw [hsz]; exact hy3, by rw [hwl]; exact htk⟩⟩, rfl⟩
    have he : css.set i (slotCells s pv kv wv (.slice (some ⟨yg, yoff, none⟩) s.ways.length ymc)) = css := by
      obtain ⟨hlt', hx⟩ := List.getElem?_eq_some_iff.1 h1
      rw [← hx]; exact List.set_getElem_self hlt'
    rw [he] at hb
    refine ⟨.slice (some ⟨g, off, none⟩) A.slots.length cap, fv, css, [(g, slotObj cur)], Lf, L1 ++ ([(yg, Obj.cells ycur' 39)] ++ L2), by simp [AArena.setSlot], ?_, hf, hb⟩
    refine ⟨by simpa [AArena.setSlot] using hs.1, .inr ⟨g, off, cap, cur, by simp [AArena.setSlot], rfl, by simpa [AArena.setSlot] using hr1, hr2, hr3, by simpa [AArena.setSlot] using htake⟩⟩

theorem set_take {cur : Array Value} {yoff n k : Nat} {xs : List Value} (h : (cur.toList.drop yoff).take (n * 1) = xs) (hk : k < n) (v : Value) :
    ((cur.setIfInBounds (yoff + k) v).toList.drop yoff).take (n * 1) = xs.set k v := by
  subst h
  apply List.ext_getElem?
  intro j
  simp only [Array.toList_setIfInBounds, List.getElem?_take, List.getElem?_drop, List.getElem?_set, Nat.mul_one, List.length_take, List.length_drop]
  by_cases hj : j < n
  · by_cases e : k = j
    · subst e
      by_cases hc : yoff + k < cur.size
      · have h2 : k < min n (cur.size - yoff) := by omega
        simp [hj, hc, h2]
      · have h2 : ¬ k < min n (cur.size - yoff) := by omega
        simp [hj, hc, h2]
    · have e2 : ¬ yoff + k = yoff + j := by omega
      simp [hj, e, e2]
  · have e : ¬ k = j := by omega
    simp [hj, e]

/-- SwapWay: the way is the one that is told: it is another one now. -/
theorem swapway_spec {R R2 : HL} {a : Nat} {A : AArena} {L : HL} (hA : ArenaRep R a A L) (hO : A.Ok) {w : World} (hw : Has w (L ++ R2)) {i : Nat} {s : ASlot} (hi : A.slots[i]? = some s) (hu : s.used = true) {k : Nat} {x old now : Int} (hk : s.ways[k]? = some x) :
    Calls Try.prog 62 #[.pointer (some ⟨a, 0, none⟩), .int .i64 (refOf i s.count), .int .i64 k, .int .i64 old, .int .i64 now] w fun e w' =>
      ∃ L', e = .returned (.bool (x == old)) ∧ ArenaRep R a (if x == old then A.setSlot i { s with ways := s.ways.set k now } else A) L' ∧ Has w' (L' ++ R2) ∧ Ext w w' := by
  have hkl : k < s.ways.length := (List.getElem?_eq_some_iff.1 hk).1
  obtain ⟨g, off, cap, pv, kv, wv, yg, yoff, ymc, ycur, L1, L2, hs, rfl, htk, hsz, hback⟩ := hA.ways hw hi (by omega)
  have hlt : i < A.slots.length := (List.getElem?_eq_some_iff.1 hi).1
  have hms := List.mem_of_getElem? hi
  have hc := hO.count s hms
  have hz := hO.sizes s hms
  have hsl := hO.slots
  obtain ⟨cy, fy⟩ := hw.blk (b := yg) (c := ycur) (t := 39) (by simp)
  refine (swapway_raw a g off A.slots.length cap _ i s.count w yg yoff s.ways.length ymc k x old now (place_refOf (by omega) (by omega) hc.1 (by omega)) hlt (by omega) hs.arena (by have := hs.cell 9 _ rfl; rwa [hu] at this) (hs.cell 8 _ rfl) (beq_refl_int _) (hs.cell 5 _ rfl) hkl (by omega) ?_ (fy _)).mono ?_
  · rw [cy]; exact row_at htk (by simp [hk])
  · rintro e w' ⟨rfl, rfl⟩
    cases hxo : (x == old) with
    | false => exact ⟨_, rfl, by simpa using hA, hw, Ext.refl w⟩
    | true =>
      refine ⟨L1 ++ ((yg, Obj.cells (ycur.setIfInBounds (yoff + k) (.int .i64 now)) 39) :: L2), rfl, ?_, ?_, (Ext.refl w).setCell _ _⟩
      · have := hback (s.ways.set k now) (ycur.setIfInBounds (yoff + k) (.int .i64 now)) (by simp) (by simp) (by rw [set_take htk hkl]; simp [ints, List.map_set])
        simpa using this
      · exact ((hw.perm (L' := (yg, Obj.cells ycur 39) :: (L1 ++ (L2 ++ R2))) (perm_of_count fun x => by simp only [List.count_append, List.count_cons, List.count_nil, arenaObj, slotObj, nodeObj, worldObj]; omega)).set (yoff + k) (.int .i64 now)).perm (perm_of_count fun x => by simp only [List.count_append, List.count_cons, List.count_nil, arenaObj, slotObj, nodeObj, worldObj]; omega)

set_option maxHeartbeats 400000 in
theorem faults_spec {R R2 : HL} {a : Nat} {A : AArena} {L : HL} (hA : ArenaRep R a A L) {w : World} (hw : Has w (L ++ R2)) :
    Calls Try.prog 16 #[.pointer (some ⟨a, 0, none⟩)] w fun e w' => e = .returned (.int .i64 A.faults) ∧ w = w' := by
  obtain ⟨sv, fv, css, Ls, Lf, Lw, rfl, hs, hf, hl⟩ := hA
  obtain ⟨As, cs, rfl⟩ := hs.shape
  obtain ⟨Af, cf, rfl⟩ := hf.shape
  obtain ⟨ca, _⟩ := hw.blk (b := a) (List.mem_append_left _ (List.mem_cons_self ..))
  clear hs hf hl hw
  go_enter Try.func16, Try.ntmps16
  go_wp2
  go_ret
  exact ⟨rfl, rfl⟩

set_option maxRecDepth 100000 in
set_option maxHeartbeats 1000000 in
theorem free_spec {R R2 : HL} {a : Nat} {A : AArena} {L : HL} (hA : ArenaRep R a A L) (hO : A.Ok) {w : World} (hw : Has w (L ++ R2)) {i : Nat} {s : ASlot} (hi : A.slots[i]? = some s) (hu : s.used = true) (hfl : A.free.length ≤ 100000) (hu0 : 0 ≤ A.used) (hu1 : A.used ≤ 70000) :
    Calls Try.prog 64 #[.pointer (some ⟨a, 0, none⟩), .int .i64 (refOf i s.count)] w fun e w' =>
      ∃ L' N, e = .returned (.bool true) ∧ ArenaRep R a { A with slots := A.slots.set i { s with used := false }, free := A.free ++ [(i : Int)], used := A.used - 1 } L' ∧ Has w' (L' ++ (N ++ R2)) ∧ Ext w w' := by
  obtain ⟨sv, fv, css, Ls, Lf, Lw, rfl, hs, hf, hl⟩ := hA
  have hlt : i < A.slots.length := (List.getElem?_eq_some_iff.1 hi).1
  have hms := List.mem_of_getElem? hi
  have hc := hO.count s hms
  have hsl := hO.slots
  obtain ⟨cs, L1, Li, L2, hcs, rfl, h3, hback⟩ := hl.split hi
  obtain ⟨g, off, cap, cur, rfl, rfl, hr1, hr2, hr3, htake⟩ := row_some hs (by omega)
  obtain ⟨pv, kv, wv, yv, hnr, hy, rfl⟩ := h3
  obtain ⟨Af, cf, rfl⟩ := hf.shape
  have e := fun k v (hv : (slotCells s pv kv wv yv)[k]? = some v) => (show cur[off + i * 10 + k]? = some v from by
    have hk : k < 10 := (List.getElem?_eq_some_iff.1 hv).1
    rw [Nat.add_assoc]
    refine row_at htake ?_
    rw [flat_at hl.ten hcs k hk]
    exact hv)
  have e8 := e 8 _ rfl
  have e9 := e 9 _ rfl
  rw [hu] at e9
  clear e
  have hw1 := hw.perm (L' := (g, slotObj cur) :: (a, arenaObj (.slice (some ⟨g, off, none⟩) A.slots.length cap) (.slice Af A.free.length cf) A.most A.used A.faults) :: (Lf ++ ((L1 ++ (Li ++ L2)) ++ R2))) (perm_of_count fun x => by simp only [List.count_append, List.count_cons, List.count_nil, arenaObj, slotObj, nodeObj, worldObj]; omega)
  obtain ⟨ca, fa⟩ := hw1.blk (b := a) (List.mem_cons_of_mem _ (List.mem_cons_self ..))
  obtain ⟨cg, fg⟩ := hw1.blk (b := g) (List.mem_cons_self ..)
  have hat := at_raw a g off A.slots.length cap (refOf i s.count) i s.count w (place_refOf (by omega) (by omega) hc.1 (by omega)) hlt (by omega) ((ca 0).trans rfl) ((cg _).trans e9) ((cg _).trans e8) (beq_refl_int _)
  have Hat := Lib.hid hat
  have Hi := Lib.hid hi
  clear hat hi
  go_enter Try.func64, Try.ntmps64
  go_wp2_with (go_at_call 40; refine Hat.out.mono ?_; rintro e w' ⟨rfl, rfl⟩)
  clear ca fa cg fg
  generalize hEq : World.setCell _ _ _ = w1
  have h1 : Has w1 ((g, slotObj (cur.setIfInBounds (off + i * 10 + 9) (.bool false))) :: (a, arenaObj (.slice (some ⟨g, off, none⟩) A.slots.length cap) (.slice Af A.free.length cf) A.most A.used A.faults) :: (Lf ++ ((L1 ++ (Li ++ L2)) ++ R2))) := by
    rw [← hEq]; exact hw1.set _ _
  have e1 : Ext w w1 := by rw [← hEq]; exact (Ext.refl w).setCell _ _
  clear hEq
  obtain ⟨ca, fa⟩ := h1.blk (b := a) (List.mem_cons_of_mem _ (List.mem_cons_self ..))
  have H63 : Hid (A.free.length + 1 ≤ maxLen) := Lib.hid (by simp [maxLen]; omega)
  have hpl : place (refOf i s.count) = i := place_refOf (by omega) (by omega) hc.1 (by omega)
  refine start_ (n := 12) (S := fun w' => w'.cell? ⟨a, 1, none⟩ = some (.slice Af A.free.length cf)) (ds := [11]) #[false, false, false, false, false, false, false, false, false, false, false, false] (by kernel_rfl) rfl rfl (ca 1) (fun hHeld => ?_)
  refine pure_ (i := 0) (N := some 14) (v := ?_) (a' := ?_) #[true, false, false, false, false, false, false, false, false, false, false, false] rfl rfl (by kernel_rfl) (fun _ _ _ h => h) (Or.inl ⟨by rfl, ?_⟩) ?_ ?_
  rotate_left
  · intro w'
    go_simp
    with_reducible rfl
  rotate_left
  · simp only [Act.put, List.setIfInBounds_toArray, List.set_cons_zero, List.set_cons_succ, i64_w, i32_w]
    rfl
  refine pure_ (i := 1) (N := some 15) (v := ?_) (a' := ?_) #[true, true, false, false, false, false, false, false, false, false, false, false] rfl rfl (by kernel_rfl) (fun _ _ _ h => h) (Or.inl ⟨by rfl, ?_⟩) ?_ ?_
  rotate_left
  · intro w'
    go_simp
    with_reducible rfl
  rotate_left
  · simp only [Act.put, List.setIfInBounds_toArray, List.set_cons_zero, List.set_cons_succ, i64_w, i32_w]
    rfl
  refine pure_ (i := 2) (N := some 16) (v := ?_) (a' := ?_) #[true, true, true, false, false, false, false, false, false, false, false, false] rfl rfl (by kernel_rfl) (fun _ _ _ h => h) (Or.inl ⟨by rfl, ?_⟩) ?_ ?_
  rotate_left
  · intro w'
    go_simp
    with_reducible rfl
  rotate_left
  · simp only [Act.put, List.setIfInBounds_toArray, List.set_cons_zero, List.set_cons_succ, i64_w, i32_w]
    rfl
  refine pure_ (i := 3) (N := some 17) (v := ?_) (a' := ?_) #[true, true, true, true, false, false, false, false, false, false, false, false] rfl rfl (by kernel_rfl) (fun _ _ _ h => h) (Or.inl ⟨by rfl, ?_⟩) ?_ ?_
  rotate_left
  · intro w'
    go_simp
    with_reducible rfl
  rotate_left
  · simp only [Act.put, List.setIfInBounds_toArray, List.set_cons_zero, List.set_cons_succ, i64_w, i32_w]
    rfl
  refine pure_ (i := 5) (N := some 19) (v := ?_) (a' := ?_) #[true, true, true, true, false, true, false, false, false, false, false, false] rfl rfl (by kernel_rfl) (fun _ _ _ h => h) (Or.inl ⟨by rfl, ?_⟩) ?_ ?_
  rotate_left
  · intro w'
    go_simp
    with_reducible rfl
  rotate_left
  · simp only [Act.put, List.setIfInBounds_toArray, List.set_cons_zero, List.set_cons_succ, i64_w, i32_w]
    rfl
  refine take_ (i := 4) (N := some 18) (v := ?_) (a' := ?_) #[true, true, true, true, true, true, false, false, false, false, false, false] rfl rfl (by kernel_rfl) (fun _ _ _ h => h) (Or.inl ⟨by rfl, ?_⟩) hHeld ?_ ?_
  rotate_left
  · intro w' s0
    go_simp
    with_reducible rfl
  rotate_left
  · simp only [Act.put, List.setIfInBounds_toArray, List.set_cons_zero, List.set_cons_succ, i64_w, i32_w]
    rfl
  refine one_ (i := 6) (N := some 20) #[true, true, true, true, true, true, true, false, false, false, false, false] rfl rfl (by kernel_rfl) (by decide) (fun K hK => ?_)
  refine goes_ Try.func65 (by kernel_rfl) rfl #[Value.int IntKind.i64 (refOf i s.count)] (by rfl) rfl rfl (by simp only [List.map_toArray, List.map_cons, List.map_nil]; rfl) ?_
  with_reducible refine (place_any (refOf i s.count) _).mono ?_
  rintro e w2 ⟨rfl, rfl⟩
  refine ⟨_, rfl, ?_⟩
  refine hK.out _ _ (ca 1) (fun hHeld => ?_)
  clear hK K
  refine norm_ (a' := ?_) ?_ ?_
  rotate_left
  · show Act.put _ (some 20) _ = _
    simp only [Act.put, List.setIfInBounds_toArray, List.set_cons_zero, List.set_cons_succ, i64_w, i32_w]
    rfl
  refine one_ (i := 7) (N := some 21) #[true, true, true, true, true, true, true, true, false, false, false, false] rfl rfl (by kernel_rfl) (by decide) (fun K hK => ?_)
  refine value_ (w1 := ?_) (v := ?_) (by rfl) rfl ?_ ?_
  rotate_left 2
  · go_simp
    constructor
    · rfl
    · rfl
  refine hK.out _ _ ((World.cell?_alloc_lt _ _ _ (h1.lt (List.mem_cons_of_mem _ (List.mem_cons_self ..)))).trans (ca 1)) (fun hHeld => ?_)
  clear hK K
  refine norm_ (a' := ?_) ?_ ?_
  rotate_left
  · show Act.put _ (some 21) _ = _
    simp only [Act.put, List.setIfInBounds_toArray, List.set_cons_zero, List.set_cons_succ, i64_w, i32_w]
    rfl
  refine one_ (i := 8) (N := some 22) #[true, true, true, true, true, true, true, true, true, false, false, false] rfl rfl (by kernel_rfl) (by decide) (fun K hK => ?_)
  have hA2 := (h1.alloc (.cells #[.int .i64 i] 3)).drew.perm (L' := Lf ++ ((g, slotObj (cur.setIfInBounds (off + i * 10 + 9) (.bool false))) :: (a, arenaObj (.slice (some ⟨g, off, none⟩) A.slots.length cap) (.slice Af A.free.length cf) A.most A.used A.faults) :: (w1.heap.size, Obj.cells #[.int .i64 i] 3) :: ((L1 ++ (Li ++ L2)) ++ R2))) (perm_of_count fun x => by simp only [List.count_append, List.count_cons, List.count_nil, arenaObj, slotObj, nodeObj, worldObj]; omega)
  have hsB : Src (w1.alloc (.cells #[.int .i64 i] 3)).drew (.slice (some ⟨w1.heap.size, 0, none⟩) 1 1) 1 1 [.int .i64 i] := Src.of_block (fr := (0, 0)) (hA2.get w1.heap.size (.cells #[.int .i64 i] 3 (0, 0)) (by simp)) rfl (by intro u hu; simp at hu; subst hu; rfl)
  refine append_step (.tmp 18) (.tmp 21) 96 (by rfl) rfl rfl el_Int hf hA2 rfl hsB H63.out (by omega) ?_
  intro v' w3 Lf' hfr h3 he3
  obtain ⟨Af', cf', rfl⟩ := hfr.shape
  obtain ⟨ca3, fa3⟩ := h3.blk (b := a) (t := 98) (c := #[.slice (some ⟨g, off, none⟩) A.slots.length cap, .slice Af A.free.length cf, .int .i64 A.most, .int .i64 A.used, .int .i64 A.faults]) (by simp)
  refine hK.out _ _ (ca3 1) (fun hHeld => ?_)
  clear hK K
  refine norm_ (a' := ?_) ?_ ?_
  rotate_left
  · show Act.put _ (some 22) _ = _
    simp only [Act.put, List.setIfInBounds_toArray, List.set_cons_zero, List.set_cons_succ, i64_w, i32_w]
    rfl
  refine pure_ (i := 9) (N := some 23) (v := ?_) (a' := ?_) #[true, true, true, true, true, true, true, true, true, true, false, false] rfl rfl (by kernel_rfl) (fun _ _ _ h => h) (Or.inl ⟨by rfl, ?_⟩) ?_ ?_
  rotate_left
  · intro w'
    go_simp
    with_reducible rfl
  rotate_left
  · simp only [Act.put, List.setIfInBounds_toArray, List.set_cons_zero, List.set_cons_succ, i64_w, i32_w]
    rfl
  refine pure_ (i := 10) (N := some 24) (v := ?_) (a' := ?_) #[true, true, true, true, true, true, true, true, true, true, true, false] rfl rfl (by kernel_rfl) (fun _ _ _ h => h) (Or.inl ⟨by rfl, ?_⟩) ?_ ?_
  rotate_left
  · intro w'
    go_simp
    with_reducible rfl
  rotate_left
  · simp only [Act.put, List.setIfInBounds_toArray, List.set_cons_zero, List.set_cons_succ, i64_w, i32_w]
    rfl
  refine last_ (i := 11) (N := none) #[true, true, true, true, true, true, true, true, true, true, true, true] rfl rfl (by kernel_rfl) (by decide) (fun K hK => ?_)
  refine skip_ (w1 := ?_) (by rfl) rfl ?_ ?_
  rotate_left
  · go_simp
    rfl
  refine hK.out _ _ ?_
  clear hK K
  refine done_ (by kernel_rfl) ?_
  clear hHeld ca3 fa3 ca fa hpl hsB
  generalize hEq : World.setCell _ _ _ = w4
  have h4 : Has w4 ((a, arenaObj (.slice (some ⟨g, off, none⟩) A.slots.length cap) (.slice Af' (A.free.length + 1) cf') A.most A.used A.faults) :: (g, slotObj (cur.setIfInBounds (off + i * 10 + 9) (.bool false))) :: (Lf' ++ ((w1.heap.size, Obj.cells #[.int .i64 i] 3) :: ((L1 ++ (Li ++ L2)) ++ R2)))) := by
    rw [← hEq]
    exact (h3.perm (L' := (a, arenaObj (.slice (some ⟨g, off, none⟩) A.slots.length cap) (.slice Af A.free.length cf) A.most A.used A.faults) :: (g, slotObj (cur.setIfInBounds (off + i * 10 + 9) (.bool false))) :: (Lf' ++ ((w1.heap.size, Obj.cells #[.int .i64 i] 3) :: ((L1 ++ (Li ++ L2)) ++ R2)))) (perm_of_count fun x => by simp only [List.count_append, List.count_cons, List.count_nil, arenaObj, slotObj, nodeObj, worldObj]; omega)).set 1 _
  have e4 : Ext w w4 := by rw [← hEq]; exact ((e1.alloc _).drew.trans he3).setCell _ _
  clear hEq
  obtain ⟨ca, fa⟩ := h4.blk (b := a) (List.mem_cons_self ..)
  go_wp2
  generalize hEq : World.setCell _ _ _ = w5
  have h5 : Has w5 ((a, arenaObj (.slice (some ⟨g, off, none⟩) A.slots.length cap) (.slice Af' (A.free.length + 1) cf') A.most (A.used - 1) A.faults) :: (g, slotObj (cur.setIfInBounds (off + i * 10 + 9) (.bool false))) :: (Lf' ++ ((w1.heap.size, Obj.cells #[.int .i64 i] 3) :: ((L1 ++ (Li ++ L2)) ++ R2)))) := by
    rw [← hEq]; exact h4.set 3 _
  have e5 : Ext w w5 := by rw [← hEq]; exact e4.setCell _ _
  clear hEq
  go_ret
  have hsr : SlotRep R { s with used := false } (slotCells { s with used := false } pv kv wv yv) Li := ⟨pv, kv, wv, yv, hnr, hy, rfl⟩
  have hsz : off + i * 10 + 10 ≤ cur.size := by
    have := (Array.getElem?_eq_some_iff.1 e9).1
    omega
  refine ⟨(a, arenaObj (.slice (some ⟨g, off, none⟩) A.slots.length cap) (.slice Af' (A.free.length + 1) cf') A.most (A.used - 1) A.faults) :: ([(g, slotObj (cur.setIfInBounds (off + i * 10 + 9) (.bool false)))] ++ (Lf' ++ (L1 ++ (Li ++ L2)))), [(w1.heap.size, Obj.cells #[.int .i64 i] 3)], rfl,
    ⟨_, _, _, [(g, slotObj (cur.setIfInBounds (off + i * 10 + 9) (.bool false)))], Lf', L1 ++ (Li ++ L2), rfl, ⟨?_, .inr ⟨g, off, cap, _, by simp, rfl, by simpa using hr1, hr2, by simpa using hr3, ?_⟩⟩, ?_, hback R _ _ Li (fun _ h => h) hsr⟩, h5.perm (perm_of_count fun x => by simp only [List.count_append, List.count_cons, List.count_nil, arenaObj, slotObj, nodeObj, worldObj]; omega), e5⟩
  · rw [flat_len (hl.set_ten hsr.len), List.length_set, hl.len]; simp
  · have hpc : (cur.setIfInBounds (off + i * 10 + 9) (.bool false)) = putCells cur (off + i * 10) (slotCells { s with used := false } pv kv wv yv) := by
      have hid : ∀ k v, (slotCells s pv kv wv yv)[k]? = some v → cur.setIfInBounds (off + i * 10 + k) v = cur := fun k v hv => by
        have hk : k < 10 := (List.getElem?_eq_some_iff.1 hv).1
        have h1 : cur[off + i * 10 + k]? = some v := by
          rw [Nat.add_assoc]
          refine row_at htake ?_
          rw [flat_at hl.ten hcs k hk]
          exact hv
        obtain ⟨hlt', hx⟩ := Array.getElem?_eq_some_iff.1 h1
        rw [← hx]
        apply Array.ext
        · simp
        · intro j hj1 hj2
          rw [Array.getElem_setIfInBounds]
          split
          · rename_i he; subst he; rfl
          · rfl
      have q0 := hid 0 _ rfl
      have q1 := hid 1 _ rfl
      have q2 := hid 2 _ rfl
      have q3 := hid 3 _ rfl
      have q4 := hid 4 _ rfl
      have q5 := hid 5 _ rfl
      have q6 := hid 6 _ rfl
      have q7 := hid 7 _ rfl
      have q8 := hid 8 _ rfl
      simp only [putCells, slotCells]
      rw [show off + i * 10 + 1 + 1 = off + i * 10 + 2 from rfl, show off + i * 10 + 2 + 1 = off + i * 10 + 3 from rfl, show off + i * 10 + 3 + 1 = off + i * 10 + 4 from rfl, show off + i * 10 + 4 + 1 = off + i * 10 + 5 from rfl, show off + i * 10 + 5 + 1 = off + i * 10 + 6 from rfl, show off + i * 10 + 6 + 1 = off + i * 10 + 7 from rfl, show off + i * 10 + 7 + 1 = off + i * 10 + 8 from rfl, show off + i * 10 + 8 + 1 = off + i * 10 + 9 from rfl]
      rw [show cur.setIfInBounds (off + i * 10) (Value.bool s.node.inner) = cur from q0, q1, q2, q3, q4, q5, q6, q7, q8]
    have hpl := putCells_toList (slotCells { s with used := false } pv kv wv yv) cur (off + i * 10) (by simp [slotCells]; omega)
    rw [← hpc] at hpl
    have hst := slots_store (cs' := slotCells { s with used := false } pv kv wv yv) (cur2 := cur.setIfInBounds (off + i * 10 + 9) (.bool false)) (cur1 := cur.setIfInBounds (off + i * 10 + 8) (.int .u32 s.count)) htake trivial hlt rfl (by rfl) (by
      have q8 : cur.setIfInBounds (off + i * 10 + 8) (.int .u32 s.count) = cur := by
        obtain ⟨hlt', hx⟩ := Array.getElem?_eq_some_iff.1 e8
        rw [← hx]
        apply Array.ext
        · simp
        · intro j hj1 hj2
          rw [Array.getElem_setIfInBounds]
          split
          · rename_i he; subst he; rfl
          · rfl
      rw [q8]
      exact hpl) hsz
    simp only [List.length_set]
    rw [hst, flat_set hl.ten _ hsr.len (by rw [hl.len]; exact hlt)]
  · simpa [ints] using hfr
end Go.Proofs.Ytjkfigkgeoacfaa
