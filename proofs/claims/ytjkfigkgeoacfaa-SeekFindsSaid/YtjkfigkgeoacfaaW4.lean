import Derived.Test.YtjkfigkgeoacfaaW3
set_option linter.unusedVariables false
set_option linter.unusedSimpArgs false
namespace Go.Proofs.Ytjkfigkgeoacfaa
open Go.RowKit Go.Proofs.YtjkfigkgeoacfaaW.PrintLast

theorem AArena.Fresh.alloc_eq {A : AArena} (h : A.Fresh) (n : ANode) : A.alloc n = { A with slots := A.slots ++ [newSlot n 1], used := A.used + 1 } := by simp only [AArena.alloc, h.free]
theorem AArena.Fresh.allocRef_eq {A : AArena} (h : A.Fresh) : A.allocRef = refOf A.slots.length 1 := by simp only [AArena.allocRef, h.free]

/-! The same contracts, for numbers that are told otherwise. -/
theorem way_at {R R2 : HL} {a : Nat} {A : AArena} {L : HL} (hA : ArenaRep R a A L) (hO : A.Ok) {w : World} (hw : Has w (L ++ R2)) {i : Nat} {s : ASlot} (hi : A.slots[i]? = some s) (hu : s.used = true) {k : Nat} {x : Int} (hk : s.ways[k]? = some x) {r kk : Int} (hr : r = refOf i s.count) (hkk : kk = k) :
    Calls Try.prog 12 #[.pointer (some ⟨a, 0, none⟩), .int .i64 r, .int .i64 kk] w fun e w' => e = .returned (.int .i64 x) ∧ w = w' := by
  subst hr hkk; exact way_spec hA hO hw hi hu hk
theorem swapway_at {R R2 : HL} {a : Nat} {A : AArena} {L : HL} (hA : ArenaRep R a A L) (hO : A.Ok) {w : World} (hw : Has w (L ++ R2)) {i : Nat} {s : ASlot} (hi : A.slots[i]? = some s) (hu : s.used = true) {k : Nat} {x old now : Int} (hk : s.ways[k]? = some x) {r kk : Int} (hr : r = refOf i s.count) (hkk : kk = k) :
    Calls Try.prog 62 #[.pointer (some ⟨a, 0, none⟩), .int .i64 r, .int .i64 kk, .int .i64 old, .int .i64 now] w fun e w' =>
      ∃ L', e = .returned (.bool (x == old)) ∧ ArenaRep R a (if x == old then A.setSlot i { s with ways := s.ways.set k now } else A) L' ∧ Has w' (L' ++ R2) ∧ Ext w w' := by
  subst hr hkk; exact swapway_spec hA hO hw hi hu hk
theorem free_at {R R2 : HL} {a : Nat} {A : AArena} {L : HL} (hA : ArenaRep R a A L) (hO : A.Ok) {w : World} (hw : Has w (L ++ R2)) {i : Nat} {s : ASlot} (hi : A.slots[i]? = some s) (hu : s.used = true) (hfl : A.free.length ≤ 100000) (hu0 : 0 ≤ A.used) (hu1 : A.used ≤ 70000) {r : Int} (hr : r = refOf i s.count) :
    Calls Try.prog 64 #[.pointer (some ⟨a, 0, none⟩), .int .i64 r] w fun e w' =>
      ∃ L' N, e = .returned (.bool true) ∧ ArenaRep R a { A with slots := A.slots.set i { s with used := false }, free := A.free ++ [(i : Int)], used := A.used - 1 } L' ∧ Has w' (L' ++ (N ++ R2)) ∧ Ext w w' := by
  subst hr; exact free_spec hA hO hw hi hu hfl hu0 hu1
theorem look_at {R R2 : HL} {a : Nat} {A : AArena} {L : HL} (hA : ArenaRep R a A L) (hO : A.Ok) (hsub : ∀ p, p ∈ R → p ∈ R2) {w : World} (hw : Has w (L ++ R2)) {i : Nat} {s : ASlot} (hi : A.slots[i]? = some s) (hu : s.used = true) {r : Int} (hr : r = refOf i s.count) :
    Calls Try.prog 32 #[.pointer (some ⟨a, 0, none⟩), .int .i64 r] w fun e w' =>
      ∃ pv kv wv N, e = .returned (nodeV s.node pv kv wv) ∧ NodeRep N s.node pv kv wv ∧ Has w' (L ++ (N ++ R2)) ∧ Ext w w' := by
  subst hr; exact look_spec hA hO hsub hw hi hu

/-- A tree stands in an arena, in places from the second on. -/
inductive InT (A : AArena) : Int → Sh → Prop
  | mk {l t : Bool} {ps : List (Int × Int)} {ks : List Int} {kids : List Sh} {i : Nat} {s : ASlot} (hi : 2 ≤ i) (h : A.slots[i]? = some s) (hu : s.used = true) (h1 : s.node.inner = !l) (h2 : s.node.tagged = t) (h3 : s.node.pairs = ps) (h4 : s.node.keys = ks) (h5 : s.node.ways.length = kids.length) (h6 : s.ways.length = kids.length) (hk : ∀ (j : Nat) (r : Int) (k : Sh), s.ways[j]? = some r → kids[j]? = some k → InT A r k) : InT A (refOf i s.count) (.mk l t ps ks kids)
theorem InT.keep {A A' : AArena} {r : Int} {s : Sh} (h : InT A r s) (hk : ∀ (i : Nat) (x : ASlot), 2 ≤ i → A.slots[i]? = some x → A'.slots[i]? = some x) : InT A' r s := by
  induction h with
  | mk hi h hu h1 h2 h3 h4 h5 h6 _ ih => exact .mk hi (hk _ _ hi h) hu h1 h2 h3 h4 h5 h6 ih

/-- Made: the places that were, are; the tree stands in the arena. -/
theorem made_in : ∀ (s : Sh), s.Small → ∀ (A : AArena), A.Fresh → 2 ≤ A.slots.length → A.used + s.many ≤ A.most → (∀ (i : Nat) (x : ASlot), A.slots[i]? = some x → (madeA A s).1.slots[i]? = some x) ∧ InT (madeA A s).1 (madeA A s).2 s := by
  refine Sh.ind ?_
  intro l t ps ks kids ih hs A hA h2 hle
  cases hs with
  | mk z1 z2 z3 z4 =>
    simp only [Sh.many] at hle
    have key : ∀ (ls : List Sh), (∀ k ∈ ls, k ∈ kids) → ∀ (A : AArena), A.Fresh → 2 ≤ A.slots.length → A.used + Sh.manyL ls ≤ A.most →
        (∀ (i : Nat) (x : ASlot), A.slots[i]? = some x → (madeL A ls).1.slots[i]? = some x) ∧ ∀ (j : Nat) (r : Int) (k : Sh), (madeL A ls).2[j]? = some r → ls[j]? = some k → InT (madeL A ls).1 r k := by
      intro ls
      induction ls with
      | nil => intro _ A hA _ _; simp [madeL]
      | cons k ls ih2 =>
        intro hm A hA h2 hle
        simp only [Sh.manyL] at hle
        have hk := hm k (List.mem_cons_self ..)
        obtain ⟨a1, a2, a3⟩ := made_fresh k (z4 k hk) A hA (by omega)
        obtain ⟨c1, c2⟩ := ih k hk (z4 k hk) A hA h2 (by omega)
        obtain ⟨d1, d2⟩ := ih2 (fun x hx => hm x (List.mem_cons_of_mem _ hx)) (madeA A k).1 a1 (by have q := a1.room; have q' := hA.room; omega) (by rw [a2, a3]; omega)
        simp only [madeL]
        refine ⟨fun i x hx => d1 i x (c1 i x hx), ?_⟩
        intro j r k' hj hk'
        cases j with
        | zero =>
          simp at hj hk'
          subst hj hk'
          exact c2.keep fun i x _ hx => d1 i x hx
        | succ j =>
          simp at hj hk'
          exact d2 j r k' hj hk'
    obtain ⟨b1, b2, b3⟩ := madeL_fresh (kids := kids) z4 A hA (by omega)
    obtain ⟨d1, d2⟩ := key kids (fun _ h => h) A hA h2 (by omega)
    have hl := madeL_len kids A
    simp only [madeA]
    generalize madeL A kids = M at b1 b2 b3 d1 d2 hl
    rw [b1.alloc_eq, b1.allocRef_eq]
    have hsz : 2 ≤ M.1.slots.length := by have q := b1.room; have q' := hA.room; omega
    have hkeep : ∀ (i : Nat) (x : ASlot), M.1.slots[i]? = some x → (M.1.slots ++ [newSlot ⟨!l, t, ps, ks, M.2⟩ 1])[i]? = some x := by
      intro i x hx
      rw [List.getElem?_append_left (List.getElem?_eq_some_iff.1 hx).1]
      exact hx
    refine ⟨fun i x hx => hkeep i x (d1 i x hx), ?_⟩
    have := InT.mk (A := { M.1 with slots := M.1.slots ++ [newSlot ⟨!l, t, ps, ks, M.2⟩ 1], used := M.1.used + 1 }) (l := l) (t := t) (ps := ps) (ks := ks) (kids := kids) (i := M.1.slots.length) (s := newSlot ⟨!l, t, ps, ks, M.2⟩ 1) hsz (by simp) rfl rfl rfl rfl rfl hl hl
      (fun j r k hj hk => (d2 j r k hj hk).keep fun i x _ hx => hkeep i x hx)
    exact this

theorem AArena.Ok.setSlot {A : AArena} (h : A.Ok) {i : Nat} {s : ASlot} (h1 : 0 ≤ s.count ∧ s.count < 7000000) (h2 : s.node.pairs.length ≤ 60000 ∧ s.node.keys.length ≤ 60000 ∧ s.node.ways.length ≤ 60000 ∧ s.ways.length ≤ 60000) : (A.setSlot i s).Ok := by
  refine ⟨by simp only [AArena.setSlot, List.length_set]; exact h.slots, fun x hx => ?_, fun x hx => ?_⟩
  · rcases List.mem_or_eq_of_mem_set hx with hx | rfl
    · exact h.count x hx
    · exact h1
  · rcases List.mem_or_eq_of_mem_set hx with hx | rfl
    · exact h.sizes x hx
    · exact h2

def plantA (A : AArena) (s : Sh) : AArena :=
  { (madeA A s).1 with
    slots := (((madeA A s).1.slots.set 1 { newSlot (entryNode (refOf 0 1)) 1 with ways := [(madeA A s).2] }).set 0 { newSlot leafNode 1 with used := false })
    free := [0]
    used := (madeA A s).1.used - 1 }

set_option maxRecDepth 100000 in
set_option maxHeartbeats 2000000 in
theorem plant_any {s : Sh} (hs : s.Small) {R Ra R2 : HL} {cs : List Value} (hr : ShRep R cs s) (hsub : ∀ p, p ∈ R → p ∈ R2) {w : World} {p a t ep : Nat} {x y : Int} {A : AArena} {L : HL} (hA : ArenaRep Ra a A L) (hF : A.Fresh) (hle : A.used + s.many ≤ A.most)
    (h0 : A.slots[0]? = some (newSlot leafNode 1)) (h1 : A.slots[1]? = some (newSlot (entryNode (refOf 0 1)) 1)) (hw : Has w (L ++ ((p, worldObj a t ep x y (refOf 1 1)) :: R2))) :
    Calls Try.prog 39 #[.pointer (some ⟨p, 0, none⟩), .agg cs.toArray] w fun e' w' => ∃ L' N, e' = .returned (.tuple #[]) ∧ ArenaRep (N ++ Ra) a (plantA A s) L' ∧ Has w' (L' ++ (N ++ ((p, worldObj a t ep x y (refOf 1 1)) :: R2))) ∧ Ext w w' := by
  obtain ⟨Bp, dp, Bk, dk, Bc, dc, rfl⟩ := hr.shape
  obtain ⟨b1, b2, b3⟩ := made_fresh s hs A hF hle
  have h2 : 2 ≤ A.slots.length := (List.getElem?_eq_some_iff.1 h1).1
  obtain ⟨keep, hin⟩ := made_in s hs A hF h2 hle
  have k0 := keep 0 _ h0
  have k1 := keep 1 _ h1
  have hwa := (hw.alloc (shObj s Bp dp Bk dk Bc dc)).perm (L' := L ++ ((w.heap.size, shObj s Bp dp Bk dk Bc dc) :: ((p, worldObj a t ep x y (refOf 1 1)) :: R2))) (perm_of_count fun x => by simp only [List.count_append, List.count_cons, List.count_nil, arenaObj, slotObj, nodeObj, worldObj, shObj]; omega)
  have hea := (Ext.refl w).alloc (shObj s Bp dp Bk dk Bc dc)
  have HW := Lib.hid (And.intro hwa hea)
  clear hwa hea keep hin
  have Hb := Lib.hid (And.intro b1 (And.intro b2 b3))
  clear b1 b2 b3
  go_enter Try.func39, Try.ntmps39
  go_wp2_with fail
  obtain ⟨hW, hE⟩ := HW.out
  generalize hEq : World.alloc _ _ = w1
  rw [hEq] at hW hE
  clear hEq HW
  generalize w.heap.size = vb at hW ⊢
  have kb : ∀ (w' : World) (X : HL), Has w' X → (vb, shObj s Bp dp Bk dk Bc dc) ∈ X → (p, worldObj a t ep x y (refOf 1 1)) ∈ X →
      (w'.cell? ⟨vb, 0, none⟩ = some (.bool s.leaf) ∧ w'.cell? ⟨vb, 1, none⟩ = some (.bool s.tagged) ∧ w'.cell? ⟨vb, 2, none⟩ = some (.slice Bp s.pairs.length dp) ∧ w'.cell? ⟨vb, 3, none⟩ = some (.slice Bk s.keys.length dk) ∧ w'.cell? ⟨vb, 4, none⟩ = some (.slice Bc s.kids.length dc)) ∧
      w'.cell? ⟨p, 0, none⟩ = some (.pointer (some ⟨a, 0, none⟩)) ∧ w'.cell? ⟨p, 5, none⟩ = some (.int .i64 (refOf 1 1)) :=
    fun _ _ h hm hg => ⟨⟨(h.cell hm 0).trans rfl, (h.cell hm 1).trans rfl, (h.cell hm 2).trans rfl, (h.cell hm 3).trans rfl, (h.cell hm 4).trans rfl⟩, (h.cell hg 0).trans rfl, (h.cell hg 5).trans rfl⟩
  have q1 := kb _ _ hW (by simp) (by simp)
  have KB := Lib.hid kb
  clear kb
  have hway : Calls Try.prog 12 #[.pointer (some ⟨a, 0, none⟩), .int .i64 (refOf 1 1), .int .i64 0] w1.drew fun e w' => e = .returned (.int .i64 (refOf 0 1)) ∧ w1.drew = w' := way_at hA hF.ok hW.drew (i := 1) h1 rfl (k := 0) (x := refOf 0 1) rfl rfl rfl
  have Hway := Lib.hid hway
  clear hway
  refine start_ (n := 10) (S := fun w' => w'.cell? ⟨p, 0, none⟩ = some (.pointer (some ⟨a, 0, none⟩)) ∧ w'.cell? ⟨p, 5, none⟩ = some (.int .i64 (refOf 1 1))) (ds := []) #[false, false, false, false, false, false, false, false, false, false] (by kernel_rfl) rfl rfl ⟨q1.2.1, q1.2.2⟩ (fun hHeld => ?_)
  refine pure_ (i := 0) (N := some 5) (v := ?_) (a' := ?_) #[true, false, false, false, false, false, false, false, false, false] rfl rfl (by kernel_rfl) (fun _ _ _ h => h) (Or.inl ⟨by rfl, ?_⟩) ?_ ?_
  rotate_left
  · intro w'
    go_simp
    with_reducible rfl
  rotate_left
  · simp only [Act.put, List.setIfInBounds_toArray, List.set_cons_zero, List.set_cons_succ, i64_w, i32_w]
    rfl
  refine pure_ (i := 1) (N := some 6) (v := ?_) (a' := ?_) #[true, true, false, false, false, false, false, false, false, false] rfl rfl (by kernel_rfl) (fun _ _ _ h => h) (Or.inl ⟨by rfl, ?_⟩) ?_ ?_
  rotate_left
  · intro w'
    go_simp
    with_reducible rfl
  rotate_left
  · simp only [Act.put, List.setIfInBounds_toArray, List.set_cons_zero, List.set_cons_succ, i64_w, i32_w]
    rfl
  refine pure_ (i := 2) (N := some 7) (v := ?_) (a' := ?_) #[true, true, true, false, false, false, false, false, false, false] rfl rfl (by kernel_rfl) (fun _ _ _ h => h) (Or.inl ⟨by rfl, ?_⟩) ?_ ?_
  rotate_left
  · intro w'
    go_simp
    with_reducible rfl
  rotate_left
  · simp only [Act.put, List.setIfInBounds_toArray, List.set_cons_zero, List.set_cons_succ, i64_w, i32_w]
    rfl
  refine pure_ (i := 4) (N := some 9) (v := ?_) (a' := ?_) #[true, true, true, false, true, false, false, false, false, false] rfl rfl (by kernel_rfl) (fun _ _ _ h => h) (Or.inl ⟨by rfl, ?_⟩) ?_ ?_
  rotate_left
  · intro w'
    go_simp
    with_reducible rfl
  rotate_left
  · simp only [Act.put, List.setIfInBounds_toArray, List.set_cons_zero, List.set_cons_succ, i64_w, i32_w]
    rfl
  refine pure_ (i := 5) (N := some 10) (v := ?_) (a' := ?_) #[true, true, true, false, true, true, false, false, false, false] rfl rfl (by kernel_rfl) (fun _ _ _ h => h) (Or.inl ⟨by rfl, ?_⟩) ?_ ?_
  rotate_left
  · intro w'
    go_simp
    with_reducible rfl
  rotate_left
  · simp only [Act.put, List.setIfInBounds_toArray, List.set_cons_zero, List.set_cons_succ, i64_w, i32_w]
    rfl
  refine pure_ (i := 6) (N := some 11) (v := ?_) (a' := ?_) #[true, true, true, false, true, true, true, false, false, false] rfl rfl (by kernel_rfl) (fun _ _ _ h => h) (Or.inl ⟨by rfl, ?_⟩) ?_ ?_
  rotate_left
  · intro w'
    go_simp
    with_reducible rfl
  rotate_left
  · simp only [Act.put, List.setIfInBounds_toArray, List.set_cons_zero, List.set_cons_succ, i64_w, i32_w]
    rfl
  refine take_ (i := 3) (N := some 8) (v := ?_) (a' := ?_) #[true, true, true, true, true, true, true, false, false, false] rfl rfl (by kernel_rfl) (fun _ _ _ h => h) (Or.inl ⟨by rfl, ?_⟩) hHeld ?_ ?_
  rotate_left
  · rintro w' ⟨s0, s1⟩
    go_simp
    with_reducible rfl
  rotate_left
  · simp only [Act.put, List.setIfInBounds_toArray, List.set_cons_zero, List.set_cons_succ, i64_w, i32_w]
    rfl
  refine take_ (i := 7) (N := some 12) (v := ?_) (a' := ?_) #[true, true, true, true, true, true, true, true, false, false] rfl rfl (by kernel_rfl) (fun _ _ _ h => h) (Or.inl ⟨by rfl, ?_⟩) hHeld ?_ ?_
  rotate_left
  · rintro w' ⟨s0, s1⟩
    go_simp
    with_reducible rfl
  rotate_left
  · simp only [Act.put, List.setIfInBounds_toArray, List.set_cons_zero, List.set_cons_succ, i64_w, i32_w]
    rfl
  refine one_ (i := 8) (N := some 13) #[true, true, true, true, true, true, true, true, true, false] rfl rfl (by kernel_rfl) (by decide) (fun K hK => ?_)
  refine goes_ Try.func12 (by kernel_rfl) rfl #[.pointer (some ⟨a, 0, none⟩), .int .i64 (refOf 1 1), .int .i64 0] (by rfl) rfl rfl (by simp only [List.map_toArray, List.map_cons, List.map_nil]; rfl) ?_
  with_reducible refine (Hway.out).mono ?_
  rintro e' w2 ⟨rfl, rfl⟩
  refine ⟨_, rfl, ?_⟩
  refine hK.out _ _ ⟨q1.2.1, q1.2.2⟩ (fun hHeld => ?_)
  clear hK K
  refine norm_ (a' := ?_) ?_ ?_
  rotate_left
  · show Act.put _ (some 13) _ = _
    simp only [Act.put, List.setIfInBounds_toArray, List.set_cons_zero, List.set_cons_succ, i64_w, i32_w]
    rfl
  refine pure_ (i := 9) (N := some 4) (v := ?_) (a' := ?_) #[true, true, true, true, true, true, true, true, true, true] rfl rfl (by kernel_rfl) (fun _ _ _ h => h) (Or.inl ⟨by rfl, ?_⟩) ?_ ?_
  rotate_left
  · intro w'
    go_simp
    with_reducible rfl
  rotate_left
  · simp only [Act.put, List.setIfInBounds_toArray, List.set_cons_zero, List.set_cons_succ, i64_w, i32_w]
    rfl
  refine done_ (by kernel_rfl) ?_
  go_wp2_with fail
  generalize hEq : w1.drew = w2
  have hW2 : Has w2 (L ++ ((vb, shObj s Bp dp Bk dk Bc dc) :: ((p, worldObj a t ep x y (refOf 1 1)) :: R2))) := by rw [← hEq]; exact hW.drew
  have hE2 : Ext w w2 := by rw [← hEq]; exact hE.drew
  clear hEq hHeld hW hE
  have q2 := KB.out _ _ hW2 (by simp) (by simp)
  clear q1
  have hmade : Calls Try.prog 63 #[.pointer (some ⟨a, 0, none⟩), .agg (shCells s Bp dp Bk dk Bc dc).toArray] w2.drew fun e w' => ∃ L' N, e = .returned (.int .i64 (madeA A s).2) ∧ ArenaRep (N ++ Ra) a (madeA A s).1 L' ∧ Has w' (L' ++ (N ++ ((vb, shObj s Bp dp Bk dk Bc dc) :: ((p, worldObj a t ep x y (refOf 1 1)) :: R2)))) ∧ Ext w2.drew w' :=
    made_any s hs R Ra ((vb, shObj s Bp dp Bk dk Bc dc) :: ((p, worldObj a t ep x y (refOf 1 1)) :: R2)) _ w2.drew a A L hr hA hF hle hW2.drew (fun p hp => by have := hsub p hp; simp [this])
  have Hmade := Lib.hid hmade
  clear hmade
  refine start_ (n := 16) (S := fun w' => w'.cell? ⟨p, 0, none⟩ = some (.pointer (some ⟨a, 0, none⟩)) ∧ w'.cell? ⟨p, 5, none⟩ = some (.int .i64 (refOf 1 1)) ∧ w'.cell? ⟨vb, 0, none⟩ = some (.bool s.leaf) ∧ w'.cell? ⟨vb, 1, none⟩ = some (.bool s.tagged) ∧ w'.cell? ⟨vb, 2, none⟩ = some (.slice Bp s.pairs.length dp) ∧ w'.cell? ⟨vb, 3, none⟩ = some (.slice Bk s.keys.length dk) ∧ w'.cell? ⟨vb, 4, none⟩ = some (.slice Bc s.kids.length dc)) (ds := []) #[false, false, false, false, false, false, false, false, false, false, false, false, false, false, false, false] (by kernel_rfl) rfl rfl ⟨q2.2.1, q2.2.2, q2.1.1, q2.1.2.1, q2.1.2.2.1, q2.1.2.2.2.1, q2.1.2.2.2.2⟩ (fun hHeld => ?_)
  refine pure_ (i := 0) (N := some 14) (v := ?_) (a' := ?_) #[true, false, false, false, false, false, false, false, false, false, false, false, false, false, false, false] rfl rfl (by kernel_rfl) (fun _ _ _ h => h) (Or.inl ⟨by rfl, ?_⟩) ?_ ?_
  rotate_left
  · intro w'
    go_simp
    with_reducible rfl
  rotate_left
  · simp only [Act.put, List.setIfInBounds_toArray, List.set_cons_zero, List.set_cons_succ, i64_w, i32_w]
    rfl
  refine pure_ (i := 1) (N := some 15) (v := ?_) (a' := ?_) #[true, true, false, false, false, false, false, false, false, false, false, false, false, false, false, false] rfl rfl (by kernel_rfl) (fun _ _ _ h => h) (Or.inl ⟨by rfl, ?_⟩) ?_ ?_
  rotate_left
  · intro w'
    go_simp
    with_reducible rfl
  rotate_left
  · simp only [Act.put, List.setIfInBounds_toArray, List.set_cons_zero, List.set_cons_succ, i64_w, i32_w]
    rfl
  refine pure_ (i := 2) (N := some 16) (v := ?_) (a' := ?_) #[true, true, true, false, false, false, false, false, false, false, false, false, false, false, false, false] rfl rfl (by kernel_rfl) (fun _ _ _ h => h) (Or.inl ⟨by rfl, ?_⟩) ?_ ?_
  rotate_left
  · intro w'
    go_simp
    with_reducible rfl
  rotate_left
  · simp only [Act.put, List.setIfInBounds_toArray, List.set_cons_zero, List.set_cons_succ, i64_w, i32_w]
    rfl
  refine pure_ (i := 4) (N := some 18) (v := ?_) (a' := ?_) #[true, true, true, false, true, false, false, false, false, false, false, false, false, false, false, false] rfl rfl (by kernel_rfl) (fun _ _ _ h => h) (Or.inl ⟨by rfl, ?_⟩) ?_ ?_
  rotate_left
  · intro w'
    go_simp
    with_reducible rfl
  rotate_left
  · simp only [Act.put, List.setIfInBounds_toArray, List.set_cons_zero, List.set_cons_succ, i64_w, i32_w]
    rfl
  refine pure_ (i := 5) (N := some 19) (v := ?_) (a' := ?_) #[true, true, true, false, true, true, false, false, false, false, false, false, false, false, false, false] rfl rfl (by kernel_rfl) (fun _ _ _ h => h) (Or.inl ⟨by rfl, ?_⟩) ?_ ?_
  rotate_left
  · intro w'
    go_simp
    with_reducible rfl
  rotate_left
  · simp only [Act.put, List.setIfInBounds_toArray, List.set_cons_zero, List.set_cons_succ, i64_w, i32_w]
    rfl
  refine pure_ (i := 6) (N := some 20) (v := ?_) (a' := ?_) #[true, true, true, false, true, true, true, false, false, false, false, false, false, false, false, false] rfl rfl (by kernel_rfl) (fun _ _ _ h => h) (Or.inl ⟨by rfl, ?_⟩) ?_ ?_
  rotate_left
  · intro w'
    go_simp
    with_reducible rfl
  rotate_left
  · simp only [Act.put, List.setIfInBounds_toArray, List.set_cons_zero, List.set_cons_succ, i64_w, i32_w]
    rfl
  refine pure_ (i := 8) (N := some 22) (v := ?_) (a' := ?_) #[true, true, true, false, true, true, true, false, true, false, false, false, false, false, false, false] rfl rfl (by kernel_rfl) (fun _ _ _ h => h) (Or.inl ⟨by rfl, ?_⟩) ?_ ?_
  rotate_left
  · intro w'
    go_simp
    with_reducible rfl
  rotate_left
  · simp only [Act.put, List.setIfInBounds_toArray, List.set_cons_zero, List.set_cons_succ, i64_w, i32_w]
    rfl
  refine pure_ (i := 9) (N := some 23) (v := ?_) (a' := ?_) #[true, true, true, false, true, true, true, false, true, true, false, false, false, false, false, false] rfl rfl (by kernel_rfl) (fun _ _ _ h => h) (Or.inl ⟨by rfl, ?_⟩) ?_ ?_
  rotate_left
  · intro w'
    go_simp
    with_reducible rfl
  rotate_left
  · simp only [Act.put, List.setIfInBounds_toArray, List.set_cons_zero, List.set_cons_succ, i64_w, i32_w]
    rfl
  refine pure_ (i := 10) (N := some 24) (v := ?_) (a' := ?_) #[true, true, true, false, true, true, true, false, true, true, true, false, false, false, false, false] rfl rfl (by kernel_rfl) (fun _ _ _ h => h) (Or.inl ⟨by rfl, ?_⟩) ?_ ?_
  rotate_left
  · intro w'
    go_simp
    with_reducible rfl
  rotate_left
  · simp only [Act.put, List.setIfInBounds_toArray, List.set_cons_zero, List.set_cons_succ, i64_w, i32_w]
    rfl
  refine pure_ (i := 11) (N := some 25) (v := ?_) (a' := ?_) #[true, true, true, false, true, true, true, false, true, true, true, true, false, false, false, false] rfl rfl (by kernel_rfl) (fun _ _ _ h => h) (Or.inl ⟨by rfl, ?_⟩) ?_ ?_
  rotate_left
  · intro w'
    go_simp
    with_reducible rfl
  rotate_left
  · simp only [Act.put, List.setIfInBounds_toArray, List.set_cons_zero, List.set_cons_succ, i64_w, i32_w]
    rfl
  refine take_ (i := 3) (N := some 17) (v := ?_) (a' := ?_) #[true, true, true, true, true, true, true, false, true, true, true, true, false, false, false, false] rfl rfl (by kernel_rfl) (fun _ _ _ h => h) (Or.inl ⟨by rfl, ?_⟩) hHeld ?_ ?_
  rotate_left
  · rintro w' ⟨s0, s1, s2, s3, s4, s5, s6⟩
    go_simp
    with_reducible rfl
  rotate_left
  · simp only [Act.put, List.setIfInBounds_toArray, List.set_cons_zero, List.set_cons_succ, i64_w, i32_w]
    rfl
  refine take_ (i := 7) (N := some 21) (v := ?_) (a' := ?_) #[true, true, true, true, true, true, true, true, true, true, true, true, false, false, false, false] rfl rfl (by kernel_rfl) (fun _ _ _ h => h) (Or.inl ⟨by rfl, ?_⟩) hHeld ?_ ?_
  rotate_left
  · rintro w' ⟨s0, s1, s2, s3, s4, s5, s6⟩
    go_simp
    with_reducible rfl
  rotate_left
  · simp only [Act.put, List.setIfInBounds_toArray, List.set_cons_zero, List.set_cons_succ, i64_w, i32_w]
    rfl
  refine take_ (i := 12) (N := some 26) (v := ?_) (a' := ?_) #[true, true, true, true, true, true, true, true, true, true, true, true, true, false, false, false] rfl rfl (by kernel_rfl) (fun _ _ _ h => h) (Or.inl ⟨by rfl, ?_⟩) hHeld ?_ ?_
  rotate_left
  · rintro w' ⟨s0, s1, s2, s3, s4, s5, s6⟩
    go_simp
    with_reducible rfl
  rotate_left
  · simp only [Act.put, List.setIfInBounds_toArray, List.set_cons_zero, List.set_cons_succ, i64_w, i32_w]
    rfl
  refine take_ (i := 13) (N := some 27) (v := ?_) (a' := ?_) #[true, true, true, true, true, true, true, true, true, true, true, true, true, true, false, false] rfl rfl (by kernel_rfl) (fun _ _ _ h => h) (Or.inl ⟨by rfl, ?_⟩) hHeld ?_ ?_
  rotate_left
  · rintro w' ⟨s0, s1, s2, s3, s4, s5, s6⟩
    go_simp
    with_reducible rfl
  rotate_left
  · simp only [Act.put, List.setIfInBounds_toArray, List.set_cons_zero, List.set_cons_succ, i64_w, i32_w]
    rfl
  refine one_ (i := 14) (N := some 28) #[true, true, true, true, true, true, true, true, true, true, true, true, true, true, true, false] rfl rfl (by kernel_rfl) (by decide) (fun K hK => ?_)
  refine goes_ Try.func63 (by kernel_rfl) rfl #[.pointer (some ⟨a, 0, none⟩), .agg (shCells s Bp dp Bk dk Bc dc).toArray] (by rfl) rfl rfl (by simp only [List.map_toArray, List.map_cons, List.map_nil]; rfl) ?_
  with_reducible refine (Hmade.out).mono ?_
  rintro e' w3 ⟨L3, N3, rfl, hA3, hW3, hE3⟩
  refine ⟨_, rfl, ?_⟩
  have q3 := KB.out _ _ hW3 (by simp) (by simp)
  refine hK.out _ _ ⟨q3.2.1, q3.2.2, q3.1.1, q3.1.2.1, q3.1.2.2.1, q3.1.2.2.2.1, q3.1.2.2.2.2⟩ (fun hHeld => ?_)
  clear hK K
  refine norm_ (a' := ?_) ?_ ?_
  rotate_left
  · show Act.put _ (some 28) _ = _
    simp only [Act.put, List.setIfInBounds_toArray, List.set_cons_zero, List.set_cons_succ, i64_w, i32_w]
    rfl
  refine one_ (i := 15) (N := some 29) #[true, true, true, true, true, true, true, true, true, true, true, true, true, true, true, true] rfl rfl (by kernel_rfl) (by decide) (fun K hK => ?_)
  refine goes_ Try.func62 (by kernel_rfl) rfl #[.pointer (some ⟨a, 0, none⟩), .int .i64 (refOf 1 1), .int .i64 0, .int .i64 (refOf 0 1), .int .i64 (madeA A s).2] (by rfl) rfl rfl (by simp only [List.map_toArray, List.map_cons, List.map_nil]; rfl) ?_
  with_reducible refine ((swapway_at (r := refOf 1 1) (kk := 0) hA3 Hb.out.1.ok hW3 (i := 1) k1 rfl (k := 0) (x := refOf 0 1) (old := refOf 0 1) (now := (madeA A s).2) rfl rfl rfl)).mono ?_
  rintro e' w4 ⟨L4, rfl, hA4, hW4, hE4⟩
  refine ⟨_, rfl, ?_⟩
  have q4 := KB.out _ _ hW4 (by simp) (by simp)
  refine hK.out _ _ ⟨q4.2.1, q4.2.2, q4.1.1, q4.1.2.1, q4.1.2.2.1, q4.1.2.2.2.1, q4.1.2.2.2.2⟩ (fun hHeld => ?_)
  clear hK K
  refine norm_ (a' := ?_) ?_ ?_
  rotate_left
  · show Act.put _ (some 29) _ = _
    simp only [Act.put, List.setIfInBounds_toArray, List.set_cons_zero, List.set_cons_succ, i64_w, i32_w]
    rfl
  refine done_ (by kernel_rfl) ?_
  clear hHeld q2 q3
  simp only [beq_refl_int, if_true] at hA4
  have hok4 : ((madeA A s).1.setSlot 1 { newSlot (entryNode (refOf 0 1)) 1 with ways := (newSlot (entryNode (refOf 0 1)) 1).ways.set 0 (madeA A s).2 }).Ok := Hb.out.1.ok.setSlot (by simp [newSlot]) (by simp [newSlot, entryNode])
  have k0' : ((madeA A s).1.setSlot 1 { newSlot (entryNode (refOf 0 1)) 1 with ways := (newSlot (entryNode (refOf 0 1)) 1).ways.set 0 (madeA A s).2 }).slots[0]? = some (newSlot leafNode 1) := by
    simp only [AArena.setSlot]
    rw [List.getElem?_set_ne (by omega)]
    exact k0
  have hfree := fun r hr => free_at (r := r) hA4 hok4 hW4 (i := 0) k0' rfl (by simp only [AArena.setSlot]; rw [Hb.out.1.free]; simp) (by simp only [AArena.setSlot]; have := Hb.out.1.used; have := Hb.out.1.room; omega) (by simp only [AArena.setSlot]; have := Hb.out.1.used; have := Hb.out.1.most; omega) hr
  have Hfree := Lib.hid hfree
  have q5 := q4.2.1
  clear hfree q4 hA4 hA3
  go_wp2_with first | (go_at_call 64; refine (Hfree.out _ rfl).mono ?_; rintro e' w5 ⟨L5, N5, rfl, hA5, hW5, hE5⟩)
  (try simp only [Exit.inBlock, Exit.then])
  refine bodyPost_end (results_none rfl _ _ _) rfl ?_
  refine ⟨L5, N5 ++ (N3 ++ [(vb, shObj s Bp dp Bk dk Bc dc)]), rfl, ?_, ?_, ((hE2.drew.trans hE3).trans hE4).trans hE5⟩
  · have hfr := Hb.out.1.free
    simp only [AArena.setSlot, hfr] at hA5
    unfold plantA
    exact hA5.mono (by intro p hp; simp only [List.mem_append, List.mem_cons] at hp ⊢; grind)
  · exact hW5.perm (perm_of_count fun x => by simp only [List.count_append, List.count_cons, List.count_nil, arenaObj, slotObj, nodeObj, worldObj, shObj]; omega)

/-- The world with a tree in it. -/
def plantedWorld (a b : Int) (threads : Nat) (s : Sh) (room records : Int) : AWorld :=
  { newWorld a b threads (2 + s.many + room) records with arena := plantA (newWorld a b threads (2 + s.many + room) records).arena s }

theorem newWorld_fresh {a b : Int} {threads : Nat} {nodes records : Int} (h : 2 ≤ nodes) (h' : nodes ≤ 65536) : (newWorld a b threads nodes records).arena.Fresh :=
  ⟨rfl, rfl, h', h, ⟨by simp [newWorld], by simp [newWorld, newSlot], by simp [newWorld, newSlot, leafNode, entryNode]⟩⟩

set_option maxRecDepth 100000 in
set_option maxHeartbeats 2000000 in
theorem world11_any {a b : Int} {threads : Nat} {room records : Int} {s : Sh} (ha : 2 ≤ a) (ha' : a ≤ 32) (hb : 2 * a - 1 ≤ b) (hb' : b ≤ 32) (ht : 1 ≤ threads) (ht' : threads ≤ 64) (hn : 0 ≤ room) (hn' : 2 + s.many + room ≤ 65536) (hr : 0 ≤ records) (hr' : records ≤ 65536)
    (hs : s.Small) {R : HL} {cs : List Value} (hsr : ShRep R cs s) {w : World} (hw : Has w R) :
    Calls Try.prog 11 #[.int .i64 a, .int .i64 b, .int .i64 threads, .agg cs.toArray, .int .i64 room, .int .i64 records] w fun e w' =>
      ∃ p L N, e = .returned (.pointer (some ⟨p, 0, none⟩)) ∧ WorldRep (N ++ R) p (plantedWorld a b threads s room records) L ∧ Has w' (L ++ (N ++ R)) ∧ Ext w w' := by
  obtain ⟨Bp, dp, Bk, dk, Bc, dc, rfl⟩ := hsr.shape
  have hwa := hw.alloc (shObj s Bp dp Bk dk Bc dc)
  have hea := (Ext.refl w).alloc (shObj s Bp dp Bk dk Bc dc)
  have HW := Lib.hid (And.intro hwa hea)
  clear hwa hea
  go_enter Try.func11, Try.ntmps11
  go_wp2_with fail
  obtain ⟨hW, hE⟩ := HW.out
  generalize hEq : World.alloc _ _ = w1
  rw [hEq] at hW hE
  clear hEq HW
  generalize w.heap.size = vb at hW ⊢
  have kb : ∀ (w' : World) (X : HL), Has w' X → (vb, shObj s Bp dp Bk dk Bc dc) ∈ X →
      (w'.cell? ⟨vb, 0, none⟩ = some (.bool s.leaf) ∧ w'.cell? ⟨vb, 1, none⟩ = some (.bool s.tagged) ∧ w'.cell? ⟨vb, 2, none⟩ = some (.slice Bp s.pairs.length dp) ∧ w'.cell? ⟨vb, 3, none⟩ = some (.slice Bk s.keys.length dk) ∧ w'.cell? ⟨vb, 4, none⟩ = some (.slice Bc s.kids.length dc)) :=
    fun _ _ h hm => ⟨(h.cell hm 0).trans rfl, (h.cell hm 1).trans rfl, (h.cell hm 2).trans rfl, (h.cell hm 3).trans rfl, (h.cell hm 4).trans rfl⟩
  have q1 := kb _ _ hW (by simp)
  have KB := Lib.hid kb
  clear kb
  have hmany := many_any s (by omega) ((vb, shObj s Bp dp Bk dk Bc dc) :: R) (shCells s Bp dp Bk dk Bc dc) w1 (hsr.mono (fun p hp => List.mem_cons_of_mem _ hp)) hW
  refine hmany.mono ?_
  rintro e w2 ⟨rfl, ⟨N1, hN1⟩, hE2⟩
  have q2 := KB.out _ _ hN1 (by simp)
  clear q1 hmany
  have hnew := worldNew_any (a := a) (b := b) (threads := threads) (nodes := 2 + s.many + room) (records := records) ha ha' hb hb' ht ht' (by omega) hn' hr hr' hN1
  have Hnew := Lib.hid hnew
  clear hnew
  go_wp2_with fail
  refine Hnew.out.mono ?_
  rintro e w3 ⟨p, L3, N3, rfl, hR3, hW3, hE3⟩
  obtain ⟨ga, gt, ge, La, Lt, Le, rfl, hA3, hT3, hEp3⟩ := hR3
  have hW3 : Has w3 (((p, worldObj ga gt ge a b (refOf 1 1)) :: (La ++ (Lt ++ Le))) ++ (N3 ++ (N1 ++ ((vb, shObj s Bp dp Bk dk Bc dc) :: R)))) := hW3
  have hW3' := hW3.perm (L' := La ++ ((p, worldObj ga gt ge a b (refOf 1 1)) :: (Lt ++ (Le ++ (N3 ++ (N1 ++ ((vb, shObj s Bp dp Bk dk Bc dc) :: R))))))) (perm_of_count fun x => by simp only [List.count_append, List.count_cons, List.count_nil, arenaObj, slotObj, nodeObj, worldObj, shObj]; omega)
  have hF := newWorld_fresh (a := a) (b := b) (threads := threads) (records := records) (show (2 : Int) ≤ 2 + s.many + room by omega) hn'
  have hplant := plant_any hs hsr (R2 := Lt ++ (Le ++ (N3 ++ (N1 ++ ((vb, shObj s Bp dp Bk dk Bc dc) :: R))))) (fun p hp => by simp [hp]) hA3 hF (by simp [newWorld]; omega) rfl rfl hW3'
  have q3 := KB.out _ _ hW3 (by simp)
  have Hplant := Lib.hid hplant
  clear hplant
  go_wp2_with first | (go_at_call 39; refine Hplant.out.mono ?_; rintro e w4 ⟨L4, N4, rfl, hA4, hW4, hE4⟩)
  go_ret
  refine ⟨p, (p, worldObj ga gt ge a b (refOf 1 1)) :: (L4 ++ (Lt ++ Le)), N4 ++ (N3 ++ (N1 ++ [(vb, shObj s Bp dp Bk dk Bc dc)])), rfl, ?_, ?_, ((hE.trans hE2).trans hE3).trans hE4⟩
  · exact ⟨ga, gt, ge, L4, Lt, Le, rfl, hA4.mono (by intro p hp; simp only [List.mem_append, List.mem_cons] at hp ⊢; grind), hT3.mono (by intro p hp; simp only [List.mem_append, List.mem_cons] at hp ⊢; grind), hEp3⟩
  · exact hW4.perm (perm_of_count fun x => by simp only [List.count_append, List.count_cons, List.count_nil, arenaObj, slotObj, nodeObj, worldObj, shObj]; omega)
end Go.Proofs.Ytjkfigkgeoacfaa
