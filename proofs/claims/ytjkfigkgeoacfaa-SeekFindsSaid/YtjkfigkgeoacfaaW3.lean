import Derived.Test.YtjkfigkgeoacfaaW2
import Derived.Test.YtjkfigkgeoacfaaS0
set_option linter.unusedVariables false
set_option linter.unusedSimpArgs false
namespace Go.Proofs.Ytjkfigkgeoacfaa
open Go.RowKit Go.Proofs.YtjkfigkgeoacfaaW.PrintLast

mutual
def madeA (A : AArena) : Sh → AArena × Int
  | .mk l t ps ks kids => ((madeL A kids).1.alloc ⟨!l, t, ps, ks, (madeL A kids).2⟩, (madeL A kids).1.allocRef)
def madeL (A : AArena) : List Sh → AArena × List Int
  | [] => (A, [])
  | k :: ks => ((madeL (madeA A k).1 ks).1, (madeA A k).2 :: (madeL (madeA A k).1 ks).2)
end
theorem madeL_append (ks : List Sh) : ∀ (A : AArena) (ls : List Sh), madeL A (ks ++ ls) = ((madeL (madeL A ks).1 ls).1, (madeL A ks).2 ++ (madeL (madeL A ks).1 ls).2) := by
  induction ks with
  | nil => intro A ls; simp [madeL]
  | cons k ks ih => intro A ls; simp [madeL, ih]
theorem madeL_take {A : AArena} {kids : List Sh} {k : Nat} {s : Sh} (h : kids[k]? = some s) :
    madeL A (kids.take (k + 1)) = ((madeA (madeL A (kids.take k)).1 s).1, (madeL A (kids.take k)).2 ++ [(madeA (madeL A (kids.take k)).1 s).2]) := by
  have hlt := (List.getElem?_eq_some_iff.1 h).1
  have he := (List.getElem?_eq_some_iff.1 h).2
  rw [List.take_succ_eq_append_getElem hlt, madeL_append, he]
  simp [madeL]
theorem madeL_len (ks : List Sh) : ∀ A, (madeL A ks).2.length = ks.length := by
  induction ks with
  | nil => intro A; rfl
  | cons k ks ih => intro A; simp [madeL, ih]

/-- No list of a tree is long. -/
inductive Sh.Small : Sh → Prop
  | mk {l t : Bool} {ps : List (Int × Int)} {ks : List Int} {kids : List Sh} (h1 : ps.length ≤ 60000) (h2 : ks.length ≤ 60000) (h3 : kids.length ≤ 60000) (h4 : ∀ k ∈ kids, Sh.Small k) : Sh.Small (.mk l t ps ks kids)

/-- An arena in which nothing was freed. -/
structure AArena.Fresh (A : AArena) : Prop where
  free : A.free = []
  room : A.slots.length = A.used
  most : A.most ≤ 65536
  used : A.used ≤ A.most
  ok : A.Ok
theorem AArena.Fresh.ok2 {A : AArena} (h : A.Fresh) : A.Ok2 := ⟨by rw [h.free]; simp, fun _ => h.room, h.most, by have := h.room; omega⟩
theorem AArena.Fresh.alloc {A : AArena} (h : A.Fresh) {n : ANode} (h1 : n.pairs.length ≤ 60000) (h2 : n.keys.length ≤ 60000) (h3 : n.ways.length ≤ 60000) (hlt : A.used < A.most) : (A.alloc n).Fresh ∧ (A.alloc n).used = A.used + 1 ∧ (A.alloc n).most = A.most := by
  have e : A.alloc n = { A with slots := A.slots ++ [newSlot n 1], used := A.used + 1 } := by simp only [AArena.alloc, h.free]
  rw [e]
  have hr := h.room
  have hm := h.most
  refine ⟨⟨h.free, by simp; omega, h.most, by simp; omega, ⟨by simp; omega, ?_, ?_⟩⟩, rfl, rfl⟩
  · intro s hs
    rcases List.mem_append.1 hs with hs | hs
    · exact h.ok.count s hs
    · simp at hs; subst hs; simp [newSlot]
  · intro s hs
    rcases List.mem_append.1 hs with hs | hs
    · exact h.ok.sizes s hs
    · simp at hs; subst hs; exact ⟨h1, h2, h3, h3⟩

theorem made_fresh : ∀ (s : Sh), s.Small → ∀ (A : AArena), A.Fresh → A.used + s.many ≤ A.most → (madeA A s).1.Fresh ∧ (madeA A s).1.used = A.used + s.many ∧ (madeA A s).1.most = A.most := by
  refine Sh.ind ?_
  intro l t ps ks kids ih hs A hA hle
  cases hs with
  | mk h1 h2 h3 h4 =>
    simp only [Sh.many] at hle
    have key : ∀ (ls : List Sh), (∀ k ∈ ls, k ∈ kids) → ∀ (A : AArena), A.Fresh → A.used + Sh.manyL ls ≤ A.most → (madeL A ls).1.Fresh ∧ (madeL A ls).1.used = A.used + Sh.manyL ls ∧ (madeL A ls).1.most = A.most := by
      intro ls
      induction ls with
      | nil => intro _ A hA _; simp [madeL, Sh.manyL, hA]
      | cons k ls ih2 =>
        intro hm A hA hle
        simp only [Sh.manyL] at hle
        obtain ⟨a1, a2, a3⟩ := ih k (hm k (List.mem_cons_self ..)) (h4 k (hm k (List.mem_cons_self ..))) A hA (by omega)
        obtain ⟨b1, b2, b3⟩ := ih2 (fun x hx => hm x (List.mem_cons_of_mem _ hx)) _ a1 (by rw [a2, a3]; omega)
        simp only [madeL, Sh.manyL]
        exact ⟨b1, by rw [b2, a2]; omega, by rw [b3, a3]⟩
    obtain ⟨b1, b2, b3⟩ := key kids (fun _ h => h) A hA (by omega)
    have := b1.alloc (n := ⟨!l, t, ps, ks, (madeL A kids).2⟩) h1 h2 (by simp only []; rw [madeL_len]; exact h3) (by rw [b2, b3]; omega)
    simp only [madeA, Sh.many]
    exact ⟨this.1, by rw [this.2.1, b2]; omega, by rw [this.2.2, b3]⟩
theorem madeL_fresh {kids : List Sh} (h : ∀ k ∈ kids, k.Small) : ∀ (A : AArena), A.Fresh → A.used + Sh.manyL kids ≤ A.most → (madeL A kids).1.Fresh ∧ (madeL A kids).1.used = A.used + Sh.manyL kids ∧ (madeL A kids).1.most = A.most := by
  induction kids with
  | nil => intro A hA _; simp [madeL, Sh.manyL, hA]
  | cons k ls ih2 =>
    intro A hA hle
    simp only [Sh.manyL] at hle
    obtain ⟨a1, a2, a3⟩ := made_fresh k (h k (List.mem_cons_self ..)) A hA (by omega)
    obtain ⟨b1, b2, b3⟩ := ih2 (fun x hx => h x (List.mem_cons_of_mem _ hx)) _ a1 (by rw [a2, a3]; omega)
    simp only [madeL, Sh.manyL]
    exact ⟨b1, by rw [b2, a2]; omega, by rw [b3, a3]⟩

abbrev shObj (s : Sh) (Bp : Option Addr) (dp : Nat) (Bk : Option Addr) (dk : Nat) (Bc : Option Addr) (dc : Nat) : Obj :=
  .cells #[.bool s.leaf, .bool s.tagged, .slice Bp s.pairs.length dp, .slice Bk s.keys.length dk, .slice Bc s.kids.length dc] 31 (0, 0)

set_option maxRecDepth 100000 in
set_option maxHeartbeats 2000000 in
theorem made_any : ∀ (s : Sh), s.Small → ∀ (R Ra R2 : HL) (cs : List Value) (w : World) (a : Nat) (A : AArena) (L : HL), ShRep R cs s → ArenaRep Ra a A L → A.Fresh → A.used + s.many ≤ A.most → Has w (L ++ R2) → (∀ p, p ∈ R → p ∈ R2) →
    Calls Try.prog 63 #[.pointer (some ⟨a, 0, none⟩), .agg cs.toArray] w fun e w' => ∃ L' N, e = .returned (.int .i64 (madeA A s).2) ∧ ArenaRep (N ++ Ra) a (madeA A s).1 L' ∧ Has w' (L' ++ (N ++ R2)) ∧ Ext w w' := by
  refine Sh.ind ?_
  intro l t ps ks kids ih hsm R Ra R2 cs w a A L hr hA hF hle hw hsub
  cases hsm with
  | mk z1 z2 z3 z4 =>
  cases hr with
  | @mk _ _ _ _ _ pv kv cv css hp hk0 hc hl hs =>
    obtain ⟨Ac, cc, rfl, hcap, hfit, hlen, hcell⟩ := hc.form
    obtain ⟨_, Ap, cp, rfl, _⟩ := id hp
    obtain ⟨_, Ak, ck, rfl, _⟩ := id hk0
    simp only [Sh.many] at hle
    have hW := (hw.alloc (.cells #[.bool l, .bool t, .slice Ap ps.length cp, .slice Ak ks.length ck, .slice Ac kids.length cc] 31)).alloc (nodeObj (!l) t (.slice Ap ps.length cp) (.slice Ak ks.length ck) (.slice none 0 0))
    have hE := ((Ext.refl w).alloc (.cells #[.bool l, .bool t, .slice Ap ps.length cp, .slice Ak ks.length ck, .slice Ac kids.length cc] 31)).alloc (nodeObj (!l) t (.slice Ap ps.length cp) (.slice Ak ks.length ck) (.slice none 0 0))
    rw [World.size_alloc] at hW
    have HW := Lib.hid (And.intro hW hE)
    clear hW hE
    have Hlen := Lib.hid hlen
    have Hl := Lib.hid hl
    clear hl hlen
    go_enter Try.func63, Try.ntmps63
    go_wp2
    obtain ⟨hW, hE⟩ := HW.out
    generalize hEq : World.alloc _ _ = W1
    rw [hEq] at hW hE
    clear hEq HW
    generalize w.heap.size = sb at hW ⊢
    have hW' := hW.perm (L' := L ++ ((sb + 1, nodeObj (!l) t (.slice Ap ps.length cp) (.slice Ak ks.length ck) (.slice none 0 0)) :: ([] ++ ([(sb, Obj.cells #[.bool l, .bool t, .slice Ap ps.length cp, .slice Ak ks.length ck, .slice Ac kids.length cc] 31)] ++ R2)))) (perm_of_count fun x => by simp only [List.count_append, List.count_cons, List.count_nil, arenaObj, slotObj, nodeObj, worldObj, shObj]; omega)
    clear hW
    go_loopw [24] (fun i wr => ∃ (k : Nat) (A4 : Option Addr) (c4 : Nat) (Lk Lw N : HL), k ≤ kids.length ∧ i = .int .i64 k ∧ Row 39 1 (.slice A4 k c4) k (ints (madeL A (kids.take k)).2) Lw ∧ ArenaRep (N ++ Ra) a (madeL A (kids.take k)).1 Lk ∧
        Has wr (Lk ++ ((sb + 1, nodeObj (!l) t (.slice Ap ps.length cp) (.slice Ak ks.length ck) (.slice A4 k c4)) :: (Lw ++ (N ++ R2)))) ∧ Ext w wr) (fun i _ => kids.length - (intOf i).toNat)
    case atStart =>
      refine ⟨0, none, 0, L, [], [(sb, Obj.cells #[.bool l, .bool t, .slice Ap ps.length cp, .slice Ak ks.length ck, .slice Ac kids.length cc] 31)], Nat.zero_le _, rfl, Row.nil _ _ _, hA.mono (by intro p hp; simp only [List.mem_append, List.mem_cons] at hp ⊢; grind), hW', hE⟩
    case round =>
      obtain ⟨k, A4, c4, Lk, Lw, N, hk, rfl, hrow, hAk, hN, hX⟩ := hrel
      by_cases hlt : k < kids.length
      · obtain ⟨g, off, s, Bp, dp, Bk, dk, Bc, dc, rfl, hks, hkid, h0, h1, h2, h3, h4⟩ := kid_at Hl.out hs hcell hN (fun p hp => by have := hsub p hp; simp [this]) hlt
        have hms := List.mem_of_getElem? hks
        have hle1 := Sh.manyL_take_le kids (k + 1)
        rw [Sh.manyL_take hks] at hle1
        obtain ⟨b1, b2, b3⟩ := madeL_fresh (kids := kids.take k) (fun x hx => z4 x (List.mem_of_mem_take hx)) A hF (by omega)
        have hmt := madeL_take (A := A) hks
        have Hmt := Lib.hid hmt
        clear hmt
        have hroom : (madeL A (kids.take k)).1.used + s.many ≤ (madeL A (kids.take k)).1.most := by rw [b2, b3]; omega
        have Hr := Lib.hid (And.intro b1 hroom)
        clear b1 b2 b3 hroom
        generalize madeL A (kids.take k) = AK at hrow hAk Hmt Hr ⊢
        have hNa := (hN.alloc (shObj s Bp dp Bk dk Bc dc)).perm (L' := Lk ++ ((wr.heap.size, shObj s Bp dp Bk dk Bc dc) :: (sb + 1, nodeObj (!l) t (.slice Ap ps.length cp) (.slice Ak ks.length ck) (.slice A4 k c4)) :: (Lw ++ (N ++ R2)))) (perm_of_count fun x => by simp only [List.count_append, List.count_cons, List.count_nil, arenaObj, slotObj, nodeObj, worldObj, shObj]; omega)
        have hXa := hX.alloc (shObj s Bp dp Bk dk Bc dc)
        have HNa := Lib.hid (And.intro hNa hXa)
        clear hNa hXa hN
        go_wp2_with fail
        obtain ⟨hNa, hXa⟩ := HNa.out
        generalize hEq : World.alloc _ _ = w1
        rw [hEq] at hNa hXa
        clear hEq HNa
        generalize wr.heap.size = vb at hNa ⊢
        have kb : ∀ (w' : World) (X : HL), Has w' X → (vb, shObj s Bp dp Bk dk Bc dc) ∈ X → (sb + 1, nodeObj (!l) t (.slice Ap ps.length cp) (.slice Ak ks.length ck) (.slice A4 k c4)) ∈ X →
            (w'.cell? ⟨vb, 0, none⟩ = some (.bool s.leaf) ∧ w'.cell? ⟨vb, 1, none⟩ = some (.bool s.tagged) ∧ w'.cell? ⟨vb, 2, none⟩ = some (.slice Bp s.pairs.length dp) ∧ w'.cell? ⟨vb, 3, none⟩ = some (.slice Bk s.keys.length dk) ∧ w'.cell? ⟨vb, 4, none⟩ = some (.slice Bc s.kids.length dc)) ∧
            w'.cell? ⟨sb + 1, 4, none⟩ = some (.slice A4 k c4) ∧ ∀ j, w'.frozen? ⟨sb + 1, j, none⟩ = false :=
          fun _ _ h hm hg => ⟨⟨(h.cell hm 0).trans rfl, (h.cell hm 1).trans rfl, (h.cell hm 2).trans rfl, (h.cell hm 3).trans rfl, (h.cell hm 4).trans rfl⟩, (h.cell hg 4).trans rfl, h.free hg⟩
        have q1 := kb _ _ hNa (by simp) (by simp)
        have KB := Lib.hid kb
        clear kb h0 h1 h2 h3 h4
        have hih := ih s hms (z4 s hms) R (N ++ Ra) ((vb, shObj s Bp dp Bk dk Bc dc) :: (sb + 1, nodeObj (!l) t (.slice Ap ps.length cp) (.slice Ak ks.length ck) (.slice A4 k c4)) :: (Lw ++ (N ++ R2))) (shCells s Bp dp Bk dk Bc dc) w1.drew a AK.1 Lk hkid hAk Hr.out.1 Hr.out.2 hNa.drew (fun p hp => by have := hsub p hp; simp [this])
        have Hih := Lib.hid hih
        clear hih
        have H63 : Hid (k + 1 ≤ maxLen) := Lib.hid (by simp [maxLen]; omega)
        refine start_ (n := 11) (S := fun w' => w'.cell? ⟨vb, 0, none⟩ = some (.bool s.leaf) ∧ w'.cell? ⟨vb, 1, none⟩ = some (.bool s.tagged) ∧ w'.cell? ⟨vb, 2, none⟩ = some (.slice Bp s.pairs.length dp) ∧ w'.cell? ⟨vb, 3, none⟩ = some (.slice Bk s.keys.length dk) ∧ w'.cell? ⟨vb, 4, none⟩ = some (.slice Bc s.kids.length dc) ∧ w'.cell? ⟨sb + 1, 4, none⟩ = some (.slice A4 k c4)) (ds := [10]) #[false, false, false, false, false, false, false, false, false, false, false] (by kernel_rfl) rfl rfl ⟨q1.1.1, q1.1.2.1, q1.1.2.2.1, q1.1.2.2.2.1, q1.1.2.2.2.2, q1.2.1⟩ (fun hHeld => ?_)
        refine pure_ (i := 0) (N := some 28) (v := ?_) (a' := ?_) #[true, false, false, false, false, false, false, false, false, false, false] rfl rfl (by kernel_rfl) (fun _ _ _ h => h) (Or.inl ⟨by rfl, ?_⟩) ?_ ?_
        rotate_left
        · intro w'
          go_simp
          with_reducible rfl
        rotate_left
        · simp only [Act.put, List.setIfInBounds_toArray, List.set_cons_zero, List.set_cons_succ, i64_w, i32_w]
          rfl
        refine pure_ (i := 1) (N := some 29) (v := ?_) (a' := ?_) #[true, true, false, false, false, false, false, false, false, false, false] rfl rfl (by kernel_rfl) (fun _ _ _ h => h) (Or.inl ⟨by rfl, ?_⟩) ?_ ?_
        rotate_left
        · intro w'
          go_simp
          with_reducible rfl
        rotate_left
        · simp only [Act.put, List.setIfInBounds_toArray, List.set_cons_zero, List.set_cons_succ, i64_w, i32_w]
          rfl
        refine pure_ (i := 3) (N := some 31) (v := ?_) (a' := ?_) #[true, true, false, true, false, false, false, false, false, false, false] rfl rfl (by kernel_rfl) (fun _ _ _ h => h) (Or.inl ⟨by rfl, ?_⟩) ?_ ?_
        rotate_left
        · intro w'
          go_simp
          with_reducible rfl
        rotate_left
        · simp only [Act.put, List.setIfInBounds_toArray, List.set_cons_zero, List.set_cons_succ, i64_w, i32_w]
          rfl
        refine take_ (i := 2) (N := some 30) (v := ?_) (a' := ?_) #[true, true, true, true, false, false, false, false, false, false, false] rfl rfl (by kernel_rfl) (fun _ _ _ h => h) (Or.inl ⟨by rfl, ?_⟩) hHeld ?_ ?_
        rotate_left
        · rintro w' ⟨s0, s1, s2, s3, s4, s5⟩
          go_simp
          with_reducible rfl
        rotate_left
        · simp only [Act.put, List.setIfInBounds_toArray, List.set_cons_zero, List.set_cons_succ, i64_w, i32_w]
          rfl
        refine take_ (i := 4) (N := some 32) (v := ?_) (a' := ?_) #[true, true, true, true, true, false, false, false, false, false, false] rfl rfl (by kernel_rfl) (fun _ _ _ h => h) (Or.inl ⟨by rfl, ?_⟩) hHeld ?_ ?_
        rotate_left
        · rintro w' ⟨s0, s1, s2, s3, s4, s5⟩
          go_simp
          with_reducible rfl
        rotate_left
        · simp only [Act.put, List.setIfInBounds_toArray, List.set_cons_zero, List.set_cons_succ, i64_w, i32_w]
          rfl
        refine one_ (i := 5) (N := some 33) #[true, true, true, true, true, true, false, false, false, false, false] rfl rfl (by kernel_rfl) (by decide) (fun K hK => ?_)
        refine goes_ Try.func63 (by kernel_rfl) rfl #[.pointer (some ⟨a, 0, none⟩), .agg (shCells s Bp dp Bk dk Bc dc).toArray] (by rfl) rfl rfl (by simp only [List.map_toArray, List.map_cons, List.map_nil]; rfl) ?_
        with_reducible refine (Hih.out).mono ?_
        rintro e w2 ⟨L', N', rfl, hA2, hN2, hX2⟩
        refine ⟨_, rfl, ?_⟩
        have q2 := KB.out _ _ hN2 (by simp) (by simp)
        clear q1
        refine hK.out _ _ ⟨q2.1.1, q2.1.2.1, q2.1.2.2.1, q2.1.2.2.2.1, q2.1.2.2.2.2, q2.2.1⟩ (fun hHeld => ?_)
        clear hK K
        refine norm_ (a' := ?_) ?_ ?_
        rotate_left
        · show Act.put _ (some 33) _ = _
          simp only [Act.put, List.setIfInBounds_toArray, List.set_cons_zero, List.set_cons_succ, i64_w, i32_w]
          rfl
        refine one_ (i := 6) (N := some 34) #[true, true, true, true, true, true, true, false, false, false, false] rfl rfl (by kernel_rfl) (by decide) (fun K hK => ?_)
        refine value_ (w1 := ?_) (v := ?_) (by rfl) rfl ?_ ?_
        rotate_left 2
        · go_simp
          constructor
          · rfl
          · rfl
        refine hK.out _ _ ⟨ca q2.1.1, ca q2.1.2.1, ca q2.1.2.2.1, ca q2.1.2.2.2.1, ca q2.1.2.2.2.2, ca q2.2.1⟩ (fun hHeld => ?_)
        clear hK K
        refine norm_ (a' := ?_) ?_ ?_
        rotate_left
        · show Act.put _ (some 34) _ = _
          simp only [Act.put, List.setIfInBounds_toArray, List.set_cons_zero, List.set_cons_succ, i64_w, i32_w]
          rfl
        refine one_ (i := 7) (N := some 35) #[true, true, true, true, true, true, true, true, false, false, false] rfl rfl (by kernel_rfl) (by decide) (fun K hK => ?_)
        have hN3 := (hN2.alloc (.cells #[.int .i64 (madeA AK.1 s).2] 39)).perm (L' := Lw ++ (L' ++ ((vb, shObj s Bp dp Bk dk Bc dc) :: (sb + 1, nodeObj (!l) t (.slice Ap ps.length cp) (.slice Ak ks.length ck) (.slice A4 k c4)) :: (w2.heap.size, Obj.cells #[.int .i64 (madeA AK.1 s).2] 39) :: (N' ++ (N ++ R2))))) (perm_of_count fun x => by simp only [List.count_append, List.count_cons, List.count_nil, arenaObj, slotObj, nodeObj, worldObj, shObj]; omega)
        have hsB : Src (w2.alloc (.cells #[.int .i64 (madeA AK.1 s).2] 39)) (.slice (some ⟨w2.heap.size, 0, none⟩) 1 1) 1 1 [.int .i64 (madeA AK.1 s).2] := Src.of_block (fr := (0, 0)) (hN3.get w2.heap.size (.cells #[.int .i64 (madeA AK.1 s).2] 39 (0, 0)) (by simp)) rfl (by intro u hu; simp at hu; subst hu; rfl)
        refine append_step (.tmp 30) (.tmp 34) 65 (by rfl) rfl rfl el_ref hrow hN3 rfl hsB H63.out (by omega) ?_
        intro v' w3 Lw' hr3 hN4 he4
        obtain ⟨A5, c5, rfl⟩ := hr3.shape
        have q3 := KB.out _ _ hN4 (by simp) (by simp)
        have q4 := q3.2.2
        clear q2
        refine hK.out _ _ ⟨q3.1.1, q3.1.2.1, q3.1.2.2.1, q3.1.2.2.2.1, q3.1.2.2.2.2, q3.2.1⟩ (fun hHeld => ?_)
        clear hK K
        refine norm_ (a' := ?_) ?_ ?_
        rotate_left
        · show Act.put _ (some 35) _ = _
          simp only [Act.put, List.setIfInBounds_toArray, List.set_cons_zero, List.set_cons_succ, i64_w, i32_w]
          rfl
        refine pure_ (i := 8) (N := some 36) (v := ?_) (a' := ?_) #[true, true, true, true, true, true, true, true, true, false, false] rfl rfl (by kernel_rfl) (fun _ _ _ h => h) (Or.inl ⟨by rfl, ?_⟩) ?_ ?_
        rotate_left
        · intro w'
          go_simp
          with_reducible rfl
        rotate_left
        · simp only [Act.put, List.setIfInBounds_toArray, List.set_cons_zero, List.set_cons_succ, i64_w, i32_w]
          rfl
        refine pure_ (i := 9) (N := some 37) (v := ?_) (a' := ?_) #[true, true, true, true, true, true, true, true, true, true, false] rfl rfl (by kernel_rfl) (fun _ _ _ h => h) (Or.inl ⟨by rfl, ?_⟩) ?_ ?_
        rotate_left
        · intro w'
          go_simp
          with_reducible rfl
        rotate_left
        · simp only [Act.put, List.setIfInBounds_toArray, List.set_cons_zero, List.set_cons_succ, i64_w, i32_w]
          rfl
        refine last_ (i := 10) (N := none) #[true, true, true, true, true, true, true, true, true, true, true] rfl rfl (by kernel_rfl) (by decide) (fun K hK => ?_)
        refine skip_ (w1 := ?_) (by rfl) rfl ?_ ?_
        rotate_left
        · go_simp
          rfl
        refine hK.out _ _ ?_
        clear hK K
        refine done_ (by kernel_rfl) ?_
        generalize hEq : World.setCell _ _ _ = w4
        have h4 : Has w4 (L' ++ ((sb + 1, nodeObj (!l) t (.slice Ap ps.length cp) (.slice Ak ks.length ck) (.slice A5 (k + 1) c5)) :: (Lw' ++ (((vb, shObj s Bp dp Bk dk Bc dc) :: (w2.heap.size, Obj.cells #[.int .i64 (madeA AK.1 s).2] 39) :: (N' ++ N)) ++ R2)))) := by
          rw [← hEq]
          have q : Has (World.setCell w3 ⟨sb + 1, 4, none⟩ (.slice A5 (k + 1) c5)) ((sb + 1, nodeObj (!l) t (.slice Ap ps.length cp) (.slice Ak ks.length ck) (.slice A5 (k + 1) c5)) :: (L' ++ (Lw' ++ (((vb, shObj s Bp dp Bk dk Bc dc) :: (w2.heap.size, Obj.cells #[.int .i64 (madeA AK.1 s).2] 39) :: (N' ++ N)) ++ R2)))) := (hN4.perm (L' := (sb + 1, nodeObj (!l) t (.slice Ap ps.length cp) (.slice Ak ks.length ck) (.slice A4 k c4)) :: (L' ++ (Lw' ++ (((vb, shObj s Bp dp Bk dk Bc dc) :: (w2.heap.size, Obj.cells #[.int .i64 (madeA AK.1 s).2] 39) :: (N' ++ N)) ++ R2)))) (perm_of_count fun x => by simp only [List.count_append, List.count_cons, List.count_nil, arenaObj, slotObj, nodeObj, worldObj, shObj]; omega)).set 4 (.slice A5 (k + 1) c5)
          exact q.perm (perm_of_count fun x => by simp only [List.count_append, List.count_cons, List.count_nil, arenaObj, slotObj, nodeObj, worldObj, shObj]; omega)
        have e4 : Ext w w4 := by rw [← hEq]; exact ((((hXa.drew.trans hX2).alloc _).trans he4).setCell _ _)
        clear hEq hHeld q3 q4 hsB hN4 hN3 hN2
        have Hrel := Lib.hid (And.intro h4 e4)
        clear h4 e4
        go_wp2
        go_roundw
        case rel =>
          refine ⟨k + 1, A5, c5, L', Lw', (vb, shObj s Bp dp Bk dk Bc dc) :: (w2.heap.size, Obj.cells #[.int .i64 (madeA AK.1 s).2] 39) :: (N' ++ N), by omega, by go_num, ?_, ?_, Hrel.out.1, Hrel.out.2⟩
          · rw [Hmt.out]; simpa [ints] using hr3
          · rw [Hmt.out]; exact hA2.mono (by intro p hp; simp only [List.mem_append, List.mem_cons] at hp ⊢; grind)
        case measure => simp [intOf]; omega
      · have hkk : k = kids.length := by omega
        subst hkk
        clear ih
        rw [List.take_length] at hrow hAk
        obtain ⟨b1, b2, b3⟩ := madeL_fresh (kids := kids) z4 A hF (by omega)
        have hroom : (madeL A kids).1.used < (madeL A kids).1.most := by rw [b2, b3]; omega
        have q := hN.blk (b := sb + 1) (c := #[.bool (!l), .bool t, .slice Ap ps.length cp, .slice Ak ks.length ck, .slice A4 kids.length c4]) (t := 69) (by simp)
        have q1 := q.1
        clear q
        have hspec := alloc_spec (R := N ++ Ra) (R2 := (sb + 1, nodeObj (!l) t (.slice Ap ps.length cp) (.slice Ak ks.length ck) (.slice A4 kids.length c4)) :: (Lw ++ (N ++ R2))) hAk b1.ok b1.ok2 hN (n := ⟨!l, t, ps, ks, (madeL A kids).2⟩) (pv := .slice Ap ps.length cp) (kv := .slice Ak ks.length ck) (wv := .slice A4 kids.length c4) ⟨hp.mono (fun p hp => by have := hsub p hp; simp [this]), hk0.mono (fun p hp => by have := hsub p hp; simp [this]), by rw [madeL_len]; exact (hrow.rd (N ++ R2)).mono (fun p hp => by simp at hp ⊢; grind)⟩ z1 z2 (by rw [madeL_len]; exact z3) hroom
        have Hspec := Lib.hid hspec
        clear hspec
        go_wp2_with first | (go_at_call 60; refine Hspec.out.mono ?_; rintro e w' ⟨L', N', rfl, hA2, hN2, hX2⟩)
        go_ret
        refine ⟨L', N' ++ ((sb + 1, nodeObj (!l) t (.slice Ap ps.length cp) (.slice Ak ks.length ck) (.slice A4 kids.length c4)) :: (Lw ++ N)), rfl, ?_, ?_, hX.trans hX2⟩
        · simp only [madeA]; exact hA2.mono (by intro p hp; simp only [List.mem_append, List.mem_cons] at hp ⊢; grind)
        · exact hN2.perm (perm_of_count fun x => by simp only [List.count_append, List.count_cons, List.count_nil, arenaObj, slotObj, nodeObj, worldObj, shObj]; omega)
end Go.Proofs.Ytjkfigkgeoacfaa
