import Derived.Test.YtjkfigkgeoacfaaN0
import Derived.Test.YtjkfigkgeoacfaaM3
set_option linter.unusedVariables false
set_option linter.unusedSimpArgs false
namespace Go.Proofs.Ytjkfigkgeoacfaa
open Go.RowKit Go.Proofs.YtjkfigkgeoacfaaW.PrintLast

theorem node_field0 (a b c d e : Value) (w : World) : (Instr.field 69 (.agg #[a, b, c, d, e]) 0).run Try.prog w = .ok a w := by
  kernel_rfl

set_option maxRecDepth 100000 in
set_option maxHeartbeats 8000000 in
theorem seekLeaf_all {p : Pl} {R : HL} {kv sv ev gv tv : Value} (hp : PlRd R kv sv ev gv tv p) {b : Int} (hb0 : 0 ≤ b) (hb1 : b < 256) (key : Int) {w : World} (hw : Has w R) :
    Calls Try.prog 6 #[.agg #[kv, sv, ev, gv, tv], .int .u8 b, .int .i64 key] w fun e w' => e = .returned (.bool true) ∧ (∃ N, Has w' (N ++ R)) ∧ Ext w w' := by
  obtain ⟨_, _, Ak, ck, rfl, _⟩ := id hp.k
  obtain ⟨_, _, As, cs, rfl, _⟩ := id hp.s
  obtain ⟨_, _, Ae, ce, rfl, _⟩ := id hp.e
  obtain ⟨_, _, Ag, cg, rfl, _⟩ := id hp.g
  obtain ⟨_, _, At, ct, rfl, _⟩ := id hp.t
  have hW := hw.alloc (planO (.slice Ak p.keys.length ck) (.slice As p.sizes.length cs) (.slice Ae p.keeps.length ce) (.slice Ag p.groups.length cg) (.slice At p.tags.length ct))
  have hE := (Ext.refl w).alloc (planO (.slice Ak p.keys.length ck) (.slice As p.sizes.length cs) (.slice Ae p.keeps.length ce) (.slice Ag p.groups.length cg) (.slice At p.tags.length ct))
  have hW := (hW.alloc (Obj.cells #[.int .i64 key] 2)).perm (L' := (w.heap.size, planO (.slice Ak p.keys.length ck) (.slice As p.sizes.length cs) (.slice Ae p.keeps.length ce) (.slice Ag p.groups.length cg) (.slice At p.tags.length ct)) :: ((w.heap.size + 1, Obj.cells #[.int .i64 key] 2 (0, 0)) :: R)) (by rw [World.size_alloc]; exact (perm_of_count fun x => by simp only [List.count_append, List.count_cons, List.count_nil, arenaObj, slotObj, nodeObj, worldObj]; omega))
  have hE := hE.alloc (Obj.cells #[.int .i64 key] 2)
  have haw := awake11_any hW
  have HW := Lib.hid (And.intro haw (And.intro hE hp))
  clear haw hE hp hw hW
  have kb : ∀ (w' : World) (X : HL) (vb : Nat), Has w' X → (vb, planO (.slice Ak p.keys.length ck) (.slice As p.sizes.length cs) (.slice Ae p.keeps.length ce) (.slice Ag p.groups.length cg) (.slice At p.tags.length ct)) ∈ X → (w'.cell? ⟨vb, 0, none⟩ = some (.slice Ak p.keys.length ck) ∧ w'.cell? ⟨vb, 1, none⟩ = some (.slice As p.sizes.length cs) ∧ w'.cell? ⟨vb, 2, none⟩ = some (.slice Ae p.keeps.length ce) ∧ w'.cell? ⟨vb, 3, none⟩ = some (.slice Ag p.groups.length cg) ∧ w'.cell? ⟨vb, 4, none⟩ = some (.slice At p.tags.length ct)) := fun w' X vb h hm => h.plan hm
  have KB := Lib.hid kb
  clear kb
  go_enter Try.func6, Try.ntmps6
  go_upto_region 3 with (go_at_call 7; refine HW.out.1.mono ?_; rintro ed w1 ⟨rfl, ⟨N1, hW1⟩, hE1⟩)
  generalize w.heap.size = vb at hW1 ⊢
  obtain ⟨R1, hR1⟩ : ∃ R1, (vb + 1, Obj.cells #[.int .i64 key] 2 (0, 0)) :: R = R1 := ⟨_, rfl⟩
  rw [hR1] at hW1
  have HR1 := Lib.hid hR1
  have hpm : ∀ q, q ∈ R → q ∈ R1 := fun q hq => by rw [← hR1]; exact List.mem_cons_of_mem _ hq
  clear hR1
  obtain ⟨q0, q1, q2, q3, q4⟩ := KB.out _ _ vb hW1 (by simp)
  have hlight := light_any (p := p) (Ak := Ak) (As := As) (Ae := Ae) (Ag := Ag) (At := At) (ck := ck) (cs := cs) (ce := ce) (cg := cg) (ct := ct) hW1
  have HL1 := Lib.hid (And.intro hlight (HW.out.2.1.trans hE1))
  clear hlight hW1 hE1
  by_cases hli : lightB p = true
  · go_upto_region 5 with (go_at_call 8; refine HL1.out.1.mono ?_; rw [hli]; rintro ed w2 ⟨rfl, ⟨N2, hW2⟩, hE2⟩)
    obtain ⟨B, hB⟩ : ∃ B, 3 + b.toNat % 6 = B := ⟨_, rfl⟩
    have hB3 : 3 ≤ B := by omega
    have hB8 : B ≤ 8 := by omega
    have hwide : ∀ w, Calls Try.prog 10 #[.int .u8 b] w fun e w' => e = .returned (.int .i64 B) ∧ w' = w := fun w => (wide_any hb0 hb1 w).mono fun e w' h => ⟨by rw [h.1, hB], h.2.symm⟩
    obtain ⟨q0, q1, q2, q3, q4⟩ := KB.out _ _ vb hW2 (by simp)
    have hrep := HW.out.2.2.rep hli (R' := N2 ++ (N1 ++ ((vb, planO (.slice Ak p.keys.length ck) (.slice As p.sizes.length cs) (.slice Ae p.keeps.length ce) (.slice Ag p.groups.length cg) (.slice At p.tags.length ct)) :: R1))) (fun q hq => by have := hpm q hq; simp [this])
    have hE2 := HL1.out.2.trans hE2
    obtain ⟨s, hh, hgood, hmany, hshape⟩ := plan_shape hB3 hB8 hrep
    generalize hR2 : N2 ++ (N1 ++ ((vb, planO (.slice Ak p.keys.length ck) (.slice As p.sizes.length cs) (.slice Ae p.keeps.length ce) (.slice Ag p.groups.length cg) (.slice At p.tags.length ct)) :: R1)) = R2 at hW2 hshape
    have HP := Lib.hid (And.intro hwide hshape)
    have HR := Lib.hid (And.intro hR2 hB)
    have HG := Lib.hid (And.intro hgood hmany)
    clear hwide hrep hR2 hB hshape hgood hmany
    go_cut [7] (fun v wx => ∃ (sb : Nat) (A1 : Option Addr) (c1 : Nat) (A2 : Option Addr) (c2 : Nat) (A3 : Option Addr) (c3 : Nat) (N3 : HL), v = .pointer (some ⟨sb, 0, none⟩) ∧ ShRep N3 (shCells s A1 c1 A2 c2 A3 c3) s ∧
      Has wx ((sb, shO s.leaf s.tagged (.slice A1 s.pairs.length c1) (.slice A2 s.keys.length c2) (.slice A3 s.kids.length c3)) :: (N3 ++ R2)) ∧ Ext w wx)
    case first =>
      have hA0 : Has (w2.alloc (shO false false nil0 nil0 nil0)).drew ((w2.heap.size, shO false false nil0 nil0 nil0) :: R2) := (hW2.alloc (shO false false nil0 nil0 nil0)).drew
      have HA0 := Lib.hid (And.intro hW2.drew (And.intro hA0 hE2))
      obtain ⟨r0, r1, r2, r3, r4⟩ := KB.out _ _ vb (hW2.alloc (shO false false nil0 nil0 nil0)) (by have h := HR.out.1; rw [← h]; simp)
      clear hA0 hW2 hE2
      go_region_with (first
        | (go_at_call 10; refine (HP.out.1 _).mono ?_; rintro ed w3 ⟨rfl, rfl⟩)
        | (go_at_call 9; refine (HP.out.2 _ _ HA0.out.1 (fun q hq => hq)).mono ?_; rintro ed w3 ⟨A1, c1, A2, c2, A3, c3, N3, rfl, hs3, hW3, hE3⟩)
        | (go_at_call 9; refine (HP.out.2 _ _ HA0.out.2.1 (fun q hq => List.mem_cons_of_mem _ hq)).mono ?_; rintro ed w3 ⟨A1, c1, A2, c2, A3, c3, N3, rfl, hs3, hW3, hE3⟩; obtain ⟨z0, z1, z2, z3, z4⟩ := hW3.five (b := w2.heap.size) (l := false) (t := false) (p := nil0) (k := nil0) (c := nil0) (by simp); have zf := hW3.free (b := w2.heap.size) (c := #[.bool false, .bool false, nil0, nil0, nil0]) (t := 31) (by simp)))
      all_goals go_wp2_with fail
      all_goals go_meet
      all_goals first
        | exact ⟨w3.heap.size, A1, c1, A2, c2, A3, c3, N3, rfl, hs3, hW3.alloc (shO s.leaf s.tagged (.slice A1 s.pairs.length c1) (.slice A2 s.keys.length c2) (.slice A3 s.kids.length c3)), (HA0.out.2.2.drew.trans hE3).alloc _⟩
        | (refine ⟨w2.heap.size, A1, c1, A2, c2, A3, c3, N3, rfl, hs3, ?_, ?_⟩
           · have h5 := (hW3.perm (L' := (w2.heap.size, shO false false nil0 nil0 nil0) :: (N3 ++ R2)) (perm_of_count fun x => by simp only [List.count_append, List.count_cons, List.count_nil, arenaObj, slotObj, nodeObj, worldObj]; omega)).set5 s.leaf s.tagged (.slice A1 s.pairs.length c1) (.slice A2 s.keys.length c2) (.slice A3 s.kids.length c3)
             unfold Go.Proofs.Ytjkfigkgeoacfaa.set5 at h5
             exact h5
           · have h5 := ((HA0.out.2.2.alloc (shO false false nil0 nil0 nil0)).drew.trans hE3).set5 w2.heap.size s.leaf s.tagged (.slice A1 s.pairs.length c1) (.slice A2 s.keys.length c2) (.slice A3 s.kids.length c3)
             unfold Go.Proofs.Ytjkfigkgeoacfaa.set5 at h5
             exact h5)
    case rest =>
      obtain ⟨sb, A1, c1, A2, c2, A3, c3, N3, rfl, hs3, hW3, hE3⟩ := hcut
      clear hW2 hE2 q0 q1 q2 q3 q4
      have hg6 := HG.out.2
      obtain ⟨q0, q1, q2, q3, q4⟩ := hW3.five (b := sb) (List.mem_cons_self ..)
      have hworld := world11_any (a := 2) (b := B) (threads := 1) (room := 0) (records := 1) (s := s) (by omega) (by omega) (by omega) (by omega) (by omega) (by omega) (by omega) (by omega) (by omega) (by omega) (HG.out.1.small (by omega)) (hs3.mono (R' := (sb, shO s.leaf s.tagged (.slice A1 s.pairs.length c1) (.slice A2 s.keys.length c2) (.slice A3 s.kids.length c3)) :: (N3 ++ R2)) (fun q hq => by simp [hq])) hW3.drew
      have HW4 := Lib.hid (And.intro hworld hE3)
      clear hworld hE3
      go_upto_region 6 with fail
      go_cut [8] (fun v wx => ∃ (wp : Nat) (L4 N4 : HL), v = .pointer (some ⟨wp, 0, none⟩) ∧ WorldRep (N4 ++ ((sb, shO s.leaf s.tagged (.slice A1 s.pairs.length c1) (.slice A2 s.keys.length c2) (.slice A3 s.kids.length c3)) :: (N3 ++ R2))) wp (plantedWorld 2 B 1 s 0 1) L4 ∧
        Has wx (L4 ++ (N4 ++ ((sb, shO s.leaf s.tagged (.slice A1 s.pairs.length c1) (.slice A2 s.keys.length c2) (.slice A3 s.kids.length c3)) :: (N3 ++ R2)))) ∧ Ext w wx)
      case first =>
        go_region_with (first
          | (go_at_call 10; refine (HP.out.1 _).mono ?_; rintro ed w3 ⟨rfl, rfl⟩)
          | (go_at_call 11; refine HW4.out.1.mono ?_; rintro ed w4 ⟨wp, L4, N4, rfl, hWR4, hW4, hE4⟩))
        all_goals go_wp2_with fail
        all_goals go_meet
        all_goals exact ⟨wp, L4, N4, rfl, hWR4, hW4, HW4.out.2.drew.trans hE4⟩
      case rest =>
        obtain ⟨wp, L4, N4, rfl, hWR, hW4, hE4⟩ := hcut
        clear hW3 HW4 q0 q1 q2 q3 q4 HL1 KB
        have hsm := HG.out.1.small (show B ≤ 1000 by omega)
        obtain ⟨ss, ts, d, up, at_, hP, htl, hmx, hd2, hup, hat, ⟨iu, su, u1, u2, u3, u4, u5, u6⟩, ⟨ia, sa, a1, a2, a3, a4, a5⟩, hri, hpb, hin1, hin2⟩ := planted_leaf (a := 2) (b := B) (threads := 1) (records := 1) hsm HG.out.2 hB8 HG.out.1 key
        have hok := planted_ok (a := 2) (b := B) (threads := 1) (records := 1) hsm (show s.many ≤ 60000 by omega)
        have hflt := planted_faults (a := 2) (b := B) (threads := 1) (records := 1) hsm (show s.many ≤ 60000 by omega)
        have hent : (plantedWorld 2 B 1 s 0 1).entry = refOf 1 1 := rfl
        generalize hSW : plantedWorld 2 B 1 s 0 1 = SW at hWR hP u1 a1 hok hflt hent
        obtain ⟨ab, tb, eb, La, Lt, Le, rfl, hA, hT, hEp⟩ := id hWR
        rw [hent] at hW4
        have hA' := hA.drop1 (X := N4) (Y := N3 ++ R2)
        obtain ⟨Y, hY⟩ : ∃ Y, (wp, wldO ab tb eb SW.a SW.b (refOf 1 1)) :: (Lt ++ (Le ++ (N4 ++ (N3 ++ R2)))) = Y := ⟨_, rfl⟩
        have hpY : (wp, wldO ab tb eb SW.a SW.b (refOf 1 1)) ∈ Y := by rw [← hY]; simp
        have hkY : (vb + 1, Obj.cells #[.int .i64 key] 2 (0, 0)) ∈ Y := by rw [← hY, ← HR.out.1, ← HR1.out]; simp
        have hsY : ∀ q, q ∈ N4 ++ (N3 ++ R2) → q ∈ Y := by intro q hq; rw [← hY]; simp only [List.mem_append, List.mem_cons] at hq ⊢; grind
        have hW5 : Has wc ((sb, shO s.leaf s.tagged (.slice A1 s.pairs.length c1) (.slice A2 s.keys.length c2) (.slice A3 s.kids.length c3)) :: (La ++ Y)) := by
          rw [← hY]
          have hW4' : Has wc (((wp, wldO ab tb eb SW.a SW.b (refOf 1 1)) :: (La ++ (Lt ++ Le))) ++ (N4 ++ ((sb, shO s.leaf s.tagged (.slice A1 s.pairs.length c1) (.slice A2 s.keys.length c2) (.slice A3 s.kids.length c3)) :: (N3 ++ R2)))) := hW4
          exact hW4'.perm (perm_of_count fun x => by simp only [List.count_append, List.count_cons, List.count_nil, arenaObj, slotObj, nodeObj, worldObj]; omega)
        have hs3' : ∀ Z : HL, (∀ q, q ∈ Y → q ∈ Z) → ShRep Z (shCells s A1 c1 A2 c2 A3 c3) s := fun Z hZ => hs3.mono (fun q hq => hZ q (hsY q (by simp [hq])))
        have hstart := start_any (p := wp) (me := 0) (K := 30) (caps := #[.pointer (some ⟨vb + 1, 0, none⟩)]) hW5
        have hal : ∀ (w2 : World) (tb2 vb2 mb2 wb2 : Nat), Has w2 ((tb2, thO (.func (.func 52) #[] #[.pointer (some ⟨wb2, 0, none⟩), .pointer (some ⟨vb2, 0, none⟩), .pointer (some ⟨mb2, 0, none⟩)]) nil0 0 false false false nil0) :: ((wb2, Obj.cells #[.func (.func 30) #[] #[.pointer (some ⟨vb + 1, 0, none⟩)]] 76 (0, 0)) :: (mb2, Obj.cells #[.int .i64 0] 3 (0, 0)) :: (vb2, Obj.cells #[.pointer (some ⟨wp, 0, none⟩)] 34 (0, 0)) :: ((sb, shO s.leaf s.tagged (.slice A1 s.pairs.length c1) (.slice A2 s.keys.length c2) (.slice A3 s.kids.length c3)) :: (La ++ Y)))) →
            Calls Try.prog 14 #[.pointer (some ⟨tb2, 0, none⟩)] w2 fun e w' => ∃ A c Lo N', e = .returned (.tuple #[.slice A 4 c, .int .i64 (max ts.length 1 : Nat), .bool true]) ∧ Row 2 1 (.slice A 4 c) 4 (ints [up.1, (up.2.2 : Int), at_.1, (getL at_.2.1.pairs key).getD (-1)]) Lo ∧ Has w' (Lo ++ (N' ++ (La ++ ((sb, shO s.leaf s.tagged (.slice A1 s.pairs.length c1) (.slice A2 s.keys.length c2) (.slice A3 s.kids.length c3)) :: Y)))) ∧ Ext w2 w' := by
          intro w2 tb2 vb2 mb2 wb2 h
          have hwk := leaf1_work hA' hok (R2 := (wb2, Obj.cells #[.func (.func 30) #[] #[.pointer (some ⟨vb + 1, 0, none⟩)]] 76 (0, 0)) :: (mb2, Obj.cells #[.int .i64 0] 3 (0, 0)) :: (vb2, Obj.cells #[.pointer (some ⟨wp, 0, none⟩)] 34 (0, 0)) :: ((sb, shO s.leaf s.tagged (.slice A1 s.pairs.length c1) (.slice A2 s.keys.length c2) (.slice A3 s.kids.length c3)) :: Y)) (fun q hq => by simp [hsY q hq]) (p := wp) (t := tb) (e := eb) (x := SW.a) (y := SW.b) (by simp [hpY]) hP (by omega) hd2 hup hat hri hpb (xb := vb + 1) (by simp [hkY]) 0
          exact alone_work hwk (fun args w => enters_ Try.func30 (by kernel_rfl) rfl args w) htl (by simp) (h.perm (perm_of_count fun x => by simp only [List.count_append, List.count_cons, List.count_nil, arenaObj, slotObj, nodeObj, worldObj]; omega))
        have hway : ∀ (w' : World) (Z : HL), Has w' (La ++ Z) → Calls Try.prog 12 #[.pointer (some ⟨ab, 0, none⟩), .int .i64 up.1, .int .i64 up.2.2] w' fun e w'' => e = .returned (.int .i64 at_.1) ∧ w'' = w' := fun w' Z h => (way_at hA' hok h u1 u2 u6 u3 rfl).mono fun _ _ h => ⟨h.1, h.2.symm⟩
        have hlu : ∀ (w' : World) (Z : HL), Has w' (La ++ Z) → (∀ q, q ∈ Y → q ∈ Z) → Calls Try.prog 32 #[.pointer (some ⟨ab, 0, none⟩), .int .i64 up.1] w' fun e w'' => ∃ pv kv wv N, e = .returned (.agg #[.bool true, .bool su.node.tagged, pv, kv, wv]) ∧ Has w'' (La ++ (N ++ Z)) ∧ Ext w' w'' := fun w' Z h hZ => (look_at hA' hok (fun q hq => hZ q (hsY q hq)) h u1 u2 u3).mono fun e w'' ⟨pv, kv, wv, N, h1, _, h3, h4⟩ => ⟨pv, kv, wv, N, by rw [h1, nodeV, u5], h3, h4⟩
        have hla : ∀ (w' : World) (Z : HL), Has w' (La ++ Z) → (∀ q, q ∈ Y → q ∈ Z) → Calls Try.prog 32 #[.pointer (some ⟨ab, 0, none⟩), .int .i64 at_.1] w' fun e w'' => ∃ pv kv wv N, e = .returned (.agg #[.bool false, .bool sa.node.tagged, pv, kv, wv]) ∧ Has w'' (La ++ (N ++ Z)) ∧ Ext w' w'' := fun w' Z h hZ => (look_at hA' hok (fun q hq => hZ q (hsY q hq)) h a1 a2 a3).mono fun e w'' ⟨pv, kv, wv, N, h1, _, h3, h4⟩ => ⟨pv, kv, wv, N, by rw [h1, nodeV, a5], h3, h4⟩
        have hfa : ∀ (w' : World) (Z : HL), Has w' (La ++ Z) → Calls Try.prog 16 #[.pointer (some ⟨ab, 0, none⟩)] w' fun e w'' => e = .returned (.int .i64 0) ∧ w' = w'' := fun w' Z h => (faults_any hA' h).mono fun _ _ h => ⟨by rw [h.1, hflt], h.2⟩
        have HT := Lib.hid (And.intro hway (And.intro hlu (And.intro hla hfa)))
        have hall : s.all.length ≤ 64000 := by
          have h1 := HG.out.1.all_len
          have h2 := HG.out.2
          have h3 : B * s.many ≤ 8 * s.many := Nat.mul_le_mul_right _ hB8
          omega
        obtain ⟨z, hz⟩ : ∃ z, (getL at_.2.1.pairs key).getD (-1) = z := ⟨_, rfl⟩
        have hcase : (∃ (j : Nat), s.all[j]? = some (key, z) ∧ ∀ i (hi : i < s.all.length), i < j → s.all[i].1 ≠ key) ∨ ((∀ q ∈ s.all, q.1 ≠ key) ∧ z = -1) := by
          by_cases hx : ∃ q ∈ s.all, q.1 = key
          · obtain ⟨j, x, h1, h2⟩ := first_of hx
            have h3 := getL_mem hri (hin1 _ (List.mem_of_getElem? h1) rfl)
            simp only [] at h3
            rw [h3] at hz
            exact .inl ⟨j, by rw [h1, ← hz]; rfl, h2⟩
          · refine .inr ⟨fun q hq hk => hx ⟨q, hq, hk⟩, ?_⟩
            cases hg : getL at_.2.1.pairs key with
            | none => rw [hg] at hz; exact hz.symm
            | some v => exact absurd ⟨_, hin2 _ (getL_some hg), rfl⟩ hx
        rw [hz] at hal
        have HA := Lib.hid (And.intro hstart (And.intro hal (And.intro hcase (And.intro hs3' (And.intro hE4 (And.intro hY (And.intro hpY hkY)))))))
        clear hway hlu hla hfa hstart hal hcase hs3' hE4 hY hpY hkY hA' hok hP hWR hA hT hEp hW4 hs3 hent hflt hSW u1 u2 u3 u4 u5 u6 a1 a2 a3 a4 a5 hri hpb hin1 hin2 hmx htl hd2 hup hat hz hsY
        generalize up.1 = uR at *
        generalize up.2.2 = uW at *
        generalize at_.1 = aR at *
        generalize max ts.length 1 = nn at *
        have hmf : ∀ (fn : Fn) (first cap : Array Value) (w : World), (Instr.makeFunc fn first cap).run Try.prog w = .ok (.func fn first cap) w := fun _ _ _ _ => rfl
        go_upto_region 8 with first
          | (go_at_call 26; refine HA.out.1.mono ?_; rintro ed w5 ⟨tb2, vb2, mb2, wb2, rfl, hWs, hEs⟩)
          | (go_at_call 14; refine (HA.out.2.1 _ _ _ _ _ hWs).mono ?_; rintro ed w6 ⟨A6, c6, L6, N6, rfl, hr6, hW6, hE6⟩)
        clear hW5 hWs hmf
        have hE6' := (HA.out.2.2.2.2.1.trans hEs).trans hE6
        obtain ⟨g6, o6, k6, he6, _, _, hk6⟩ := (hr6.rd []).known (by omega)
        cases he6
        have cells : ∀ (w' : World) (Z : HL), Has w' Z → (∀ q, q ∈ Y → q ∈ Z) → w'.cell? ⟨vb + 1, 0, none⟩ = some (.int .i64 key) ∧ w'.cell? ⟨wp, 0, none⟩ = some (.pointer (some ⟨ab, 0, none⟩)) := fun w' Z h hZ =>
          ⟨(h.cell (b := vb + 1) (c := #[.int .i64 key]) (t := 2) (fr := (0, 0)) (hZ _ HA.out.2.2.2.2.2.2.2) 0).trans rfl, (h.cell (b := wp) (c := #[.pointer (some ⟨ab, 0, none⟩), .pointer (some ⟨tb, 0, none⟩), .pointer (some ⟨eb, 0, none⟩), .int .i64 SW.a, .int .i64 SW.b, .int .i64 (refOf 1 1)]) (t := 41) (fr := (0, 0)) (hZ _ HA.out.2.2.2.2.2.2.1) 0).trans rfl⟩
        have HC := Lib.hid cells
        clear cells
        have ck := (HC.out _ _ hW6 (fun q hq => by simp [hq])).1
        obtain ⟨q0, q1, q2, q3, q4⟩ := hW6.five (b := sb) (l := s.leaf) (t := s.tagged) (p := .slice A1 s.pairs.length c1) (k := .slice A2 s.keys.length c2) (c := .slice A3 s.kids.length c3) (by simp)
        have hallc : ∀ (w' : World) (Z : HL), Has w' Z → (∀ q, q ∈ Y → q ∈ Z) → Calls Try.prog 25 #[.agg #[.bool s.leaf, .bool s.tagged, .slice A1 s.pairs.length c1, .slice A2 s.keys.length c2, .slice A3 s.kids.length c3]] w' fun e w'' => ∃ A c Lo N, e = .returned (.slice A s.all.length c) ∧ Row 61 2 (.slice A s.all.length c) s.all.length (pairCells s.all) Lo ∧ Has w'' (Lo ++ (N ++ Z)) ∧ Ext w' w'' := fun w' Z h hZ =>
          all_any s (by omega) (by omega) Z _ w' (HA.out.2.2.2.1 Z hZ) h
        have HAl := Lib.hid (And.intro hallc (And.intro hW6 hE6'))
        clear hallc hW6 hE6' hE6 hEs hr6
        go_upto_region 11 with fail
        go_cut [13] (fun v wx => ∃ (jj : Int) (N7 : HL), v = .int .i64 jj ∧ Hid ((∃ j : Nat, jj = j ∧ s.all[j]? = some (key, z)) ∨ (jj = -1 ∧ z = -1)) ∧ Has wx (L6 ++ (N7 ++ (La ++ ((sb, shO s.leaf s.tagged (.slice A1 s.pairs.length c1) (.slice A2 s.keys.length c2) (.slice A3 s.kids.length c3)) :: Y)))) ∧ Ext w wx)
        case first =>
          rcases HA.out.2.2.1 with ⟨j, hj, hjf⟩ | ⟨hno, hz1⟩
          · have HJ := Lib.hid (And.intro hj hjf)
            clear hj hjf
            go_region_with (first
              | (go_at_call 25; refine (HAl.out.1 _ _ HAl.out.2.1.drew (fun q hq => by simp [hq])).mono ?_; rintro ed w7 ⟨A7, c7, L7, N7, rfl, hr7, hW7, hE7⟩; have ck7 := (HC.out _ _ hW7 (fun q hq => by simp [hq])).1)
              | (go_at_call 31; refine (find_hit ((hr7.rd []).mono (fun q hq => by simp only [List.append_nil] at hq; simp [hq])) (by omega) HJ.out.1 HJ.out.2 hW7).mono ?_; rintro ed w8 ⟨rfl, ⟨N8, hW8⟩, hE8⟩))
            all_goals go_wp2_with fail
            all_goals go_meet
            all_goals exact ⟨j, N8 ++ (L7 ++ (N7 ++ N6)), rfl, Lib.hid (.inl ⟨j, rfl, HJ.out.1⟩), hW8.perm (perm_of_count fun x => by simp only [List.count_append, List.count_cons, List.count_nil, arenaObj, slotObj, nodeObj, worldObj]; omega), (HAl.out.2.2.drew.trans hE7).trans hE8⟩
          · have HJ := Lib.hid (And.intro hno hz1)
            clear hno hz1
            go_region_with (first
              | (go_at_call 25; refine (HAl.out.1 _ _ HAl.out.2.1.drew (fun q hq => by simp [hq])).mono ?_; rintro ed w7 ⟨A7, c7, L7, N7, rfl, hr7, hW7, hE7⟩; have ck7 := (HC.out _ _ hW7 (fun q hq => by simp [hq])).1)
              | (go_at_call 31; refine (find_miss ((hr7.rd []).mono (fun q hq => by simp only [List.append_nil] at hq; simp [hq])) (by omega) HJ.out.1 hW7).mono ?_; rintro ed w8 ⟨rfl, ⟨N8, hW8⟩, hE8⟩))
            all_goals go_wp2_with fail
            all_goals go_meet
            all_goals exact ⟨-1, N8 ++ (L7 ++ (N7 ++ N6)), rfl, Lib.hid (.inr ⟨rfl, HJ.out.2⟩), hW8.perm (perm_of_count fun x => by simp only [List.count_append, List.count_cons, List.count_nil, arenaObj, slotObj, nodeObj, worldObj]; omega), (HAl.out.2.2.drew.trans hE7).trans hE8⟩
        case rest =>
          obtain ⟨jj, N7, rfl, Hjj, hW7, hE7⟩ := hcut
          clear q0 q1 q2 q3 q4 ck
          go_upto_if 50 with fail
          go_cut [12] (fun v wx => ∃ (N8 : HL), v = .int .i64 z ∧ Has wx (L6 ++ (N8 ++ (La ++ ((sb, shO s.leaf s.tagged (.slice A1 s.pairs.length c1) (.slice A2 s.keys.length c2) (.slice A3 s.kids.length c3)) :: Y)))) ∧ Ext w wx)
          case first =>
            rcases Hjj.out with ⟨j, hj1, hj2⟩ | ⟨hj1, hz1⟩
            · subst hj1
              have hjl := (List.getElem?_eq_some_iff.1 hj2).1
              have hd : decide ((0 : Int) ≤ (j : Int)) = true := decide_eq_true (by omega)
              have hjl2 : (j : Int) < s.all.length := by omega
              have HJ := Lib.hid hj2
              obtain ⟨q0, q1, q2, q3, q4⟩ := hW7.five (b := sb) (l := s.leaf) (t := s.tagged) (p := .slice A1 s.pairs.length c1) (k := .slice A2 s.keys.length c2) (c := .slice A3 s.kids.length c3) (by simp)
              clear hj2
              go_wp2_with (go_at_call 25; refine (HAl.out.1 _ _ hW7 (fun q hq => by simp [hq])).mono ?_; rintro ed w8 ⟨A8, c8, L8, N8, rfl, hr8, hW8, hE8⟩; obtain ⟨g8, o8, k8, he8, _, _, hk8⟩ := (hr8.rd []).known (by omega); cases he8; have kj : w8.cell? ⟨g8, o8 + j * 2 + 1, none⟩ = some (.int .i64 z) := by (have h := (pair_known (R := R) (fun jx ux hx => hk8 w8 _ (hW8.knows (fun q hq => hq)) (fun q hq => by simp only [List.append_nil] at hq; simp [hq]) jx ux hx) hjl).2; have e := (List.getElem?_eq_some_iff.1 HJ.out).2; rw [e] at h; exact h))
              go_meet
              exact ⟨L8 ++ (N8 ++ N7), rfl, hW8.perm (perm_of_count fun x => by simp only [List.count_append, List.count_cons, List.count_nil, arenaObj, slotObj, nodeObj, worldObj]; omega), hE7.trans hE8⟩
            · subst hj1 hz1
              have hd : decide ((0 : Int) ≤ (-1 : Int)) = false := by decide
              go_wp2
              go_meet
              exact ⟨N7, rfl, hW7, hE7⟩
          case rest =>
            obtain ⟨N8, rfl, hW8, hE8⟩ := hcut
            have hc6 := hk6 wc _ (hW8.knows (fun q hq => hq)) (fun q hq => by simp only [List.append_nil] at hq; simp [hq])
            have k0 : wc.cell? ⟨g6, o6 + 0, none⟩ = some (.int .i64 uR) := hc6 0 _ rfl
            have k1 : wc.cell? ⟨g6, o6 + 1, none⟩ = some (.int .i64 uW) := hc6 1 _ rfl
            have k2 : wc.cell? ⟨g6, o6 + 2, none⟩ = some (.int .i64 aR) := hc6 2 _ rfl
            have k3 : wc.cell? ⟨g6, o6 + 3, none⟩ = some (.int .i64 z) := hc6 3 _ rfl
            rw [Nat.add_zero] at k0
            have c0 := (HC.out _ _ hW8 (fun q hq => by simp [hq])).2
            have HF := Lib.hid (And.intro hW8 hE8)
            clear hc6 hk6 hW7 hE7 hW8 hE8 Hjj
            go_upto_region 14 with fail
            go_quiet (fail)
            have hWq : Has (wc.drewN nq) (La ++ (L6 ++ (N8 ++ ((sb, shO s.leaf s.tagged (.slice A1 s.pairs.length c1) (.slice A2 s.keys.length c2) (.slice A3 s.kids.length c3)) :: Y)))) := (HF.out.1.drewN nq).perm (perm_of_count fun x => by simp only [List.count_append, List.count_cons, List.count_nil, arenaObj, slotObj, nodeObj, worldObj]; omega)
            have HQ := Lib.hid (And.intro hWq (HF.out.2.drewN nq))
            clear hWq HF
            have hfd : ∀ (a b c d e : Value) (w : World), (Instr.field 69 (.agg #[a, b, c, d, e]) 0).run Try.prog w = .ok a w := node_field0
            have hz1 : (z == z) = true := by simp
            have hz2 : (aR == aR) = true := by simp
            go_wp2_with first
              | (go_at_call 12; refine (HT.out.1 _ _ HQ.out.1).mono ?_; rintro ed w9 ⟨rfl, rfl⟩)
              | (go_at_call 32; refine (HT.out.2.1 _ _ HQ.out.1 (fun q hq => by simp [hq])).mono ?_; rintro ed w9 ⟨pv1, kv1, wv1, N9, rfl, hW9, hE9⟩; have hEQ := HQ.out.2; clear HQ; have c9 := (HC.out _ _ hW9 (fun q hq => by simp [hq])).2)
              | (go_at_call 32; refine (HT.out.2.2.1 _ _ hW9 (fun q hq => by simp [hq])).mono ?_; rintro ed w10 ⟨pv2, kv2, wv2, N10, rfl, hW10, hE10⟩; have c10 := (HC.out _ _ hW10 (fun q hq => by simp [hq])).2)
              | (go_at_call 16; refine (HT.out.2.2.2 _ _ hW10).mono ?_; rintro ed w11 ⟨rfl, rfl⟩)
            go_ret
            refine ⟨rfl, ⟨La ++ (N10 ++ (N9 ++ (L6 ++ (N8 ++ ((sb, shO s.leaf s.tagged (.slice A1 s.pairs.length c1) (.slice A2 s.keys.length c2) (.slice A3 s.kids.length c3)) :: ((wp, wldO ab tb eb SW.a SW.b (refOf 1 1)) :: (Lt ++ (Le ++ (N4 ++ (N3 ++ (N2 ++ (N1 ++ [(vb, planO (.slice Ak p.keys.length ck) (.slice As p.sizes.length cs) (.slice Ae p.keeps.length ce) (.slice Ag p.groups.length cg) (.slice At p.tags.length ct)), (vb + 1, Obj.cells #[.int .i64 key] 2 (0, 0))])))))))))))), ?_⟩, (hEQ.trans hE9).trans hE10⟩
            have h := hW10
            rw [← HA.out.2.2.2.2.2.1, ← HR.out.1, ← HR1.out] at h
            exact h.perm (perm_of_count fun x => by simp only [List.count_append, List.count_cons, List.count_nil, arenaObj, slotObj, nodeObj, worldObj]; omega)
  · have hli : lightB p = false := by simpa using hli
    go_wp2_with (go_at_call 8; refine HL1.out.1.mono ?_; rw [hli]; rintro ed w2 ⟨rfl, ⟨N2, hW2⟩, hE2⟩)
    go_ret
    refine ⟨rfl, ⟨N2 ++ (N1 ++ [(vb, planO (.slice Ak p.keys.length ck) (.slice As p.sizes.length cs) (.slice Ae p.keeps.length ce) (.slice Ag p.groups.length cg) (.slice At p.tags.length ct)), (vb + 1, Obj.cells #[.int .i64 key] 2 (0, 0))]), ?_⟩, HL1.out.2.trans hE2⟩
    rw [← HR1.out] at hW2
    exact hW2.perm (perm_of_count fun x => by simp only [List.count_append, List.count_cons, List.count_nil, arenaObj, slotObj, nodeObj, worldObj]; omega)
end Go.Proofs.Ytjkfigkgeoacfaa
