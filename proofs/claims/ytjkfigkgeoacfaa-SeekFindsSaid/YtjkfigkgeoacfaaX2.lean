import Derived.Test.YtjkfigkgeoacfaaN0
import Derived.Test.YtjkfigkgeoacfaaM3
set_option linter.unusedVariables false
set_option linter.unusedSimpArgs false
namespace Go.Proofs.Ytjkfigkgeoacfaa
open Go.RowKit Go.Proofs.YtjkfigkgeoacfaaW.PrintLast

set_option maxRecDepth 100000 in
set_option maxHeartbeats 8000000 in
theorem seekFinds_all {p : Pl} {R : HL} {kv sv ev gv tv : Value} (hp : PlRd R kv sv ev gv tv p) {b : Int} (hb0 : 0 ≤ b) (hb1 : b < 256) {w : World} (hw : Has w R) :
    Calls Try.prog 5 #[.agg #[kv, sv, ev, gv, tv], .int .u8 b] w fun e w' => e = .returned (.bool true) ∧ (∃ N, Has w' (N ++ R)) ∧ Ext w w' := by
  obtain ⟨_, _, Ak, ck, rfl, _⟩ := id hp.k
  obtain ⟨_, _, As, cs, rfl, _⟩ := id hp.s
  obtain ⟨_, _, Ae, ce, rfl, _⟩ := id hp.e
  obtain ⟨_, _, Ag, cg, rfl, _⟩ := id hp.g
  obtain ⟨_, _, At, ct, rfl, _⟩ := id hp.t
  have hW := hw.alloc (planO (.slice Ak p.keys.length ck) (.slice As p.sizes.length cs) (.slice Ae p.keeps.length ce) (.slice Ag p.groups.length cg) (.slice At p.tags.length ct))
  have hE := (Ext.refl w).alloc (planO (.slice Ak p.keys.length ck) (.slice As p.sizes.length cs) (.slice Ae p.keeps.length ce) (.slice Ag p.groups.length cg) (.slice At p.tags.length ct))
  have haw := awake11_any hW
  have HW := Lib.hid (And.intro haw (And.intro hE hp))
  clear haw hE hp hw hW
  have kb : ∀ (w' : World) (X : HL) (vb : Nat), Has w' X → (vb, planO (.slice Ak p.keys.length ck) (.slice As p.sizes.length cs) (.slice Ae p.keeps.length ce) (.slice Ag p.groups.length cg) (.slice At p.tags.length ct)) ∈ X → (w'.cell? ⟨vb, 0, none⟩ = some (.slice Ak p.keys.length ck) ∧ w'.cell? ⟨vb, 1, none⟩ = some (.slice As p.sizes.length cs) ∧ w'.cell? ⟨vb, 2, none⟩ = some (.slice Ae p.keeps.length ce) ∧ w'.cell? ⟨vb, 3, none⟩ = some (.slice Ag p.groups.length cg) ∧ w'.cell? ⟨vb, 4, none⟩ = some (.slice At p.tags.length ct)) := fun w' X vb h hm => h.plan hm
  have KB := Lib.hid kb
  clear kb
  go_enter Try.func5, Try.ntmps5
  go_upto_region 3 with (go_at_call 7; refine HW.out.1.mono ?_; rintro ed w1 ⟨rfl, ⟨N1, hW1⟩, hE1⟩)
  generalize w.heap.size = vb at hW1 ⊢
  obtain ⟨q0, q1, q2, q3, q4⟩ := KB.out _ _ vb hW1 (by simp)
  have hlight := light_any (p := p) (Ak := Ak) (As := As) (Ae := Ae) (Ag := Ag) (At := At) (ck := ck) (cs := cs) (ce := ce) (cg := cg) (ct := ct) hW1
  have HL1 := Lib.hid (And.intro hlight (HW.out.2.1.trans hE1))
  clear hlight hW1 hE1
  by_cases hli : lightB p = true
  · go_upto_region 5 with (go_at_call 8; refine HL1.out.1.mono ?_; rw [hli]; rintro ed w2 ⟨rfl, ⟨N2, hW2⟩, hE2⟩)
    obtain ⟨B, hB⟩ : ∃ B, 3 + b.toNat % 6 = B := ⟨_, rfl⟩
    have hB3 : 3 ≤ B := by omega
    have hB8 : B ≤ 8 := by omega
    have hwide : ∀ w, Calls Try.prog 10 #[.int .u8 b] w fun e w' => e = .returned (.int .i64 B) ∧ w' = w := fun w => (wide_any hb0 hb1 w).mono fun e w' h => ⟨by rw [h.1, hB], h.2.symm⟩
    obtain ⟨q0, q1, q2, q3, q4⟩ := KB.out _ _ vb hW2 (by simp)
    have hrep := HW.out.2.2.rep hli (R' := N2 ++ (N1 ++ ((vb, planO (.slice Ak p.keys.length ck) (.slice As p.sizes.length cs) (.slice Ae p.keeps.length ce) (.slice Ag p.groups.length cg) (.slice At p.tags.length ct)) :: R))) (fun q hq => by simp [hq])
    have hE2 := HL1.out.2.trans hE2
    obtain ⟨s, hh, hgood, hmany, hshape⟩ := plan_shape hB3 hB8 hrep
    generalize hR2 : N2 ++ (N1 ++ ((vb, planO (.slice Ak p.keys.length ck) (.slice As p.sizes.length cs) (.slice Ae p.keeps.length ce) (.slice Ag p.groups.length cg) (.slice At p.tags.length ct)) :: R)) = R2 at hW2 hshape
    have HP := Lib.hid (And.intro hwide hshape)
    have HR := Lib.hid (And.intro hR2 hB)
    have HG := Lib.hid (And.intro hgood hmany)
    clear hwide hrep hR2 hB hshape hgood hmany
    go_cut [5] (fun v wx => ∃ (sb : Nat) (A1 : Option Addr) (c1 : Nat) (A2 : Option Addr) (c2 : Nat) (A3 : Option Addr) (c3 : Nat) (N3 : HL), v = .pointer (some ⟨sb, 0, none⟩) ∧ ShRep N3 (shCells s A1 c1 A2 c2 A3 c3) s ∧
      Has wx ((sb, shO s.leaf s.tagged (.slice A1 s.pairs.length c1) (.slice A2 s.keys.length c2) (.slice A3 s.kids.length c3)) :: (N3 ++ R2)) ∧ Ext w wx)
    case first =>
      have hA0 : Has (w2.alloc (shO false false nil0 nil0 nil0)).drew ((w2.heap.size, shO false false nil0 nil0 nil0) :: R2) := (hW2.alloc (shO false false nil0 nil0 nil0)).drew
      have HA0 := Lib.hid (And.intro hW2.drew (And.intro hA0 hE2))
      obtain ⟨r0, r1, r2, r3, r4⟩ := KB.out _ _ vb (hW2.alloc (shO false false nil0 nil0 nil0)) (by have h := HR.out.1; rw [← h]; simp)
      clear hA0 hW2 hE2
      go_region_with (first
        | (go_at_call 10; refine (HP.out.1 _).mono ?_; rintro ed w3 ⟨rfl, rfl⟩)
        | (go_at_call 9; refine (HP.out.2 _ _ HA0.out.1 (fun q hq => hq)).mono ?_; rintro ed w3 ⟨A1, c1, A2, c2, A3, c3, N3, rfl, hs3, hW3, hE3⟩)
        | (go_at_call 9; refine (HP.out.2 _ _ HA0.out.2.1 (fun q hq => List.mem_cons_of_mem _ hq)).mono ?_; rintro ed w3 ⟨A1, c1, A2, c2, A3, c3, N3, rfl, hs3, hW3, hE3⟩; obtain ⟨z0, z1, z2, z3, z4⟩ := hW3.five (b := w2.heap.size) (l := false) (t := false) (p := nil0) (k := nil0) (c := nil0) (by simp); have zf := hW3.free (b := w2.heap.size) (c := #[.bool false, .bool false, nil0, nil0, nil0]) (t := 31) (by simp)))
      all_goals go_wp2_with fail
      all_goals go_meet
      all_goals first
        | exact ⟨w3.heap.size, A1, c1, A2, c2, A3, c3, N3, rfl, hs3, hW3.alloc (shO s.leaf s.tagged (.slice A1 s.pairs.length c1) (.slice A2 s.keys.length c2) (.slice A3 s.kids.length c3)), (HA0.out.2.2.drew.trans hE3).alloc _⟩
        | (refine ⟨w2.heap.size, A1, c1, A2, c2, A3, c3, N3, rfl, hs3, ?_, ?_⟩
           · have h5 := (hW3.perm (L' := (w2.heap.size, shO false false nil0 nil0 nil0) :: (N3 ++ R2)) (perm_of_count fun x => by simp only [List.count_append, List.count_cons, List.count_nil, arenaObj, slotObj, nodeObj, worldObj, pairObj]; omega)).set5 s.leaf s.tagged (.slice A1 s.pairs.length c1) (.slice A2 s.keys.length c2) (.slice A3 s.kids.length c3)
             unfold Go.Proofs.Ytjkfigkgeoacfaa.set5 at h5
             exact h5
           · have h5 := ((HA0.out.2.2.alloc (shO false false nil0 nil0 nil0)).drew.trans hE3).set5 w2.heap.size s.leaf s.tagged (.slice A1 s.pairs.length c1) (.slice A2 s.keys.length c2) (.slice A3 s.kids.length c3)
             unfold Go.Proofs.Ytjkfigkgeoacfaa.set5 at h5
             exact h5)
    case rest =>
      obtain ⟨sb, A1, c1, A2, c2, A3, c3, N3, rfl, hs3, hW3, hE3⟩ := hcut
      clear hW2 hE2 q0 q1 q2 q3 q4
      have hg6 := HG.out.2
      obtain ⟨q0, q1, q2, q3, q4⟩ := hW3.five (b := sb) (List.mem_cons_self ..)
      have hworld := world11_any (a := 2) (b := B) (threads := 1) (room := 0) (records := 1) (s := s) (by omega) (by omega) (by omega) (by omega) (by omega) (by omega) (by omega) (by omega) (by omega) (by omega) (HG.out.1.small (by omega)) (hs3.mono (R' := (sb, shO s.leaf s.tagged (.slice A1 s.pairs.length c1) (.slice A2 s.keys.length c2) (.slice A3 s.kids.length c3)) :: (N3 ++ R2)) (fun q hq => by simp [hq])) hW3.drew
      have HW4 := Lib.hid (And.intro hworld hE3)
      clear hworld hE3
      go_upto_region 6 with fail
      go_cut [6] (fun v wx => ∃ (wp : Nat) (L4 N4 : HL), v = .pointer (some ⟨wp, 0, none⟩) ∧ WorldRep (N4 ++ ((sb, shO s.leaf s.tagged (.slice A1 s.pairs.length c1) (.slice A2 s.keys.length c2) (.slice A3 s.kids.length c3)) :: (N3 ++ R2))) wp (plantedWorld 2 B 1 s 0 1) L4 ∧
        Has wx (L4 ++ (N4 ++ ((sb, shO s.leaf s.tagged (.slice A1 s.pairs.length c1) (.slice A2 s.keys.length c2) (.slice A3 s.kids.length c3)) :: (N3 ++ R2)))) ∧ Ext w wx)
      case first =>
        go_region_with (first
          | (go_at_call 10; refine (HP.out.1 _).mono ?_; rintro ed w3 ⟨rfl, rfl⟩)
          | (go_at_call 11; refine HW4.out.1.mono ?_; rintro ed w4 ⟨wp, L4, N4, rfl, hWR4, hW4, hE4⟩))
        all_goals go_wp2_with fail
        all_goals go_meet
        all_goals exact ⟨wp, L4, N4, rfl, hWR4, hW4, HW4.out.2.drew.trans hE4⟩
      case rest =>
        obtain ⟨wp, L4, N4, rfl, hWR, hW4, hE4⟩ := hcut
        clear hW3 HW4 q0 q1 q2 q3 q4 HL1 KB
        have hsm := HG.out.1.small (show B ≤ 1000 by omega)
        have hpl := planted_leaf (a := 2) (b := B) (threads := 1) (records := 1) hsm HG.out.2 hB8 HG.out.1
        have hok := planted_ok (a := 2) (b := B) (threads := 1) (records := 1) hsm (show s.many ≤ 60000 by omega)
        have hent : (plantedWorld 2 B 1 s 0 1).entry = refOf 1 1 := rfl
        generalize hSW : plantedWorld 2 B 1 s 0 1 = SW at hWR hpl hok hent
        obtain ⟨ab, tb, eb, La, Lt, Le, rfl, hA, hT, hEp⟩ := id hWR
        rw [hent] at hW4
        have hA' := hA.drop1 (X := N4) (Y := N3 ++ R2)
        obtain ⟨Y, hY⟩ : ∃ Y, (wp, wldO ab tb eb SW.a SW.b (refOf 1 1)) :: (Lt ++ (Le ++ (N4 ++ (N3 ++ R2)))) = Y := ⟨_, rfl⟩
        have hpY : (wp, wldO ab tb eb SW.a SW.b (refOf 1 1)) ∈ Y := by rw [← hY]; simp
        have hsY : ∀ q, q ∈ N4 ++ (N3 ++ R2) → q ∈ Y := by intro q hq; rw [← hY]; simp only [List.mem_append, List.mem_cons] at hq ⊢; grind
        have hW5 : Has wc ((sb, shO s.leaf s.tagged (.slice A1 s.pairs.length c1) (.slice A2 s.keys.length c2) (.slice A3 s.kids.length c3)) :: (La ++ Y)) := by
          rw [← hY]
          have hW4' : Has wc (((wp, wldO ab tb eb SW.a SW.b (refOf 1 1)) :: (La ++ (Lt ++ Le))) ++ (N4 ++ ((sb, shO s.leaf s.tagged (.slice A1 s.pairs.length c1) (.slice A2 s.keys.length c2) (.slice A3 s.kids.length c3)) :: (N3 ++ R2)))) := hW4
          exact hW4'.perm (perm_of_count fun x => by simp only [List.count_append, List.count_cons, List.count_nil, arenaObj, slotObj, nodeObj, worldObj, pairObj]; omega)
        have hs3' : ∀ Z : HL, (∀ q, q ∈ Y → q ∈ Z) → ShRep Z (shCells s A1 c1 A2 c2 A3 c3) s := fun Z hZ => hs3.mono (fun q hq => hZ q (hsY q (by simp [hq])))
        have hall : s.all.length ≤ 64000 := by
          have h1 := HG.out.1.all_len
          have h2 := HG.out.2
          have h3 : B * s.many ≤ 8 * s.many := Nat.mul_le_mul_right _ hB8
          omega
        have hal : ∀ (k0 v0 : Int), (k0, v0) ∈ s.all → ∃ nn : Nat, nn ≤ 1 + s.deep ∧ ∀ (w2 : World) (tb2 vb2 mb2 wb2 xb : Nat) (Z : HL), Has w2 ((tb2, thO (.func (.func 52) #[] #[.pointer (some ⟨wb2, 0, none⟩), .pointer (some ⟨vb2, 0, none⟩), .pointer (some ⟨mb2, 0, none⟩)]) nil0 0 false false false nil0) :: ((wb2, Obj.cells #[.func (.func 27) #[] #[.pointer (some ⟨xb, 0, none⟩)]] 76 (0, 0)) :: (mb2, Obj.cells #[.int .i64 0] 3 (0, 0)) :: (vb2, Obj.cells #[.pointer (some ⟨wp, 0, none⟩)] 34 (0, 0)) :: ((xb, pairObj k0 v0) :: (La ++ (Z ++ Y))))) →
            Calls Try.prog 14 #[.pointer (some ⟨tb2, 0, none⟩)] w2 fun e w' => ∃ A c Lo N', e = .returned (.tuple #[.slice A 1 c, .int .i64 nn, .bool true]) ∧ Row 2 1 (.slice A 1 c) 1 (ints [v0]) Lo ∧ Has w' (Lo ++ (N' ++ (La ++ ((xb, pairObj k0 v0) :: (Z ++ Y))))) ∧ Ext w2 w' := by
          intro k0 v0 hmem
          obtain ⟨ss, ts, d, up, at_, hP, htl, hmx, hd2, hup, hat, _, _, hri, hpb, hin1, _⟩ := hpl k0
          have hget : (getL at_.2.1.pairs k0).getD 0 = v0 := by
            have h := getL_mem hri (hin1 _ hmem rfl)
            simp only [] at h
            rw [h]; rfl
          refine ⟨max ts.length 1, hmx, fun w2 tb2 vb2 mb2 wb2 xb Z h => ?_⟩
          have hwk := finds1_work hA' hok (R2 := (wb2, Obj.cells #[.func (.func 27) #[] #[.pointer (some ⟨xb, 0, none⟩)]] 76 (0, 0)) :: (mb2, Obj.cells #[.int .i64 0] 3 (0, 0)) :: (vb2, Obj.cells #[.pointer (some ⟨wp, 0, none⟩)] 34 (0, 0)) :: ((xb, pairObj k0 v0) :: (Z ++ Y))) (fun q hq => by simp [hsY q hq]) (p := wp) (t := tb) (e := eb) (x := SW.a) (y := SW.b) (by simp [hpY]) hP (by omega) hd2 hup hat hri hpb (xb := xb) (v0 := v0) (by simp) 0
          rw [hget] at hwk
          exact alone_work hwk (fun args w => enters_ Try.func27 (by kernel_rfl) rfl args w) htl (by simp) (h.perm (perm_of_count fun x => by simp only [List.count_append, List.count_cons, List.count_nil, arenaObj, slotObj, nodeObj, worldObj, pairObj]; omega))
        have hallc : ∀ (w' : World) (Z : HL), Has w' Z → (∀ q, q ∈ Y → q ∈ Z) → Calls Try.prog 25 #[.agg #[.bool s.leaf, .bool s.tagged, .slice A1 s.pairs.length c1, .slice A2 s.keys.length c2, .slice A3 s.kids.length c3]] w' fun e w'' => ∃ A c Lo N, e = .returned (.slice A s.all.length c) ∧ Row 61 2 (.slice A s.all.length c) s.all.length (pairCells s.all) Lo ∧ Has w'' (Lo ++ (N ++ Z)) ∧ Ext w' w'' := fun w' Z h hZ =>
          all_any s (by omega) (by omega) Z _ w' (hs3' Z hZ) h
        have hdpc : ∀ (w' : World) (Z : HL), Has w' Z → (∀ q, q ∈ Y → q ∈ Z) → Calls Try.prog 23 #[.agg #[.bool s.leaf, .bool s.tagged, .slice A1 s.pairs.length c1, .slice A2 s.keys.length c2, .slice A3 s.kids.length c3]] w' fun e w'' => e = .returned (.int .i64 s.deep) ∧ (∃ N, Has w'' (N ++ Z)) ∧ Ext w' w'' := fun w' Z h hZ =>
          deep_any s (by omega) Z _ w' (hs3' Z hZ) h
        have hdp : s.deep ≤ 8000 := by have := Sh.deep_many s; have := HG.out.2; omega
        generalize s.deep = dp at *
        have HA := Lib.hid (And.intro hal (And.intro hallc (And.intro hdpc (And.intro hY hpY))))
        clear hal hallc hdpc hY hpY hs3' hA' hok hpl hWR hA hT hEp hW4 hs3 hent hSW hsY
        obtain ⟨q0, q1, q2, q3, q4⟩ := hW5.five (b := sb) (l := s.leaf) (t := s.tagged) (p := .slice A1 s.pairs.length c1) (k := .slice A2 s.keys.length c2) (c := .slice A3 s.kids.length c3) (by simp)
        go_upto_region 7 with fail
        go_wp2_with (go_at_call 25; refine (HA.out.2.1 _ _ hW5 (fun q hq => by simp [hq])).mono ?_; rintro ed w7 ⟨A7, c7, L7, N7, rfl, hr7, hW7, hE7⟩)
        have hW7' : Has w7 (L7 ++ (N7 ++ ((sb, shO s.leaf s.tagged (.slice A1 s.pairs.length c1) (.slice A2 s.keys.length c2) (.slice A3 s.kids.length c3)) :: (La ++ Y)))) := hW7
        have hE7' := hE4.trans hE7
        clear q0 q1 q2 q3 q4 hW5 hE4 hW7 hE7
        have Hr7 := Lib.hid hr7
        clear hr7
        go_loopw [28] (fun iv wr => ∃ (k : Nat) (N8 : HL), iv = .int .i64 k ∧ k ≤ s.all.length ∧ Has wr (L7 ++ (N8 ++ ((sb, shO s.leaf s.tagged (.slice A1 s.pairs.length c1) (.slice A2 s.keys.length c2) (.slice A3 s.kids.length c3)) :: (La ++ Y)))) ∧ Ext w wr) (fun iv _ => s.all.length - (intOf iv).toNat)
        case atStart => exact ⟨0, N7, rfl, Nat.zero_le _, hW7', hE7'⟩
        case round =>
          obtain ⟨k, N8, rfl, hk, hW8, hE8⟩ := hrel
          clear hW7' hE7'
          by_cases hlt : k < s.all.length
          · obtain ⟨g7, o7, k7, he7, _, _, hk7⟩ := (Hr7.out.rd []).known (by omega)
            cases he7
            obtain ⟨kc0, kc1⟩ := pair_known (R := R) (fun jx ux hx => hk7 wr _ (hW8.knows (fun q hq => hq)) (fun q hq => by simp only [List.append_nil] at hq; simp [hq]) jx ux hx) hlt
            have hmem : s.all[k] ∈ s.all := List.getElem_mem hlt
            generalize s.all[k] = y at kc0 kc1 hmem
            obtain ⟨k0, v0⟩ := y
            simp only [] at kc0 kc1
            obtain ⟨nn, hnn, hal⟩ := HA.out.1 k0 v0 hmem
            have hlt2 : (k : Int) < s.all.length := by omega
            have hW9 := hW8.alloc (pairObj k0 v0)
            have hstart := start_any (p := wp) (me := 0) (K := 27) (caps := #[.pointer (some ⟨wr.heap.size, 0, none⟩)]) hW9
            have HB := Lib.hid (And.intro hstart (And.intro hal (And.intro (hE8.alloc (pairObj k0 v0)) hW8)))
            clear hstart hal hE8 hmem hk7
            have hmf : ∀ (fn : Fn) (first cap : Array Value) (w : World), (Instr.makeFunc fn first cap).run Try.prog w = .ok (.func fn first cap) w := fun _ _ _ _ => rfl
            go_upto_region 11 with first
              | (go_at_call 26; refine HB.out.1.mono ?_; rintro ed w10 ⟨tb2, vb2, mb2, wb2, rfl, hWs, hEs⟩)
              | (go_at_call 14; refine (HB.out.2.1 _ tb2 vb2 mb2 wb2 wr.heap.size (L7 ++ (N8 ++ [(sb, shO s.leaf s.tagged (.slice A1 s.pairs.length c1) (.slice A2 s.keys.length c2) (.slice A3 s.kids.length c3))])) (hWs.perm (perm_of_count fun x => by simp only [List.count_append, List.count_cons, List.count_nil, arenaObj, slotObj, nodeObj, worldObj, pairObj]; omega))).mono ?_; rintro ed w11 ⟨A11, c11, L11, N11, rfl, hr11, hW11, hE11⟩)
            generalize wr.heap.size = xb at *
            have hWb := HB.out.2.2.2
            have hEb := (HB.out.2.2.1.trans hEs).trans hE11
            clear hWs hmf hW9 kc0 kc1 hWb hW8
            have hW12 : Has w11 (L7 ++ ((L11 ++ (N11 ++ ((xb, pairObj k0 v0) :: N8))) ++ ((sb, shO s.leaf s.tagged (.slice A1 s.pairs.length c1) (.slice A2 s.keys.length c2) (.slice A3 s.kids.length c3)) :: (La ++ Y)))) := hW11.perm (perm_of_count fun x => by simp only [List.count_append, List.count_cons, List.count_nil, arenaObj, slotObj, nodeObj, worldObj, pairObj]; omega)
            obtain ⟨g8, o8, k8, he8, _, _, hk8⟩ := (hr11.rd []).known (by omega)
            cases he8
            have k0' : w11.cell? ⟨g8, o8 + 0, none⟩ = some (.int .i64 v0) := hk8 w11 _ (hW11.knows (fun q hq => hq)) (fun q hq => by simp only [List.append_nil] at hq; simp [hq]) 0 _ rfl
            rw [Nat.add_zero] at k0'
            obtain ⟨x0, x1⟩ := hW11.pair (b := xb) (x := k0) (y := v0) (by simp)
            obtain ⟨q0, q1, q2, q3, q4⟩ := hW11.five (b := sb) (l := s.leaf) (t := s.tagged) (p := .slice A1 s.pairs.length c1) (k := .slice A2 s.keys.length c2) (c := .slice A3 s.kids.length c3) (by simp)
            have HW := Lib.hid (And.intro hW12 hEb)
            clear hW11 hW12 hEb hk8 hr11 hE11 hEs
            have hv0 : (v0 != v0) = false := by simp
            have hgt : decide ((1 : Int) + (dp : Int) < (nn : Int)) = false := decide_eq_false (by omega)
            go_cut [61] (fun v wx => ∃ N9 : HL, v = .bool false ∧ Has wx (L7 ++ (N9 ++ ((sb, shO s.leaf s.tagged (.slice A1 s.pairs.length c1) (.slice A2 s.keys.length c2) (.slice A3 s.kids.length c3)) :: (La ++ Y)))) ∧ Ext w wx)
            case first =>
              refine start_ (n := 22) (S := fun w' => w'.cell? ⟨g8, o8, none⟩ = some (.int .i64 v0) ∧ w'.cell? ⟨xb, 1, none⟩ = some (.int .i64 v0) ∧ w'.cell? ⟨sb, 0, none⟩ = some (.bool s.leaf) ∧ w'.cell? ⟨sb, 1, none⟩ = some (.bool s.tagged) ∧ w'.cell? ⟨sb, 2, none⟩ = some (.slice A1 s.pairs.length c1) ∧ w'.cell? ⟨sb, 3, none⟩ = some (.slice A2 s.keys.length c2) ∧ w'.cell? ⟨sb, 4, none⟩ = some (.slice A3 s.kids.length c3)) (ds := [18]) #[false, false, false, false, false, false, false, false, false, false, false, false, false, false, false, false, false, false, false, false, false, false] (by kernel_rfl) rfl rfl ⟨k0', x1, q0, q1, q2, q3, q4⟩ (fun hHeld => ?_)
              refine pure_ (i := 0) (N := some 40) (v := ?_) (a' := ?_) #[true, false, false, false, false, false, false, false, false, false, false, false, false, false, false, false, false, false, false, false, false, false] rfl rfl (by kernel_rfl) (fun _ _ _ h => h) (Or.inl ⟨by rfl, ?_⟩) ?_ ?_
              rotate_left
              · intro w'
                go_simp
                with_reducible rfl
              rotate_left
              · simp only [Act.put, List.setIfInBounds_toArray, List.set_cons_zero, List.set_cons_succ, i64_w, i32_w]
                rfl
              refine pure_ (i := 1) (N := some 41) (v := ?_) (a' := ?_) #[true, true, false, false, false, false, false, false, false, false, false, false, false, false, false, false, false, false, false, false, false, false] rfl rfl (by kernel_rfl) (fun _ _ _ h => h) (Or.inl ⟨by rfl, ?_⟩) ?_ ?_
              rotate_left
              · intro w'
                go_simp
                with_reducible rfl
              rotate_left
              · simp only [Act.put, List.setIfInBounds_toArray, List.set_cons_zero, List.set_cons_succ, i64_w, i32_w]
                rfl
              refine pure_ (i := 2) (N := some 42) (v := ?_) (a' := ?_) #[true, true, true, false, false, false, false, false, false, false, false, false, false, false, false, false, false, false, false, false, false, false] rfl rfl (by kernel_rfl) (fun _ _ _ h => h) (Or.inl ⟨by rfl, ?_⟩) ?_ ?_
              rotate_left
              · intro w'
                go_simp
                with_reducible rfl
              rotate_left
              · simp only [Act.put, List.setIfInBounds_toArray, List.set_cons_zero, List.set_cons_succ, i64_w, i32_w]
                rfl
              refine pure_ (i := 3) (N := some 43) (v := ?_) (a' := ?_) #[true, true, true, true, false, false, false, false, false, false, false, false, false, false, false, false, false, false, false, false, false, false] rfl rfl (by kernel_rfl) (fun _ _ _ h => h) (Or.inl ⟨by rfl, ?_⟩) ?_ ?_
              rotate_left
              · intro w'
                go_simp
                with_reducible rfl
              rotate_left
              · simp only [Act.put, List.setIfInBounds_toArray, List.set_cons_zero, List.set_cons_succ, i64_w, i32_w]
                rfl
              refine pure_ (i := 4) (N := some 44) (v := ?_) (a' := ?_) #[true, true, true, true, true, false, false, false, false, false, false, false, false, false, false, false, false, false, false, false, false, false] rfl rfl (by kernel_rfl) (fun _ _ _ h => h) (Or.inl ⟨by rfl, ?_⟩) ?_ ?_
              rotate_left
              · intro w'
                go_simp
                with_reducible rfl
              rotate_left
              · simp only [Act.put, List.setIfInBounds_toArray, List.set_cons_zero, List.set_cons_succ, i64_w, i32_w]
                rfl
              refine pure_ (i := 5) (N := some 45) (v := ?_) (a' := ?_) #[true, true, true, true, true, true, false, false, false, false, false, false, false, false, false, false, false, false, false, false, false, false] rfl rfl (by kernel_rfl) (fun _ _ _ h => h) (Or.inl ⟨by rfl, ?_⟩) ?_ ?_
              rotate_left
              · intro w'
                go_simp
                with_reducible rfl
              rotate_left
              · simp only [Act.put, List.setIfInBounds_toArray, List.set_cons_zero, List.set_cons_succ, i64_w, i32_w]
                rfl
              refine pure_ (i := 6) (N := some 46) (v := ?_) (a' := ?_) #[true, true, true, true, true, true, true, false, false, false, false, false, false, false, false, false, false, false, false, false, false, false] rfl rfl (by kernel_rfl) (fun _ _ _ h => h) (Or.inl ⟨by rfl, ?_⟩) ?_ ?_
              rotate_left
              · intro w'
                go_simp
                with_reducible rfl
              rotate_left
              · simp only [Act.put, List.setIfInBounds_toArray, List.set_cons_zero, List.set_cons_succ, i64_w, i32_w]
                rfl
              refine pure_ (i := 7) (N := some 47) (v := ?_) (a' := ?_) #[true, true, true, true, true, true, true, true, false, false, false, false, false, false, false, false, false, false, false, false, false, false] rfl rfl (by kernel_rfl) (fun _ _ _ h => h) (Or.inl ⟨by rfl, ?_⟩) ?_ ?_
              rotate_left
              · intro w'
                go_simp
                with_reducible rfl
              rotate_left
              · simp only [Act.put, List.setIfInBounds_toArray, List.set_cons_zero, List.set_cons_succ, i64_w, i32_w]
                rfl
              refine pure_ (i := 8) (N := some 48) (v := ?_) (a' := ?_) #[true, true, true, true, true, true, true, true, true, false, false, false, false, false, false, false, false, false, false, false, false, false] rfl rfl (by kernel_rfl) (fun _ _ _ h => h) (Or.inl ⟨by rfl, ?_⟩) ?_ ?_
              rotate_left
              · intro w'
                go_simp
                with_reducible rfl
              rotate_left
              · simp only [Act.put, List.setIfInBounds_toArray, List.set_cons_zero, List.set_cons_succ, i64_w, i32_w]
                rfl
              refine pure_ (i := 9) (N := some 49) (v := ?_) (a' := ?_) #[true, true, true, true, true, true, true, true, true, true, false, false, false, false, false, false, false, false, false, false, false, false] rfl rfl (by kernel_rfl) (fun _ _ _ h => h) (Or.inl ⟨by rfl, ?_⟩) ?_ ?_
              rotate_left
              · intro w'
                go_simp
                with_reducible rfl
              rotate_left
              · simp only [Act.put, List.setIfInBounds_toArray, List.set_cons_zero, List.set_cons_succ, i64_w, i32_w]
                rfl
              refine pure_ (i := 11) (N := some 51) (v := ?_) (a' := ?_) #[true, true, true, true, true, true, true, true, true, true, false, true, false, false, false, false, false, false, false, false, false, false] rfl rfl (by kernel_rfl) (fun _ _ _ h => h) (Or.inl ⟨by rfl, ?_⟩) ?_ ?_
              rotate_left
              · intro w'
                go_simp
                with_reducible rfl
              rotate_left
              · simp only [Act.put, List.setIfInBounds_toArray, List.set_cons_zero, List.set_cons_succ, i64_w, i32_w]
                rfl
              refine take_ (i := 10) (N := some 50) (v := ?_) (a' := ?_) #[true, true, true, true, true, true, true, true, true, true, true, true, false, false, false, false, false, false, false, false, false, false] rfl rfl (by kernel_rfl) (fun _ _ _ h => h) (Or.inl ⟨by rfl, ?_⟩) hHeld ?_ ?_
              rotate_left
              · rintro w' ⟨s0, s1, s2, s3, s4, s5, s6⟩
                go_simp
                with_reducible rfl
              rotate_left
              · simp only [Act.put, List.setIfInBounds_toArray, List.set_cons_zero, List.set_cons_succ, i64_w, i32_w]
                rfl
              refine take_ (i := 12) (N := some 52) (v := ?_) (a' := ?_) #[true, true, true, true, true, true, true, true, true, true, true, true, true, false, false, false, false, false, false, false, false, false] rfl rfl (by kernel_rfl) (fun _ _ _ h => h) (Or.inl ⟨by rfl, ?_⟩) hHeld ?_ ?_
              rotate_left
              · rintro w' ⟨s0, s1, s2, s3, s4, s5, s6⟩
                go_simp
                with_reducible rfl
              rotate_left
              · simp only [Act.put, List.setIfInBounds_toArray, List.set_cons_zero, List.set_cons_succ, i64_w, i32_w]
                rfl
              refine pure_ (i := 13) (N := some 53) (v := ?_) (a' := ?_) #[true, true, true, true, true, true, true, true, true, true, true, true, true, true, false, false, false, false, false, false, false, false] rfl rfl (by kernel_rfl) (fun _ _ _ h => h) (Or.inl ⟨by rfl, ?_⟩) ?_ ?_
              rotate_left
              · intro w'
                go_simp
                with_reducible rfl
              rotate_left
              · simp only [Act.put, List.setIfInBounds_toArray, List.set_cons_zero, List.set_cons_succ, i64_w, i32_w]
                rfl
              refine pure_ (i := 14) (N := some 54) (v := ?_) (a' := ?_) #[true, true, true, true, true, true, true, true, true, true, true, true, true, true, true, false, false, false, false, false, false, false] rfl rfl (by kernel_rfl) (fun _ _ _ h => h) (Or.inl ⟨by rfl, ?_⟩) ?_ ?_
              rotate_left
              · intro w'
                go_simp
                with_reducible rfl
              rotate_left
              · simp only [Act.put, List.setIfInBounds_toArray, List.set_cons_zero, List.set_cons_succ, i64_w, i32_w]
                rfl
              refine pure_ (i := 15) (N := some 55) (v := ?_) (a' := ?_) #[true, true, true, true, true, true, true, true, true, true, true, true, true, true, true, true, false, false, false, false, false, false] rfl rfl (by kernel_rfl) (fun _ _ _ h => h) (Or.inl ⟨by rfl, ?_⟩) ?_ ?_
              rotate_left
              · intro w'
                go_simp
                with_reducible rfl
              rotate_left
              · simp only [Act.put, List.setIfInBounds_toArray, List.set_cons_zero, List.set_cons_succ, i64_w, i32_w]
                rfl
              refine pure_ (i := 16) (N := some 56) (v := ?_) (a' := ?_) #[true, true, true, true, true, true, true, true, true, true, true, true, true, true, true, true, true, false, false, false, false, false] rfl rfl (by kernel_rfl) (fun _ _ _ h => h) (Or.inl ⟨by rfl, ?_⟩) ?_ ?_
              rotate_left
              · intro w'
                go_simp
                with_reducible rfl
              rotate_left
              · simp only [Act.put, List.setIfInBounds_toArray, List.set_cons_zero, List.set_cons_succ, i64_w, i32_w]
                rfl
              refine take_ (i := 17) (N := some 57) (v := ?_) (a' := ?_) #[true, true, true, true, true, true, true, true, true, true, true, true, true, true, true, true, true, true, false, false, false, false] rfl rfl (by kernel_rfl) (fun _ _ _ h => h) (Or.inl ⟨by rfl, ?_⟩) hHeld ?_ ?_
              rotate_left
              · rintro w' ⟨s0, s1, s2, s3, s4, s5, s6⟩
                go_simp
                with_reducible rfl
              rotate_left
              · simp only [Act.put, List.setIfInBounds_toArray, List.set_cons_zero, List.set_cons_succ, i64_w, i32_w]
                rfl
              refine last_ (i := 18) (N := some 58) #[true, true, true, true, true, true, true, true, true, true, true, true, true, true, true, true, true, true, true, false, false, false] rfl rfl (by kernel_rfl) (by decide) (fun K hK => ?_)
              refine goes_ Try.func23 (by kernel_rfl) rfl #[.agg #[.bool s.leaf, .bool s.tagged, .slice A1 s.pairs.length c1, .slice A2 s.keys.length c2, .slice A3 s.kids.length c3]] (by rfl) rfl rfl (by simp only [List.map_toArray, List.map_cons, List.map_nil]; rfl) ?_
              with_reducible refine ((HA.out.2.2.1 _ _ HW.out.1.drew (fun q hq => by simp [hq]))).mono ?_
              rintro e' w12 ⟨rfl, ⟨N12, hW13⟩, hE13⟩
              refine ⟨_, rfl, ?_⟩
              refine hK.out _ _ ?_
              clear hK K
              refine norm_ (a' := ?_) ?_ ?_
              rotate_left
              · show Act.put _ (some 58) _ = _
                simp only [Act.put, List.setIfInBounds_toArray, List.set_cons_zero, List.set_cons_succ, i64_w, i32_w]
                rfl
              refine pure_ (i := 19) (N := some 59) (v := ?_) (a' := ?_) #[true, true, true, true, true, true, true, true, true, true, true, true, true, true, true, true, true, true, true, true, false, false] rfl rfl (by kernel_rfl) (fun _ _ _ h => h) (Or.inl ⟨by rfl, ?_⟩) ?_ ?_
              rotate_left
              · intro w'
                go_simp
                with_reducible rfl
              rotate_left
              · simp only [Act.put, List.setIfInBounds_toArray, List.set_cons_zero, List.set_cons_succ, i64_w, i32_w]
                rfl
              refine pure_ (i := 20) (N := some 60) (v := ?_) (a' := ?_) #[true, true, true, true, true, true, true, true, true, true, true, true, true, true, true, true, true, true, true, true, true, false] rfl rfl (by kernel_rfl) (fun _ _ _ h => h) (Or.inl ⟨by rfl, ?_⟩) ?_ ?_
              rotate_left
              · intro w'
                go_simp
                with_reducible rfl
              rotate_left
              · simp only [Act.put, List.setIfInBounds_toArray, List.set_cons_zero, List.set_cons_succ, i64_w, i32_w]
                rfl
              refine pure_ (i := 21) (N := some 61) (v := ?_) (a' := ?_) #[true, true, true, true, true, true, true, true, true, true, true, true, true, true, true, true, true, true, true, true, true, true] rfl rfl (by kernel_rfl) (fun _ _ _ h => h) (Or.inl ⟨by rfl, ?_⟩) ?_ ?_
              rotate_left
              · intro w'
                go_simp
                with_reducible rfl
              rotate_left
              · simp only [Act.put, List.setIfInBounds_toArray, List.set_cons_zero, List.set_cons_succ, i64_w, i32_w]
                rfl
              refine done_ (by kernel_rfl) ?_
              go_wp2_with fail
              go_meet
              have hv : wrap64 ((1 : Int) + (dp : Int)) = (1 : Int) + (dp : Int) := by
                have h : (1 : Int) + (dp : Int) = ((1 + dp : Nat) : Int) := by omega
                rw [h]
                exact wrap64_nat' rfl (by omega)
              exact ⟨L11 ++ (N11 ++ ((xb, pairObj k0 v0) :: (N8 ++ N12))), by rw [hv, hgt], hW13.perm (perm_of_count fun x => by simp only [List.count_append, List.count_cons, List.count_nil, arenaObj, slotObj, nodeObj, worldObj, pairObj]; omega), HW.out.2.drew.trans hE13⟩
            case rest =>
              obtain ⟨N9, rfl, hW13, hE13⟩ := hcut
              clear k0' x0 x1 q0 q1 q2 q3 q4
              go_wp2
              go_roundw
              case rel => exact ⟨k + 1, N9, by go_num, hlt, hW13, hE13⟩
              case measure => simp [intOf]; omega
          · have hd : decide ((k : Int) < s.all.length) = false := decide_eq_false (by omega)
            go_wp2
            go_ret
            refine ⟨rfl, ⟨L7 ++ (N8 ++ ((sb, shO s.leaf s.tagged (.slice A1 s.pairs.length c1) (.slice A2 s.keys.length c2) (.slice A3 s.kids.length c3)) :: (La ++ ((wp, wldO ab tb eb SW.a SW.b (refOf 1 1)) :: (Lt ++ (Le ++ (N4 ++ (N3 ++ (N2 ++ (N1 ++ [(vb, planO (.slice Ak p.keys.length ck) (.slice As p.sizes.length cs) (.slice Ae p.keeps.length ce) (.slice Ag p.groups.length cg) (.slice At p.tags.length ct))])))))))))), ?_⟩, hE8⟩
            have h := hW8
            rw [← HA.out.2.2.2.1, ← HR.out.1] at h
            exact h.perm (perm_of_count fun x => by simp only [List.count_append, List.count_cons, List.count_nil, arenaObj, slotObj, nodeObj, worldObj, pairObj]; omega)
  · have hli : lightB p = false := by simpa using hli
    go_wp2_with (go_at_call 8; refine HL1.out.1.mono ?_; rw [hli]; rintro ed w2 ⟨rfl, ⟨N2, hW2⟩, hE2⟩)
    go_ret
    exact ⟨rfl, ⟨N2 ++ (N1 ++ [(vb, _)]), by simpa using hW2⟩, HL1.out.2.trans hE2⟩
end Go.Proofs.Ytjkfigkgeoacfaa
