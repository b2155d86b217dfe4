import Derived.Test.YtjkfigkgeoacfaaM2
set_option linter.unusedVariables false
set_option linter.unusedSimpArgs false
namespace Go.Proofs.Ytjkfigkgeoacfaa
open Go.RowKit Go.Proofs.YtjkfigkgeoacfaaW.PrintLast

structure PlRd (R : HL) (kv sv ev gv tv : Value) (p : Pl) : Prop where
  k : RdX R 1 kv p.keys.length (ints p.keys)
  s : RdX R 1 sv p.sizes.length (bytes p.sizes)
  e : RdX R 1 ev p.keeps.length (bytes p.keeps)
  g : RdX R 1 gv p.groups.length (bytes p.groups)
  t : RdX R 1 tv p.tags.length (bytes p.tags)
  bs : ∀ x ∈ p.sizes, 0 ≤ x ∧ x < 256
  be : ∀ x ∈ p.keeps, 0 ≤ x ∧ x < 256
  bg : ∀ x ∈ p.groups, 0 ≤ x ∧ x < 256
  bt : ∀ x ∈ p.tags, 0 ≤ x ∧ x < 256
theorem PlRd.rep {R R' : HL} {kv sv ev gv tv : Value} {p : Pl} (h : PlRd R kv sv ev gv tv p) (hl : lightB p = true) (hs : ∀ q, q ∈ R → q ∈ R') : PlRep R' kv sv ev gv tv p := by
  simp only [lightB, Bool.and_eq_true, decide_eq_true_eq] at hl
  obtain ⟨⟨⟨⟨h1, h2⟩, h3⟩, h4⟩, h5⟩ := hl
  exact ⟨h.k.mono hs, h.s.mono hs, h.e.mono hs, h.g.mono hs, h.t.mono hs, h.bs, h.be, h.bg, h.bt, h1, h2, h3, h4, h5⟩

theorem Trace.inv_leaf {A : AArena} {key r : Int} {s : Sh} {out ts : List Int} (h : Trace A key r s out ts) (hl : s.leaf = true) : out = [r, 0, -1 - (s.pairs.length : Int)] ∧ ts = [] := by
  cases h with
  | leaf _ => exact ⟨rfl, rfl⟩
  | node hl2 => rw [hl] at hl2; cases hl2
theorem Trace.inv_node {A : AArena} {key r : Int} {s : Sh} {out ts : List Int} (h : Trace A key r s out ts) (hl : s.leaf = false) : ∃ (k : Sh) (i : Nat) (sl : ASlot) (r' : Int) (out' ts' : List Int), s.keys.length + 1 = s.kids.length ∧ s.kids[wayN s.keys key]? = some k ∧ A.slots[i]? = some sl ∧ sl.used = true ∧ sl.ways[wayN s.keys key]? = some r' ∧
    r = refOf i sl.count ∧ out = [r, (wayN s.keys key : Int), (s.keys.length : Int)] ++ out' ∧ ts = r' :: ts' ∧ Trace A key r' k out' ts' := by
  cases h with
  | leaf hl2 => rw [hl] at hl2; cases hl2
  | node hl2 hlen hk h hu hw t => exact ⟨_, _, _, _, _, _, hlen, hk, h, hu, hw, rfl, rfl, rfl, t⟩
theorem Good.kid {b h : Nat} {lo hi : Option Int} {s : Sh} (hg : Good b h lo hi s) {i : Nat} {k : Sh} (hk : s.kids[i]? = some k) : ∃ h' lo' hi', Good b h' lo' hi' k := by
  cases hg with
  | leaf => simp [Sh.kids] at hk
  | node _ _ _ _ hkk => exact ⟨_, _, _, hkk i k hk⟩
/-- The state of SeekPaths' loop: the way down so far. -/
structure ZSt (A : AArena) (key : Int) (B : Nat) (RT : HL) (full : List Int) (tot : Nat) (sb : Nat) (X : HL) (w : World) (ov rv nv : Value) (wr : World) (sc : Sh) (out ts wl : List Int) (r : Int) (Aw : Option Addr) (cw : Nat) (Lw : HL) (C1 : Option Addr) (d1 : Nat) (C2 : Option Addr) (d2 : Nat) (C3 : Option Addr) (d3 : Nat) (N5 : HL) : Prop where
  ho : ov = .slice Aw wl.length cw
  hr : rv = .int .i64 r
  hn : ∃ n : Nat, nv = .int .i64 n ∧ n + ts.length = tot ∧ tot ≤ 8001
  tr : Trace A key r sc out ts
  wl_out : wl ++ out = full
  ro : Row 2 1 (.slice Aw wl.length cw) wl.length (ints wl) Lw
  good : ∃ h lo hi, Good B h lo hi sc
  rep : ShRep RT (shCells sc C1 d1 C2 d2 C3 d3) sc
  hw : Has wr (Lw ++ ((sb, shO sc.leaf sc.tagged (.slice C1 sc.pairs.length d1) (.slice C2 sc.keys.length d2) (.slice C3 sc.kids.length d3)) :: (N5 ++ X)))
  he : Ext w wr
theorem PlRep.mono {R R' : HL} {kv sv ev gv tv : Value} {p : Pl} (h : PlRep R kv sv ev gv tv p) (hs : ∀ q, q ∈ R → q ∈ R') : PlRep R' kv sv ev gv tv p :=
  ⟨h.k.mono hs, h.s.mono hs, h.e.mono hs, h.g.mono hs, h.t.mono hs, h.bs, h.be, h.bg, h.bt, h.lk, h.ls, h.le, h.lg, h.lt⟩
/-- The tree of a plan, as the program makes it: whatever it is, it is good. -/
theorem plan_shape {p : Pl} {B : Nat} (hB3 : 3 ≤ B) (hB8 : B ≤ 8) {R : HL} {kv sv ev gv tv : Value} (hp : PlRep R kv sv ev gv tv p) : ∃ (s : Sh) (hh : Nat), Good B hh none none s ∧ s.many ≤ 8000 ∧ ∀ (w : World) (X : HL), Has w X → (∀ q, q ∈ R → q ∈ X) →
    Calls Try.prog 9 #[.agg #[kv, sv, ev, gv, tv], .int .i64 B] w fun e w' => ∃ (A1 : Option Addr) (c1 : Nat) (A2 : Option Addr) (c2 : Nat) (A3 : Option Addr) (c3 : Nat) (N : HL), e = .returned (.agg #[.bool s.leaf, .bool s.tagged, .slice A1 s.pairs.length c1, .slice A2 s.keys.length c2, .slice A3 s.kids.length c3]) ∧ ShRep N (shCells s A1 c1 A2 c2 A3 c3) s ∧ Has w' (N ++ X) ∧ Ext w w' := by
  obtain ⟨hh, hgood⟩ := shapeL_good p (b := B) (by omega)
  refine ⟨shapeL p B, hh, hgood, shapeL_many (p := p) B hp.lk, fun w X hw hs => ?_⟩
  refine (shape_any hB3 hB8 (hp.mono hs) hw).mono ?_
  rintro e w' ⟨cs, N, rfl, hsr, hW, hE⟩
  obtain ⟨A1, c1, A2, c2, A3, c3, rfl⟩ := hsr.shape
  exact ⟨A1, c1, A2, c2, A3, c3, N, rfl, hsr, hW, hE⟩

set_option maxRecDepth 100000 in
set_option maxHeartbeats 8000000 in
theorem seekPaths_any {p : Pl} {R : HL} {kv sv ev gv tv : Value} (hp : PlRd R kv sv ev gv tv p) {b : Int} (hb0 : 0 ≤ b) (hb1 : b < 256) (key : Int) {w : World} (hw : Has w R) :
    Calls Try.prog 3 #[.agg #[kv, sv, ev, gv, tv], .int .u8 b, .int .i64 key] w fun e w' => e = .returned (.bool true) ∧ (∃ N, Has w' (N ++ R)) ∧ Ext w w' := by
  obtain ⟨_, _, Ak, ck, rfl, _⟩ := id hp.k
  obtain ⟨_, _, As, cs, rfl, _⟩ := id hp.s
  obtain ⟨_, _, Ae, ce, rfl, _⟩ := id hp.e
  obtain ⟨_, _, Ag, cg, rfl, _⟩ := id hp.g
  obtain ⟨_, _, At, ct, rfl, _⟩ := id hp.t
  have hW := hw.alloc (planO (.slice Ak p.keys.length ck) (.slice As p.sizes.length cs) (.slice Ae p.keeps.length ce) (.slice Ag p.groups.length cg) (.slice At p.tags.length ct))
  have hE := (Ext.refl w).alloc (planO (.slice Ak p.keys.length ck) (.slice As p.sizes.length cs) (.slice Ae p.keeps.length ce) (.slice Ag p.groups.length cg) (.slice At p.tags.length ct))
  have haw := awake11_any hW
  have HW := Lib.hid (And.intro haw (And.intro hE hp))
  clear haw hE hp hw hW
  have kb : ∀ (w' : World) (X : HL) (vb : Nat), Has w' X → (vb, planO (.slice Ak p.keys.length ck) (.slice As p.sizes.length cs) (.slice Ae p.keeps.length ce) (.slice Ag p.groups.length cg) (.slice At p.tags.length ct)) ∈ X → (w'.cell? ⟨vb, 0, none⟩ = some (.slice Ak p.keys.length ck) ∧ w'.cell? ⟨vb, 1, none⟩ = some (.slice As p.sizes.length cs) ∧ w'.cell? ⟨vb, 2, none⟩ = some (.slice Ae p.keeps.length ce) ∧ w'.cell? ⟨vb, 3, none⟩ = some (.slice Ag p.groups.length cg) ∧ w'.cell? ⟨vb, 4, none⟩ = some (.slice At p.tags.length ct)) := fun w' X vb h hm => h.plan hm
  have KB := Lib.hid kb
  clear kb
  go_enter Try.func3, Try.ntmps3
  go_upto_region 3 with (go_at_call 7; refine HW.out.1.mono ?_; rintro ed w1 ⟨rfl, ⟨N1, hW1⟩, hE1⟩)
  generalize w.heap.size = vb at hW1 ⊢
  obtain ⟨q0, q1, q2, q3, q4⟩ := KB.out _ _ vb hW1 (by simp)
  have hlight := light_any (p := p) (Ak := Ak) (As := As) (Ae := Ae) (Ag := Ag) (At := At) (ck := ck) (cs := cs) (ce := ce) (cg := cg) (ct := ct) hW1
  have HL1 := Lib.hid (And.intro hlight (HW.out.2.1.trans hE1))
  clear hlight hW1 hE1
  by_cases hli : lightB p = true
  · go_upto_region 5 with (go_at_call 8; refine HL1.out.1.mono ?_; rw [hli]; rintro ed w2 ⟨rfl, ⟨N2, hW2⟩, hE2⟩)
    obtain ⟨B, hB⟩ : ∃ B, 3 + b.toNat % 6 = B := ⟨_, rfl⟩
    have hB3 : 3 ≤ B := by omega
    have hB8 : B ≤ 8 := by omega
    have hwide : ∀ w, Calls Try.prog 10 #[.int .u8 b] w fun e w' => e = .returned (.int .i64 B) ∧ w' = w := fun w => (wide_any hb0 hb1 w).mono fun e w' h => ⟨by rw [h.1, hB], h.2.symm⟩
    obtain ⟨q0, q1, q2, q3, q4⟩ := KB.out _ _ vb hW2 (by simp)
    have hrep := HW.out.2.2.rep hli (R' := N2 ++ (N1 ++ ((vb, planO (.slice Ak p.keys.length ck) (.slice As p.sizes.length cs) (.slice Ae p.keeps.length ce) (.slice Ag p.groups.length cg) (.slice At p.tags.length ct)) :: R))) (fun q hq => by simp [hq])
    have hE2 := HL1.out.2.trans hE2
    obtain ⟨s, hh, hgood, hmany, hshape⟩ := plan_shape hB3 hB8 hrep
    generalize hR2 : N2 ++ (N1 ++ ((vb, planO (.slice Ak p.keys.length ck) (.slice As p.sizes.length cs) (.slice Ae p.keeps.length ce) (.slice Ag p.groups.length cg) (.slice At p.tags.length ct)) :: R)) = R2 at hW2 hshape
    have HP := Lib.hid (And.intro hwide hshape)
    have HR := Lib.hid (And.intro hR2 hB)
    have HG := Lib.hid (And.intro hgood hmany)
    clear hwide hrep hR2 hB hshape hgood hmany
    go_cut [7] (fun v wx => ∃ (sb : Nat) (A1 : Option Addr) (c1 : Nat) (A2 : Option Addr) (c2 : Nat) (A3 : Option Addr) (c3 : Nat) (N3 : HL), v = .pointer (some ⟨sb, 0, none⟩) ∧ ShRep N3 (shCells s A1 c1 A2 c2 A3 c3) s ∧
      Has wx ((sb, shO s.leaf s.tagged (.slice A1 s.pairs.length c1) (.slice A2 s.keys.length c2) (.slice A3 s.kids.length c3)) :: (N3 ++ R2)) ∧ Ext w wx)
    case first =>
      have hA0 : Has (w2.alloc (shO false false nil0 nil0 nil0)).drew ((w2.heap.size, shO false false nil0 nil0 nil0) :: R2) := (hW2.alloc (shO false false nil0 nil0 nil0)).drew
      have HA0 := Lib.hid (And.intro hW2.drew (And.intro hA0 hE2))
      obtain ⟨r0, r1, r2, r3, r4⟩ := KB.out _ _ vb (hW2.alloc (shO false false nil0 nil0 nil0)) (by have h := HR.out.1; rw [← h]; simp)
      clear hA0 hW2 hE2
      go_region_with (first
        | (go_at_call 10; refine (HP.out.1 _).mono ?_; rintro ed w3 ⟨rfl, rfl⟩)
        | (go_at_call 9; refine (HP.out.2 _ _ HA0.out.1 (fun q hq => hq)).mono ?_; rintro ed w3 ⟨A1, c1, A2, c2, A3, c3, N3, rfl, hs3, hW3, hE3⟩)
        | (go_at_call 9; refine (HP.out.2 _ _ HA0.out.2.1 (fun q hq => List.mem_cons_of_mem _ hq)).mono ?_; rintro ed w3 ⟨A1, c1, A2, c2, A3, c3, N3, rfl, hs3, hW3, hE3⟩; obtain ⟨z0, z1, z2, z3, z4⟩ := hW3.five (b := w2.heap.size) (l := false) (t := false) (p := nil0) (k := nil0) (c := nil0) (by simp); have zf := hW3.free (b := w2.heap.size) (c := #[.bool false, .bool false, nil0, nil0, nil0]) (t := 31) (by simp)))
      all_goals go_wp2_with fail
      all_goals go_meet
      all_goals first
        | exact ⟨w3.heap.size, A1, c1, A2, c2, A3, c3, N3, rfl, hs3, hW3.alloc (shO s.leaf s.tagged (.slice A1 s.pairs.length c1) (.slice A2 s.keys.length c2) (.slice A3 s.kids.length c3)), (HA0.out.2.2.drew.trans hE3).alloc _⟩
        | (refine ⟨w2.heap.size, A1, c1, A2, c2, A3, c3, N3, rfl, hs3, ?_, ?_⟩
           · have h5 := (hW3.perm (L' := (w2.heap.size, shO false false nil0 nil0 nil0) :: (N3 ++ R2)) (perm_of_count fun x => by simp only [List.count_append, List.count_cons, List.count_nil, arenaObj, slotObj, nodeObj, worldObj]; omega)).set5 s.leaf s.tagged (.slice A1 s.pairs.length c1) (.slice A2 s.keys.length c2) (.slice A3 s.kids.length c3)
             unfold Go.Proofs.Ytjkfigkgeoacfaa.set5 at h5
             exact h5
           · have h5 := ((HA0.out.2.2.alloc (shO false false nil0 nil0 nil0)).drew.trans hE3).set5 w2.heap.size s.leaf s.tagged (.slice A1 s.pairs.length c1) (.slice A2 s.keys.length c2) (.slice A3 s.kids.length c3)
             unfold Go.Proofs.Ytjkfigkgeoacfaa.set5 at h5
             exact h5)
    case rest =>
      obtain ⟨sb, A1, c1, A2, c2, A3, c3, N3, rfl, hs3, hW3, hE3⟩ := hcut
      clear hW2 hE2 q0 q1 q2 q3 q4
      have hg6 := HG.out.2
      obtain ⟨q0, q1, q2, q3, q4⟩ := hW3.five (b := sb) (List.mem_cons_self ..)
      have hworld := world11_any (a := 2) (b := B) (threads := 1) (room := 0) (records := 1) (s := s) (by omega) (by omega) (by omega) (by omega) (by omega) (by omega) (by omega) (by omega) (by omega) (by omega) (HG.out.1.small (by omega)) (hs3.mono (R' := (sb, shO s.leaf s.tagged (.slice A1 s.pairs.length c1) (.slice A2 s.keys.length c2) (.slice A3 s.kids.length c3)) :: (N3 ++ R2)) (fun q hq => by simp [hq])) hW3.drew
      have HW4 := Lib.hid (And.intro hworld hE3)
      clear hworld hE3
      go_upto_region 6 with fail
      go_cut [8] (fun v wx => ∃ (wp : Nat) (L4 N4 : HL), v = .pointer (some ⟨wp, 0, none⟩) ∧ WorldRep (N4 ++ ((sb, shO s.leaf s.tagged (.slice A1 s.pairs.length c1) (.slice A2 s.keys.length c2) (.slice A3 s.kids.length c3)) :: (N3 ++ R2))) wp (plantedWorld 2 B 1 s 0 1) L4 ∧
        Has wx (L4 ++ (N4 ++ ((sb, shO s.leaf s.tagged (.slice A1 s.pairs.length c1) (.slice A2 s.keys.length c2) (.slice A3 s.kids.length c3)) :: (N3 ++ R2)))) ∧ Ext w wx)
      case first =>
        go_region_with (first
          | (go_at_call 10; refine (HP.out.1 _).mono ?_; rintro ed w3 ⟨rfl, rfl⟩)
          | (go_at_call 11; refine HW4.out.1.mono ?_; rintro ed w4 ⟨wp, L4, N4, rfl, hWR4, hW4, hE4⟩))
        all_goals go_wp2_with fail
        all_goals go_meet
        all_goals exact ⟨wp, L4, N4, rfl, hWR4, hW4, HW4.out.2.drew.trans hE4⟩
      case rest =>
        obtain ⟨wp, L4, N4, rfl, hWR, hW4, hE4⟩ := hcut
        clear hW3 HW4 q0 q1 q2 q3 q4 HL1 KB
        have hsm := HG.out.1.small (show B ≤ 1000 by omega)
        obtain ⟨r0, sl, ss0, ts0, hsl, hslu, hslc, hslw, hpath, htrace, htlen, hpl, hinT⟩ := planted_path (a := 2) (b := B) (threads := 1) (records := 1) hsm (show s.many ≤ 60000 by omega) HG.out.1 key
        have hok := planted_ok (a := 2) (b := B) (threads := 1) (records := 1) hsm (show s.many ≤ 60000 by omega)
        have hflt := planted_faults (a := 2) (b := B) (threads := 1) (records := 1) hsm (show s.many ≤ 60000 by omega)
        have hent : (plantedWorld 2 B 1 s 0 1).entry = refOf 1 1 := rfl
        generalize hSW : plantedWorld 2 B 1 s 0 1 = SW at hWR hsl hpath htrace hok hflt hent
        obtain ⟨ab, tb, eb, La, Lt, Le, rfl, hA, hT, hEp⟩ := id hWR
        rw [hent] at hW4
        have c0 : wc.cell? ⟨wp, 0, none⟩ = some (.pointer (some ⟨ab, 0, none⟩)) := (hW4.cell (b := wp) (c := #[.pointer (some ⟨ab, 0, none⟩), .pointer (some ⟨tb, 0, none⟩), .pointer (some ⟨eb, 0, none⟩), .int .i64 SW.a, .int .i64 SW.b, .int .i64 (refOf 1 1)]) (t := 41) (fr := (0, 0)) (by simp) 0).trans rfl
        have c5 : wc.cell? ⟨wp, 5, none⟩ = some (.int .i64 (refOf 1 1)) := (hW4.cell (b := wp) (c := #[.pointer (some ⟨ab, 0, none⟩), .pointer (some ⟨tb, 0, none⟩), .pointer (some ⟨eb, 0, none⟩), .int .i64 SW.a, .int .i64 SW.b, .int .i64 (refOf 1 1)]) (t := 41) (fr := (0, 0)) (by simp) 5).trans rfl
        have hA' := hA.drop1 (X := N4) (Y := N3 ++ R2)
        obtain ⟨Y, hY⟩ : ∃ Y, (wp, wldO ab tb eb SW.a SW.b (refOf 1 1)) :: (Lt ++ (Le ++ (N4 ++ (N3 ++ R2)))) = Y := ⟨_, rfl⟩
        have hpY : (wp, wldO ab tb eb SW.a SW.b (refOf 1 1)) ∈ Y := by rw [← hY]; simp
        have hsY : ∀ q, q ∈ N4 ++ (N3 ++ R2) → q ∈ Y := by intro q hq; rw [← hY]; simp only [List.mem_append, List.mem_cons] at hq ⊢; grind
        have hW5 : Has wc ((sb, shO s.leaf s.tagged (.slice A1 s.pairs.length c1) (.slice A2 s.keys.length c2) (.slice A3 s.kids.length c3)) :: (La ++ Y)) := by
          rw [← hY]
          have hW4' : Has wc (((wp, wldO ab tb eb SW.a SW.b (refOf 1 1)) :: (La ++ (Lt ++ Le))) ++ (N4 ++ ((sb, shO s.leaf s.tagged (.slice A1 s.pairs.length c1) (.slice A2 s.keys.length c2) (.slice A3 s.kids.length c3)) :: (N3 ++ R2)))) := hW4
          exact hW4'.perm (perm_of_count fun x => by simp only [List.count_append, List.count_cons, List.count_nil, arenaObj, slotObj, nodeObj, worldObj]; omega)
        have hs3' := hs3.mono (R' := N4 ++ (N3 ++ R2)) (fun q hq => by simp [hq])
        have hway : ∀ (w' : World) (Z : HL), Has w' (La ++ Z) → Calls Try.prog 12 #[.pointer (some ⟨ab, 0, none⟩), .int .i64 (refOf 1 1), .int .i64 0] w' fun e w'' => e = .returned (.int .i64 r0) ∧ w'' = w' := fun w' Z h => (way_at hA' hok h hsl hslu (k := 0) hslw (r := refOf 1 1) (kk := 0) (by rw [hslc]; rfl) rfl).mono fun _ _ h => ⟨h.1, h.2.symm⟩
        have HT := Lib.hid (And.intro hA' (And.intro hok (And.intro hpath (And.intro htrace (And.intro htlen (And.intro hpl hflt))))))
        have HX := Lib.hid (And.intro hY (And.intro hpY (And.intro hsY (And.intro hway hSW))))
        clear hA' hok hpath htrace htlen hpl hflt hY hpY hsY hway hSW hWR hA hT hEp hW4 hsl hslu hslc hslw hent hs3 hinT
        have hW6 := hW5.alloc (Obj.cells #[.int .i64 (refOf 1 1), .int .i64 0, .int .i64 0] 2)
        have hE6 := hE4.alloc (Obj.cells #[.int .i64 (refOf 1 1), .int .i64 0, .int .i64 0] 2)
        go_upto_region 8 with fail
        clear c0 c5 hW5 hE4
        generalize World.alloc wc _ = w6 at hW6 hE6 ⊢
        generalize wc.heap.size = b9 at hW6 ⊢
        have hY0 := HX.out.2.1
        have c0 : w6.cell? ⟨wp, 0, none⟩ = some (.pointer (some ⟨ab, 0, none⟩)) := (hW6.cell (b := wp) (c := #[.pointer (some ⟨ab, 0, none⟩), .pointer (some ⟨tb, 0, none⟩), .pointer (some ⟨eb, 0, none⟩), .int .i64 SW.a, .int .i64 SW.b, .int .i64 (refOf 1 1)]) (t := 41) (fr := (0, 0)) (by simp [hY0]) 0).trans rfl
        have c5 : w6.cell? ⟨wp, 5, none⟩ = some (.int .i64 (refOf 1 1)) := (hW6.cell (b := wp) (c := #[.pointer (some ⟨ab, 0, none⟩), .pointer (some ⟨tb, 0, none⟩), .pointer (some ⟨eb, 0, none⟩), .int .i64 SW.a, .int .i64 SW.b, .int .i64 (refOf 1 1)]) (t := 41) (fr := (0, 0)) (by simp [hY0]) 5).trans rfl
        have hq8 : ∀ n, Calls Try.prog 12 #[.pointer (some ⟨ab, 0, none⟩), .int .i64 (refOf 1 1), .int .i64 0] (w6.drewN n) fun e w'' => e = .returned (.int .i64 r0) ∧ w'' = w6.drewN n := fun n => HX.out.2.2.2.1 _ ((b9, Obj.cells #[.int .i64 (refOf 1 1), .int .i64 0, .int .i64 0] 2) :: ((sb, shO s.leaf s.tagged (.slice A1 s.pairs.length c1) (.slice A2 s.keys.length c2) (.slice A3 s.kids.length c3)) :: Y)) ((hW6.drewN n).perm (perm_of_count fun x => by simp only [List.count_append, List.count_cons, List.count_nil, arenaObj, slotObj, nodeObj, worldObj]; omega))
        have HQ8 := Lib.hid (And.intro hq8 (And.intro hW6 hE6))
        clear hq8 hY0 hW6 hE6
        go_quiet ((go_at_call 12; exact Calls.quiet_of_same (HQ8.out.1 _)))
        go_wp2
        clear c0 c5
        have hW7 := HQ8.out.2.1.drewN nq
        have hE7 := HQ8.out.2.2.drewN nq
        generalize w6.drewN nq = w7 at hW7 hE7 ⊢
        have hr9 : Row 2 1 (.slice (some ⟨b9, 0, none⟩) 3 3) 3 (ints [refOf 1 1, 0, 0]) [(b9, Obj.cells #[.int .i64 (refOf 1 1), .int .i64 0, .int .i64 0] 2)] := ⟨rfl, .inr ⟨b9, 0, 3, _, rfl, rfl, Nat.le_refl _, fits_of (by omega), rfl, rfl⟩⟩
        go_loopw [9, 10, 11] (fun ov rv nv wr => ∃ sc out ts wl r Aw cw Lw C1 d1 C2 d2 C3 d3 N5, ZSt SW.arena key B (N4 ++ (N3 ++ R2)) ([refOf 1 1, 0, 0] ++ tells ss0) (1 + ts0.length) sb (La ++ Y) w ov rv nv wr sc out ts wl r Aw cw Lw C1 d1 C2 d2 C3 d3 N5) (fun _ _ nv _ => 9000 - (intOf nv).toNat)
        case atStart =>
          exact ⟨s, tells ss0, ts0, [refOf 1 1, 0, 0], r0, some ⟨b9, 0, none⟩, 3, [(b9, Obj.cells #[.int .i64 (refOf 1 1), .int .i64 0, .int .i64 0] 2)], A1, c1, A2, c2, A3, c3, [], ⟨rfl, rfl, ⟨1, rfl, rfl, by have := HT.out.2.2.2.2.1; have := HG.out.2; omega⟩, HT.out.2.2.2.1, rfl, hr9, ⟨hh, none, none, HG.out.1⟩, hs3', hW7, hE7⟩⟩
        case round =>
          obtain ⟨sc, out, ts, wl, r, Aw, cw, Lw, C1, d1, C2, d2, C3, d3, N5, hZ⟩ := hrel
          have e1 := hZ.ho
          have e2 := hZ.hr
          obtain ⟨n, e3, hnt, htot⟩ := hZ.hn
          subst e1 e2 e3
          obtain ⟨q0, q1, q2, q3, q4⟩ := hZ.hw.five (b := sb) (l := sc.leaf) (t := sc.tagged) (p := .slice C1 sc.pairs.length d1) (k := .slice C2 sc.keys.length d2) (c := .slice C3 sc.kids.length d3) (by simp)
          by_cases hl : sc.leaf = true
          · obtain ⟨hout, hts⟩ := hZ.tr.inv_leaf hl
            obtain ⟨gh, glo, ghi, hgood⟩ := hZ.good
            obtain ⟨g1, _, _⟩ := hgood.leafN
            obtain ⟨full, hfull⟩ : ∃ full, [refOf 1 1, 0, 0] ++ tells ss0 = full := ⟨_, rfl⟩
            have hwo := hZ.wl_out
            rw [hout, hfull] at hwo
            have hfl : full.length = 3 + 3 * ss0.length := by
              rw [← hfull, List.length_append, tells_len]; rfl
            have hsl2 := HT.out.2.2.1.len
            simp only [List.length_cons] at hsl2
            have hwlM : wl.length + 3 = full.length := by
              have h := congrArg List.length hwo
              rw [List.length_append] at h
              exact h
            have hnn : n = max (r0 :: ts0).length 1 := by
              rw [hts] at hnt
              simp only [List.length_nil, List.length_cons] at hnt ⊢
              omega
            have hfb : full.length ≤ 100000 := by
              have := HT.out.2.2.2.2.1
              have := HG.out.2
              omega
            have hn8 : n ≤ 8001 := by omega
            have hnl : n ≤ 19999 := by omega
            have hwl1 : wl.length ≤ 100000 := by omega
            rw [hl] at q0
            have HN := Lib.hid (And.intro hwo (And.intro hfull (And.intro hwlM (And.intro hnn (And.intro hfb hl)))))
            clear hwo hfl hsl2 hwlM hnn hnt htot hout hts hgood hl
            have hWa := (hZ.hw.alloc (Obj.cells #[.int .i64 r, .int .i64 0, .int .i64 (-1 - (sc.pairs.length : Int))] 2 (0, 0))).perm (L' := Lw ++ ((wr.heap.size, Obj.cells #[.int .i64 r, .int .i64 0, .int .i64 (-1 - (sc.pairs.length : Int))] 2 (0, 0)) :: ((sb, shO sc.leaf sc.tagged (.slice C1 sc.pairs.length d1) (.slice C2 sc.keys.length d2) (.slice C3 sc.kids.length d3)) :: (N5 ++ (La ++ Y))))) (perm_of_count fun x => by simp only [List.count_append, List.count_cons, List.count_nil, arenaObj, slotObj, nodeObj, worldObj]; omega)
            have hsa : Src (wr.alloc (Obj.cells #[.int .i64 r, .int .i64 0, .int .i64 (-1 - (sc.pairs.length : Int))] 2 (0, 0))) (.slice (some ⟨wr.heap.size, 0, none⟩) 3 3) 1 3 [.int .i64 r, .int .i64 0, .int .i64 (-1 - (sc.pairs.length : Int))] := Src.of_block (hWa.get wr.heap.size (Obj.cells #[.int .i64 r, .int .i64 0, .int .i64 (-1 - (sc.pairs.length : Int))] 2 (0, 0)) (by simp)) rfl (by intro u hu; simp only [List.mem_cons, List.not_mem_nil, or_false] at hu; rcases hu with rfl | rfl | rfl <;> rfl)
            have Ha := Lib.hid (And.intro hWa (And.intro hsa (hZ.he.alloc (Obj.cells #[.int .i64 r, .int .i64 0, .int .i64 (-1 - (sc.pairs.length : Int))] 2 (0, 0)))))
            have Hro := Lib.hid hZ.ro
            clear hWa hsa
            go_upto_region 17 with (at_builtin; refine wpList_append_row rfl (.tmp 72) (.tmp 78) 22 rfl el_int Hro.out Ha.out.1 (m := 3) (news := [.int .i64 r, .int .i64 0, .int .i64 (-1 - (sc.pairs.length : Int))]) rfl Ha.out.2.1 (by simp [maxLen]; omega) (by omega) ?_; intro v9 w9 L9 r9 h9 e9; obtain ⟨A9, c9, rfl⟩ := r9.shape)
            rw [HN.out.2.2.1] at r9 ⊢
            generalize wr.heap.size = b8 at h9 ⊢
            have hr9 : Row 2 1 (.slice A9 full.length c9) full.length (ints full) L9 := by
              have h := r9
              rw [← HN.out.1]
              rw [← HN.out.1] at h
              simpa [ints] using h
            have hE9 := Ha.out.2.2.trans e9
            clear Ha e9 q0 q1 q2 q3 q4 r9 Hro
            have hwalk := walker_any (p := wp) (key := key) h9
            obtain ⟨Y2, hY2⟩ : ∃ Y2, L9 ++ ((b8, Obj.cells #[.int .i64 r, .int .i64 0, .int .i64 (-1 - (sc.pairs.length : Int))] 2 (0, 0)) :: ((sb, shO sc.leaf sc.tagged (.slice C1 sc.pairs.length d1) (.slice C2 sc.keys.length d2) (.slice C3 sc.kids.length d3)) :: (N5 ++ Y))) = Y2 := ⟨_, rfl⟩
            have hpY2 : (wp, wldO ab tb eb SW.a SW.b (refOf 1 1)) ∈ Y2 := by rw [← hY2]; have := HX.out.2.1; simp [this]
            have hsY2 : ∀ q, q ∈ N4 ++ (N3 ++ R2) → q ∈ Y2 := fun q hq => by rw [← hY2]; have := HX.out.2.2.1 q hq; simp [this]
            have hflt : ∀ (w' : World) (Z : HL), Has w' (La ++ Z) → Calls Try.prog 16 #[.pointer (some ⟨ab, 0, none⟩)] w' fun e w'' => e = .returned (.int .i64 0) ∧ w' = w'' := fun w' Z h => (faults_any HT.out.1 h).mono fun _ _ h => ⟨by rw [h.1, HT.out.2.2.2.2.2.2], h.2⟩
            have hal : ∀ (w2 : World) (tb2 vb2 mb2 wb2 kb2 : Nat), Has w2 ((tb2, thO (.func (.func 52) #[] #[.pointer (some ⟨wb2, 0, none⟩), .pointer (some ⟨vb2, 0, none⟩), .pointer (some ⟨mb2, 0, none⟩)]) nil0 0 false false false nil0) :: ((wb2, Obj.cells #[.func (.func 43) #[] #[.pointer (some ⟨kb2, 0, none⟩)]] 76 (0, 0)) :: (mb2, Obj.cells #[.int .i64 0] 3 (0, 0)) :: (vb2, Obj.cells #[.pointer (some ⟨wp, 0, none⟩)] 34 (0, 0)) :: (kb2, Obj.cells #[.int .i64 key] 2 (0, 0)) :: (L9 ++ ((b8, Obj.cells #[.int .i64 r, .int .i64 0, .int .i64 (-1 - (sc.pairs.length : Int))] 2 (0, 0)) :: ((sb, shO sc.leaf sc.tagged (.slice C1 sc.pairs.length d1) (.slice C2 sc.keys.length d2) (.slice C3 sc.kids.length d3)) :: (N5 ++ (La ++ Y))))))) →
                Calls Try.prog 14 #[.pointer (some ⟨tb2, 0, none⟩)] w2 fun e w' => ∃ A c Lo N', e = .returned (.tuple #[.slice A full.length c, .int .i64 n, .bool true]) ∧ Row 2 1 (.slice A full.length c) full.length (ints full) Lo ∧ Has w' (Lo ++ (N' ++ (La ++ Y2))) ∧ Ext w2 w' := by
              intro w2 tb2 vb2 mb2 wb2 kb2 h
              have htf : tells ((refOf 1 1, entryNode (refOf 0 1), 0) :: ss0) = full := by
                rw [← HN.out.2.1, tells_cons]
                simp [tellS, entryNode]
              have h2 := alone_walkA HT.out.1 HT.out.2.1 (Y := Y2) hsY2 hpY2 HT.out.2.2.1 (by have := HN.out.2.2.2.1; omega) (by
                intro st hst
                rcases List.mem_cons.1 hst with rfl | hst
                · simp [entryNode]
                · exact HT.out.2.2.2.2.2.1 st hst) (tb := tb2) (vb := vb2) (mb := mb2) (wb := wb2) (kb := kb2) (w := w2) (h.perm (by rw [← hY2]; exact (perm_of_count fun x => by simp only [List.count_append, List.count_cons, List.count_nil, arenaObj, slotObj, nodeObj, worldObj]; omega)))
              rw [htf, ← HN.out.2.2.2.1] at h2
              exact h2
            have HA := Lib.hid (And.intro hwalk (And.intro hal (And.intro hflt (And.intro hE9 (And.intro hr9 hY2)))))
            have Hp2 := Lib.hid hpY2
            clear hwalk hal hflt hE9 hr9 hY2 hpY2 hsY2 h9
            go_upto_region 18 with first
              | (go_at_call 15; refine HA.out.1.mono ?_; rintro ed w10 ⟨tb2, vb2, mb2, wb2, kb2, rfl, hW10, hE10⟩)
              | (go_at_call 14; refine (HA.out.2.1 _ _ _ _ _ _ hW10).mono ?_; rintro ed w11 ⟨A11, c11, L11, N11, rfl, hr11, hW11, hE11⟩)
            clear hW10
            have c0 : w11.cell? ⟨wp, 0, none⟩ = some (.pointer (some ⟨ab, 0, none⟩)) := (hW11.cell (b := wp) (c := #[.pointer (some ⟨ab, 0, none⟩), .pointer (some ⟨tb, 0, none⟩), .pointer (some ⟨eb, 0, none⟩), .int .i64 SW.a, .int .i64 SW.b, .int .i64 (refOf 1 1)]) (t := 41) (fr := (0, 0)) (by have := Hp2.out; simp [this]) 0).trans rfl
            have hfl := HA.out.2.2.1 w11 (L11 ++ (N11 ++ Y2)) (hW11.perm (perm_of_count fun x => by simp only [List.count_append, List.count_cons, List.count_nil, arenaObj, slotObj, nodeObj, worldObj]; omega))
            have HFL := Lib.hid hfl
            clear hfl
            have hne1 : ((n : Int) != n) = false := by simp
            have hne2 : ((full.length : Int) != full.length) = false := by simp
            go_upto_region 20 with (go_at_call 16; refine HFL.out.mono ?_; rintro ed w12 ⟨rfl, rfl⟩)
            clear c0 HFL
            have hfpos : 0 < full.length := by have := HN.out.2.2.1; omega
            obtain ⟨ga, oa, ca', hea, _, _, hka⟩ := (hr11.rd []).known hfpos
            cases hea
            obtain ⟨gb, ob, cb', heb, _, _, hkb⟩ := (HA.out.2.2.2.2.1.rd []).known hfpos
            cases heb
            have hcell : ∀ j (hj : j < full.length), w11.cell? ⟨ga, oa + j, none⟩ = some (.int .i64 full[j]) ∧ w11.cell? ⟨gb, ob + j, none⟩ = some (.int .i64 full[j]) := fun j hj =>
              ⟨hka w11 _ (hW11.knows (fun q hq => hq)) (fun q hq => by simp only [List.append_nil] at hq; simp [hq]) j _ (by simp [ints, hj]), hkb w11 _ (hW11.knows (fun q hq => hq)) (fun q hq => by simp only [List.append_nil] at hq; rw [← HA.out.2.2.2.2.2]; simp [hq]) j _ (by simp [ints, hj])⟩
            have HC := Lib.hid (And.intro hcell (And.intro hW11 (((HA.out.2.2.2.1.trans hE10).trans hE11))))
            clear hcell hW11 hE10 hE11 hka hkb hr11
            go_wp2
            go_loopw [112] (fun iv wr => ∃ (i nq : Nat), iv = .int .i64 i ∧ i ≤ full.length ∧ wr = w11.drewN nq) (fun iv _ => full.length - (intOf iv).toNat)
            case atStart => exact ⟨0, 0, rfl, Nat.zero_le _, rfl⟩
            case round =>
              obtain ⟨i, nq0, rfl, hil, rfl⟩ := hrel
              by_cases hif : i < full.length
              · have hd : decide ((i : Int) < full.length) = true := decide_eq_true (by omega)
                obtain ⟨k1, k2⟩ := HC.out.1 i hif
                generalize full[i] = z at k1 k2
                have hz : (z != z) = false := by simp
                have hif2 : (i : Int) < full.length := by omega
                go_wp2_with fail
                go_quiet (fail)
                go_wp2
                go_roundw
                case rel => exact ⟨i + 1, _, by go_num, hif, rfl⟩
                case measure => simp [intOf]; omega
              · have hd : decide ((i : Int) < full.length) = false := decide_eq_false (by omega)
                go_wp2
                go_ret
                refine ⟨rfl, ⟨L11 ++ (N11 ++ (La ++ (L9 ++ ((b8, Obj.cells #[.int .i64 r, .int .i64 0, .int .i64 (-1 - (sc.pairs.length : Int))] 2 (0, 0)) :: ((sb, shO sc.leaf sc.tagged (.slice C1 sc.pairs.length d1) (.slice C2 sc.keys.length d2) (.slice C3 sc.kids.length d3)) :: (N5 ++ ((wp, wldO ab tb eb SW.a SW.b (refOf 1 1)) :: (Lt ++ (Le ++ (N4 ++ (N3 ++ (N2 ++ (N1 ++ [(vb, planO (.slice Ak p.keys.length ck) (.slice As p.sizes.length cs) (.slice Ae p.keeps.length ce) (.slice Ag p.groups.length cg) (.slice At p.tags.length ct))]))))))))))))), ?_⟩, HC.out.2.2.drewN _⟩
                have h := HC.out.2.1.drewN nq0
                rw [← HA.out.2.2.2.2.2, ← HX.out.1, ← HR.out.1] at h
                exact h.perm (perm_of_count fun x => by simp only [List.count_append, List.count_cons, List.count_nil, arenaObj, slotObj, nodeObj, worldObj]; omega)
          · have hl : sc.leaf = false := by simpa using hl
            obtain ⟨k, i, sl, r', out', ts', hkl, hkid, hsl, hslu, hslw, hre, hout, hts, htr'⟩ := hZ.tr.inv_node hl
            obtain ⟨gh, glo, ghi, hgood⟩ := hZ.good
            obtain ⟨g1, g2, g3⟩ := hgood.leafN
            have hgk := hgood.kid hkid
            have hwk : Calls Try.prog 13 #[.agg #[.bool false, .bool sc.tagged, .slice C1 sc.pairs.length d1, .slice C2 sc.keys.length d2, .slice C3 sc.kids.length d3], .int .i64 key] wr fun e w' => e = .returned (.int .i64 (wayN sc.keys key : Nat)) ∧ (∃ N, Has w' (N ++ (Lw ++ ((sb, shO sc.leaf sc.tagged (.slice C1 sc.pairs.length d1) (.slice C2 sc.keys.length d2) (.slice C3 sc.kids.length d3)) :: (N5 ++ (La ++ Y)))))) ∧ Ext wr w' := by
              have h := shWay_any (hZ.rep.mono (R' := Lw ++ ((sb, shO sc.leaf sc.tagged (.slice C1 sc.pairs.length d1) (.slice C2 sc.keys.length d2) (.slice C3 sc.kids.length d3)) :: (N5 ++ (La ++ Y)))) (fun q hq => by have := HX.out.2.2.1 q hq; simp [this])) (by omega) key hZ.hw
              simp only [shCells] at h
              rw [show (Value.bool sc.leaf) = .bool false by rw [hl]] at h
              exact h
            have hwl : wayN sc.keys key < sc.kids.length := (List.getElem?_eq_some_iff.1 hkid).1
            have hwv : ∀ (w' : World) (Z : HL), Has w' (La ++ Z) → Calls Try.prog 12 #[.pointer (some ⟨ab, 0, none⟩), .int .i64 r, .int .i64 (wayN sc.keys key : Nat)] w' fun e w'' => e = .returned (.int .i64 r') ∧ w'' = w' := fun w' Z h => (way_at HT.out.1 HT.out.2.1 h hsl hslu hslw hre rfl).mono fun _ _ h => ⟨h.1, h.2.symm⟩
            have hwln : wl.length ≤ 100000 := by
              have h := congrArg List.length hZ.wl_out
              rw [List.length_append, List.length_append, tells_len] at h
              have h2 := HT.out.2.2.1.len
              simp only [List.length_cons, List.length_nil] at h h2
              have := HT.out.2.2.2.2.1
              have := HG.out.2
              omega
            rw [hl] at q0
            generalize hwy : wayN sc.keys key = wy at hwk hkid hslw hwv hwl hout
            have HN := Lib.hid (And.intro hwk (And.intro hwv (And.intro hkid (And.intro hre (And.intro hout (And.intro hts (And.intro htr' (And.intro hgk (And.intro hnt hl)))))))))
            clear hwk hwv hkid hre hout hts htr' hgk hgood hkl hsl hslu hslw hnt hl hwy
            have hn8 : n ≤ 8001 := by have := HN.out; omega
            go_upto_region 12 with (go_at_call 13; refine HN.out.1.mono ?_; rintro ed w8 ⟨rfl, ⟨N8, hW8⟩, hE8⟩)
            clear q0 q1 q2 q3 q4
            obtain ⟨q0, q1, q2, q3, q4⟩ := hW8.five (b := sb) (l := sc.leaf) (t := sc.tagged) (p := .slice C1 sc.pairs.length d1) (k := .slice C2 sc.keys.length d2) (c := .slice C3 sc.kids.length d3) (by simp)
            have hWa := (hW8.alloc (Obj.cells #[.int .i64 r, .int .i64 wy, .int .i64 sc.keys.length] 2 (0, 0))).perm (L' := Lw ++ ((w8.heap.size, Obj.cells #[.int .i64 r, .int .i64 wy, .int .i64 sc.keys.length] 2 (0, 0)) :: ((sb, shO sc.leaf sc.tagged (.slice C1 sc.pairs.length d1) (.slice C2 sc.keys.length d2) (.slice C3 sc.kids.length d3)) :: (N8 ++ (N5 ++ (La ++ Y)))))) (perm_of_count fun x => by simp only [List.count_append, List.count_cons, List.count_nil, arenaObj, slotObj, nodeObj, worldObj]; omega)
            have hsa : Src (w8.alloc (Obj.cells #[.int .i64 r, .int .i64 wy, .int .i64 sc.keys.length] 2 (0, 0))) (.slice (some ⟨w8.heap.size, 0, none⟩) 3 3) 1 3 [.int .i64 r, .int .i64 wy, .int .i64 sc.keys.length] := Src.of_block (hWa.get w8.heap.size (Obj.cells #[.int .i64 r, .int .i64 wy, .int .i64 sc.keys.length] 2 (0, 0)) (by simp)) rfl (by intro u hu; simp only [List.mem_cons, List.not_mem_nil, or_false] at hu; rcases hu with rfl | rfl | rfl <;> rfl)
            have Ha := Lib.hid (And.intro hWa (And.intro hsa ((hZ.he.trans hE8).alloc (Obj.cells #[.int .i64 r, .int .i64 wy, .int .i64 sc.keys.length] 2 (0, 0)))))
            have Hro := Lib.hid hZ.ro
            clear hWa hsa hW8 hE8
            go_upto_region 13 with (at_builtin; refine wpList_append_row rfl (.tmp 50) (.tmp 56) 22 rfl el_int Hro.out Ha.out.1 (m := 3) (news := [.int .i64 r, .int .i64 wy, .int .i64 sc.keys.length]) rfl Ha.out.2.1 (by simp [maxLen]; omega) (by omega) ?_; intro v9 w9 L9 r9 h9 e9; obtain ⟨A9, c9, rfl⟩ := r9.shape)
            generalize w8.heap.size = b8 at h9 ⊢
            have hE9 := Ha.out.2.2.trans e9
            clear Ha e9 q0 q1 q2 q3 q4
            have hY0 := HX.out.2.1
            have c0 : w9.cell? ⟨wp, 0, none⟩ = some (.pointer (some ⟨ab, 0, none⟩)) := (h9.cell (b := wp) (c := #[.pointer (some ⟨ab, 0, none⟩), .pointer (some ⟨tb, 0, none⟩), .pointer (some ⟨eb, 0, none⟩), .int .i64 SW.a, .int .i64 SW.b, .int .i64 (refOf 1 1)]) (t := 41) (fr := (0, 0)) (by simp [hY0]) 0).trans rfl
            have hwv9 := HN.out.2.1 w9 (L9 ++ ((b8, Obj.cells #[.int .i64 r, .int .i64 wy, .int .i64 sc.keys.length] 2 (0, 0)) :: ((sb, shO sc.leaf sc.tagged (.slice C1 sc.pairs.length d1) (.slice C2 sc.keys.length d2) (.slice C3 sc.kids.length d3)) :: (N8 ++ (N5 ++ Y))))) (h9.perm (perm_of_count fun x => by simp only [List.count_append, List.count_cons, List.count_nil, arenaObj, slotObj, nodeObj, worldObj]; omega))
            have HV := Lib.hid (And.intro hwv9 (And.intro h9 (And.intro hE9 r9)))
            clear hY0 hwv9 h9 hE9 r9
            go_upto_region 14 with (go_at_call 12; refine HV.out.1.mono ?_; rintro ed w10 ⟨rfl, rfl⟩)
            obtain ⟨css, hcc, hrows⟩ := hZ.rep.rds.2.2
            have hpk : 0 < sc.kids.length := by omega
            obtain ⟨g, off, d3', he, _, _, hkc⟩ := hcc.known hpk
            cases he
            obtain ⟨k', K1, x1, K2, x2, K3, x3, hk1, hr1, hc1, ha⟩ := kid_known hrows hkc (i := wy) hwl
            have hkk : k' = k := by have h := HN.out.2.2.1; rw [hk1] at h; exact Option.some.inj h
            subst hkk
            have hW9 := HV.out.2.1
            have hsubR : ∀ q, q ∈ N4 ++ (N3 ++ R2) → q ∈ L9 ++ ((b8, Obj.cells #[.int .i64 r, .int .i64 wy, .int .i64 sc.keys.length] 2 (0, 0)) :: ((sb, shO sc.leaf sc.tagged (.slice C1 sc.pairs.length d1) (.slice C2 sc.keys.length d2) (.slice (some ⟨g, off, none⟩) sc.kids.length d3)) :: (N8 ++ (N5 ++ (La ++ Y))))) := fun q hq => by have := HX.out.2.2.1 q hq; simp [this]
            obtain ⟨a0, a1, a2, a3, a4⟩ := ha _ hsubR
            have hKn := hW9.knows (fun q hq => hq)
            have a0 := a0 _ hKn
            have a1 := a1 _ hKn
            have a2 := a2 _ hKn
            have a3 := a3 _ hKn
            have a4 := a4 _ hKn
            obtain ⟨q0, q1, q2, q3, q4⟩ := hW9.five (b := sb) (l := sc.leaf) (t := sc.tagged) (p := .slice C1 sc.pairs.length d1) (k := .slice C2 sc.keys.length d2) (c := .slice (some ⟨g, off, none⟩) sc.kids.length d3) (by simp)
            have zf := hW9.free (b := sb) (c := #[.bool sc.leaf, .bool sc.tagged, .slice C1 sc.pairs.length d1, .slice C2 sc.keys.length d2, .slice (some ⟨g, off, none⟩) sc.kids.length d3]) (t := 31) (by simp)
            have hW10 := (hW9.perm (L' := (sb, shO sc.leaf sc.tagged (.slice C1 sc.pairs.length d1) (.slice C2 sc.keys.length d2) (.slice (some ⟨g, off, none⟩) sc.kids.length d3)) :: (L9 ++ ((b8, Obj.cells #[.int .i64 r, .int .i64 wy, .int .i64 sc.keys.length] 2 (0, 0)) :: (N8 ++ (N5 ++ (La ++ Y)))))) (perm_of_count fun x => by simp only [List.count_append, List.count_cons, List.count_nil, arenaObj, slotObj, nodeObj, worldObj]; omega)).set5 k'.leaf k'.tagged (.slice K1 k'.pairs.length x1) (.slice K2 k'.keys.length x2) (.slice K3 k'.kids.length x3)
            have hE10 := HV.out.2.2.1.set5 sb k'.leaf k'.tagged (.slice K1 k'.pairs.length x1) (.slice K2 k'.keys.length x2) (.slice K3 k'.kids.length x3)
            unfold Go.Proofs.Ytjkfigkgeoacfaa.set5 at hW10 hE10
            have HF := Lib.hid (And.intro hW10 (And.intro hE10 hr1))
            clear hW10 hE10 hr1 hW9 hKn ha hc1 hk1 hkc hcc hrows hsubR c0
            go_wp2
            go_roundw
            case rel =>
              refine ⟨k', out', ts', wl ++ [r, (wy : Int), (sc.keys.length : Int)], r', A9, c9, L9, K1, x1, K2, x2, K3, x3, (b8, Obj.cells #[.int .i64 r, .int .i64 wy, .int .i64 sc.keys.length] 2 (0, 0)) :: (N8 ++ N5), ⟨by simp, rfl, ⟨n + 1, by go_num, ?_, htot⟩, HN.out.2.2.2.2.2.2.1, ?_, by simpa [ints] using HV.out.2.2.2, HN.out.2.2.2.2.2.2.2.1, HF.out.2.2, HF.out.1.perm (perm_of_count fun x => by simp only [List.count_append, List.count_cons, List.count_nil, arenaObj, slotObj, nodeObj, worldObj]; omega), HF.out.2.1⟩⟩
              · have h1 := HN.out.2.2.2.2.2.2.2.2.1
                have h2 := HN.out.2.2.2.2.2.1
                rw [h2] at h1
                simp only [List.length_cons] at h1
                omega
              · have h2 := HN.out.2.2.2.2.1
                have h3 := hZ.wl_out
                rw [h2] at h3
                rw [List.append_assoc]
                exact h3
            case measure => simp [intOf]; omega
  · have hli : lightB p = false := by simpa using hli
    go_wp2_with (go_at_call 8; refine HL1.out.1.mono ?_; rw [hli]; rintro ed w2 ⟨rfl, ⟨N2, hW2⟩, hE2⟩)
    go_ret
    exact ⟨rfl, ⟨N2 ++ (N1 ++ [(vb, _)]), by simpa using hW2⟩, HL1.out.2.trans hE2⟩
end Go.Proofs.Ytjkfigkgeoacfaa
