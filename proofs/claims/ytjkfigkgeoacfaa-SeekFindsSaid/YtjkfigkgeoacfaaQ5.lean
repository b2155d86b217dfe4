import Derived.Test.YtjkfigkgeoacfaaQ4
set_option linter.unusedVariables false
set_option linter.unusedSimpArgs false
namespace Go.Proofs.Ytjkfigkgeoacfaa
open Go.RowKit Go.Proofs.YtjkfigkgeoacfaaW.PrintLast

theorem pairCells_take (l : List (Int × Int)) : ∀ k : Nat, pairCells (l.take k) = (pairCells l).take (k * 2) := by
  induction l with
  | nil => intro k; simp [pairCells]
  | cons x l ih =>
    intro k
    cases k with
    | zero => simp [pairCells]
    | succ k =>
      have := ih k
      simp only [pairCells] at this ⊢
      simp only [List.take_succ_cons, List.flatMap_cons, this]
      have e : (k + 1) * 2 = k * 2 + 1 + 1 := by omega
      rw [e]; rfl
theorem pairCells_drop (l : List (Int × Int)) : ∀ k : Nat, pairCells (l.drop k) = (pairCells l).drop (k * 2) := by
  induction l with
  | nil => intro k; simp [pairCells]
  | cons x l ih =>
    intro k
    cases k with
    | zero => simp
    | succ k =>
      have := ih k
      have e : (k + 1) * 2 = k * 2 + 1 + 1 := by omega
      rw [e, List.drop_succ_cons, this]; rfl
theorem wrap64_nat {z : Int} {n : Nat} (h : z = n) (hn : n ≤ 1000000) : wrap64 z = (n : Int) := by subst h; unfold wrap64; omega
theorem tmod_nat (q b : Nat) : (q : Int).tmod (b : Int) = ((q % b : Nat) : Int) := by rw [Int.tmod_eq_emod_of_nonneg (Int.natCast_nonneg q)]; simp
structure PlRep (R : HL) (kv sv ev gv tv : Value) (p : Pl) : Prop where
  k : RdX R 1 kv p.keys.length (ints p.keys)
  s : RdX R 1 sv p.sizes.length (bytes p.sizes)
  e : RdX R 1 ev p.keeps.length (bytes p.keeps)
  g : RdX R 1 gv p.groups.length (bytes p.groups)
  t : RdX R 1 tv p.tags.length (bytes p.tags)
  bs : ∀ x ∈ p.sizes, 0 ≤ x ∧ x < 256
  be : ∀ x ∈ p.keeps, 0 ≤ x ∧ x < 256
  bg : ∀ x ∈ p.groups, 0 ≤ x ∧ x < 256
  bt : ∀ x ∈ p.tags, 0 ≤ x ∧ x < 256
  lk : p.keys.length ≤ 50
  ls : p.sizes.length ≤ 30
  le : p.keeps.length ≤ 30
  lg : p.groups.length ≤ 30
  lt : p.tags.length ≤ 30

abbrev planO (kv sv ev gv tv : Value) : Obj := .cells #[kv, sv, ev, gv, tv] 25 (0, 0)
theorem Has.plan {w : World} {L : HL} (h : Has w L) {b : Nat} {l t p k c : Value} (hm : (b, planO l t p k c) ∈ L) :
    (w.cell? ⟨b, 0, none⟩ = some l ∧ w.cell? ⟨b, 1, none⟩ = some t ∧ w.cell? ⟨b, 2, none⟩ = some p ∧ w.cell? ⟨b, 3, none⟩ = some k ∧ w.cell? ⟨b, 4, none⟩ = some c) :=
  ⟨(h.cell hm 0).trans rfl, (h.cell hm 1).trans rfl, (h.cell hm 2).trans rfl, (h.cell hm 3).trans rfl, (h.cell hm 4).trans rfl⟩
theorem risingGo_len : ∀ (raw : List Int) (i : Nat) (out : List (Int × Int)), (risingGo raw i out).length ≤ raw.length + out.length := by
  intro raw
  induction raw with
  | nil => intro i out; simp [risingGo]
  | cons k ks ih => intro i out; have := ih (i + 1) (putL out k (i + 100)); have := putL_len out k (i + 100); simp only [risingGo, List.length_cons]; omega
theorem rising_len (raw : List Int) : (rising raw).length ≤ raw.length := by have := risingGo_len raw 0 []; simpa [rising] using this

def slen : Value → Nat
  | .slice _ n _ => n
  | _ => 0
/-- The first loop's state: leaves so far, their first keys, the pairs left. -/
structure LSt (p : Pl) (b : Nat) (R : HL) (vb : Nat) (PO : Obj) (T : List Sh × List Int) (w : World) (r f lv iv : Value) (wr : World) (i : Nat) (row : List Sh) (css : List (List Value)) (firsts : List Int) (l : List (Int × Int)) (Ar : Option Addr) (cr : Nat) (Af : Option Addr) (cf : Nat) (Al : Option Addr) (cl : Nat) (Lr Lf N : HL) (fu : Nat) : Prop where
  hi : iv = .int .i64 i
  hr : r = .slice Ar row.length cr
  hf : f = .slice Af row.length cf
  hl : lv = .slice Al l.length cl
  fl : firsts.length = row.length
  rr : Row 31 5 (.slice Ar row.length cr) row.length css.flatten Lr
  rf : Row 2 1 (.slice Af row.length cf) row.length (ints firsts) Lf
  sh : ShRows N css row
  rl : Rd (N ++ R) 61 2 (.slice Al l.length cl) l.length (pairCells l)
  hw : Has wr (Lr ++ (Lf ++ ((vb + 1, shO false false nil0 nil0 nil0) :: (N ++ R))))
  he : Ext w wr
  po : (vb, PO) ∈ N
  hu : l.length ≤ fu
  t1 : row ++ (leavesL p b fu i l).1 = T.1
  t2 : firsts ++ (leavesL p b fu i l).2 = T.2
  b1 : i + l.length ≤ 50
  b2 : row.length ≤ i

/-- The second loop's state: a row of trees and their first keys. -/
structure CSt (p : Pl) (b : Nat) (R : HL) (vb : Nat) (PO : Obj) (S : Sh) (w : World) (r f kv : Value) (wr : World) (k : Nat) (row : List Sh) (css : List (List Value)) (firsts : List Int) (Ar : Option Addr) (cr : Nat) (Af : Option Addr) (cf : Nat) (N : HL) (fu : Nat) : Prop where
  hk : kv = .int .i64 k
  hr : r = .slice Ar row.length cr
  hf : f = .slice Af row.length cf
  fl : firsts.length = row.length
  pos : 0 < row.length
  rr : Rd (N ++ R) 31 5 (.slice Ar row.length cr) row.length css.flatten
  rf : Rd (N ++ R) 2 1 (.slice Af row.length cf) row.length (ints firsts)
  sh : ShRows N css row
  hw : Has wr ((vb + 1, shO false false nil0 nil0 nil0) :: (N ++ R))
  he : Ext w wr
  po : (vb, PO) ∈ N
  hu : row.length ≤ fu + 1
  t1 : climbL p b fu k row firsts = S
  b1 : k + row.length * row.length ≤ 5000
  b2 : row.length ≤ 50
/-- The inner loop's state: the row above so far. -/
structure GSt (p : Pl) (b : Nat) (R N : HL) (vb : Nat) (PO : Obj) (G : List Sh × List Int × Nat) (k0 : Nat) (row : List Sh) (firsts : List Int) (w : World) (u q iv kv : Value) (wr : World) (i k : Nat) (up : List Sh) (css : List (List Value)) (keys : List Int) (Au : Option Addr) (cu : Nat) (Aq : Option Addr) (cq : Nat) (Lu Lq M : HL) (fu : Nat) : Prop where
  hi : iv = .int .i64 i
  hk : kv = .int .i64 k
  hu : u = .slice Au up.length cu
  hq : q = .slice Aq up.length cq
  fl : keys.length = up.length
  ru : Row 31 5 (.slice Au up.length cu) up.length css.flatten Lu
  rq : Row 2 1 (.slice Aq up.length cq) up.length (ints keys) Lq
  sh : ShRows (M ++ N) css up
  hw : Has wr (Lu ++ (Lq ++ ((vb + 1, shO false false nil0 nil0 nil0) :: (M ++ (N ++ R)))))
  he : Ext w wr
  il : i ≤ row.length
  hf : row.length ≤ fu + i
  t1 : up ++ (groupL p b fu k (i == 0) (row.drop i) (firsts.drop i)).1 = G.1
  t2 : keys ++ (groupL p b fu k (i == 0) (row.drop i) (firsts.drop i)).2.1 = G.2.1
  t3 : (groupL p b fu k (i == 0) (row.drop i) (firsts.drop i)).2.2 = G.2.2
  b1 : k = k0 + up.length
  b2 : up.length ≤ i

set_option maxRecDepth 100000 in
set_option maxHeartbeats 40000000 in
theorem shape_any {p : Pl} {b : Nat} (hb3 : 3 ≤ b) (hb8 : b ≤ 8) {R : HL} {kv sv ev gv tv : Value} (hp : PlRep R kv sv ev gv tv p) {w : World} (hw : Has w R) :
    Calls Try.prog 9 #[.agg #[kv, sv, ev, gv, tv], .int .i64 b] w fun e w' => ∃ cs N, e = .returned (.agg cs.toArray) ∧ ShRep N cs (shapeL p b) ∧ Has w' (N ++ R) ∧ Ext w w' := by
  obtain ⟨_, _, Ak, ck, rfl, _⟩ := id hp.k
  obtain ⟨_, _, As, cs, rfl, _⟩ := id hp.s
  obtain ⟨_, _, Ae, ce, rfl, _⟩ := id hp.e
  obtain ⟨_, _, Ag, cg, rfl, _⟩ := id hp.g
  obtain ⟨_, _, At, ct, rfl, _⟩ := id hp.t
  have hW := (hw.alloc (planO (.slice Ak p.keys.length ck) (.slice As p.sizes.length cs) (.slice Ae p.keeps.length ce) (.slice Ag p.groups.length cg) (.slice At p.tags.length ct))).alloc (shO false false nil0 nil0 nil0)
  have hE := ((Ext.refl w).alloc (planO (.slice Ak p.keys.length ck) (.slice As p.sizes.length cs) (.slice Ae p.keeps.length ce) (.slice Ag p.groups.length cg) (.slice At p.tags.length ct))).alloc (shO false false nil0 nil0 nil0)
  rw [World.size_alloc] at hW
  have HW := Lib.hid (And.intro hW hE)
  have lk := hp.lk
  have ls := hp.ls
  have le := hp.le
  clear hW hE
  go_enter Try.func9, Try.ntmps9
  go_upto_region 3 with fail
  obtain ⟨hW, hE⟩ := HW.out
  generalize hEq : World.alloc _ _ = W1
  rw [hEq] at hW hE
  clear hEq HW
  generalize w.heap.size = vb at hW ⊢
  obtain ⟨q0, q1, q2, q3, q4⟩ := hW.plan (b := vb) (l := .slice Ak p.keys.length ck) (t := .slice As p.sizes.length cs) (p := .slice Ae p.keeps.length ce) (k := .slice Ag p.groups.length cg) (c := .slice At p.tags.length ct) (by simp)
  have hris := rising_any (hp.k.mono (R' := (vb + 1, shO false false nil0 nil0 nil0) :: (vb, planO (.slice Ak p.keys.length ck) (.slice As p.sizes.length cs) (.slice Ae p.keeps.length ce) (.slice Ag p.groups.length cg) (.slice At p.tags.length ct)) :: R) (fun q hq => by simp [hq])) hW (by omega)
  have Hris := Lib.hid hris
  clear hris
  go_wp2_with (go_at_call 35; refine Hris.out.mono ?_; rintro e w2 ⟨v2, L2, N2, rfl, hr2, hW2, hE2⟩)
  obtain ⟨Al, cl, rfl⟩ := hr2.shape
  clear q0 q1 q2 q3 q4
  generalize hPO : planO (.slice Ak p.keys.length ck) (.slice As p.sizes.length cs) (.slice Ae p.keeps.length ce) (.slice Ag p.groups.length cg) (.slice At p.tags.length ct) = PO at *
  have kb : ∀ (w' : World) (X : HL), Has w' X → (vb, PO) ∈ X → (w'.cell? ⟨vb, 1, none⟩ = some (.slice As p.sizes.length cs) ∧ w'.cell? ⟨vb, 2, none⟩ = some (.slice Ae p.keeps.length ce) ∧ w'.cell? ⟨vb, 3, none⟩ = some (.slice Ag p.groups.length cg) ∧ w'.cell? ⟨vb, 4, none⟩ = some (.slice At p.tags.length ct)) := by
    intro w' X h hm
    rw [← hPO] at hm
    exact (h.plan hm).2
  have KB := Lib.hid (And.intro kb hPO)
  have HE2 := Lib.hid (hE.trans hE2)
  clear kb hPO Hris hW hE hE2
  have hrl := rising_len p.keys
  generalize hT : leavesL p b (rising p.keys).length 0 (rising p.keys) = T
  go_loopw [5, 6, 7, 8] (fun r f lv iv wr => ∃ i row css firsts l Ar cr Af cf Al cl Lr Lf N fu, LSt p b R vb PO T w r f lv iv wr i row css firsts l Ar cr Af cf Al cl Lr Lf N fu) (fun _ _ lv _ _ => slen lv)
  case atStart =>
    refine ⟨0, [], [], [], rising p.keys, none, 0, none, 0, Al, cl, [], [], L2 ++ (N2 ++ [(vb, PO)]), (rising p.keys).length, ⟨rfl, rfl, rfl, rfl, rfl, Row.nil _ _ _, Row.nil _ _ _, ShRows.nil _, ?_, ?_, HE2.out, by simp, Nat.le_refl _, by rw [hT]; rfl, by rw [hT]; rfl, by omega, Nat.le_refl _⟩⟩
    · exact (hr2.rd (N2 ++ [(vb, PO)] ++ R)).mono (fun q hq => by simpa using hq)
    · exact hW2.perm (perm_of_count fun x => by simp only [List.count_append, List.count_cons, List.count_nil, arenaObj, slotObj, nodeObj, worldObj]; omega)
  case round =>
    obtain ⟨i, row, css, firsts, l, Ar, cr, Af, cf, Al, cl, Lr, Lf, N, fu, hS⟩ := hrel
    have e1 := hS.hi
    have e2 := hS.hr
    have e3 := hS.hf
    have e4 := hS.hl
    subst e1 e2 e3 e4
    by_cases hl0 : 0 < l.length
    · skip
      have hW := hS.hw
      have hE := hS.he
      have hvm : (vb, PO) ∈ Lr ++ (Lf ++ ((vb + 1, shO false false nil0 nil0 nil0) :: (N ++ R))) := by have := hS.po; simp [this]
      obtain ⟨c1, c2, _, _⟩ := KB.out.1 _ _ hW hvm
      have hb1 := hS.b1
      have hb2 := hS.b2
      have hn := leafN_pos p b i hl0
      have hk := leafK_le p b i l.length
      have hmod : ((nAt p.sizes i : Int) % (b : Int)) = ((nAt p.sizes i % b : Nat) : Int) := by simp
      obtain ⟨x, xs, hlx, hstep⟩ := leavesL_step p b fu i hl0 hS.hu
      have ht1 := hS.t1
      have ht2 := hS.t2
      rw [hstep] at ht1 ht2
      simp only [] at ht1 ht2
      have Hlx := Lib.hid hlx
      clear hstep hlx
      have hn2 : leafN p b i l.length = min (1 + nAt p.sizes i % b) l.length := rfl
      have hat := at_nat (w := wr) (i := i) (ii := i) (hp.s.mono (R' := Lr ++ (Lf ++ ((vb + 1, shO false false nil0 nil0 nil0) :: (N ++ R)))) (fun q hq => by simp [hq])) hW hp.bs (by omega) (by omega) rfl
      have Hat := Lib.hid hat
      have hgt : decide ((0 : Int) < l.length) = true := decide_eq_true (by omega)
      have hbb : ((b : Int) == 0) = false := beq_false_of_ne (by omega)
      clear hat
      go_upto_region 7 with fail
      have hnm := Nat.mod_lt (nAt p.sizes i) (show b > 0 by omega)
      generalize nAt p.sizes i % b = nm at hmod hn2 hnm
      go_cut [9] (fun v wx => v = .int .i64 (leafN p b i l.length : Nat) ∧ wx = wr)
      case first =>
        go_wp2_with (go_at_call 36; refine Hat.out.mono ?_; rintro e w' ⟨rfl, rfl⟩)
        all_goals go_meet
        all_goals (refine ⟨?_, rfl⟩)
        all_goals (rw [hn2]; congr 1; omega)
      case rest =>
        obtain ⟨rfl, rfl⟩ := hcut
        clear hmod hnm hn2 Hat hbb
        have hk2 : leafK p b i l.length = if 0 < p.keeps.length then nAt p.keeps i % (leafN p b i l.length + 1) else leafN p b i l.length := rfl
        have hat := at_nat (w := wc) (i := i) (ii := i) (hp.e.mono (R' := Lr ++ (Lf ++ ((vb + 1, shO false false nil0 nil0 nil0) :: (N ++ R)))) (fun q hq => by simp [hq])) hW hp.be (by omega) (by omega) rfl
        have Hat := Lib.hid hat
        clear hat
        generalize leafN p b i l.length = n at hk2 hn hk ht1 ht2 ⊢
        generalize leafK p b i l.length = kk at hk2 hk ht1
        have Ht := Lib.hid (And.intro ht1 ht2)
        clear ht1 ht2
        have hke8 := (nAt_eq hp.be i).2
        have hmod : ((nAt p.keeps i : Int) % ((n : Int) + 1)) = ((nAt p.keeps i % (n + 1) : Nat) : Int) := by simp
        have hbb : ((n : Int) + 1 == 0) = false := beq_false_of_ne (by omega)
        generalize nAt p.keeps i % (n + 1) = nm at hmod hk2
        go_upto_if 40 with fail
        go_cut [10] (fun v wx => v = .int .i64 kk ∧ wx = wc)
        case first =>
          by_cases hke : 0 < p.keeps.length
          · have hd : decide ((0 : Int) < p.keeps.length) = true := decide_eq_true (by omega)
            rw [if_pos hke] at hk2
            go_wp2_with (go_at_call 36; refine Hat.out.mono ?_; rintro e w' ⟨rfl, rfl⟩)
            go_meet
            case rel => exact ⟨by rw [hmod, hk2], rfl⟩
          · have hd : decide ((0 : Int) < p.keeps.length) = false := decide_eq_false (by omega)
            rw [if_neg hke] at hk2
            go_wp2
            go_meet
            case rel => exact ⟨by rw [hk2], rfl⟩
        case rest =>
          obtain ⟨rfl, rfl⟩ := hcut
          clear hmod hk2 Hat c1 c2 hke8
          go_upto_region 11 with fail
          go_cut [5] (fun v wx => ∃ (A' : Option Addr) (c' : Nat) (L' N' : HL) (cs' : List Value), v = .slice A' (row.length + 1) c' ∧ Row 31 5 (.slice A' (row.length + 1) c') (row.length + 1) (css.flatten ++ cs') L' ∧ ShRep N' cs' (.mk true false (l.take kk) [] []) ∧ Has wx (L' ++ (Lf ++ ((vb + 1, shO false false nil0 nil0 nil0) :: (N' ++ (N ++ R))))) ∧ Ext w wx)
          case first =>
            obtain ⟨g, off, cl', hle, _, _, hlc⟩ := hS.rl.known hl0
            cases hle
            have hr1 : Rd (N ++ R) 61 2 (.slice (some ⟨g, off, none⟩) kk cl) kk ((pairCells l).take (kk * 2)) := hS.rl.take (by omega)
            have hcap : l.length ≤ cl := by obtain ⟨_, _, _, e, h, _⟩ := hS.rl; cases e; exact h
            have o1 : One ((pairCells l).take (kk * 2)) := (one_pairs l).take _
            have hWa := (hW.alloc (Obj.cells #[] 61)).perm (L' := [] ++ ((wc.heap.size, Obj.cells #[] 61) :: (Lr ++ (Lf ++ ((vb + 1, shO false false nil0 nil0 nil0) :: (N ++ R)))))) (perm_of_count fun x => by simp only [List.count_append, List.count_cons, List.count_nil, arenaObj, slotObj, nodeObj, worldObj]; omega)
            have hsa := Src.of_rd hWa (hr1.mono (fun q hq => by simp only [List.mem_append, List.mem_cons] at hq ⊢; simp [hq])) o1
            have l7 : kk ≤ cl := by omega
            have l8 : (kk : Int) ≤ cl := by omega
            have Ha := Lib.hid (And.intro hWa hsa)
            clear hWa hsa o1 hlc
            go_wp2_with (at_builtin; refine wpList_append_row rfl (.tmp 49) (.tmp 52) 28 rfl el_leaf (Row.nil 61 2 (some ⟨wc.heap.size, 0, none⟩)) Ha.out.1 (m := kk) (news := (pairCells l).take (kk * 2)) rfl Ha.out.2 (by simp [maxLen]; omega) (by omega) ?_)
            intro v1 w1 L1 r1 h1 e1
            have r1 : Row 61 2 v1 kk ((pairCells l).take (kk * 2)) L1 := by
              have q := r1
              simpa using q
            obtain ⟨A1, c1, rfl⟩ := r1.shape
            generalize wc.heap.size = b0 at h1 ⊢
            have hWb := (h1.alloc (shO true false (.slice A1 (kk) c1) nil0 nil0)).perm (L' := Lr ++ ((w1.heap.size, shO true false (.slice A1 (kk) c1) nil0 nil0) :: (L1 ++ ((b0, Obj.cells #[] 61) :: (Lf ++ ((vb + 1, shO false false nil0 nil0 nil0) :: (N ++ R))))))) (perm_of_count fun x => by simp only [List.count_append, List.count_cons, List.count_nil, arenaObj, slotObj, nodeObj, worldObj]; omega)
            have hsb : Src (w1.alloc (shO true false (.slice A1 (kk) c1) nil0 nil0)) (.slice (some ⟨w1.heap.size, 0, none⟩) 1 1) 5 1 [.bool true, .bool false, .slice A1 (kk) c1, nil0, nil0] := Src.of_block (hWb.get w1.heap.size (shO true false (.slice A1 (kk) c1) nil0 nil0) (by simp)) rfl (by intro u hu; simp at hu; rcases hu with rfl | rfl | rfl | rfl | rfl <;> rfl)
            have hEb := (hE.alloc (Obj.cells #[] 61)).trans e1
            have Hb := Lib.hid (And.intro hWb (And.intro hsb hEb))
            have Hrr := Lib.hid hS.rr
            clear hWb hsb hEb Ha
            go_wp2_with (at_builtin; refine wpList_append_row rfl (.tmp 48) (.tmp 55) 29 rfl el_shape Hrr.out Hb.out.1 (m := 1) (news := [.bool true, .bool false, .slice A1 (kk) c1, nil0, nil0]) rfl Hb.out.2.1 (by simp [maxLen]; omega) (by omega) ?_)
            intro v2 w2' L2' r2 h2 e2
            obtain ⟨A2, c2, rfl⟩ := r2.shape
            go_wp2_with fail
            go_meet
            case rel =>
              refine ⟨A2, c2, L2', (w1.heap.size, shO true false (.slice A1 (kk) c1) nil0 nil0) :: (L1 ++ [(b0, Obj.cells #[] 61)]), [.bool true, .bool false, .slice A1 (kk) c1, nil0, nil0], rfl, r2, ?_, h2.perm (perm_of_count fun x => by simp only [List.count_append, List.count_cons, List.count_nil, arenaObj, slotObj, nodeObj, worldObj]; omega), (Hb.out.2.2.alloc _).trans e2⟩
              refine ShRep.mk (css := []) ?_ (rd_nil _ _ _ _ _ (fits_of (by omega))) (rd_nil _ _ _ _ _ (fits_of (by omega))) rfl (ShRows.nil _).2
              refine ((r1.rd []).mono ?_).cast rfl ?_ ?_
              · intro q hq; simp only [List.append_nil] at hq; simp [hq]
              · rw [List.length_take]; omega
              · rw [pairCells_take]
          case rest =>
            obtain ⟨A', c', L', N', cs', rfl, hr', hsh', hW', hE'⟩ := hcut
            clear hW hE hvm
            obtain ⟨g, off, cl', hle, _, _, hlc⟩ := hS.rl.known hl0
            cases hle
            have hx0 : wc.cell? ⟨g, off, none⟩ = some (.int .i64 x.1) := hlc wc _ (hW'.knows (L0 := N ++ R) (fun q hq => by simp only [List.mem_append, List.mem_cons] at hq ⊢; grind)) (fun q hq => hq) 0 _ (by rw [Hlx.out]; simp [pairCells])
            have hcap : l.length ≤ cl := by obtain ⟨_, _, _, e, h, _⟩ := hS.rl; cases e; exact h
            have Hfit : Hid (Fits cl) := Lib.hid (by obtain ⟨_, _, _, e, _, h, _⟩ := hS.rl; cases e; exact h)
            have hWa := (hW'.alloc (Obj.cells #[.int .i64 x.1] 2)).perm (L' := Lf ++ ([(wc.heap.size, Obj.cells #[.int .i64 x.1] 2)] ++ (L' ++ ((vb + 1, shO false false nil0 nil0 nil0) :: (N' ++ (N ++ R)))))) (perm_of_count fun x => by simp only [List.count_append, List.count_cons, List.count_nil, arenaObj, slotObj, nodeObj, worldObj]; omega)
            have hsa : Src (wc.alloc (Obj.cells #[.int .i64 x.1] 2)) (.slice (some ⟨wc.heap.size, 0, none⟩) 1 1) 1 1 [.int .i64 x.1] := Src.of_block (hWa.get wc.heap.size (Obj.cells #[.int .i64 x.1] 2) (by simp)) rfl (by intro u hu; simp at hu; subst hu; rfl)
            have Ha := Lib.hid (And.intro hWa (And.intro hsa (hE'.alloc (Obj.cells #[.int .i64 x.1] 2))))
            have Hrf := Lib.hid hS.rf
            have Hlc := Lib.hid hlc
            clear hWa hsa hlc
            go_wp2_with (at_builtin; refine wpList_append_row rfl (.tmp 57) (.tmp 62) 22 rfl el_int Hrf.out Ha.out.1 (m := 1) (news := [.int .i64 x.1]) rfl Ha.out.2.1 (by simp [maxLen]; omega) (by omega) ?_)
            intro v2 w2' L2' r2 h2 e2
            obtain ⟨A2, c2, rfl⟩ := r2.shape
            clear hx0
            have l6 : (n : Int) ≤ l.length := by omega
            go_wp2
            all_goals go_roundw
            all_goals first
              | (simp [slen]; omega)
              | (refine ⟨i + 1, row ++ [.mk true false (l.take kk) [] []], css ++ [cs'], firsts ++ [x.1], l.drop n, A', c', A2, c2, _, cl - n, L', L2', (wc.heap.size, Obj.cells #[.int .i64 x.1] 2) :: (N' ++ N), fu - 1, ⟨by go_num, by simp, by simp, by rw [List.length_drop], by simp [hS.fl], by simpa using hr', by simpa [ints] using r2, ?_, ?_, h2.perm (perm_of_count fun x => by simp only [List.count_append, List.count_cons, List.count_nil, arenaObj, slotObj, nodeObj, worldObj]; omega), Ha.out.2.2.trans e2, by simp [hS.po], by rw [List.length_drop]; have := hS.hu; omega, by simpa using Ht.out.1, by simpa using Ht.out.2, by rw [List.length_drop]; omega, by simp; omega⟩⟩
                 · exact (hS.sh.mono (fun q hq => by simp only [List.mem_append, List.mem_cons] at hq ⊢; grind)).append (ShRows.one (hsh'.mono (fun q hq => by simp only [List.mem_append, List.mem_cons] at hq ⊢; grind)))
                 · refine ((hS.rl.drop (j := n) hn.2 (A' := if cl = n then some ⟨g, off, none⟩ else some ⟨g, off + n * 2, none⟩) (fun h => by rw [if_neg (by omega)])).mono (fun q hq => by simp only [List.mem_append, List.mem_cons] at hq ⊢; grind)).cast (by simp [*]) (by rw [List.length_drop]) (by rw [pairCells_drop]))
    · have hl1 : l = [] := List.eq_nil_of_length_eq_zero (by omega)
      subst hl1
      have t1 := hS.t1
      have t2 := hS.t2
      rw [leavesL_nil] at t1 t2
      simp only [List.append_nil] at t1 t2
      have hb1 := hS.b1
      have hb2 := hS.b2
      simp only [List.length_nil] at hb1
      have hsh : shapeL p b = if row.length = 0 then leaf0 else climbL p b row.length 0 row firsts := by
        simp only [shapeL]
        rw [hT, ← t1, ← t2]
      have Hsh := Lib.hid hsh
      have hW := hS.hw
      have hE := hS.he
      have hrr := hS.rr
      have hrf := hS.rf
      have hshr := hS.sh
      have hfl := hS.fl
      have hpo := hS.po
      clear hsh t1 t2 hS hT
      by_cases h0 : row.length = 0
      · skip
        obtain ⟨z0, z1, z2, z3, z4⟩ := hW.five (b := vb + 1) (l := false) (t := false) (p := nil0) (k := nil0) (c := nil0) (by simp)
        have zf := hW.free (b := vb + 1) (c := #[.bool false, .bool false, nil0, nil0, nil0]) (t := 31) (by simp)
        have hd : ((row.length : Int) == 0) = true := by rw [h0]; rfl
        go_wp2
        have hW9 := (hW.perm (L' := (vb + 1, shO false false nil0 nil0 nil0) :: ((Lr ++ (Lf ++ N)) ++ R)) (perm_of_count fun x => by simp only [List.count_append, List.count_cons, List.count_nil, arenaObj, slotObj, nodeObj, worldObj]; omega)).set5 true false nil0 nil0 nil0
        have hE9 := hE.set5 (vb + 1) true false nil0 nil0 nil0
        unfold Go.Proofs.Ytjkfigkgeoacfaa.set5 at hW9 hE9
        generalize World.setCell _ _ _ = w9 at hW9 hE9 ⊢
        obtain ⟨m0, m1, m2, m3, m4⟩ := hW9.five (b := vb + 1) (l := true) (t := false) (p := nil0) (k := nil0) (c := nil0) (List.mem_cons_self ..)
        refine bodyPost_ret (v := .agg #[.bool true, .bool false, nil0, nil0, nil0]) (by simp [results, Try.results9, go_sem, m0, m1, m2, m3, m4]) rfl ?_
        refine ⟨[.bool true, .bool false, nil0, nil0, nil0], (vb + 1, shO true false nil0 nil0 nil0) :: (Lr ++ (Lf ++ N)), rfl, ?_, hW9, hE9⟩
        rw [Hsh.out, if_pos h0]
        exact ShRep.mk (css := []) (rd_nil _ _ _ _ _ (fits_of (by omega))) (rd_nil _ _ _ _ _ (fits_of (by omega))) (rd_nil _ _ _ _ _ (fits_of (by omega))) rfl (ShRows.nil _).2
      · have hd : ((row.length : Int) == 0) = false := beq_false_of_ne (by omega)
        have hW2 := hW.perm (L' := (vb + 1, shO false false nil0 nil0 nil0) :: ((Lr ++ (Lf ++ N)) ++ R)) (perm_of_count fun x => by simp only [List.count_append, List.count_cons, List.count_nil, arenaObj, slotObj, nodeObj, worldObj]; omega)
        have hrd1 : Rd ((Lr ++ (Lf ++ N)) ++ R) 31 5 (.slice Ar row.length cr) row.length css.flatten := (hrr.rd (Lf ++ N ++ R)).mono (fun q hq => by simp only [List.mem_append] at hq ⊢; grind)
        have hrd2 : Rd ((Lr ++ (Lf ++ N)) ++ R) 2 1 (.slice Af row.length cf) row.length (ints firsts) := (hrf.rd (Lr ++ N ++ R)).mono (fun q hq => by simp only [List.mem_append] at hq ⊢; grind)
        have hshr2 : ShRows (Lr ++ (Lf ++ N)) css row := hshr.mono (fun q hq => by simp only [List.mem_append] at hq ⊢; grind)
        have hpo2 : (vb, PO) ∈ Lr ++ (Lf ++ N) := by simp [hpo]
        generalize Lr ++ (Lf ++ N) = N1 at hW2 hrd1 hrd2 hshr2 hpo2
        clear hW hrr hrf hshr hpo HE2
        have Hx := Lib.hid (And.intro hrd1 (And.intro hrd2 hshr2))
        clear hrd1 hrd2 hshr2
        go_wp2
        generalize hS0 : climbL p b row.length 0 row firsts = S at Hsh
        go_loopw [5, 6, 11] (fun r f kv wr => ∃ k row css firsts Ar cr Af cf N fu, CSt p b R vb PO S w r f kv wr k row css firsts Ar cr Af cf N fu) (fun r _ _ _ => slen r)
        case atStart =>
          have hsq : row.length * row.length ≤ 50 * 50 := Nat.mul_le_mul (by omega) (by omega)
          exact ⟨0, row, css, firsts, Ar, cr, Af, cf, N1, row.length, ⟨rfl, rfl, rfl, hfl, by omega, Hx.out.1, Hx.out.2.1, Hx.out.2.2, hW2, hE, hpo2, by omega, hS0, by omega, by omega⟩⟩
        case round =>
          have Hlast := Lib.hid (And.intro Hsh h0)
          clear hS0 Hsh hfl hW2 hE hpo2 Hx hd h0 hb1 hb2 hl0
          obtain ⟨k, row, css, firsts, Ar, cr, Af, cf, N, fu, hS⟩ := hrel
          have e1 := hS.hk
          have e2 := hS.hr
          have e3 := hS.hf
          subst e1 e2 e3
          by_cases h1 : 1 < row.length
          · have hd : decide ((1 : Int) < row.length) = true := decide_eq_true (by omega)
            have hb2 := hS.b2
            have hb1 := hS.b1
            obtain ⟨wo, hwo⟩ : ∃ wo : World, wo = wr := ⟨_, rfl⟩
            go_wp2
            generalize hG : groupL p b row.length k true row firsts = G
            go_loopw [12, 13, 14, 11] (fun u q iv kv wr => ∃ i k' up cssu keys Au cu Aq cq Lu Lq M fu', GSt p b R N vb PO G k row firsts w u q iv kv wr i k' up cssu keys Au cu Aq cq Lu Lq M fu') (fun _ _ iv _ _ => row.length - (intOf iv).toNat)
            case atStart =>
              exact ⟨0, k, [], [], [], none, 0, none, 0, [], [], [], row.length, ⟨rfl, rfl, rfl, rfl, rfl, Row.nil _ _ _, Row.nil _ _ _, ShRows.nil _, hS.hw, hS.he, Nat.zero_le _, by omega, by simp [hG], by simp [hG], by simp [hG], rfl, Nat.le_refl _⟩⟩
            case round =>
              obtain ⟨i, k', up, cssu, keys, Au, cu, Aq, cq, Lu, Lq, M, fu', hQ⟩ := hrel
              have e1 := hQ.hi
              have e2 := hQ.hk
              have e3 := hQ.hu
              have e4 := hQ.hq
              subst e1 e2 e3 e4
              by_cases hlt : i < row.length
              · obtain ⟨rl, hrl⟩ : ∃ rl, rl = (row.drop i).length := ⟨_, rfl⟩
                have hrl2 : rl = row.length - i := by rw [hrl, List.length_drop]
                have hgn := groupN_pos p b k' (i == 0) (len := rl) (by omega)
                have hstep := groupL_step p b fu' k' (i == 0) (row := row.drop i) (firsts.drop i) (by omega) (by have := hQ.hf; omega)
                have t1 := hQ.t1
                have t2 := hQ.t2
                have t3 := hQ.t3
                rw [hstep, ← hrl] at t1 t2 t3
                simp only [] at t1 t2 t3
                have Ht := Lib.hid (And.intro t1 (And.intro t2 t3))
                clear t1 t2 t3 hstep hrl
                have hbk := hQ.b1
                have hbu := hQ.b2
                have hk5 : k' ≤ 5000 := by
                  have : row.length ≤ row.length * row.length := Nat.le_mul_of_pos_left _ (by omega)
                  omega
                have hW := hQ.hw
                have hE := hQ.he
                have hvm : (vb, PO) ∈ Lu ++ (Lq ++ ((vb + 1, shO false false nil0 nil0 nil0) :: (M ++ (N ++ R)))) := by have := hS.po; simp [this]
                obtain ⟨_, _, c3, c4⟩ := KB.out.1 _ _ hW hvm
                have hat := at_nat (w := wr) (i := k') (ii := k') (hp.g.mono (R' := Lu ++ (Lq ++ ((vb + 1, shO false false nil0 nil0 nil0) :: (M ++ (N ++ R))))) (fun q hq => by simp [hq])) hW hp.bg (by have := hp.lg; omega) (by omega) rfl
                have Hat := Lib.hid hat
                have hat2 := at_nat (w := wr) (i := k') (ii := k') (hp.t.mono (R' := Lu ++ (Lq ++ ((vb + 1, shO false false nil0 nil0 nil0) :: (M ++ (N ++ R))))) (fun q hq => by simp [hq])) hW hp.bt (by have := hp.lt; omega) (by omega) rfl
                clear hat hat2
                have hd3 : decide ((i : Int) < row.length) = true := decide_eq_true (by omega)
                have hbb : ((b : Int) == 0) = false := beq_false_of_ne (by omega)
                have hmod : ((nAt p.groups k' : Int) % (b : Int)) = ((nAt p.groups k' % b : Nat) : Int) := by simp
                have hnm := Nat.mod_lt (nAt p.groups k') (show b > 0 by omega)
                have hgd : groupN p b k' (i == 0) rl = min (if (i == 0) || k' % 2 == 0 then max (1 + nAt p.groups k' % b) 2 else 1 + nAt p.groups k' % b) rl := rfl
                have Hgd := Lib.hid hgd
                clear hgd
                generalize nAt p.groups k' % b = nm at hmod hnm Hgd
                have Hbk := Lib.hid (And.intro hbk (And.intro hrl2 hgn))
                clear hbk hrl2 hgn
                go_upto_region 23 with fail
                go_cut [15] (fun v wx => v = .int .i64 (1 + (nm : Int)) ∧ wx = wr)
                case first =>
                  go_wp2_with (go_at_call 36; refine Hat.out.mono ?_; rintro e w' ⟨rfl, rfl⟩)
                  go_meet
                  exact ⟨by simp [hmod], rfl⟩
                case rest =>
                  obtain ⟨rfl, rfl⟩ := hcut
                  clear hmod Hat c3
                  have hkk : (((k' : Int) % 2) == 0) = (k' % 2 == 0) := by
                    by_cases h : k' % 2 = 0
                    · have : ((k' : Int) % 2) = 0 := by omega
                      rw [this, h]; rfl
                    · have : ¬ ((k' : Int) % 2) = 0 := by omega
                      rw [beq_false_of_ne this, beq_false_of_ne h]
                  have hii : ((i : Int) == 0) = (i == 0) := by
                    by_cases h : i = 0
                    · subst h; rfl
                    · rw [beq_false_of_ne h, beq_false_of_ne (by omega)]
                  go_upto_region 24 with fail
                  go_cut [93] (fun v wx => v = .bool ((i == 0) || k' % 2 == 0) ∧ wx = wc)
                  case first =>
                    by_cases h0 : i = 0
                    · have hq : ((i : Int) == 0) = true := by rw [h0]; rfl
                      have hq2 : (i == 0) = true := by rw [h0]; rfl
                      go_wp2
                      go_meet
                      exact ⟨by simp [hq2], rfl⟩
                    · have hq : ((i : Int) == 0) = false := beq_false_of_ne (by omega)
                      have hq2 : (i == 0) = false := beq_false_of_ne h0
                      go_wp2
                      go_meet
                      exact ⟨by rw [hq2, Bool.false_or, ← hkk], rfl⟩
                  case rest =>
                    obtain ⟨rfl, rfl⟩ := hcut
                    clear hkk hii
                    generalize hbb2 : ((i == 0) || k' % 2 == 0) = bb at Hgd ⊢
                    clear hbb2
                    go_upto_if 93 with fail
                    go_cut [15] (fun v wx => v = .int .i64 ((if bb then max (1 + nm) 2 else 1 + nm : Nat) : Int) ∧ wx = wc)
                    case first =>
                      cases bb
                      · go_wp2
                        go_meet
                        exact ⟨by simp, rfl⟩
                      · go_wp2
                        all_goals go_meet
                        all_goals (refine ⟨?_, rfl⟩; simp only [if_true]; congr 1; omega)
                    case rest =>
                      obtain ⟨rfl, rfl⟩ := hcut
                      have hnx : (if bb then max (1 + nm) 2 else 1 + nm) ≤ 9 := by split <;> omega
                      generalize (if bb then max (1 + nm) 2 else 1 + nm) = nx at Hgd hnx ⊢
                      have hgd := Hgd.out
                      rw [Hbk.out.2.1] at hgd
                      generalize groupN p b k' (i == 0) rl = gn at *
                      go_upto_region 26 with fail
                      go_cut [15] (fun v wx => v = .int .i64 (gn : Int) ∧ wx = wc)
                      case first =>
                        clear hgd
                        go_wp2
                        all_goals go_meet
                        all_goals (refine ⟨?_, rfl⟩; have hgd := Hgd.out; have hrl := Hbk.out.2.1; congr 1; omega)
                      case rest =>
                        obtain ⟨rfl, rfl⟩ := hcut
                        clear hgd hnx hbb
                        go_upto_region 27 with fail
                        go_cut [16] (fun v wx => ∃ (bn : Nat) (Ak' : Option Addr) (ck' : Nat) (Ac' : Option Addr) (cc' : Nat) (Lz : HL), v = .pointer (some ⟨bn, 0, none⟩) ∧ ShRep (Lz ++ (M ++ N)) [.bool false, .bool false, nil0, .slice Ak' (gn - 1) ck', .slice Ac' gn cc'] (.mk false false [] (((firsts.drop i).drop 1).take (gn - 1)) ((row.drop i).take gn)) ∧
                          Has wx ((bn, shO false false nil0 (.slice Ak' (gn - 1) ck') (.slice Ac' gn cc')) :: (Lu ++ (Lq ++ ((vb + 1, shO false false nil0 nil0 nil0) :: (Lz ++ (M ++ (N ++ R))))))) ∧ Ext w wx)
                        case first =>
                          have hpos := hS.pos
                          have hrl := Hbk.out.2.1
                          have hgn := Hbk.out.2.2
                          obtain ⟨g, off, cr', her, hcr, _, _⟩ := hS.rr.known hpos
                          cases her
                          obtain ⟨gk, ok, cf', hef, hcf, _, _⟩ := hS.rf.known hpos
                          cases hef
                          have hk27 : Rd (N ++ R) 2 1 (.slice (if cf = i + 1 then some ⟨gk, ok, none⟩ else some ⟨gk, ok + (i + 1), none⟩) (gn - 1) (cf - (i + 1))) (gn - 1) (((ints firsts).drop ((i + 1) * 1)).take ((gn - 1) * 1)) := (hS.rf.drop (j := i + 1) (by omega) (fun h => by rw [if_neg (by omega), Nat.mul_one])).take (by omega)
                          have hr27 : Rd (N ++ R) 31 5 (.slice (if cr = i then some ⟨g, off, none⟩ else some ⟨g, off + i * 5, none⟩) gn (cr - i)) gn ((css.flatten.drop (i * 5)).take (gn * 5)) := (hS.rr.drop (j := i) (by omega) (fun h => by rw [if_neg (by omega)])).take (by omega)
                          have o1 : One (((ints firsts).drop ((i + 1) * 1)).take ((gn - 1) * 1)) := ((one_ints firsts).drop _).take _
                          have o2 : One ((css.flatten.drop (i * 5)).take (gn * 5)) := ((ShRows.oneCell hS.sh).drop _).take _
                          have HK := Lib.hid (And.intro hk27 (And.intro o1 (And.intro hr27 o2)))
                          have ha63 : Hid (gn - 1 ≤ maxLen) := Lib.hid (by simp [maxLen]; omega)
                          have ha8 : Hid ((gn - 1) * 8 ≤ 140737488355328) := Lib.hid (by omega)
                          have hb63 : Hid (gn ≤ maxLen) := Lib.hid (by simp [maxLen]; omega)
                          have hb80 : Hid (gn * 80 ≤ 140737488355328) := Lib.hid (by omega)
                          have k1 : 0 ≤ (i : Int) + 1 := by omega
                          have k2 : (i : Int) + 1 ≤ (i : Int) + gn := by omega
                          have k3 : (i : Int) + gn ≤ cf := by omega
                          have k4 : (i : Int) + gn ≤ cr := by omega
                          have k5 : (i : Int) ≤ (i : Int) + gn := by omega
                          have k6 : 0 ≤ (i : Int) + gn := by omega
                          have k7 : ((i : Int) + gn).toNat = i + gn := by omega
                          have k8 : i + gn - (i + 1) = gn - 1 := by omega
                          have hfl := hS.fl
                          have g1 : (((firsts.drop i).drop 1).take (gn - 1)).length = gn - 1 := by rw [List.length_take, List.length_drop, List.length_drop]; omega
                          have g2 : ((row.drop i).take gn).length = gn := by rw [List.length_take, List.length_drop]; omega
                          have G12 := Lib.hid (And.intro g1.symm g2.symm)
                          have i1 : i + 1 ≤ 1000000 := by omega
                          have i2 : i + gn ≤ 1000000 := by omega
                          clear g1 g2 hfl
                          have l1 : wrap64 ((i : Int) + 1) = ((i + 1 : Nat) : Int) := wrap64_nat (by omega) i1
                          have l2 : wrap64 ((i : Int) + gn) = ((i + gn : Nat) : Int) := wrap64_nat (by simp) i2
                          clear i1 i2 hk27 hr27 o1 o2 hrl hgn c4 hvm
                          refine start_ (n := 20) (S := fun w' => Knows w' (N ++ R)) (ds := [19]) #[false, false, false, false, false, false, false, false, false, false, false, false, false, false, false, false, false, false, false, false] (by kernel_rfl) rfl rfl ((hW.drew.knows (sub_of_count fun x => by simp only [List.count_append, List.count_cons, List.count_nil, arenaObj, slotObj, nodeObj, worldObj] <;> omega))) (fun hHeld => ?_)
                          refine pure_ (i := 1) (N := some 103) (v := ?_) (a' := ?_) #[false, true, false, false, false, false, false, false, false, false, false, false, false, false, false, false, false, false, false, false] rfl rfl (by kernel_rfl) (fun _ _ _ h => h) (Or.inl ⟨by rfl, ?_⟩) ?_ ?_
                          rotate_left
                          · intro w'
                            go_simp
                            with_reducible rfl
                          rotate_left
                          · simp only [Act.put, List.setIfInBounds_toArray, List.set_cons_zero, List.set_cons_succ, i64_w, i32_w]
                            rfl
                          refine pure_ (i := 2) (N := some 104) (v := ?_) (a' := ?_) #[false, true, true, false, false, false, false, false, false, false, false, false, false, false, false, false, false, false, false, false] rfl rfl (by kernel_rfl) (fun _ _ _ h => h) (Or.inl ⟨by rfl, ?_⟩) ?_ ?_
                          rotate_left
                          · intro w'
                            go_simp
                            with_reducible rfl
                          rotate_left
                          · simp only [Act.put, List.setIfInBounds_toArray, List.set_cons_zero, List.set_cons_succ, i64_w, i32_w]
                            rfl
                          refine pure_ (i := 3) (N := some 105) (v := ?_) (a' := ?_) #[false, true, true, true, false, false, false, false, false, false, false, false, false, false, false, false, false, false, false, false] rfl rfl (by kernel_rfl) (fun _ _ _ h => h) (Or.inl ⟨by rfl, ?_⟩) ?_ ?_
                          rotate_left
                          · intro w'
                            go_simp
                            with_reducible rfl
                          rotate_left
                          · simp only [Act.put, List.setIfInBounds_toArray, List.set_cons_zero, List.set_cons_succ, i64_w, i32_w]
                            rfl
                          refine pure_ (i := 4) (N := some 106) (v := ?_) (a' := ?_) #[false, true, true, true, true, false, false, false, false, false, false, false, false, false, false, false, false, false, false, false] rfl rfl (by kernel_rfl) (fun _ _ _ h => h) (Or.inl ⟨by rfl, ?_⟩) ?_ ?_
                          rotate_left
                          · intro w'
                            go_simp
                            with_reducible rfl
                          rotate_left
                          · simp only [Act.put, List.setIfInBounds_toArray, List.set_cons_zero, List.set_cons_succ, i64_w, i32_w]
                            rfl
                          refine pure_ (i := 5) (N := some 107) (v := ?_) (a' := ?_) #[false, true, true, true, true, true, false, false, false, false, false, false, false, false, false, false, false, false, false, false] rfl rfl (by kernel_rfl) (fun _ _ _ h => h) (Or.inl ⟨by rfl, ?_⟩) ?_ ?_
                          rotate_left
                          · intro w'
                            go_simp
                            with_reducible rfl
                          rotate_left
                          · simp only [Act.put, List.setIfInBounds_toArray, List.set_cons_zero, List.set_cons_succ, i64_w, i32_w]
                            rfl
                          refine pure_ (i := 6) (N := some 108) (v := ?_) (a' := ?_) #[false, true, true, true, true, true, true, false, false, false, false, false, false, false, false, false, false, false, false, false] rfl rfl (by kernel_rfl) (fun _ _ _ h => h) (Or.inl ⟨by rfl, ?_⟩) ?_ ?_
                          rotate_left
                          · intro w'
                            go_simp
                            with_reducible rfl
                          rotate_left
                          · simp only [Act.put, List.setIfInBounds_toArray, List.set_cons_zero, List.set_cons_succ, i64_w, i32_w]
                            rfl
                          refine pure_ (i := 7) (N := some 109) (v := ?_) (a' := ?_) #[false, true, true, true, true, true, true, true, false, false, false, false, false, false, false, false, false, false, false, false] rfl rfl (by kernel_rfl) (fun _ _ _ h => h) (Or.inl ⟨by rfl, ?_⟩) ?_ ?_
                          rotate_left
                          · intro w'
                            go_simp
                            with_reducible rfl
                          rotate_left
                          · simp only [Act.put, List.setIfInBounds_toArray, List.set_cons_zero, List.set_cons_succ, i64_w, i32_w]
                            rfl
                          refine pure_ (i := 10) (N := some 112) (v := ?_) (a' := ?_) #[false, true, true, true, true, true, true, true, false, false, true, false, false, false, false, false, false, false, false, false] rfl rfl (by kernel_rfl) (fun _ _ _ h => h) (Or.inl ⟨by rfl, ?_⟩) ?_ ?_
                          rotate_left
                          · intro w'
                            go_simp
                            with_reducible rfl
                          rotate_left
                          · simp only [Act.put, List.setIfInBounds_toArray, List.set_cons_zero, List.set_cons_succ, i64_w, i32_w]
                            rfl
                          refine pure_ (i := 11) (N := some 113) (v := ?_) (a' := ?_) #[false, true, true, true, true, true, true, true, false, false, true, true, false, false, false, false, false, false, false, false] rfl rfl (by kernel_rfl) (fun _ _ _ h => h) (Or.inl ⟨by rfl, ?_⟩) ?_ ?_
                          rotate_left
                          · intro w'
                            go_simp
                            with_reducible rfl
                          rotate_left
                          · simp only [Act.put, List.setIfInBounds_toArray, List.set_cons_zero, List.set_cons_succ, i64_w, i32_w]
                            rfl
                          refine pure_ (i := 12) (N := some 114) (v := ?_) (a' := ?_) #[false, true, true, true, true, true, true, true, false, false, true, true, true, false, false, false, false, false, false, false] rfl rfl (by kernel_rfl) (fun _ _ _ h => h) (Or.inl ⟨by rfl, ?_⟩) ?_ ?_
                          rotate_left
                          · intro w'
                            go_simp
                            with_reducible rfl
                          rotate_left
                          · simp only [Act.put, List.setIfInBounds_toArray, List.set_cons_zero, List.set_cons_succ, i64_w, i32_w]
                            rfl
                          refine pure_ (i := 13) (N := some 115) (v := ?_) (a' := ?_) #[false, true, true, true, true, true, true, true, false, false, true, true, true, true, false, false, false, false, false, false] rfl rfl (by kernel_rfl) (fun _ _ _ h => h) (Or.inl ⟨by rfl, ?_⟩) ?_ ?_
                          rotate_left
                          · intro w'
                            go_simp
                            with_reducible rfl
                          rotate_left
                          · simp only [Act.put, List.setIfInBounds_toArray, List.set_cons_zero, List.set_cons_succ, i64_w, i32_w]
                            rfl
                          refine pure_ (i := 14) (N := some 116) (v := ?_) (a' := ?_) #[false, true, true, true, true, true, true, true, false, false, true, true, true, true, true, false, false, false, false, false] rfl rfl (by kernel_rfl) (fun _ _ _ h => h) (Or.inl ⟨by rfl, ?_⟩) ?_ ?_
                          rotate_left
                          · intro w'
                            go_simp
                            with_reducible rfl
                          rotate_left
                          · simp only [Act.put, List.setIfInBounds_toArray, List.set_cons_zero, List.set_cons_succ, i64_w, i32_w]
                            rfl
                          refine pure_ (i := 15) (N := some 117) (v := ?_) (a' := ?_) #[false, true, true, true, true, true, true, true, false, false, true, true, true, true, true, true, false, false, false, false] rfl rfl (by kernel_rfl) (fun _ _ _ h => h) (Or.inl ⟨by rfl, ?_⟩) ?_ ?_
                          rotate_left
                          · intro w'
                            go_simp
                            with_reducible rfl
                          rotate_left
                          · simp only [Act.put, List.setIfInBounds_toArray, List.set_cons_zero, List.set_cons_succ, i64_w, i32_w]
                            rfl
                          refine join_ (σ := Nat × (Option Addr × Nat × HL) × Nat × (Option Addr × Nat × HL) × Nat) 1 #[true, true, true, true, true, true, true, true, true, true, true, true, true, true, true, true, true, true, true, false] (fun s => [(102, .slice (some ⟨s.1, 0, none⟩) 0 0), (110, .slice s.2.1.1 (gn - 1) s.2.1.2.1), (111, .slice (some ⟨s.2.2.1, 0, none⟩) 0 0), (118, .slice s.2.2.2.1.1 (gn) s.2.2.2.1.2.1), (16, .pointer (some ⟨s.2.2.2.2, 0, none⟩)), (119, .agg #[.bool false, .bool false, .slice none 0 0, (.slice s.2.1.1 (gn - 1) s.2.1.2.1), (.slice s.2.2.2.1.1 (gn) s.2.2.2.1.2.1)])]) (fun s w' => (Knows w' (N ++ R)) ∧ Has w' ([(s.1, Obj.cells #[] 2)] ++ ([(s.2.2.1, Obj.cells #[] 31)] ++ ([(s.2.2.2.2, shO false false nil0 nil0 nil0)] ++ (s.2.1.2.2 ++ (s.2.2.2.1.2.2 ++ (Lu ++ (Lq ++ ([(vb + 1, shO false false nil0 nil0 nil0)] ++ (M ++ (N ++ (R))))))))))) ∧ Row 2 1 (.slice s.2.1.1 (gn - 1) s.2.1.2.1) (gn - 1) ([] ++ ((ints firsts).drop ((i + 1) * 1)).take ((gn - 1) * 1)) s.2.1.2.2 ∧ Row 31 5 (.slice s.2.2.2.1.1 (gn) s.2.2.2.1.2.1) (gn) ([] ++ (css.flatten.drop (i * 5)).take (gn * 5)) s.2.2.2.1.2.2 ∧ Ext w w') ?_ ?_
                          rotate_left
                          · intro hJ0_8_9_16_18
                            refine join_ (σ := Nat × (Option Addr × Nat × HL) × Nat × (Option Addr × Nat × HL)) 2 #[true, true, true, true, true, true, true, true, true, true, true, true, true, true, true, true, true, true, false, false] (fun s => [(102, .slice (some ⟨s.1, 0, none⟩) 0 0), (110, .slice s.2.1.1 (gn - 1) s.2.1.2.1), (111, .slice (some ⟨s.2.2.1, 0, none⟩) 0 0), (118, .slice s.2.2.2.1 (gn) s.2.2.2.2.1), (119, .agg #[.bool false, .bool false, .slice none 0 0, (.slice s.2.1.1 (gn - 1) s.2.1.2.1), (.slice s.2.2.2.1 (gn) s.2.2.2.2.1)])]) (fun s w' => (Knows w' (N ++ R)) ∧ Has w' ([(s.1, Obj.cells #[] 2)] ++ ([(s.2.2.1, Obj.cells #[] 31)] ++ (s.2.1.2.2 ++ (s.2.2.2.2.2 ++ (Lu ++ (Lq ++ ([(vb + 1, shO false false nil0 nil0 nil0)] ++ (M ++ (N ++ (R)))))))))) ∧ Row 2 1 (.slice s.2.1.1 (gn - 1) s.2.1.2.1) (gn - 1) ([] ++ ((ints firsts).drop ((i + 1) * 1)).take ((gn - 1) * 1)) s.2.1.2.2 ∧ Row 31 5 (.slice s.2.2.2.1 (gn) s.2.2.2.2.1) (gn) ([] ++ (css.flatten.drop (i * 5)).take (gn * 5)) s.2.2.2.2.2 ∧ Ext w w') ?_ ?_
                            rotate_left
                            · intro hJ0_8_9_16
                              refine join_ (σ := Nat × (Option Addr × Nat × HL) × Nat × Nat) 3 #[true, true, true, true, true, true, true, true, true, true, true, true, true, true, true, true, false, false, true, false] (fun s => [(102, .slice (some ⟨s.1, 0, none⟩) 0 0), (110, .slice s.2.1.1 (gn - 1) s.2.1.2.1), (111, .slice (some ⟨s.2.2.1, 0, none⟩) 0 0), (16, .pointer (some ⟨s.2.2.2, 0, none⟩))]) (fun s w' => (Knows w' (N ++ R)) ∧ Has w' ([(s.1, Obj.cells #[] 2)] ++ ([(s.2.2.1, Obj.cells #[] 31)] ++ ([(s.2.2.2, shO false false nil0 nil0 nil0)] ++ (s.2.1.2.2 ++ ([] ++ (Lu ++ (Lq ++ ([(vb + 1, shO false false nil0 nil0 nil0)] ++ (M ++ (N ++ (R))))))))))) ∧ Row 2 1 (.slice s.2.1.1 (gn - 1) s.2.1.2.1) (gn - 1) ([] ++ ((ints firsts).drop ((i + 1) * 1)).take ((gn - 1) * 1)) s.2.1.2.2 ∧ Ext w w') ?_ ?_
                              rotate_left
                              · intro hJ0_8_9_18
                                refine join_ (σ := Nat × (Option Addr × Nat × HL) × Nat) 4 #[true, true, true, true, true, true, true, true, true, true, true, true, true, true, true, true, false, false, false, false] (fun s => [(102, .slice (some ⟨s.1, 0, none⟩) 0 0), (110, .slice s.2.1.1 (gn - 1) s.2.1.2.1), (111, .slice (some ⟨s.2.2, 0, none⟩) 0 0)]) (fun s w' => (Knows w' (N ++ R)) ∧ Has w' ([(s.1, Obj.cells #[] 2)] ++ ([(s.2.2, Obj.cells #[] 31)] ++ (s.2.1.2.2 ++ ([] ++ (Lu ++ (Lq ++ ([(vb + 1, shO false false nil0 nil0 nil0)] ++ (M ++ (N ++ (R)))))))))) ∧ Row 2 1 (.slice s.2.1.1 (gn - 1) s.2.1.2.1) (gn - 1) ([] ++ ((ints firsts).drop ((i + 1) * 1)).take ((gn - 1) * 1)) s.2.1.2.2 ∧ Ext w w') ?_ ?_
                                rotate_left
                                · intro hJ0_8_9
                                  refine join_ (σ := Nat × (Option Addr × Nat × HL) × Nat) 4 #[true, true, true, true, true, true, true, true, true, false, true, true, true, true, true, true, false, false, true, false] (fun s => [(102, .slice (some ⟨s.1, 0, none⟩) 0 0), (110, .slice s.2.1.1 (gn - 1) s.2.1.2.1), (16, .pointer (some ⟨s.2.2, 0, none⟩))]) (fun s w' => (Knows w' (N ++ R)) ∧ Has w' ([(s.1, Obj.cells #[] 2)] ++ ([(s.2.2, shO false false nil0 nil0 nil0)] ++ (s.2.1.2.2 ++ ([] ++ (Lu ++ (Lq ++ ([(vb + 1, shO false false nil0 nil0 nil0)] ++ (M ++ (N ++ (R)))))))))) ∧ Row 2 1 (.slice s.2.1.1 (gn - 1) s.2.1.2.1) (gn - 1) ([] ++ ((ints firsts).drop ((i + 1) * 1)).take ((gn - 1) * 1)) s.2.1.2.2 ∧ Ext w w') ?_ ?_
                                  rotate_left
                                  · intro hJ0_8_18
                                    refine join_ (σ := Nat × Nat × Nat) 4 #[true, true, true, true, true, true, true, true, false, true, true, true, true, true, true, true, false, false, true, false] (fun s => [(102, .slice (some ⟨s.1, 0, none⟩) 0 0), (111, .slice (some ⟨s.2.1, 0, none⟩) 0 0), (16, .pointer (some ⟨s.2.2, 0, none⟩))]) (fun s w' => (Knows w' (N ++ R)) ∧ Has w' ([(s.1, Obj.cells #[] 2)] ++ ([(s.2.1, Obj.cells #[] 31)] ++ ([(s.2.2, shO false false nil0 nil0 nil0)] ++ ([] ++ ([] ++ (Lu ++ (Lq ++ ([(vb + 1, shO false false nil0 nil0 nil0)] ++ (M ++ (N ++ (R))))))))))) ∧ Ext w w') ?_ ?_
                                    rotate_left
                                    · intro hJ0_9_18
                                      refine join_ (σ := Nat × (Option Addr × Nat × HL)) 5 #[true, true, true, true, true, true, true, true, true, false, true, true, true, true, true, true, false, false, false, false] (fun s => [(102, .slice (some ⟨s.1, 0, none⟩) 0 0), (110, .slice s.2.1 (gn - 1) s.2.2.1)]) (fun s w' => (Knows w' (N ++ R)) ∧ Has w' ([(s.1, Obj.cells #[] 2)] ++ (s.2.2.2 ++ ([] ++ (Lu ++ (Lq ++ ([(vb + 1, shO false false nil0 nil0 nil0)] ++ (M ++ (N ++ (R))))))))) ∧ Row 2 1 (.slice s.2.1 (gn - 1) s.2.2.1) (gn - 1) ([] ++ ((ints firsts).drop ((i + 1) * 1)).take ((gn - 1) * 1)) s.2.2.2 ∧ Ext w w') ?_ ?_
                                      rotate_left
                                      · intro hJ0_8
                                        refine join_ (σ := Nat × Nat) 5 #[true, true, true, true, true, true, true, true, false, true, true, true, true, true, true, true, false, false, false, false] (fun s => [(102, .slice (some ⟨s.1, 0, none⟩) 0 0), (111, .slice (some ⟨s.2, 0, none⟩) 0 0)]) (fun s w' => (Knows w' (N ++ R)) ∧ Has w' ([(s.1, Obj.cells #[] 2)] ++ ([(s.2, Obj.cells #[] 31)] ++ ([] ++ ([] ++ (Lu ++ (Lq ++ ([(vb + 1, shO false false nil0 nil0 nil0)] ++ (M ++ (N ++ (R)))))))))) ∧ Ext w w') ?_ ?_
                                        rotate_left
                                        · intro hJ0_9
                                          refine join_ (σ := Nat × Nat) 5 #[true, true, true, true, true, true, true, true, false, false, true, true, true, true, true, true, false, false, true, false] (fun s => [(102, .slice (some ⟨s.1, 0, none⟩) 0 0), (16, .pointer (some ⟨s.2, 0, none⟩))]) (fun s w' => (Knows w' (N ++ R)) ∧ Has w' ([(s.1, Obj.cells #[] 2)] ++ ([(s.2, shO false false nil0 nil0 nil0)] ++ ([] ++ ([] ++ (Lu ++ (Lq ++ ([(vb + 1, shO false false nil0 nil0 nil0)] ++ (M ++ (N ++ (R)))))))))) ∧ Ext w w') ?_ ?_
                                          rotate_left
                                          · intro hJ0_18
                                            refine join_ (σ := Nat × Nat) 5 #[false, true, true, true, true, true, true, true, false, true, true, true, true, true, true, true, false, false, true, false] (fun s => [(111, .slice (some ⟨s.1, 0, none⟩) 0 0), (16, .pointer (some ⟨s.2, 0, none⟩))]) (fun s w' => (Knows w' (N ++ R)) ∧ Has w' ([(s.1, Obj.cells #[] 31)] ++ ([(s.2, shO false false nil0 nil0 nil0)] ++ ([] ++ ([] ++ (Lu ++ (Lq ++ ([(vb + 1, shO false false nil0 nil0 nil0)] ++ (M ++ (N ++ (R)))))))))) ∧ Ext w w') ?_ ?_
                                            rotate_left
                                            · intro hJ9_18
                                              refine join_ (σ := Nat) 6 #[true, true, true, true, true, true, true, true, false, false, true, true, true, true, true, true, false, false, false, false] (fun s => [(102, .slice (some ⟨s, 0, none⟩) 0 0)]) (fun s w' => (Knows w' (N ++ R)) ∧ Has w' ([(s, Obj.cells #[] 2)] ++ ([] ++ ([] ++ (Lu ++ (Lq ++ ([(vb + 1, shO false false nil0 nil0 nil0)] ++ (M ++ (N ++ (R))))))))) ∧ Ext w w') ?_ ?_
                                              rotate_left
                                              · intro hJ0
                                                refine join_ (σ := Nat) 6 #[false, true, true, true, true, true, true, true, false, true, true, true, true, true, true, true, false, false, false, false] (fun s => [(111, .slice (some ⟨s, 0, none⟩) 0 0)]) (fun s w' => (Knows w' (N ++ R)) ∧ Has w' ([(s, Obj.cells #[] 31)] ++ ([] ++ ([] ++ (Lu ++ (Lq ++ ([(vb + 1, shO false false nil0 nil0 nil0)] ++ (M ++ (N ++ (R))))))))) ∧ Ext w w') ?_ ?_
                                                rotate_left
                                                · intro hJ9
                                                  refine join_ (σ := Nat) 6 #[false, true, true, true, true, true, true, true, false, false, true, true, true, true, true, true, false, false, true, false] (fun s => [(16, .pointer (some ⟨s, 0, none⟩))]) (fun s w' => (Knows w' (N ++ R)) ∧ Has w' ([(s, shO false false nil0 nil0 nil0)] ++ ([] ++ ([] ++ (Lu ++ (Lq ++ ([(vb + 1, shO false false nil0 nil0 nil0)] ++ (M ++ (N ++ (R))))))))) ∧ Ext w w') ?_ ?_
                                                  rotate_left
                                                  · intro hJ18
                                                    refine three_ (i := 0) (j := 9) (k := 18) (Ni := some 102) (Nj := some 111) (Nk := some 16) #[true, true, true, true, true, true, true, true, false, false, true, true, true, true, true, true, false, false, false, false] #[false, true, true, true, true, true, true, true, false, true, true, true, true, true, true, true, false, false, false, false] #[false, true, true, true, true, true, true, true, false, false, true, true, true, true, true, true, false, false, true, false] rfl rfl rfl rfl rfl rfl (by kernel_rfl) (by decide) (by decide) (by decide) (fun K hK => ?_) (fun K hK => ?_) (fun K hK => ?_)
                                                    · skip
                                                      have h_ := hW.drew
                                                      have e_ := hE.drew
                                                      generalize wc.drew = x_ at h_ e_ ⊢
                                                      refine value_ (w1 := ?_) (v := ?_) (by rfl) rfl ?_ ?_
                                                      rotate_left 2
                                                      · go_simp
                                                        constructor
                                                        · rfl
                                                        · rfl
                                                      have h2_ := h_.alloc (Obj.cells #[] 2)
                                                      have e2_ := e_.alloc (Obj.cells #[] 2)
                                                      generalize World.alloc x_ _ = y_ at h2_ e2_ ⊢
                                                      generalize x_.heap.size = b0_ at h2_ ⊢
                                                      have h3_ := h2_.perm (L' := [(b0_, Obj.cells #[] 2)] ++ ([] ++ ([] ++ (Lu ++ (Lq ++ ([(vb + 1, shO false false nil0 nil0 nil0)] ++ (M ++ (N ++ (R))))))))) (perm_of_count fun x => by simp only [List.count_append, List.count_cons, List.count_nil, arenaObj, slotObj, nodeObj, worldObj] <;> omega)
                                                      refine hK.out _ _ ((h3_.knows (sub_of_count fun x => by simp only [List.count_append, List.count_cons, List.count_nil, arenaObj, slotObj, nodeObj, worldObj] <;> omega))) (fun hHeld => ?_)
                                                      clear hK K
                                                      refine norm_ (a' := ?_) ?_ ?_
                                                      rotate_left
                                                      · show Act.put _ (some 102) _ = _
                                                        simp only [Act.put, List.setIfInBounds_toArray, List.set_cons_zero, List.set_cons_succ, i64_w, i32_w]
                                                        rfl
                                                      exact norm_ (by first | (simp only [putAll, Act.put, List.setIfInBounds_toArray, List.set_cons_zero, List.set_cons_succ]; done) | (simp only [putAll, Act.put, List.setIfInBounds_toArray, List.set_cons_zero, List.set_cons_succ]; rfl)) (hJ0 b0_ _ ⟨hHeld, h3_, e2_⟩)
                                                    · skip
                                                      have h_ := hW.drew
                                                      have e_ := hE.drew
                                                      generalize wc.drew = x_ at h_ e_ ⊢
                                                      refine value_ (w1 := ?_) (v := ?_) (by rfl) rfl ?_ ?_
                                                      rotate_left 2
                                                      · go_simp
                                                        constructor
                                                        · rfl
                                                        · rfl
                                                      have h2_ := h_.alloc (Obj.cells #[] 31)
                                                      have e2_ := e_.alloc (Obj.cells #[] 31)
                                                      generalize World.alloc x_ _ = y_ at h2_ e2_ ⊢
                                                      generalize x_.heap.size = b9_ at h2_ ⊢
                                                      have h3_ := h2_.perm (L' := [(b9_, Obj.cells #[] 31)] ++ ([] ++ ([] ++ (Lu ++ (Lq ++ ([(vb + 1, shO false false nil0 nil0 nil0)] ++ (M ++ (N ++ (R))))))))) (perm_of_count fun x => by simp only [List.count_append, List.count_cons, List.count_nil, arenaObj, slotObj, nodeObj, worldObj] <;> omega)
                                                      refine hK.out _ _ ((h3_.knows (sub_of_count fun x => by simp only [List.count_append, List.count_cons, List.count_nil, arenaObj, slotObj, nodeObj, worldObj] <;> omega))) (fun hHeld => ?_)
                                                      clear hK K
                                                      refine norm_ (a' := ?_) ?_ ?_
                                                      rotate_left
                                                      · show Act.put _ (some 111) _ = _
                                                        simp only [Act.put, List.setIfInBounds_toArray, List.set_cons_zero, List.set_cons_succ, i64_w, i32_w]
                                                        rfl
                                                      exact norm_ (by first | (simp only [putAll, Act.put, List.setIfInBounds_toArray, List.set_cons_zero, List.set_cons_succ]; done) | (simp only [putAll, Act.put, List.setIfInBounds_toArray, List.set_cons_zero, List.set_cons_succ]; rfl)) (hJ9 b9_ _ ⟨hHeld, h3_, e2_⟩)
                                                    · skip
                                                      have h_ := hW.drew
                                                      have e_ := hE.drew
                                                      generalize wc.drew = x_ at h_ e_ ⊢
                                                      refine value_ (w1 := ?_) (v := ?_) (by rfl) rfl ?_ ?_
                                                      rotate_left 2
                                                      · go_simp
                                                        constructor
                                                        · rfl
                                                        · rfl
                                                      have h2_ := h_.alloc (shO false false nil0 nil0 nil0)
                                                      have e2_ := e_.alloc (shO false false nil0 nil0 nil0)
                                                      generalize World.alloc x_ _ = y_ at h2_ e2_ ⊢
                                                      generalize x_.heap.size = b18_ at h2_ ⊢
                                                      have h3_ := h2_.perm (L' := [(b18_, shO false false nil0 nil0 nil0)] ++ ([] ++ ([] ++ (Lu ++ (Lq ++ ([(vb + 1, shO false false nil0 nil0 nil0)] ++ (M ++ (N ++ (R))))))))) (perm_of_count fun x => by simp only [List.count_append, List.count_cons, List.count_nil, arenaObj, slotObj, nodeObj, worldObj] <;> omega)
                                                      refine hK.out _ _ ((h3_.knows (sub_of_count fun x => by simp only [List.count_append, List.count_cons, List.count_nil, arenaObj, slotObj, nodeObj, worldObj] <;> omega))) (fun hHeld => ?_)
                                                      clear hK K
                                                      refine norm_ (a' := ?_) ?_ ?_
                                                      rotate_left
                                                      · show Act.put _ (some 16) _ = _
                                                        simp only [Act.put, List.setIfInBounds_toArray, List.set_cons_zero, List.set_cons_succ, i64_w, i32_w]
                                                        rfl
                                                      exact norm_ (by first | (simp only [putAll, Act.put, List.setIfInBounds_toArray, List.set_cons_zero, List.set_cons_succ]; done) | (simp only [putAll, Act.put, List.setIfInBounds_toArray, List.set_cons_zero, List.set_cons_succ]; rfl)) (hJ18 b18_ _ ⟨hHeld, h3_, e2_⟩)
                                                  · skip
                                                    rintro b18_ x_ ⟨hHeld, h_, e_⟩
                                                    refine norm_ (a' := ?_) ?_ ?_
                                                    rotate_left
                                                    · simp only [putAll, Act.put, List.setIfInBounds_toArray, List.set_cons_zero, List.set_cons_succ]
                                                      rfl
                                                    refine two_ (i := 0) (j := 9) (Ni := some 102) (Nj := some 111) #[true, true, true, true, true, true, true, true, false, false, true, true, true, true, true, true, false, false, true, false] #[false, true, true, true, true, true, true, true, false, true, true, true, true, true, true, true, false, false, true, false] rfl rfl rfl rfl (by kernel_rfl) (by decide) (by decide) (fun K hK => ?_) (fun K hK => ?_)
                                                    · skip
                                                      refine value_ (w1 := ?_) (v := ?_) (by rfl) rfl ?_ ?_
                                                      rotate_left 2
                                                      · go_simp
                                                        constructor
                                                        · rfl
                                                        · rfl
                                                      have h2_ := h_.alloc (Obj.cells #[] 2)
                                                      have e2_ := e_.alloc (Obj.cells #[] 2)
                                                      generalize World.alloc x_ _ = y_ at h2_ e2_ ⊢
                                                      generalize x_.heap.size = b0_ at h2_ ⊢
                                                      have h3_ := h2_.perm (L' := [(b0_, Obj.cells #[] 2)] ++ ([(b18_, shO false false nil0 nil0 nil0)] ++ ([] ++ ([] ++ (Lu ++ (Lq ++ ([(vb + 1, shO false false nil0 nil0 nil0)] ++ (M ++ (N ++ (R)))))))))) (perm_of_count fun x => by simp only [List.count_append, List.count_cons, List.count_nil, arenaObj, slotObj, nodeObj, worldObj] <;> omega)
                                                      refine hK.out _ _ ((h3_.knows (sub_of_count fun x => by simp only [List.count_append, List.count_cons, List.count_nil, arenaObj, slotObj, nodeObj, worldObj] <;> omega))) (fun hHeld => ?_)
                                                      clear hK K
                                                      refine norm_ (a' := ?_) ?_ ?_
                                                      rotate_left
                                                      · show Act.put _ (some 102) _ = _
                                                        simp only [Act.put, List.setIfInBounds_toArray, List.set_cons_zero, List.set_cons_succ, i64_w, i32_w]
                                                        rfl
                                                      exact norm_ (by first | (simp only [putAll, Act.put, List.setIfInBounds_toArray, List.set_cons_zero, List.set_cons_succ]; done) | (simp only [putAll, Act.put, List.setIfInBounds_toArray, List.set_cons_zero, List.set_cons_succ]; rfl)) (hJ0_18 ⟨b0_, b18_⟩ _ ⟨hHeld, h3_, e2_⟩)
                                                    · skip
                                                      refine value_ (w1 := ?_) (v := ?_) (by rfl) rfl ?_ ?_
                                                      rotate_left 2
                                                      · go_simp
                                                        constructor
                                                        · rfl
                                                        · rfl
                                                      have h2_ := h_.alloc (Obj.cells #[] 31)
                                                      have e2_ := e_.alloc (Obj.cells #[] 31)
                                                      generalize World.alloc x_ _ = y_ at h2_ e2_ ⊢
                                                      generalize x_.heap.size = b9_ at h2_ ⊢
                                                      have h3_ := h2_.perm (L' := [(b9_, Obj.cells #[] 31)] ++ ([(b18_, shO false false nil0 nil0 nil0)] ++ ([] ++ ([] ++ (Lu ++ (Lq ++ ([(vb + 1, shO false false nil0 nil0 nil0)] ++ (M ++ (N ++ (R)))))))))) (perm_of_count fun x => by simp only [List.count_append, List.count_cons, List.count_nil, arenaObj, slotObj, nodeObj, worldObj] <;> omega)
                                                      refine hK.out _ _ ((h3_.knows (sub_of_count fun x => by simp only [List.count_append, List.count_cons, List.count_nil, arenaObj, slotObj, nodeObj, worldObj] <;> omega))) (fun hHeld => ?_)
                                                      clear hK K
                                                      refine norm_ (a' := ?_) ?_ ?_
                                                      rotate_left
                                                      · show Act.put _ (some 111) _ = _
                                                        simp only [Act.put, List.setIfInBounds_toArray, List.set_cons_zero, List.set_cons_succ, i64_w, i32_w]
                                                        rfl
                                                      exact norm_ (by first | (simp only [putAll, Act.put, List.setIfInBounds_toArray, List.set_cons_zero, List.set_cons_succ]; done) | (simp only [putAll, Act.put, List.setIfInBounds_toArray, List.set_cons_zero, List.set_cons_succ]; rfl)) (hJ9_18 ⟨b9_, b18_⟩ _ ⟨hHeld, h3_, e2_⟩)
                                                · skip
                                                  rintro b9_ x_ ⟨hHeld, h_, e_⟩
                                                  refine norm_ (a' := ?_) ?_ ?_
                                                  rotate_left
                                                  · simp only [putAll, Act.put, List.setIfInBounds_toArray, List.set_cons_zero, List.set_cons_succ]
                                                    rfl
                                                  refine two_ (i := 0) (j := 18) (Ni := some 102) (Nj := some 16) #[true, true, true, true, true, true, true, true, false, true, true, true, true, true, true, true, false, false, false, false] #[false, true, true, true, true, true, true, true, false, true, true, true, true, true, true, true, false, false, true, false] rfl rfl rfl rfl (by kernel_rfl) (by decide) (by decide) (fun K hK => ?_) (fun K hK => ?_)
                                                  · skip
                                                    refine value_ (w1 := ?_) (v := ?_) (by rfl) rfl ?_ ?_
                                                    rotate_left 2
                                                    · go_simp
                                                      constructor
                                                      · rfl
                                                      · rfl
                                                    have h2_ := h_.alloc (Obj.cells #[] 2)
                                                    have e2_ := e_.alloc (Obj.cells #[] 2)
                                                    generalize World.alloc x_ _ = y_ at h2_ e2_ ⊢
                                                    generalize x_.heap.size = b0_ at h2_ ⊢
                                                    have h3_ := h2_.perm (L' := [(b0_, Obj.cells #[] 2)] ++ ([(b9_, Obj.cells #[] 31)] ++ ([] ++ ([] ++ (Lu ++ (Lq ++ ([(vb + 1, shO false false nil0 nil0 nil0)] ++ (M ++ (N ++ (R)))))))))) (perm_of_count fun x => by simp only [List.count_append, List.count_cons, List.count_nil, arenaObj, slotObj, nodeObj, worldObj] <;> omega)
                                                    refine hK.out _ _ ((h3_.knows (sub_of_count fun x => by simp only [List.count_append, List.count_cons, List.count_nil, arenaObj, slotObj, nodeObj, worldObj] <;> omega))) (fun hHeld => ?_)
                                                    clear hK K
                                                    refine norm_ (a' := ?_) ?_ ?_
                                                    rotate_left
                                                    · show Act.put _ (some 102) _ = _
                                                      simp only [Act.put, List.setIfInBounds_toArray, List.set_cons_zero, List.set_cons_succ, i64_w, i32_w]
                                                      rfl
                                                    exact norm_ (by first | (simp only [putAll, Act.put, List.setIfInBounds_toArray, List.set_cons_zero, List.set_cons_succ]; done) | (simp only [putAll, Act.put, List.setIfInBounds_toArray, List.set_cons_zero, List.set_cons_succ]; rfl)) (hJ0_9 ⟨b0_, b9_⟩ _ ⟨hHeld, h3_, e2_⟩)
                                                  · skip
                                                    refine value_ (w1 := ?_) (v := ?_) (by rfl) rfl ?_ ?_
                                                    rotate_left 2
                                                    · go_simp
                                                      constructor
                                                      · rfl
                                                      · rfl
                                                    have h2_ := h_.alloc (shO false false nil0 nil0 nil0)
                                                    have e2_ := e_.alloc (shO false false nil0 nil0 nil0)
                                                    generalize World.alloc x_ _ = y_ at h2_ e2_ ⊢
                                                    generalize x_.heap.size = b18_ at h2_ ⊢
                                                    have h3_ := h2_.perm (L' := [(b9_, Obj.cells #[] 31)] ++ ([(b18_, shO false false nil0 nil0 nil0)] ++ ([] ++ ([] ++ (Lu ++ (Lq ++ ([(vb + 1, shO false false nil0 nil0 nil0)] ++ (M ++ (N ++ (R)))))))))) (perm_of_count fun x => by simp only [List.count_append, List.count_cons, List.count_nil, arenaObj, slotObj, nodeObj, worldObj] <;> omega)
                                                    refine hK.out _ _ ((h3_.knows (sub_of_count fun x => by simp only [List.count_append, List.count_cons, List.count_nil, arenaObj, slotObj, nodeObj, worldObj] <;> omega))) (fun hHeld => ?_)
                                                    clear hK K
                                                    refine norm_ (a' := ?_) ?_ ?_
                                                    rotate_left
                                                    · show Act.put _ (some 16) _ = _
                                                      simp only [Act.put, List.setIfInBounds_toArray, List.set_cons_zero, List.set_cons_succ, i64_w, i32_w]
                                                      rfl
                                                    exact norm_ (by first | (simp only [putAll, Act.put, List.setIfInBounds_toArray, List.set_cons_zero, List.set_cons_succ]; done) | (simp only [putAll, Act.put, List.setIfInBounds_toArray, List.set_cons_zero, List.set_cons_succ]; rfl)) (hJ9_18 ⟨b9_, b18_⟩ _ ⟨hHeld, h3_, e2_⟩)
                                              · skip
                                                rintro b0_ x_ ⟨hHeld, h_, e_⟩
                                                refine norm_ (a' := ?_) ?_ ?_
                                                rotate_left
                                                · simp only [putAll, Act.put, List.setIfInBounds_toArray, List.set_cons_zero, List.set_cons_succ]
                                                  rfl
                                                refine three_ (i := 8) (j := 9) (k := 18) (Ni := some 110) (Nj := some 111) (Nk := some 16) #[true, true, true, true, true, true, true, true, true, false, true, true, true, true, true, true, false, false, false, false] #[true, true, true, true, true, true, true, true, false, true, true, true, true, true, true, true, false, false, false, false] #[true, true, true, true, true, true, true, true, false, false, true, true, true, true, true, true, false, false, true, false] rfl rfl rfl rfl rfl rfl (by kernel_rfl) (by decide) (by decide) (by decide) (fun K hK => ?_) (fun K hK => ?_) (fun K hK => ?_)
                                                · skip
                                                  have hp_ := h_.perm (L' := [] ++ ([(b0_, Obj.cells #[] 2)] ++ ([] ++ (Lu ++ (Lq ++ ([(vb + 1, shO false false nil0 nil0 nil0)] ++ (M ++ (N ++ (R))))))))) (perm_of_count fun x => by simp only [List.count_append, List.count_cons, List.count_nil, arenaObj, slotObj, nodeObj, worldObj] <;> omega)
                                                  refine append_to (.tmp 102) (.tmp 109) 22 (by rfl) rfl rfl el_int (Row.nil 2 1 (some ⟨b0_, 0, none⟩)) hp_ rfl (Rd.srcK (h_.knows (L0 := N ++ R) (sub_of_count fun x => by simp only [List.count_append, List.count_cons, List.count_nil, arenaObj, slotObj, nodeObj, worldObj] <;> omega)) (fun _ h => h) HK.out.1 HK.out.2.1) (gn - 1) (by omega) ha63.out ha8.out ?_
                                                  intro v_ y_ L8_ r8_ h2_ e2_
                                                  obtain ⟨A8_, c8_, rfl⟩ := r8_.shape
                                                  have e2_ := e_.trans e2_
                                                  have h3_ := h2_.perm (L' := [(b0_, Obj.cells #[] 2)] ++ (L8_ ++ ([] ++ (Lu ++ (Lq ++ ([(vb + 1, shO false false nil0 nil0 nil0)] ++ (M ++ (N ++ (R))))))))) (perm_of_count fun x => by simp only [List.count_append, List.count_cons, List.count_nil, arenaObj, slotObj, nodeObj, worldObj] <;> omega)
                                                  refine hK.out _ _ ((h3_.knows (sub_of_count fun x => by simp only [List.count_append, List.count_cons, List.count_nil, arenaObj, slotObj, nodeObj, worldObj] <;> omega))) (fun hHeld => ?_)
                                                  clear hK K
                                                  refine norm_ (a' := ?_) ?_ ?_
                                                  rotate_left
                                                  · show Act.put _ (some 110) _ = _
                                                    simp only [Act.put, List.setIfInBounds_toArray, List.set_cons_zero, List.set_cons_succ, i64_w, i32_w]
                                                    rfl
                                                  exact norm_ (by first | (simp only [putAll, Act.put, List.setIfInBounds_toArray, List.set_cons_zero, List.set_cons_succ]; done) | (simp only [putAll, Act.put, List.setIfInBounds_toArray, List.set_cons_zero, List.set_cons_succ]; rfl)) (hJ0_8 ⟨b0_, ⟨A8_, c8_, L8_⟩⟩ _ ⟨hHeld, h3_, r8_, e2_⟩)
                                                · skip
                                                  refine value_ (w1 := ?_) (v := ?_) (by rfl) rfl ?_ ?_
                                                  rotate_left 2
                                                  · go_simp
                                                    constructor
                                                    · rfl
                                                    · rfl
                                                  have h2_ := h_.alloc (Obj.cells #[] 31)
                                                  have e2_ := e_.alloc (Obj.cells #[] 31)
                                                  generalize World.alloc x_ _ = y_ at h2_ e2_ ⊢
                                                  generalize x_.heap.size = b9_ at h2_ ⊢
                                                  have h3_ := h2_.perm (L' := [(b0_, Obj.cells #[] 2)] ++ ([(b9_, Obj.cells #[] 31)] ++ ([] ++ ([] ++ (Lu ++ (Lq ++ ([(vb + 1, shO false false nil0 nil0 nil0)] ++ (M ++ (N ++ (R)))))))))) (perm_of_count fun x => by simp only [List.count_append, List.count_cons, List.count_nil, arenaObj, slotObj, nodeObj, worldObj] <;> omega)
                                                  refine hK.out _ _ ((h3_.knows (sub_of_count fun x => by simp only [List.count_append, List.count_cons, List.count_nil, arenaObj, slotObj, nodeObj, worldObj] <;> omega))) (fun hHeld => ?_)
                                                  clear hK K
                                                  refine norm_ (a' := ?_) ?_ ?_
                                                  rotate_left
                                                  · show Act.put _ (some 111) _ = _
                                                    simp only [Act.put, List.setIfInBounds_toArray, List.set_cons_zero, List.set_cons_succ, i64_w, i32_w]
                                                    rfl
                                                  exact norm_ (by first | (simp only [putAll, Act.put, List.setIfInBounds_toArray, List.set_cons_zero, List.set_cons_succ]; done) | (simp only [putAll, Act.put, List.setIfInBounds_toArray, List.set_cons_zero, List.set_cons_succ]; rfl)) (hJ0_9 ⟨b0_, b9_⟩ _ ⟨hHeld, h3_, e2_⟩)
                                                · skip
                                                  refine value_ (w1 := ?_) (v := ?_) (by rfl) rfl ?_ ?_
                                                  rotate_left 2
                                                  · go_simp
                                                    constructor
                                                    · rfl
                                                    · rfl
                                                  have h2_ := h_.alloc (shO false false nil0 nil0 nil0)
                                                  have e2_ := e_.alloc (shO false false nil0 nil0 nil0)
                                                  generalize World.alloc x_ _ = y_ at h2_ e2_ ⊢
                                                  generalize x_.heap.size = b18_ at h2_ ⊢
                                                  have h3_ := h2_.perm (L' := [(b0_, Obj.cells #[] 2)] ++ ([(b18_, shO false false nil0 nil0 nil0)] ++ ([] ++ ([] ++ (Lu ++ (Lq ++ ([(vb + 1, shO false false nil0 nil0 nil0)] ++ (M ++ (N ++ (R)))))))))) (perm_of_count fun x => by simp only [List.count_append, List.count_cons, List.count_nil, arenaObj, slotObj, nodeObj, worldObj] <;> omega)
                                                  refine hK.out _ _ ((h3_.knows (sub_of_count fun x => by simp only [List.count_append, List.count_cons, List.count_nil, arenaObj, slotObj, nodeObj, worldObj] <;> omega))) (fun hHeld => ?_)
                                                  clear hK K
                                                  refine norm_ (a' := ?_) ?_ ?_
                                                  rotate_left
                                                  · show Act.put _ (some 16) _ = _
                                                    simp only [Act.put, List.setIfInBounds_toArray, List.set_cons_zero, List.set_cons_succ, i64_w, i32_w]
                                                    rfl
                                                  exact norm_ (by first | (simp only [putAll, Act.put, List.setIfInBounds_toArray, List.set_cons_zero, List.set_cons_succ]; done) | (simp only [putAll, Act.put, List.setIfInBounds_toArray, List.set_cons_zero, List.set_cons_succ]; rfl)) (hJ0_18 ⟨b0_, b18_⟩ _ ⟨hHeld, h3_, e2_⟩)
                                            · skip
                                              rintro ⟨b9_, b18_⟩ x_ ⟨hHeld, h_, e_⟩
                                              refine norm_ (a' := ?_) ?_ ?_
                                              rotate_left
                                              · simp only [putAll, Act.put, List.setIfInBounds_toArray, List.set_cons_zero, List.set_cons_succ]
                                                rfl
                                              refine one_ (i := 0) (N := some 102) #[true, true, true, true, true, true, true, true, false, true, true, true, true, true, true, true, false, false, true, false] rfl rfl (by kernel_rfl) (by decide) (fun K hK => ?_)
                                              refine value_ (w1 := ?_) (v := ?_) (by rfl) rfl ?_ ?_
                                              rotate_left 2
                                              · go_simp
                                                constructor
                                                · rfl
                                                · rfl
                                              have h2_ := h_.alloc (Obj.cells #[] 2)
                                              have e2_ := e_.alloc (Obj.cells #[] 2)
                                              generalize World.alloc x_ _ = y_ at h2_ e2_ ⊢
                                              generalize x_.heap.size = b0_ at h2_ ⊢
                                              have h3_ := h2_.perm (L' := [(b0_, Obj.cells #[] 2)] ++ ([(b9_, Obj.cells #[] 31)] ++ ([(b18_, shO false false nil0 nil0 nil0)] ++ ([] ++ ([] ++ (Lu ++ (Lq ++ ([(vb + 1, shO false false nil0 nil0 nil0)] ++ (M ++ (N ++ (R))))))))))) (perm_of_count fun x => by simp only [List.count_append, List.count_cons, List.count_nil, arenaObj, slotObj, nodeObj, worldObj] <;> omega)
                                              refine hK.out _ _ ((h3_.knows (sub_of_count fun x => by simp only [List.count_append, List.count_cons, List.count_nil, arenaObj, slotObj, nodeObj, worldObj] <;> omega))) (fun hHeld => ?_)
                                              clear hK K
                                              refine norm_ (a' := ?_) ?_ ?_
                                              rotate_left
                                              · show Act.put _ (some 102) _ = _
                                                simp only [Act.put, List.setIfInBounds_toArray, List.set_cons_zero, List.set_cons_succ, i64_w, i32_w]
                                                rfl
                                              exact norm_ (by first | (simp only [putAll, Act.put, List.setIfInBounds_toArray, List.set_cons_zero, List.set_cons_succ]; done) | (simp only [putAll, Act.put, List.setIfInBounds_toArray, List.set_cons_zero, List.set_cons_succ]; rfl)) (hJ0_9_18 ⟨b0_, b9_, b18_⟩ _ ⟨hHeld, h3_, e2_⟩)
                                          · skip
                                            rintro ⟨b0_, b18_⟩ x_ ⟨hHeld, h_, e_⟩
                                            refine norm_ (a' := ?_) ?_ ?_
                                            rotate_left
                                            · simp only [putAll, Act.put, List.setIfInBounds_toArray, List.set_cons_zero, List.set_cons_succ]
                                              rfl
                                            refine two_ (i := 8) (j := 9) (Ni := some 110) (Nj := some 111) #[true, true, true, true, true, true, true, true, true, false, true, true, true, true, true, true, false, false, true, false] #[true, true, true, true, true, true, true, true, false, true, true, true, true, true, true, true, false, false, true, false] rfl rfl rfl rfl (by kernel_rfl) (by decide) (by decide) (fun K hK => ?_) (fun K hK => ?_)
                                            · skip
                                              have hp_ := h_.perm (L' := [] ++ ([(b0_, Obj.cells #[] 2)] ++ ([(b18_, shO false false nil0 nil0 nil0)] ++ ([] ++ (Lu ++ (Lq ++ ([(vb + 1, shO false false nil0 nil0 nil0)] ++ (M ++ (N ++ (R)))))))))) (perm_of_count fun x => by simp only [List.count_append, List.count_cons, List.count_nil, arenaObj, slotObj, nodeObj, worldObj] <;> omega)
                                              refine append_to (.tmp 102) (.tmp 109) 22 (by rfl) rfl rfl el_int (Row.nil 2 1 (some ⟨b0_, 0, none⟩)) hp_ rfl (Rd.srcK (h_.knows (L0 := N ++ R) (sub_of_count fun x => by simp only [List.count_append, List.count_cons, List.count_nil, arenaObj, slotObj, nodeObj, worldObj] <;> omega)) (fun _ h => h) HK.out.1 HK.out.2.1) (gn - 1) (by omega) ha63.out ha8.out ?_
                                              intro v_ y_ L8_ r8_ h2_ e2_
                                              obtain ⟨A8_, c8_, rfl⟩ := r8_.shape
                                              have e2_ := e_.trans e2_
                                              have h3_ := h2_.perm (L' := [(b0_, Obj.cells #[] 2)] ++ ([(b18_, shO false false nil0 nil0 nil0)] ++ (L8_ ++ ([] ++ (Lu ++ (Lq ++ ([(vb + 1, shO false false nil0 nil0 nil0)] ++ (M ++ (N ++ (R)))))))))) (perm_of_count fun x => by simp only [List.count_append, List.count_cons, List.count_nil, arenaObj, slotObj, nodeObj, worldObj] <;> omega)
                                              refine hK.out _ _ ((h3_.knows (sub_of_count fun x => by simp only [List.count_append, List.count_cons, List.count_nil, arenaObj, slotObj, nodeObj, worldObj] <;> omega))) (fun hHeld => ?_)
                                              clear hK K
                                              refine norm_ (a' := ?_) ?_ ?_
                                              rotate_left
                                              · show Act.put _ (some 110) _ = _
                                                simp only [Act.put, List.setIfInBounds_toArray, List.set_cons_zero, List.set_cons_succ, i64_w, i32_w]
                                                rfl
                                              exact norm_ (by first | (simp only [putAll, Act.put, List.setIfInBounds_toArray, List.set_cons_zero, List.set_cons_succ]; done) | (simp only [putAll, Act.put, List.setIfInBounds_toArray, List.set_cons_zero, List.set_cons_succ]; rfl)) (hJ0_8_18 ⟨b0_, ⟨A8_, c8_, L8_⟩, b18_⟩ _ ⟨hHeld, h3_, r8_, e2_⟩)
                                            · skip
                                              refine value_ (w1 := ?_) (v := ?_) (by rfl) rfl ?_ ?_
                                              rotate_left 2
                                              · go_simp
                                                constructor
                                                · rfl
                                                · rfl
                                              have h2_ := h_.alloc (Obj.cells #[] 31)
                                              have e2_ := e_.alloc (Obj.cells #[] 31)
                                              generalize World.alloc x_ _ = y_ at h2_ e2_ ⊢
                                              generalize x_.heap.size = b9_ at h2_ ⊢
                                              have h3_ := h2_.perm (L' := [(b0_, Obj.cells #[] 2)] ++ ([(b9_, Obj.cells #[] 31)] ++ ([(b18_, shO false false nil0 nil0 nil0)] ++ ([] ++ ([] ++ (Lu ++ (Lq ++ ([(vb + 1, shO false false nil0 nil0 nil0)] ++ (M ++ (N ++ (R))))))))))) (perm_of_count fun x => by simp only [List.count_append, List.count_cons, List.count_nil, arenaObj, slotObj, nodeObj, worldObj] <;> omega)
                                              refine hK.out _ _ ((h3_.knows (sub_of_count fun x => by simp only [List.count_append, List.count_cons, List.count_nil, arenaObj, slotObj, nodeObj, worldObj] <;> omega))) (fun hHeld => ?_)
                                              clear hK K
                                              refine norm_ (a' := ?_) ?_ ?_
                                              rotate_left
                                              · show Act.put _ (some 111) _ = _
                                                simp only [Act.put, List.setIfInBounds_toArray, List.set_cons_zero, List.set_cons_succ, i64_w, i32_w]
                                                rfl
                                              exact norm_ (by first | (simp only [putAll, Act.put, List.setIfInBounds_toArray, List.set_cons_zero, List.set_cons_succ]; done) | (simp only [putAll, Act.put, List.setIfInBounds_toArray, List.set_cons_zero, List.set_cons_succ]; rfl)) (hJ0_9_18 ⟨b0_, b9_, b18_⟩ _ ⟨hHeld, h3_, e2_⟩)
                                        · skip
                                          rintro ⟨b0_, b9_⟩ x_ ⟨hHeld, h_, e_⟩
                                          refine norm_ (a' := ?_) ?_ ?_
                                          rotate_left
                                          · simp only [putAll, Act.put, List.setIfInBounds_toArray, List.set_cons_zero, List.set_cons_succ]
                                            rfl
                                          refine two_ (i := 8) (j := 18) (Ni := some 110) (Nj := some 16) #[true, true, true, true, true, true, true, true, true, true, true, true, true, true, true, true, false, false, false, false] #[true, true, true, true, true, true, true, true, false, true, true, true, true, true, true, true, false, false, true, false] rfl rfl rfl rfl (by kernel_rfl) (by decide) (by decide) (fun K hK => ?_) (fun K hK => ?_)
                                          · skip
                                            have hp_ := h_.perm (L' := [] ++ ([(b0_, Obj.cells #[] 2)] ++ ([(b9_, Obj.cells #[] 31)] ++ ([] ++ (Lu ++ (Lq ++ ([(vb + 1, shO false false nil0 nil0 nil0)] ++ (M ++ (N ++ (R)))))))))) (perm_of_count fun x => by simp only [List.count_append, List.count_cons, List.count_nil, arenaObj, slotObj, nodeObj, worldObj] <;> omega)
                                            refine append_to (.tmp 102) (.tmp 109) 22 (by rfl) rfl rfl el_int (Row.nil 2 1 (some ⟨b0_, 0, none⟩)) hp_ rfl (Rd.srcK (h_.knows (L0 := N ++ R) (sub_of_count fun x => by simp only [List.count_append, List.count_cons, List.count_nil, arenaObj, slotObj, nodeObj, worldObj] <;> omega)) (fun _ h => h) HK.out.1 HK.out.2.1) (gn - 1) (by omega) ha63.out ha8.out ?_
                                            intro v_ y_ L8_ r8_ h2_ e2_
                                            obtain ⟨A8_, c8_, rfl⟩ := r8_.shape
                                            have e2_ := e_.trans e2_
                                            have h3_ := h2_.perm (L' := [(b0_, Obj.cells #[] 2)] ++ ([(b9_, Obj.cells #[] 31)] ++ (L8_ ++ ([] ++ (Lu ++ (Lq ++ ([(vb + 1, shO false false nil0 nil0 nil0)] ++ (M ++ (N ++ (R)))))))))) (perm_of_count fun x => by simp only [List.count_append, List.count_cons, List.count_nil, arenaObj, slotObj, nodeObj, worldObj] <;> omega)
                                            refine hK.out _ _ ((h3_.knows (sub_of_count fun x => by simp only [List.count_append, List.count_cons, List.count_nil, arenaObj, slotObj, nodeObj, worldObj] <;> omega))) (fun hHeld => ?_)
                                            clear hK K
                                            refine norm_ (a' := ?_) ?_ ?_
                                            rotate_left
                                            · show Act.put _ (some 110) _ = _
                                              simp only [Act.put, List.setIfInBounds_toArray, List.set_cons_zero, List.set_cons_succ, i64_w, i32_w]
                                              rfl
                                            exact norm_ (by first | (simp only [putAll, Act.put, List.setIfInBounds_toArray, List.set_cons_zero, List.set_cons_succ]; done) | (simp only [putAll, Act.put, List.setIfInBounds_toArray, List.set_cons_zero, List.set_cons_succ]; rfl)) (hJ0_8_9 ⟨b0_, ⟨A8_, c8_, L8_⟩, b9_⟩ _ ⟨hHeld, h3_, r8_, e2_⟩)
                                          · skip
                                            refine value_ (w1 := ?_) (v := ?_) (by rfl) rfl ?_ ?_
                                            rotate_left 2
                                            · go_simp
                                              constructor
                                              · rfl
                                              · rfl
                                            have h2_ := h_.alloc (shO false false nil0 nil0 nil0)
                                            have e2_ := e_.alloc (shO false false nil0 nil0 nil0)
                                            generalize World.alloc x_ _ = y_ at h2_ e2_ ⊢
                                            generalize x_.heap.size = b18_ at h2_ ⊢
                                            have h3_ := h2_.perm (L' := [(b0_, Obj.cells #[] 2)] ++ ([(b9_, Obj.cells #[] 31)] ++ ([(b18_, shO false false nil0 nil0 nil0)] ++ ([] ++ ([] ++ (Lu ++ (Lq ++ ([(vb + 1, shO false false nil0 nil0 nil0)] ++ (M ++ (N ++ (R))))))))))) (perm_of_count fun x => by simp only [List.count_append, List.count_cons, List.count_nil, arenaObj, slotObj, nodeObj, worldObj] <;> omega)
                                            refine hK.out _ _ ((h3_.knows (sub_of_count fun x => by simp only [List.count_append, List.count_cons, List.count_nil, arenaObj, slotObj, nodeObj, worldObj] <;> omega))) (fun hHeld => ?_)
                                            clear hK K
                                            refine norm_ (a' := ?_) ?_ ?_
                                            rotate_left
                                            · show Act.put _ (some 16) _ = _
                                              simp only [Act.put, List.setIfInBounds_toArray, List.set_cons_zero, List.set_cons_succ, i64_w, i32_w]
                                              rfl
                                            exact norm_ (by first | (simp only [putAll, Act.put, List.setIfInBounds_toArray, List.set_cons_zero, List.set_cons_succ]; done) | (simp only [putAll, Act.put, List.setIfInBounds_toArray, List.set_cons_zero, List.set_cons_succ]; rfl)) (hJ0_9_18 ⟨b0_, b9_, b18_⟩ _ ⟨hHeld, h3_, e2_⟩)
                                      · skip
                                        rintro ⟨b0_, ⟨A8_, c8_, L8_⟩⟩ x_ ⟨hHeld, h_, r8_, e_⟩
                                        refine norm_ (a' := ?_) ?_ ?_
                                        rotate_left
                                        · simp only [putAll, Act.put, List.setIfInBounds_toArray, List.set_cons_zero, List.set_cons_succ]
                                          rfl
                                        refine two_ (i := 9) (j := 18) (Ni := some 111) (Nj := some 16) #[true, true, true, true, true, true, true, true, true, true, true, true, true, true, true, true, false, false, false, false] #[true, true, true, true, true, true, true, true, true, false, true, true, true, true, true, true, false, false, true, false] rfl rfl rfl rfl (by kernel_rfl) (by decide) (by decide) (fun K hK => ?_) (fun K hK => ?_)
                                        · skip
                                          refine value_ (w1 := ?_) (v := ?_) (by rfl) rfl ?_ ?_
                                          rotate_left 2
                                          · go_simp
                                            constructor
                                            · rfl
                                            · rfl
                                          have h2_ := h_.alloc (Obj.cells #[] 31)
                                          have e2_ := e_.alloc (Obj.cells #[] 31)
                                          generalize World.alloc x_ _ = y_ at h2_ e2_ ⊢
                                          generalize x_.heap.size = b9_ at h2_ ⊢
                                          have h3_ := h2_.perm (L' := [(b0_, Obj.cells #[] 2)] ++ ([(b9_, Obj.cells #[] 31)] ++ (L8_ ++ ([] ++ (Lu ++ (Lq ++ ([(vb + 1, shO false false nil0 nil0 nil0)] ++ (M ++ (N ++ (R)))))))))) (perm_of_count fun x => by simp only [List.count_append, List.count_cons, List.count_nil, arenaObj, slotObj, nodeObj, worldObj] <;> omega)
                                          refine hK.out _ _ ((h3_.knows (sub_of_count fun x => by simp only [List.count_append, List.count_cons, List.count_nil, arenaObj, slotObj, nodeObj, worldObj] <;> omega))) (fun hHeld => ?_)
                                          clear hK K
                                          refine norm_ (a' := ?_) ?_ ?_
                                          rotate_left
                                          · show Act.put _ (some 111) _ = _
                                            simp only [Act.put, List.setIfInBounds_toArray, List.set_cons_zero, List.set_cons_succ, i64_w, i32_w]
                                            rfl
                                          exact norm_ (by first | (simp only [putAll, Act.put, List.setIfInBounds_toArray, List.set_cons_zero, List.set_cons_succ]; done) | (simp only [putAll, Act.put, List.setIfInBounds_toArray, List.set_cons_zero, List.set_cons_succ]; rfl)) (hJ0_8_9 ⟨b0_, ⟨A8_, c8_, L8_⟩, b9_⟩ _ ⟨hHeld, h3_, r8_, e2_⟩)
                                        · skip
                                          refine value_ (w1 := ?_) (v := ?_) (by rfl) rfl ?_ ?_
                                          rotate_left 2
                                          · go_simp
                                            constructor
                                            · rfl
                                            · rfl
                                          have h2_ := h_.alloc (shO false false nil0 nil0 nil0)
                                          have e2_ := e_.alloc (shO false false nil0 nil0 nil0)
                                          generalize World.alloc x_ _ = y_ at h2_ e2_ ⊢
                                          generalize x_.heap.size = b18_ at h2_ ⊢
                                          have h3_ := h2_.perm (L' := [(b0_, Obj.cells #[] 2)] ++ ([(b18_, shO false false nil0 nil0 nil0)] ++ (L8_ ++ ([] ++ (Lu ++ (Lq ++ ([(vb + 1, shO false false nil0 nil0 nil0)] ++ (M ++ (N ++ (R)))))))))) (perm_of_count fun x => by simp only [List.count_append, List.count_cons, List.count_nil, arenaObj, slotObj, nodeObj, worldObj] <;> omega)
                                          refine hK.out _ _ ((h3_.knows (sub_of_count fun x => by simp only [List.count_append, List.count_cons, List.count_nil, arenaObj, slotObj, nodeObj, worldObj] <;> omega))) (fun hHeld => ?_)
                                          clear hK K
                                          refine norm_ (a' := ?_) ?_ ?_
                                          rotate_left
                                          · show Act.put _ (some 16) _ = _
                                            simp only [Act.put, List.setIfInBounds_toArray, List.set_cons_zero, List.set_cons_succ, i64_w, i32_w]
                                            rfl
                                          exact norm_ (by first | (simp only [putAll, Act.put, List.setIfInBounds_toArray, List.set_cons_zero, List.set_cons_succ]; done) | (simp only [putAll, Act.put, List.setIfInBounds_toArray, List.set_cons_zero, List.set_cons_succ]; rfl)) (hJ0_8_18 ⟨b0_, ⟨A8_, c8_, L8_⟩, b18_⟩ _ ⟨hHeld, h3_, r8_, e2_⟩)
                                    · skip
                                      rintro ⟨b0_, b9_, b18_⟩ x_ ⟨hHeld, h_, e_⟩
                                      refine norm_ (a' := ?_) ?_ ?_
                                      rotate_left
                                      · simp only [putAll, Act.put, List.setIfInBounds_toArray, List.set_cons_zero, List.set_cons_succ]
                                        rfl
                                      refine one_ (i := 8) (N := some 110) #[true, true, true, true, true, true, true, true, true, true, true, true, true, true, true, true, false, false, true, false] rfl rfl (by kernel_rfl) (by decide) (fun K hK => ?_)
                                      have hp_ := h_.perm (L' := [] ++ ([(b0_, Obj.cells #[] 2)] ++ ([(b9_, Obj.cells #[] 31)] ++ ([(b18_, shO false false nil0 nil0 nil0)] ++ ([] ++ (Lu ++ (Lq ++ ([(vb + 1, shO false false nil0 nil0 nil0)] ++ (M ++ (N ++ (R))))))))))) (perm_of_count fun x => by simp only [List.count_append, List.count_cons, List.count_nil, arenaObj, slotObj, nodeObj, worldObj] <;> omega)
                                      refine append_to (.tmp 102) (.tmp 109) 22 (by rfl) rfl rfl el_int (Row.nil 2 1 (some ⟨b0_, 0, none⟩)) hp_ rfl (Rd.srcK (h_.knows (L0 := N ++ R) (sub_of_count fun x => by simp only [List.count_append, List.count_cons, List.count_nil, arenaObj, slotObj, nodeObj, worldObj] <;> omega)) (fun _ h => h) HK.out.1 HK.out.2.1) (gn - 1) (by omega) ha63.out ha8.out ?_
                                      intro v_ y_ L8_ r8_ h2_ e2_
                                      obtain ⟨A8_, c8_, rfl⟩ := r8_.shape
                                      have e2_ := e_.trans e2_
                                      have h3_ := h2_.perm (L' := [(b0_, Obj.cells #[] 2)] ++ ([(b9_, Obj.cells #[] 31)] ++ ([(b18_, shO false false nil0 nil0 nil0)] ++ (L8_ ++ ([] ++ (Lu ++ (Lq ++ ([(vb + 1, shO false false nil0 nil0 nil0)] ++ (M ++ (N ++ (R))))))))))) (perm_of_count fun x => by simp only [List.count_append, List.count_cons, List.count_nil, arenaObj, slotObj, nodeObj, worldObj] <;> omega)
                                      refine hK.out _ _ ((h3_.knows (sub_of_count fun x => by simp only [List.count_append, List.count_cons, List.count_nil, arenaObj, slotObj, nodeObj, worldObj] <;> omega))) (fun hHeld => ?_)
                                      clear hK K
                                      refine norm_ (a' := ?_) ?_ ?_
                                      rotate_left
                                      · show Act.put _ (some 110) _ = _
                                        simp only [Act.put, List.setIfInBounds_toArray, List.set_cons_zero, List.set_cons_succ, i64_w, i32_w]
                                        rfl
                                      exact norm_ (by first | (simp only [putAll, Act.put, List.setIfInBounds_toArray, List.set_cons_zero, List.set_cons_succ]; done) | (simp only [putAll, Act.put, List.setIfInBounds_toArray, List.set_cons_zero, List.set_cons_succ]; rfl)) (hJ0_8_9_18 ⟨b0_, ⟨A8_, c8_, L8_⟩, b9_, b18_⟩ _ ⟨hHeld, h3_, r8_, e2_⟩)
                                  · skip
                                    rintro ⟨b0_, ⟨A8_, c8_, L8_⟩, b18_⟩ x_ ⟨hHeld, h_, r8_, e_⟩
                                    refine norm_ (a' := ?_) ?_ ?_
                                    rotate_left
                                    · simp only [putAll, Act.put, List.setIfInBounds_toArray, List.set_cons_zero, List.set_cons_succ]
                                      rfl
                                    refine one_ (i := 9) (N := some 111) #[true, true, true, true, true, true, true, true, true, true, true, true, true, true, true, true, false, false, true, false] rfl rfl (by kernel_rfl) (by decide) (fun K hK => ?_)
                                    refine value_ (w1 := ?_) (v := ?_) (by rfl) rfl ?_ ?_
                                    rotate_left 2
                                    · go_simp
                                      constructor
                                      · rfl
                                      · rfl
                                    have h2_ := h_.alloc (Obj.cells #[] 31)
                                    have e2_ := e_.alloc (Obj.cells #[] 31)
                                    generalize World.alloc x_ _ = y_ at h2_ e2_ ⊢
                                    generalize x_.heap.size = b9_ at h2_ ⊢
                                    have h3_ := h2_.perm (L' := [(b0_, Obj.cells #[] 2)] ++ ([(b9_, Obj.cells #[] 31)] ++ ([(b18_, shO false false nil0 nil0 nil0)] ++ (L8_ ++ ([] ++ (Lu ++ (Lq ++ ([(vb + 1, shO false false nil0 nil0 nil0)] ++ (M ++ (N ++ (R))))))))))) (perm_of_count fun x => by simp only [List.count_append, List.count_cons, List.count_nil, arenaObj, slotObj, nodeObj, worldObj] <;> omega)
                                    refine hK.out _ _ ((h3_.knows (sub_of_count fun x => by simp only [List.count_append, List.count_cons, List.count_nil, arenaObj, slotObj, nodeObj, worldObj] <;> omega))) (fun hHeld => ?_)
                                    clear hK K
                                    refine norm_ (a' := ?_) ?_ ?_
                                    rotate_left
                                    · show Act.put _ (some 111) _ = _
                                      simp only [Act.put, List.setIfInBounds_toArray, List.set_cons_zero, List.set_cons_succ, i64_w, i32_w]
                                      rfl
                                    exact norm_ (by first | (simp only [putAll, Act.put, List.setIfInBounds_toArray, List.set_cons_zero, List.set_cons_succ]; done) | (simp only [putAll, Act.put, List.setIfInBounds_toArray, List.set_cons_zero, List.set_cons_succ]; rfl)) (hJ0_8_9_18 ⟨b0_, ⟨A8_, c8_, L8_⟩, b9_, b18_⟩ _ ⟨hHeld, h3_, r8_, e2_⟩)
                                · skip
                                  rintro ⟨b0_, ⟨A8_, c8_, L8_⟩, b9_⟩ x_ ⟨hHeld, h_, r8_, e_⟩
                                  refine norm_ (a' := ?_) ?_ ?_
                                  rotate_left
                                  · simp only [putAll, Act.put, List.setIfInBounds_toArray, List.set_cons_zero, List.set_cons_succ]
                                    rfl
                                  refine two_ (i := 16) (j := 18) (Ni := some 118) (Nj := some 16) #[true, true, true, true, true, true, true, true, true, true, true, true, true, true, true, true, true, false, false, false] #[true, true, true, true, true, true, true, true, true, true, true, true, true, true, true, true, false, false, true, false] rfl rfl rfl rfl (by kernel_rfl) (by decide) (by decide) (fun K hK => ?_) (fun K hK => ?_)
                                  · skip
                                    have hp_ := h_.perm (L' := [] ++ ([(b0_, Obj.cells #[] 2)] ++ ([(b9_, Obj.cells #[] 31)] ++ (L8_ ++ (Lu ++ (Lq ++ ([(vb + 1, shO false false nil0 nil0 nil0)] ++ (M ++ (N ++ (R)))))))))) (perm_of_count fun x => by simp only [List.count_append, List.count_cons, List.count_nil, arenaObj, slotObj, nodeObj, worldObj] <;> omega)
                                    refine append_to (.tmp 111) (.tmp 117) 29 (by rfl) rfl rfl el_shape (Row.nil 31 5 (some ⟨b9_, 0, none⟩)) hp_ rfl (Rd.srcK (h_.knows (L0 := N ++ R) (sub_of_count fun x => by simp only [List.count_append, List.count_cons, List.count_nil, arenaObj, slotObj, nodeObj, worldObj] <;> omega)) (fun _ h => h) HK.out.2.2.1 HK.out.2.2.2) (gn) (by omega) hb63.out hb80.out ?_
                                    intro v_ y_ L16_ r16_ h2_ e2_
                                    obtain ⟨A16_, c16_, rfl⟩ := r16_.shape
                                    have e2_ := e_.trans e2_
                                    have h3_ := h2_.perm (L' := [(b0_, Obj.cells #[] 2)] ++ ([(b9_, Obj.cells #[] 31)] ++ (L8_ ++ (L16_ ++ (Lu ++ (Lq ++ ([(vb + 1, shO false false nil0 nil0 nil0)] ++ (M ++ (N ++ (R)))))))))) (perm_of_count fun x => by simp only [List.count_append, List.count_cons, List.count_nil, arenaObj, slotObj, nodeObj, worldObj] <;> omega)
                                    refine hK.out _ _ ((h3_.knows (sub_of_count fun x => by simp only [List.count_append, List.count_cons, List.count_nil, arenaObj, slotObj, nodeObj, worldObj] <;> omega))) (fun hHeld => ?_)
                                    clear hK K
                                    refine norm_ (a' := ?_) ?_ ?_
                                    rotate_left
                                    · show Act.put _ (some 118) _ = _
                                      simp only [Act.put, List.setIfInBounds_toArray, List.set_cons_zero, List.set_cons_succ, i64_w, i32_w]
                                      rfl
                                    refine pure_ (i := 17) (N := some 119) (v := ?_) (a' := ?_) #[true, true, true, true, true, true, true, true, true, true, true, true, true, true, true, true, true, true, false, false] rfl rfl (by kernel_rfl) (fun _ _ _ h => h) (Or.inl ⟨by rfl, ?_⟩) ?_ ?_
                                    rotate_left
                                    · intro w'
                                      go_simp
                                      with_reducible rfl
                                    rotate_left
                                    · simp only [Act.put, List.setIfInBounds_toArray, List.set_cons_zero, List.set_cons_succ, i64_w, i32_w]
                                      rfl
                                    exact norm_ (by first | (simp only [putAll, Act.put, List.setIfInBounds_toArray, List.set_cons_zero, List.set_cons_succ]; done) | (simp only [putAll, Act.put, List.setIfInBounds_toArray, List.set_cons_zero, List.set_cons_succ]; rfl)) (hJ0_8_9_16 ⟨b0_, ⟨A8_, c8_, L8_⟩, b9_, ⟨A16_, c16_, L16_⟩⟩ _ ⟨hHeld, h3_, r8_, r16_, e2_⟩)
                                  · skip
                                    refine value_ (w1 := ?_) (v := ?_) (by rfl) rfl ?_ ?_
                                    rotate_left 2
                                    · go_simp
                                      constructor
                                      · rfl
                                      · rfl
                                    have h2_ := h_.alloc (shO false false nil0 nil0 nil0)
                                    have e2_ := e_.alloc (shO false false nil0 nil0 nil0)
                                    generalize World.alloc x_ _ = y_ at h2_ e2_ ⊢
                                    generalize x_.heap.size = b18_ at h2_ ⊢
                                    have h3_ := h2_.perm (L' := [(b0_, Obj.cells #[] 2)] ++ ([(b9_, Obj.cells #[] 31)] ++ ([(b18_, shO false false nil0 nil0 nil0)] ++ (L8_ ++ ([] ++ (Lu ++ (Lq ++ ([(vb + 1, shO false false nil0 nil0 nil0)] ++ (M ++ (N ++ (R))))))))))) (perm_of_count fun x => by simp only [List.count_append, List.count_cons, List.count_nil, arenaObj, slotObj, nodeObj, worldObj] <;> omega)
                                    refine hK.out _ _ ((h3_.knows (sub_of_count fun x => by simp only [List.count_append, List.count_cons, List.count_nil, arenaObj, slotObj, nodeObj, worldObj] <;> omega))) (fun hHeld => ?_)
                                    clear hK K
                                    refine norm_ (a' := ?_) ?_ ?_
                                    rotate_left
                                    · show Act.put _ (some 16) _ = _
                                      simp only [Act.put, List.setIfInBounds_toArray, List.set_cons_zero, List.set_cons_succ, i64_w, i32_w]
                                      rfl
                                    exact norm_ (by first | (simp only [putAll, Act.put, List.setIfInBounds_toArray, List.set_cons_zero, List.set_cons_succ]; done) | (simp only [putAll, Act.put, List.setIfInBounds_toArray, List.set_cons_zero, List.set_cons_succ]; rfl)) (hJ0_8_9_18 ⟨b0_, ⟨A8_, c8_, L8_⟩, b9_, b18_⟩ _ ⟨hHeld, h3_, r8_, e2_⟩)
                              · skip
                                rintro ⟨b0_, ⟨A8_, c8_, L8_⟩, b9_, b18_⟩ x_ ⟨hHeld, h_, r8_, e_⟩
                                refine norm_ (a' := ?_) ?_ ?_
                                rotate_left
                                · simp only [putAll, Act.put, List.setIfInBounds_toArray, List.set_cons_zero, List.set_cons_succ]
                                  rfl
                                refine one_ (i := 16) (N := some 118) #[true, true, true, true, true, true, true, true, true, true, true, true, true, true, true, true, true, false, true, false] rfl rfl (by kernel_rfl) (by decide) (fun K hK => ?_)
                                have hp_ := h_.perm (L' := [] ++ ([(b0_, Obj.cells #[] 2)] ++ ([(b9_, Obj.cells #[] 31)] ++ ([(b18_, shO false false nil0 nil0 nil0)] ++ (L8_ ++ (Lu ++ (Lq ++ ([(vb + 1, shO false false nil0 nil0 nil0)] ++ (M ++ (N ++ (R))))))))))) (perm_of_count fun x => by simp only [List.count_append, List.count_cons, List.count_nil, arenaObj, slotObj, nodeObj, worldObj] <;> omega)
                                refine append_to (.tmp 111) (.tmp 117) 29 (by rfl) rfl rfl el_shape (Row.nil 31 5 (some ⟨b9_, 0, none⟩)) hp_ rfl (Rd.srcK (h_.knows (L0 := N ++ R) (sub_of_count fun x => by simp only [List.count_append, List.count_cons, List.count_nil, arenaObj, slotObj, nodeObj, worldObj] <;> omega)) (fun _ h => h) HK.out.2.2.1 HK.out.2.2.2) (gn) (by omega) hb63.out hb80.out ?_
                                intro v_ y_ L16_ r16_ h2_ e2_
                                obtain ⟨A16_, c16_, rfl⟩ := r16_.shape
                                have e2_ := e_.trans e2_
                                have h3_ := h2_.perm (L' := [(b0_, Obj.cells #[] 2)] ++ ([(b9_, Obj.cells #[] 31)] ++ ([(b18_, shO false false nil0 nil0 nil0)] ++ (L8_ ++ (L16_ ++ (Lu ++ (Lq ++ ([(vb + 1, shO false false nil0 nil0 nil0)] ++ (M ++ (N ++ (R))))))))))) (perm_of_count fun x => by simp only [List.count_append, List.count_cons, List.count_nil, arenaObj, slotObj, nodeObj, worldObj] <;> omega)
                                refine hK.out _ _ ((h3_.knows (sub_of_count fun x => by simp only [List.count_append, List.count_cons, List.count_nil, arenaObj, slotObj, nodeObj, worldObj] <;> omega))) (fun hHeld => ?_)
                                clear hK K
                                refine norm_ (a' := ?_) ?_ ?_
                                rotate_left
                                · show Act.put _ (some 118) _ = _
                                  simp only [Act.put, List.setIfInBounds_toArray, List.set_cons_zero, List.set_cons_succ, i64_w, i32_w]
                                  rfl
                                refine pure_ (i := 17) (N := some 119) (v := ?_) (a' := ?_) #[true, true, true, true, true, true, true, true, true, true, true, true, true, true, true, true, true, true, true, false] rfl rfl (by kernel_rfl) (fun _ _ _ h => h) (Or.inl ⟨by rfl, ?_⟩) ?_ ?_
                                rotate_left
                                · intro w'
                                  go_simp
                                  with_reducible rfl
                                rotate_left
                                · simp only [Act.put, List.setIfInBounds_toArray, List.set_cons_zero, List.set_cons_succ, i64_w, i32_w]
                                  rfl
                                exact norm_ (by first | (simp only [putAll, Act.put, List.setIfInBounds_toArray, List.set_cons_zero, List.set_cons_succ]; done) | (simp only [putAll, Act.put, List.setIfInBounds_toArray, List.set_cons_zero, List.set_cons_succ]; rfl)) (hJ0_8_9_16_18 ⟨b0_, ⟨A8_, c8_, L8_⟩, b9_, ⟨A16_, c16_, L16_⟩, b18_⟩ _ ⟨hHeld, h3_, r8_, r16_, e2_⟩)
                            · skip
                              rintro ⟨b0_, ⟨A8_, c8_, L8_⟩, b9_, ⟨A16_, c16_, L16_⟩⟩ x_ ⟨hHeld, h_, r8_, r16_, e_⟩
                              refine norm_ (a' := ?_) ?_ ?_
                              rotate_left
                              · simp only [putAll, Act.put, List.setIfInBounds_toArray, List.set_cons_zero, List.set_cons_succ]
                                rfl
                              refine one_ (i := 18) (N := some 16) #[true, true, true, true, true, true, true, true, true, true, true, true, true, true, true, true, true, true, true, false] rfl rfl (by kernel_rfl) (by decide) (fun K hK => ?_)
                              refine value_ (w1 := ?_) (v := ?_) (by rfl) rfl ?_ ?_
                              rotate_left 2
                              · go_simp
                                constructor
                                · rfl
                                · rfl
                              have h2_ := h_.alloc (shO false false nil0 nil0 nil0)
                              have e2_ := e_.alloc (shO false false nil0 nil0 nil0)
                              generalize World.alloc x_ _ = y_ at h2_ e2_ ⊢
                              generalize x_.heap.size = b18_ at h2_ ⊢
                              have h3_ := h2_.perm (L' := [(b0_, Obj.cells #[] 2)] ++ ([(b9_, Obj.cells #[] 31)] ++ ([(b18_, shO false false nil0 nil0 nil0)] ++ (L8_ ++ (L16_ ++ (Lu ++ (Lq ++ ([(vb + 1, shO false false nil0 nil0 nil0)] ++ (M ++ (N ++ (R))))))))))) (perm_of_count fun x => by simp only [List.count_append, List.count_cons, List.count_nil, arenaObj, slotObj, nodeObj, worldObj] <;> omega)
                              refine hK.out _ _ ((h3_.knows (sub_of_count fun x => by simp only [List.count_append, List.count_cons, List.count_nil, arenaObj, slotObj, nodeObj, worldObj] <;> omega))) (fun hHeld => ?_)
                              clear hK K
                              refine norm_ (a' := ?_) ?_ ?_
                              rotate_left
                              · show Act.put _ (some 16) _ = _
                                simp only [Act.put, List.setIfInBounds_toArray, List.set_cons_zero, List.set_cons_succ, i64_w, i32_w]
                                rfl
                              exact norm_ (by first | (simp only [putAll, Act.put, List.setIfInBounds_toArray, List.set_cons_zero, List.set_cons_succ]; done) | (simp only [putAll, Act.put, List.setIfInBounds_toArray, List.set_cons_zero, List.set_cons_succ]; rfl)) (hJ0_8_9_16_18 ⟨b0_, ⟨A8_, c8_, L8_⟩, b9_, ⟨A16_, c16_, L16_⟩, b18_⟩ _ ⟨hHeld, h3_, r8_, r16_, e2_⟩)
                          rintro ⟨m0, ⟨A8, c8, L8⟩, m9, ⟨A16, c16, L16⟩, m18⟩ w4 ⟨hHeld, hW4, hr8, hr16, hE4⟩
                          obtain ⟨z0, z1, z2, z3, z4⟩ := hW4.five (b := m18) (l := false) (t := false) (p := nil0) (k := nil0) (c := nil0) (by simp)
                          have zf := hW4.free (b := m18) (c := #[.bool false, .bool false, nil0, nil0, nil0]) (t := 31) (by simp)
                          refine norm_ (a' := ?_) ?_ ?_
                          rotate_left
                          · simp only [putAll, Act.put, List.setIfInBounds_toArray, List.set_cons_zero, List.set_cons_succ]
                            rfl
                          refine last_ (i := 19) (N := none) #[true, true, true, true, true, true, true, true, true, true, true, true, true, true, true, true, true, true, true, true] rfl rfl (by kernel_rfl) (by decide) (fun K hK => ?_)
                          refine skip_ (w1 := ?_) (by rfl) rfl ?_ ?_
                          rotate_left
                          · go_simp
                            rfl
                          refine hK.out _ _ ?_
                          clear hK K
                          refine done_ (by kernel_rfl) ?_
                          have hW5 := (hW4.perm (L' := (m18, shO false false nil0 nil0 nil0) :: (Lu ++ (Lq ++ ((vb + 1, shO false false nil0 nil0 nil0) :: ((L8 ++ (L16 ++ [(m0, Obj.cells #[] 2), (m9, Obj.cells #[] 31)])) ++ (M ++ (N ++ R))))))) (perm_of_count fun x => by simp only [List.count_append, List.count_cons, List.count_nil, arenaObj, slotObj, nodeObj, worldObj]; omega)).set5 false false nil0 (.slice A8 (gn - 1) c8) (.slice A16 gn c16)
                          have hE5 := hE4.set5 m18 false false nil0 (.slice A8 (gn - 1) c8) (.slice A16 gn c16)
                          unfold Go.Proofs.Ytjkfigkgeoacfaa.set5 at hW5 hE5
                          generalize World.setCell _ _ _ = w5 at hW5 hE5 ⊢
                          generalize ((if cf = i + 1 then some ⟨gk, ok, none⟩ else some ⟨gk, ok + (i + 1), none⟩) : Option Addr) = AX
                          generalize ((if cr = i then some ⟨g, off, none⟩ else some ⟨g, off + i * 5, none⟩) : Option Addr) = AY
                          go_wp2_with fail
                          go_meet
                          refine ⟨m18, A8, c8, A16, c16, L8 ++ (L16 ++ [(m0, Obj.cells #[] 2), (m9, Obj.cells #[] 31)]), rfl, ?_, hW5, hE5⟩
                          clear l1 l2
                          refine ShRep.mk (css := (css.drop i).take gn) (rd_nil _ _ _ _ _ (fits_of (by simp))) ?_ ?_ ?_ (((hS.sh.drop i).take gn).mono (sub_of_count fun x => by simp only [List.count_append, List.count_cons, List.count_nil, arenaObj, slotObj, nodeObj, worldObj] <;> omega)).2
                          · refine ((hr8.rd []).mono (fun q hq => ?_)).cast rfl G12.out.1 ?_
                            · simp only [List.append_nil] at hq; simp only [List.mem_append]; exact .inl (.inl hq)
                            · rw [ints_take, ints_drop, ints_drop, List.drop_drop, List.nil_append, Nat.mul_one, Nat.mul_one]
                          · refine ((hr16.rd []).mono (fun q hq => ?_)).cast rfl G12.out.2 ?_
                            · simp only [List.append_nil] at hq; simp only [List.mem_append]; exact .inl (.inr (.inl hq))
                            · rw [List.nil_append, flat5_drop hS.sh.five, flat5_take (fun cs hm => hS.sh.five cs (List.mem_of_mem_drop hm))]
                          · rw [List.length_take, List.length_take, List.length_drop, List.length_drop, hS.sh.1]
                        case rest =>
                          obtain ⟨bn, Ak', ck', Ac', cc', Lz, rfl, hsz, hWz, hEz⟩ := hcut
                          clear hW hE c4 hvm
                          have hpoN : (vb, PO) ∈ N := hS.po
                          have hvm : (vb, PO) ∈ ((bn, shO false false nil0 (.slice Ak' (gn - 1) ck') (.slice Ac' gn cc')) :: (Lu ++ (Lq ++ ((vb + 1, shO false false nil0 nil0 nil0) :: (Lz ++ (M ++ (N ++ R))))))) := by simp [hpoN]
                          obtain ⟨_, _, _, c4⟩ := KB.out.1 _ _ hWz hvm
                          have hat2 := at_nat (w := wc) (i := k') (ii := k') (hp.t.mono (R' := ((bn, shO false false nil0 (.slice Ak' (gn - 1) ck') (.slice Ac' gn cc')) :: (Lu ++ (Lq ++ ((vb + 1, shO false false nil0 nil0 nil0) :: (Lz ++ (M ++ (N ++ R)))))))) (fun q hq => by simp [hq])) hWz hp.bt (by have := hp.lt; omega) (by omega) rfl
                          have Hat := Lib.hid hat2
                          clear hat2
                          have hrow50 := hS.b2
                          have hg50 : gn ≤ 50 := by have := Hbk.out; omega
                          go_upto_region 28 with fail
                          go_cut [17] (fun v wx => v = .int .i64 (nAt p.tags k' : Int) ∧ wx = wc)
                          case first =>
                            go_wp2_with (go_at_call 36; refine Hat.out.mono ?_; rintro e w' ⟨rfl, rfl⟩)
                            go_meet
                            exact ⟨rfl, rfl⟩
                          case rest =>
                            obtain ⟨rfl, rfl⟩ := hcut
                            clear Hat c4 hvm
                            have hsl : (((firsts.drop i).drop 1).take (gn - 1)).length = gn - 1 := by have := Hbk.out; rw [List.length_take, List.length_drop, List.length_drop, hS.fl]; omega
                            have hsl2 : ((row.drop i).take gn).length = gn := by have := Hbk.out; rw [List.length_take, List.length_drop]; omega
                            have hbk := Hbk.out
                            have hgs : groupS p b k' gn (row.drop i) (firsts.drop i) = if nAt p.tags k' % 2 = 1 then (if nAt p.tags k' % 4 = 3 then taggedS (taggedS (.mk false false [] (((firsts.drop i).drop 1).take (gn - 1)) ((row.drop i).take gn)) (nAt p.tags k' / 4 % b)) (nAt p.tags k' / 8 % b) else taggedS (.mk false false [] (((firsts.drop i).drop 1).take (gn - 1)) ((row.drop i).take gn)) (nAt p.tags k' / 4 % b)) else .mk false false [] (((firsts.drop i).drop 1).take (gn - 1)) ((row.drop i).take gn) := rfl
                            have hx256 := (nAt_eq hp.bt k').2
                            generalize groupS p b k' gn (row.drop i) (firsts.drop i) = sN at Ht hgs
                            generalize nAt p.tags k' = x at hgs hx256 ⊢
                            obtain ⟨A0, z0, hsz', hWz'⟩ : ∃ (A0 : Option Addr) (z0 : Nat), ShRep (Lz ++ (M ++ N)) (shCells (Sh.mk false false [] (((firsts.drop i).drop 1).take (gn - 1)) ((row.drop i).take gn)) A0 z0 Ak' ck' Ac' cc') (Sh.mk false false [] (((firsts.drop i).drop 1).take (gn - 1)) ((row.drop i).take gn)) ∧
                                Has wc ((bn, shO ((Sh.mk false false [] (((firsts.drop i).drop 1).take (gn - 1)) ((row.drop i).take gn))).leaf ((Sh.mk false false [] (((firsts.drop i).drop 1).take (gn - 1)) ((row.drop i).take gn))).tagged (.slice A0 ((Sh.mk false false [] (((firsts.drop i).drop 1).take (gn - 1)) ((row.drop i).take gn))).pairs.length z0) (.slice Ak' ((Sh.mk false false [] (((firsts.drop i).drop 1).take (gn - 1)) ((row.drop i).take gn))).keys.length ck') (.slice Ac' ((Sh.mk false false [] (((firsts.drop i).drop 1).take (gn - 1)) ((row.drop i).take gn))).kids.length cc')) :: (Lu ++ (Lq ++ ((vb + 1, shO false false nil0 nil0 nil0) :: (Lz ++ (M ++ (N ++ R))))))) := by
                              refine ⟨none, 0, ?_, ?_⟩
                              · show ShRep _ [.bool false, .bool false, .slice none 0 0, .slice Ak' (((firsts.drop i).drop 1).take (gn - 1)).length ck', .slice Ac' ((row.drop i).take gn).length cc'] _
                                rw [hsl, hsl2]; exact hsz
                              · show Has wc ((bn, shO false false (.slice none 0 0) (.slice Ak' (((firsts.drop i).drop 1).take (gn - 1)).length ck') (.slice Ac' ((row.drop i).take gn).length cc')) :: _)
                                rw [hsl, hsl2]; exact hWz
                            have hks0 : (Sh.mk false false [] (((firsts.drop i).drop 1).take (gn - 1)) ((row.drop i).take gn)).keys.length + 1 = (Sh.mk false false [] (((firsts.drop i).drop 1).take (gn - 1)) ((row.drop i).take gn)).kids.length ∧ (Sh.mk false false [] (((firsts.drop i).drop 1).take (gn - 1)) ((row.drop i).take gn)).kids.length ≤ 50 := by
                              simp only [Sh.keys, Sh.kids]; rw [hsl, hsl2]; omega
                            clear hsz hWz hsl hsl2
                            generalize Sh.mk false false [] (((firsts.drop i).drop 1).take (gn - 1)) ((row.drop i).take gn) = s0 at hgs hsz' hWz' hks0
                            have HK := Lib.hid (And.intro hks0 (And.intro hgs hbk))
                            clear hks0 hgs hbk
                            go_upto_if 126 with fail
                            go_cut [16] (fun v wx => ∃ (A1 : Option Addr) (c1 : Nat) (A2 : Option Addr) (c2 : Nat) (A3 : Option Addr) (c3 : Nat) (Ly : HL), v = .pointer (some ⟨bn, 0, none⟩) ∧ ShRep (Ly ++ (M ++ N)) (shCells sN A1 c1 A2 c2 A3 c3) sN ∧
                              Has wx ((bn, shO sN.leaf sN.tagged (.slice A1 sN.pairs.length c1) (.slice A2 sN.keys.length c2) (.slice A3 sN.kids.length c3)) :: (Lu ++ (Lq ++ ((vb + 1, shO false false nil0 nil0 nil0) :: (Ly ++ (M ++ (N ++ R))))))) ∧ Ext w wx)
                            case first =>
                              by_cases h1 : x % 2 = 1
                              · have hd1 : (((x : Int) % 2) == 1) = true := by rw [beq_iff_eq]; omega
                                by_cases h3 : x % 4 = 3
                                · have hd3 : (((x : Int) % 4) == 3) = true := by rw [beq_iff_eq]; omega
                                  go_upto_region 30 with fail
                                  go_cut [16] (fun v wx => ∃ (A1 : Option Addr) (c1 : Nat) (A2 : Option Addr) (c2 : Nat) (A3 : Option Addr) (c3 : Nat) (Ly : HL), v = .pointer (some ⟨bn, 0, none⟩) ∧ ShRep (Ly ++ (M ++ N)) (shCells (taggedS s0 (x / 4 % b)) A1 c1 A2 c2 A3 c3) (taggedS s0 (x / 4 % b)) ∧
                                    Has wx ((bn, shO (taggedS s0 (x / 4 % b)).leaf (taggedS s0 (x / 4 % b)).tagged (.slice A1 (taggedS s0 (x / 4 % b)).pairs.length c1) (.slice A2 (taggedS s0 (x / 4 % b)).keys.length c2) (.slice A3 (taggedS s0 (x / 4 % b)).kids.length c3)) :: (Lu ++ (Lq ++ ((vb + 1, shO false false nil0 nil0 nil0) :: (Ly ++ (M ++ (N ++ R))))))) ∧ Ext w wx)
                                  case first =>
                                    skip
                                    obtain ⟨hks1, hks2⟩ := HK.out.1
                                    obtain ⟨qn, hqn⟩ : ∃ qn, qn = x / 4 := ⟨_, rfl⟩
                                    obtain ⟨jn, hjn⟩ : ∃ jn, jn = qn % b := ⟨_, rfl⟩
                                    have hjb : jn ≤ 1000 := by have := Nat.mod_lt qn (show b > 0 by omega); omega
                                    have hb0 : ¬ b = 0 := by omega
                                    have lj : (qn : Int).tmod (b : Int) = (jn : Int) := by rw [hjn]; exact tmod_nat qn b
                                    have hq5 : (x : Int) / 4 = (qn : Int) ∧ qn ≤ 1000000 := by omega
                                    have Hj := Lib.hid (And.intro hjn hqn)
                                    clear hjn hqn
                                    have vm : ∀ w, Knows w ((bn, shO s0.leaf s0.tagged (.slice A0 s0.pairs.length z0) (.slice Ak' s0.keys.length ck') (.slice Ac' s0.kids.length cc')) :: []) → (w.cell? ⟨bn, 0, none⟩ = some (.bool s0.leaf) ∧ w.cell? ⟨bn, 1, none⟩ = some (.bool s0.tagged) ∧ w.cell? ⟨bn, 2, none⟩ = some (.slice A0 s0.pairs.length z0) ∧ w.cell? ⟨bn, 3, none⟩ = some (.slice Ak' s0.keys.length ck') ∧ w.cell? ⟨bn, 4, none⟩ = some (.slice Ac' s0.kids.length cc')) := fun w hw => hw.five (b := bn) (l := s0.leaf) (t := s0.tagged) (by simp)
                                    have vm0 := fun w hw => (vm w hw).1
                                    have vm1 := fun w hw => (vm w hw).2.1
                                    have vm2 := fun w hw => (vm w hw).2.2.1
                                    have vm3 := fun w hw => (vm w hw).2.2.2.1
                                    have vm4 := fun w hw => (vm w hw).2.2.2.2
                                    clear vm
                                    have hT := tagged_any (w := wc.drew) (jj := (jn : Int)) (R := (bn, shO s0.leaf s0.tagged (.slice A0 s0.pairs.length z0) (.slice Ak' s0.keys.length ck') (.slice Ac' s0.kids.length cc')) :: (Lu ++ (Lq ++ ((vb + 1, shO false false nil0 nil0 nil0) :: (Lz ++ (M ++ (N ++ R))))))) hsz' (sub_of_count fun x => by simp only [List.count_append, List.count_cons, List.count_nil, arenaObj, slotObj, nodeObj, worldObj] <;> omega) (.inl hks1) (by omega) (j := jn) hjb rfl hWz'.drew
                                    clear hks1 hks2 hjb
                                    have lq : wrap64 ((x : Int) / 4) = (qn : Int) := wrap64_nat hq5.1 hq5.2
                                    clear hq5
                                    refine start_ (n := 7) (S := fun w' => Knows w' ((bn, shO s0.leaf s0.tagged (.slice A0 s0.pairs.length z0) (.slice Ak' s0.keys.length ck') (.slice Ac' s0.kids.length cc')) :: [])) (ds := [6]) #[false, false, false, false, false, false, false] (by kernel_rfl) rfl rfl ((hWz'.drew.knows (sub_of_count fun x => by simp only [List.count_append, List.count_cons, List.count_nil, arenaObj, slotObj, nodeObj, worldObj] <;> omega))) (fun hHeld => ?_)
                                    refine pure_ (i := 1) (N := some 128) (v := ?_) (a' := ?_) #[false, true, false, false, false, false, false] rfl rfl (by kernel_rfl) (fun _ _ _ h => h) (Or.inl ⟨by rfl, ?_⟩) ?_ ?_
                                    rotate_left
                                    · intro w'
                                      go_simp
                                      with_reducible rfl
                                    rotate_left
                                    · simp only [Act.put, List.setIfInBounds_toArray, List.set_cons_zero, List.set_cons_succ, i64_w, i32_w]
                                      rfl
                                    refine pure_ (i := 2) (N := some 129) (v := ?_) (a' := ?_) #[false, true, true, false, false, false, false] rfl rfl (by kernel_rfl) (fun _ _ _ h => h) (Or.inl ⟨by rfl, ?_⟩) ?_ ?_
                                    rotate_left
                                    · intro w'
                                      go_simp
                                      with_reducible rfl
                                    rotate_left
                                    · simp only [Act.put, List.setIfInBounds_toArray, List.set_cons_zero, List.set_cons_succ, i64_w, i32_w]
                                      rfl
                                    refine pure_ (i := 3) (N := some 130) (v := ?_) (a' := ?_) #[false, true, true, true, false, false, false] rfl rfl (by kernel_rfl) (fun _ _ _ h => h) (Or.inl ⟨by rfl, ?_⟩) ?_ ?_
                                    rotate_left
                                    · intro w'
                                      go_simp
                                      with_reducible rfl
                                    rotate_left
                                    · simp only [Act.put, List.setIfInBounds_toArray, List.set_cons_zero, List.set_cons_succ, i64_w, i32_w]
                                      rfl
                                    refine pure_ (i := 4) (N := some 131) (v := ?_) (a' := ?_) #[false, true, true, true, true, false, false] rfl rfl (by kernel_rfl) (fun _ _ _ h => h) (Or.inl ⟨by rfl, ?_⟩) ?_ ?_
                                    rotate_left
                                    · intro w'
                                      go_simp
                                      with_reducible rfl
                                    rotate_left
                                    · simp only [Act.put, List.setIfInBounds_toArray, List.set_cons_zero, List.set_cons_succ, i64_w, i32_w]
                                      rfl
                                    refine take_ (i := 0) (N := some 127) (v := ?_) (a' := ?_) #[true, true, true, true, true, false, false] rfl rfl (by kernel_rfl) (fun _ _ _ h => h) (Or.inl ⟨by rfl, ?_⟩) hHeld ?_ ?_
                                    rotate_left
                                    · intro w' s0
                                      go_simp
                                      with_reducible rfl
                                    rotate_left
                                    · simp only [Act.put, List.setIfInBounds_toArray, List.set_cons_zero, List.set_cons_succ, i64_w, i32_w]
                                      rfl
                                    refine one_ (i := 5) (N := some 132) #[true, true, true, true, true, true, false] rfl rfl (by kernel_rfl) (by decide) (fun K hK => ?_)
                                    refine goes_ Try.func37 (by kernel_rfl) rfl #[.agg #[.bool s0.leaf, .bool s0.tagged, .slice A0 s0.pairs.length z0, .slice Ak' s0.keys.length ck', .slice Ac' s0.kids.length cc'], .int .i64 (jn : Int)] (by rfl) rfl rfl (by simp only [List.map_toArray, List.map_cons, List.map_nil]; rfl) ?_
                                    with_reducible refine (hT).mono ?_
                                    rintro e w1 ⟨cs1, N1, rfl, hs1, hw1, he1⟩
                                    refine ⟨_, rfl, ?_⟩
                                    obtain ⟨B1, d1, B2, d2, B3, d3, rfl⟩ := hs1.shape
                                    obtain ⟨y0, y1, y2, y3, y4⟩ := hw1.five (b := bn) (l := s0.leaf) (t := s0.tagged) (p := .slice A0 s0.pairs.length z0) (k := .slice Ak' s0.keys.length ck') (c := .slice Ac' s0.kids.length cc') (by simp)
                                    have yf := hw1.free (b := bn) (c := #[.bool s0.leaf, .bool s0.tagged, .slice A0 s0.pairs.length z0, .slice Ak' s0.keys.length ck', .slice Ac' s0.kids.length cc']) (t := 31) (by simp)
                                    refine hK.out _ _ ((hw1.knows (sub_of_count fun x => by simp only [List.count_append, List.count_cons, List.count_nil, arenaObj, slotObj, nodeObj, worldObj] <;> omega))) (fun hHeld => ?_)
                                    clear hK K
                                    refine norm_ (a' := ?_) ?_ ?_
                                    rotate_left
                                    · show Act.put _ (some 132) _ = _
                                      simp only [Act.put, List.setIfInBounds_toArray, List.set_cons_zero, List.set_cons_succ, i64_w, i32_w]
                                      rfl
                                    refine last_ (i := 6) (N := none) #[true, true, true, true, true, true, true] rfl rfl (by kernel_rfl) (by decide) (fun K hK => ?_)
                                    refine skip_ (w1 := ?_) (by rfl) rfl ?_ ?_
                                    rotate_left
                                    · go_simp
                                      rfl
                                    refine hK.out _ _ ?_
                                    clear hK K
                                    refine done_ (by kernel_rfl) ?_
                                    have hW5 := (hw1.perm (L' := (bn, shO s0.leaf s0.tagged (.slice A0 s0.pairs.length z0) (.slice Ak' s0.keys.length ck') (.slice Ac' s0.kids.length cc')) :: (Lu ++ (Lq ++ ((vb + 1, shO false false nil0 nil0 nil0) :: ((N1 ++ Lz) ++ (M ++ (N ++ R))))))) (perm_of_count fun x => by simp only [List.count_append, List.count_cons, List.count_nil, arenaObj, slotObj, nodeObj, worldObj]; omega)).set5 (taggedS s0 jn).leaf (taggedS s0 jn).tagged (.slice B1 (taggedS s0 jn).pairs.length d1) (.slice B2 (taggedS s0 jn).keys.length d2) (.slice B3 (taggedS s0 jn).kids.length d3)
                                    have hE5 := ((hEz.drew).trans he1).set5 bn (taggedS s0 jn).leaf (taggedS s0 jn).tagged (.slice B1 (taggedS s0 jn).pairs.length d1) (.slice B2 (taggedS s0 jn).keys.length d2) (.slice B3 (taggedS s0 jn).kids.length d3)
                                    unfold Go.Proofs.Ytjkfigkgeoacfaa.set5 at hW5 hE5
                                    generalize World.setCell _ _ _ = w5 at hW5 hE5 ⊢
                                    clear lq lj
                                    go_wp2_with fail
                                    go_meet
                                    have Hj2 : jn = x / 4 % b := by rw [Hj.out.1, Hj.out.2]
                                    clear Hj
                                    subst Hj2
                                    case rel => exact ⟨B1, d1, B2, d2, B3, d3, N1 ++ Lz, rfl, by rw [List.append_assoc]; exact hs1, hW5, hE5⟩
                                  case rest =>
                                    obtain ⟨A1, c1, A2, c2, A3, c3, Ly, rfl, hsz2, hWz2, hEz2⟩ := hcut
                                    clear hsz' hWz' hEz
                                    have hks1 := taggedS_lens s0 (x / 4 % b) HK.out.1
                                    have hgs := HK.out.2.1
                                    rw [if_pos h1, if_pos h3] at hgs
                                    generalize taggedS s0 (x / 4 % b) = s1 at hsz2 hWz2 hks1 hgs
                                    have HK2 := Lib.hid (And.intro hks1 hgs)
                                    clear hks1 hgs
                                    go_upto_region 32 with fail
                                    obtain ⟨hks1, hks2⟩ := HK2.out.1
                                    have hgs := HK2.out.2
                                    subst hgs
                                    obtain ⟨qn, hqn⟩ : ∃ qn, qn = x / 8 := ⟨_, rfl⟩
                                    obtain ⟨jn, hjn⟩ : ∃ jn, jn = qn % b := ⟨_, rfl⟩
                                    have hjb : jn ≤ 1000 := by have := Nat.mod_lt qn (show b > 0 by omega); omega
                                    have hb0 : ¬ b = 0 := by omega
                                    have lj : (qn : Int).tmod (b : Int) = (jn : Int) := by rw [hjn]; exact tmod_nat qn b
                                    have hq5 : (x : Int) / 8 = (qn : Int) ∧ qn ≤ 1000000 := by omega
                                    have Hj := Lib.hid (And.intro hjn hqn)
                                    clear hjn hqn
                                    have vm : ∀ w, Knows w ((bn, shO s1.leaf s1.tagged (.slice A1 s1.pairs.length c1) (.slice A2 s1.keys.length c2) (.slice A3 s1.kids.length c3)) :: []) → (w.cell? ⟨bn, 0, none⟩ = some (.bool s1.leaf) ∧ w.cell? ⟨bn, 1, none⟩ = some (.bool s1.tagged) ∧ w.cell? ⟨bn, 2, none⟩ = some (.slice A1 s1.pairs.length c1) ∧ w.cell? ⟨bn, 3, none⟩ = some (.slice A2 s1.keys.length c2) ∧ w.cell? ⟨bn, 4, none⟩ = some (.slice A3 s1.kids.length c3)) := fun w hw => hw.five (b := bn) (l := s1.leaf) (t := s1.tagged) (by simp)
                                    have vm0 := fun w hw => (vm w hw).1
                                    have vm1 := fun w hw => (vm w hw).2.1
                                    have vm2 := fun w hw => (vm w hw).2.2.1
                                    have vm3 := fun w hw => (vm w hw).2.2.2.1
                                    have vm4 := fun w hw => (vm w hw).2.2.2.2
                                    clear vm
                                    have hT := tagged_any (w := wc.drew) (jj := (jn : Int)) (R := (bn, shO s1.leaf s1.tagged (.slice A1 s1.pairs.length c1) (.slice A2 s1.keys.length c2) (.slice A3 s1.kids.length c3)) :: (Lu ++ (Lq ++ ((vb + 1, shO false false nil0 nil0 nil0) :: (Ly ++ (M ++ (N ++ R))))))) hsz2 (sub_of_count fun x => by simp only [List.count_append, List.count_cons, List.count_nil, arenaObj, slotObj, nodeObj, worldObj] <;> omega) (.inl hks1) (by omega) (j := jn) hjb rfl hWz2.drew
                                    clear hks1 hks2 hjb
                                    have lq : wrap64 ((x : Int) / 8) = (qn : Int) := wrap64_nat hq5.1 hq5.2
                                    clear hq5
                                    refine start_ (n := 7) (S := fun w' => Knows w' ((bn, shO s1.leaf s1.tagged (.slice A1 s1.pairs.length c1) (.slice A2 s1.keys.length c2) (.slice A3 s1.kids.length c3)) :: [])) (ds := [6]) #[false, false, false, false, false, false, false] (by kernel_rfl) rfl rfl ((hWz2.drew.knows (sub_of_count fun x => by simp only [List.count_append, List.count_cons, List.count_nil, arenaObj, slotObj, nodeObj, worldObj] <;> omega))) (fun hHeld => ?_)
                                    refine pure_ (i := 1) (N := some 137) (v := ?_) (a' := ?_) #[false, true, false, false, false, false, false] rfl rfl (by kernel_rfl) (fun _ _ _ h => h) (Or.inl ⟨by rfl, ?_⟩) ?_ ?_
                                    rotate_left
                                    · intro w'
                                      go_simp
                                      with_reducible rfl
                                    rotate_left
                                    · simp only [Act.put, List.setIfInBounds_toArray, List.set_cons_zero, List.set_cons_succ, i64_w, i32_w]
                                      rfl
                                    refine pure_ (i := 2) (N := some 138) (v := ?_) (a' := ?_) #[false, true, true, false, false, false, false] rfl rfl (by kernel_rfl) (fun _ _ _ h => h) (Or.inl ⟨by rfl, ?_⟩) ?_ ?_
                                    rotate_left
                                    · intro w'
                                      go_simp
                                      with_reducible rfl
                                    rotate_left
                                    · simp only [Act.put, List.setIfInBounds_toArray, List.set_cons_zero, List.set_cons_succ, i64_w, i32_w]
                                      rfl
                                    refine pure_ (i := 3) (N := some 139) (v := ?_) (a' := ?_) #[false, true, true, true, false, false, false] rfl rfl (by kernel_rfl) (fun _ _ _ h => h) (Or.inl ⟨by rfl, ?_⟩) ?_ ?_
                                    rotate_left
                                    · intro w'
                                      go_simp
                                      with_reducible rfl
                                    rotate_left
                                    · simp only [Act.put, List.setIfInBounds_toArray, List.set_cons_zero, List.set_cons_succ, i64_w, i32_w]
                                      rfl
                                    refine pure_ (i := 4) (N := some 140) (v := ?_) (a' := ?_) #[false, true, true, true, true, false, false] rfl rfl (by kernel_rfl) (fun _ _ _ h => h) (Or.inl ⟨by rfl, ?_⟩) ?_ ?_
                                    rotate_left
                                    · intro w'
                                      go_simp
                                      with_reducible rfl
                                    rotate_left
                                    · simp only [Act.put, List.setIfInBounds_toArray, List.set_cons_zero, List.set_cons_succ, i64_w, i32_w]
                                      rfl
                                    refine take_ (i := 0) (N := some 136) (v := ?_) (a' := ?_) #[true, true, true, true, true, false, false] rfl rfl (by kernel_rfl) (fun _ _ _ h => h) (Or.inl ⟨by rfl, ?_⟩) hHeld ?_ ?_
                                    rotate_left
                                    · intro w' s0
                                      go_simp
                                      with_reducible rfl
                                    rotate_left
                                    · simp only [Act.put, List.setIfInBounds_toArray, List.set_cons_zero, List.set_cons_succ, i64_w, i32_w]
                                      rfl
                                    refine one_ (i := 5) (N := some 141) #[true, true, true, true, true, true, false] rfl rfl (by kernel_rfl) (by decide) (fun K hK => ?_)
                                    refine goes_ Try.func37 (by kernel_rfl) rfl #[.agg #[.bool s1.leaf, .bool s1.tagged, .slice A1 s1.pairs.length c1, .slice A2 s1.keys.length c2, .slice A3 s1.kids.length c3], .int .i64 (jn : Int)] (by rfl) rfl rfl (by simp only [List.map_toArray, List.map_cons, List.map_nil]; rfl) ?_
                                    with_reducible refine (hT).mono ?_
                                    rintro e w1 ⟨cs1, N1, rfl, hs1, hw1, he1⟩
                                    refine ⟨_, rfl, ?_⟩
                                    obtain ⟨B1, d1, B2, d2, B3, d3, rfl⟩ := hs1.shape
                                    obtain ⟨y0, y1, y2, y3, y4⟩ := hw1.five (b := bn) (l := s1.leaf) (t := s1.tagged) (p := .slice A1 s1.pairs.length c1) (k := .slice A2 s1.keys.length c2) (c := .slice A3 s1.kids.length c3) (by simp)
                                    have yf := hw1.free (b := bn) (c := #[.bool s1.leaf, .bool s1.tagged, .slice A1 s1.pairs.length c1, .slice A2 s1.keys.length c2, .slice A3 s1.kids.length c3]) (t := 31) (by simp)
                                    refine hK.out _ _ ((hw1.knows (sub_of_count fun x => by simp only [List.count_append, List.count_cons, List.count_nil, arenaObj, slotObj, nodeObj, worldObj] <;> omega))) (fun hHeld => ?_)
                                    clear hK K
                                    refine norm_ (a' := ?_) ?_ ?_
                                    rotate_left
                                    · show Act.put _ (some 141) _ = _
                                      simp only [Act.put, List.setIfInBounds_toArray, List.set_cons_zero, List.set_cons_succ, i64_w, i32_w]
                                      rfl
                                    refine last_ (i := 6) (N := none) #[true, true, true, true, true, true, true] rfl rfl (by kernel_rfl) (by decide) (fun K hK => ?_)
                                    refine skip_ (w1 := ?_) (by rfl) rfl ?_ ?_
                                    rotate_left
                                    · go_simp
                                      rfl
                                    refine hK.out _ _ ?_
                                    clear hK K
                                    refine done_ (by kernel_rfl) ?_
                                    have hW5 := (hw1.perm (L' := (bn, shO s1.leaf s1.tagged (.slice A1 s1.pairs.length c1) (.slice A2 s1.keys.length c2) (.slice A3 s1.kids.length c3)) :: (Lu ++ (Lq ++ ((vb + 1, shO false false nil0 nil0 nil0) :: ((N1 ++ Ly) ++ (M ++ (N ++ R))))))) (perm_of_count fun x => by simp only [List.count_append, List.count_cons, List.count_nil, arenaObj, slotObj, nodeObj, worldObj]; omega)).set5 (taggedS s1 jn).leaf (taggedS s1 jn).tagged (.slice B1 (taggedS s1 jn).pairs.length d1) (.slice B2 (taggedS s1 jn).keys.length d2) (.slice B3 (taggedS s1 jn).kids.length d3)
                                    have hE5 := ((hEz2.drew).trans he1).set5 bn (taggedS s1 jn).leaf (taggedS s1 jn).tagged (.slice B1 (taggedS s1 jn).pairs.length d1) (.slice B2 (taggedS s1 jn).keys.length d2) (.slice B3 (taggedS s1 jn).kids.length d3)
                                    unfold Go.Proofs.Ytjkfigkgeoacfaa.set5 at hW5 hE5
                                    generalize World.setCell _ _ _ = w5 at hW5 hE5 ⊢
                                    clear lq lj
                                    go_wp2_with fail
                                    go_meet
                                    have Hj2 : jn = x / 8 % b := by rw [Hj.out.1, Hj.out.2]
                                    clear Hj
                                    subst Hj2
                                    case rel => exact ⟨B1, d1, B2, d2, B3, d3, N1 ++ Ly, rfl, by rw [List.append_assoc]; exact hs1, hW5, hE5⟩
                                · have hd3 : (((x : Int) % 4) == 3) = false := beq_false_of_ne (by omega)
                                  have hgs := HK.out.2.1
                                  rw [if_pos h1, if_neg h3] at hgs
                                  subst hgs
                                  go_upto_region 30 with fail
                                  go_cut [16] (fun v wx => ∃ (A1 : Option Addr) (c1 : Nat) (A2 : Option Addr) (c2 : Nat) (A3 : Option Addr) (c3 : Nat) (Ly : HL), v = .pointer (some ⟨bn, 0, none⟩) ∧ ShRep (Ly ++ (M ++ N)) (shCells (taggedS s0 (x / 4 % b)) A1 c1 A2 c2 A3 c3) (taggedS s0 (x / 4 % b)) ∧
                                    Has wx ((bn, shO (taggedS s0 (x / 4 % b)).leaf (taggedS s0 (x / 4 % b)).tagged (.slice A1 (taggedS s0 (x / 4 % b)).pairs.length c1) (.slice A2 (taggedS s0 (x / 4 % b)).keys.length c2) (.slice A3 (taggedS s0 (x / 4 % b)).kids.length c3)) :: (Lu ++ (Lq ++ ((vb + 1, shO false false nil0 nil0 nil0) :: (Ly ++ (M ++ (N ++ R))))))) ∧ Ext w wx)
                                  case first =>
                                    skip
                                    obtain ⟨hks1, hks2⟩ := HK.out.1
                                    obtain ⟨qn, hqn⟩ : ∃ qn, qn = x / 4 := ⟨_, rfl⟩
                                    obtain ⟨jn, hjn⟩ : ∃ jn, jn = qn % b := ⟨_, rfl⟩
                                    have hjb : jn ≤ 1000 := by have := Nat.mod_lt qn (show b > 0 by omega); omega
                                    have hb0 : ¬ b = 0 := by omega
                                    have lj : (qn : Int).tmod (b : Int) = (jn : Int) := by rw [hjn]; exact tmod_nat qn b
                                    have hq5 : (x : Int) / 4 = (qn : Int) ∧ qn ≤ 1000000 := by omega
                                    have Hj := Lib.hid (And.intro hjn hqn)
                                    clear hjn hqn
                                    have vm : ∀ w, Knows w ((bn, shO s0.leaf s0.tagged (.slice A0 s0.pairs.length z0) (.slice Ak' s0.keys.length ck') (.slice Ac' s0.kids.length cc')) :: []) → (w.cell? ⟨bn, 0, none⟩ = some (.bool s0.leaf) ∧ w.cell? ⟨bn, 1, none⟩ = some (.bool s0.tagged) ∧ w.cell? ⟨bn, 2, none⟩ = some (.slice A0 s0.pairs.length z0) ∧ w.cell? ⟨bn, 3, none⟩ = some (.slice Ak' s0.keys.length ck') ∧ w.cell? ⟨bn, 4, none⟩ = some (.slice Ac' s0.kids.length cc')) := fun w hw => hw.five (b := bn) (l := s0.leaf) (t := s0.tagged) (by simp)
                                    have vm0 := fun w hw => (vm w hw).1
                                    have vm1 := fun w hw => (vm w hw).2.1
                                    have vm2 := fun w hw => (vm w hw).2.2.1
                                    have vm3 := fun w hw => (vm w hw).2.2.2.1
                                    have vm4 := fun w hw => (vm w hw).2.2.2.2
                                    clear vm
                                    have hT := tagged_any (w := wc.drew) (jj := (jn : Int)) (R := (bn, shO s0.leaf s0.tagged (.slice A0 s0.pairs.length z0) (.slice Ak' s0.keys.length ck') (.slice Ac' s0.kids.length cc')) :: (Lu ++ (Lq ++ ((vb + 1, shO false false nil0 nil0 nil0) :: (Lz ++ (M ++ (N ++ R))))))) hsz' (sub_of_count fun x => by simp only [List.count_append, List.count_cons, List.count_nil, arenaObj, slotObj, nodeObj, worldObj] <;> omega) (.inl hks1) (by omega) (j := jn) hjb rfl hWz'.drew
                                    clear hks1 hks2 hjb
                                    have lq : wrap64 ((x : Int) / 4) = (qn : Int) := wrap64_nat hq5.1 hq5.2
                                    clear hq5
                                    refine start_ (n := 7) (S := fun w' => Knows w' ((bn, shO s0.leaf s0.tagged (.slice A0 s0.pairs.length z0) (.slice Ak' s0.keys.length ck') (.slice Ac' s0.kids.length cc')) :: [])) (ds := [6]) #[false, false, false, false, false, false, false] (by kernel_rfl) rfl rfl ((hWz'.drew.knows (sub_of_count fun x => by simp only [List.count_append, List.count_cons, List.count_nil, arenaObj, slotObj, nodeObj, worldObj] <;> omega))) (fun hHeld => ?_)
                                    refine pure_ (i := 1) (N := some 128) (v := ?_) (a' := ?_) #[false, true, false, false, false, false, false] rfl rfl (by kernel_rfl) (fun _ _ _ h => h) (Or.inl ⟨by rfl, ?_⟩) ?_ ?_
                                    rotate_left
                                    · intro w'
                                      go_simp
                                      with_reducible rfl
                                    rotate_left
                                    · simp only [Act.put, List.setIfInBounds_toArray, List.set_cons_zero, List.set_cons_succ, i64_w, i32_w]
                                      rfl
                                    refine pure_ (i := 2) (N := some 129) (v := ?_) (a' := ?_) #[false, true, true, false, false, false, false] rfl rfl (by kernel_rfl) (fun _ _ _ h => h) (Or.inl ⟨by rfl, ?_⟩) ?_ ?_
                                    rotate_left
                                    · intro w'
                                      go_simp
                                      with_reducible rfl
                                    rotate_left
                                    · simp only [Act.put, List.setIfInBounds_toArray, List.set_cons_zero, List.set_cons_succ, i64_w, i32_w]
                                      rfl
                                    refine pure_ (i := 3) (N := some 130) (v := ?_) (a' := ?_) #[false, true, true, true, false, false, false] rfl rfl (by kernel_rfl) (fun _ _ _ h => h) (Or.inl ⟨by rfl, ?_⟩) ?_ ?_
                                    rotate_left
                                    · intro w'
                                      go_simp
                                      with_reducible rfl
                                    rotate_left
                                    · simp only [Act.put, List.setIfInBounds_toArray, List.set_cons_zero, List.set_cons_succ, i64_w, i32_w]
                                      rfl
                                    refine pure_ (i := 4) (N := some 131) (v := ?_) (a' := ?_) #[false, true, true, true, true, false, false] rfl rfl (by kernel_rfl) (fun _ _ _ h => h) (Or.inl ⟨by rfl, ?_⟩) ?_ ?_
                                    rotate_left
                                    · intro w'
                                      go_simp
                                      with_reducible rfl
                                    rotate_left
                                    · simp only [Act.put, List.setIfInBounds_toArray, List.set_cons_zero, List.set_cons_succ, i64_w, i32_w]
                                      rfl
                                    refine take_ (i := 0) (N := some 127) (v := ?_) (a' := ?_) #[true, true, true, true, true, false, false] rfl rfl (by kernel_rfl) (fun _ _ _ h => h) (Or.inl ⟨by rfl, ?_⟩) hHeld ?_ ?_
                                    rotate_left
                                    · intro w' s0
                                      go_simp
                                      with_reducible rfl
                                    rotate_left
                                    · simp only [Act.put, List.setIfInBounds_toArray, List.set_cons_zero, List.set_cons_succ, i64_w, i32_w]
                                      rfl
                                    refine one_ (i := 5) (N := some 132) #[true, true, true, true, true, true, false] rfl rfl (by kernel_rfl) (by decide) (fun K hK => ?_)
                                    refine goes_ Try.func37 (by kernel_rfl) rfl #[.agg #[.bool s0.leaf, .bool s0.tagged, .slice A0 s0.pairs.length z0, .slice Ak' s0.keys.length ck', .slice Ac' s0.kids.length cc'], .int .i64 (jn : Int)] (by rfl) rfl rfl (by simp only [List.map_toArray, List.map_cons, List.map_nil]; rfl) ?_
                                    with_reducible refine (hT).mono ?_
                                    rintro e w1 ⟨cs1, N1, rfl, hs1, hw1, he1⟩
                                    refine ⟨_, rfl, ?_⟩
                                    obtain ⟨B1, d1, B2, d2, B3, d3, rfl⟩ := hs1.shape
                                    obtain ⟨y0, y1, y2, y3, y4⟩ := hw1.five (b := bn) (l := s0.leaf) (t := s0.tagged) (p := .slice A0 s0.pairs.length z0) (k := .slice Ak' s0.keys.length ck') (c := .slice Ac' s0.kids.length cc') (by simp)
                                    have yf := hw1.free (b := bn) (c := #[.bool s0.leaf, .bool s0.tagged, .slice A0 s0.pairs.length z0, .slice Ak' s0.keys.length ck', .slice Ac' s0.kids.length cc']) (t := 31) (by simp)
                                    refine hK.out _ _ ((hw1.knows (sub_of_count fun x => by simp only [List.count_append, List.count_cons, List.count_nil, arenaObj, slotObj, nodeObj, worldObj] <;> omega))) (fun hHeld => ?_)
                                    clear hK K
                                    refine norm_ (a' := ?_) ?_ ?_
                                    rotate_left
                                    · show Act.put _ (some 132) _ = _
                                      simp only [Act.put, List.setIfInBounds_toArray, List.set_cons_zero, List.set_cons_succ, i64_w, i32_w]
                                      rfl
                                    refine last_ (i := 6) (N := none) #[true, true, true, true, true, true, true] rfl rfl (by kernel_rfl) (by decide) (fun K hK => ?_)
                                    refine skip_ (w1 := ?_) (by rfl) rfl ?_ ?_
                                    rotate_left
                                    · go_simp
                                      rfl
                                    refine hK.out _ _ ?_
                                    clear hK K
                                    refine done_ (by kernel_rfl) ?_
                                    have hW5 := (hw1.perm (L' := (bn, shO s0.leaf s0.tagged (.slice A0 s0.pairs.length z0) (.slice Ak' s0.keys.length ck') (.slice Ac' s0.kids.length cc')) :: (Lu ++ (Lq ++ ((vb + 1, shO false false nil0 nil0 nil0) :: ((N1 ++ Lz) ++ (M ++ (N ++ R))))))) (perm_of_count fun x => by simp only [List.count_append, List.count_cons, List.count_nil, arenaObj, slotObj, nodeObj, worldObj]; omega)).set5 (taggedS s0 jn).leaf (taggedS s0 jn).tagged (.slice B1 (taggedS s0 jn).pairs.length d1) (.slice B2 (taggedS s0 jn).keys.length d2) (.slice B3 (taggedS s0 jn).kids.length d3)
                                    have hE5 := ((hEz.drew).trans he1).set5 bn (taggedS s0 jn).leaf (taggedS s0 jn).tagged (.slice B1 (taggedS s0 jn).pairs.length d1) (.slice B2 (taggedS s0 jn).keys.length d2) (.slice B3 (taggedS s0 jn).kids.length d3)
                                    unfold Go.Proofs.Ytjkfigkgeoacfaa.set5 at hW5 hE5
                                    generalize World.setCell _ _ _ = w5 at hW5 hE5 ⊢
                                    clear lq lj
                                    go_wp2_with fail
                                    go_meet
                                    have Hj2 : jn = x / 4 % b := by rw [Hj.out.1, Hj.out.2]
                                    clear Hj
                                    subst Hj2
                                    case rel => exact ⟨B1, d1, B2, d2, B3, d3, N1 ++ Lz, rfl, by rw [List.append_assoc]; exact hs1, hW5, hE5⟩
                                  case rest =>
                                    obtain ⟨A1, c1, A2, c2, A3, c3, Ly, rfl, hsz2, hWz2, hEz2⟩ := hcut
                                    clear hsz' hWz' hEz
                                    go_wp2
                                    go_meet
                                    exact ⟨A1, c1, A2, c2, A3, c3, Ly, rfl, hsz2, hWz2, hEz2⟩
                              · have hd1 : (((x : Int) % 2) == 1) = false := beq_false_of_ne (by omega)
                                have hgs := HK.out.2.1
                                rw [if_neg h1] at hgs
                                subst hgs
                                go_wp2
                                go_meet
                                exact ⟨A0, z0, Ak', ck', Ac', cc', Lz, rfl, hsz', hWz', hEz⟩
                            case rest =>
                              obtain ⟨A1, c1, A2, c2, A3, c3, Ly, rfl, hsz2, hWz2, hEz2⟩ := hcut
                              clear hsz' hWz' hEz
                              have hpos := hS.pos
                              obtain ⟨x0, hx0⟩ : ∃ x0, firsts[i]? = some x0 := ⟨_, List.getElem?_eq_getElem (by rw [hS.fl]; exact hlt)⟩
                              have hhd : (firsts.drop i).headD 0 = x0 := by rw [List.headD_eq_head?_getD, List.head?_drop, hx0]; rfl
                              obtain ⟨gk, ok, cf', hef, hcf, _, hkc⟩ := hS.rf.known hpos
                              cases hef
                              have kk : ∀ w, Knows w ((bn, shO sN.leaf sN.tagged (.slice A1 sN.pairs.length c1) (.slice A2 sN.keys.length c2) (.slice A3 sN.kids.length c3)) :: (N ++ R)) → w.cell? ⟨gk, ok + i, none⟩ = some (.int .i64 x0) := fun w hw => hkc w _ hw (fun p hp => List.mem_cons_of_mem _ hp) _ _ (by simp [ints, hx0])
                              have vm : ∀ w, Knows w ((bn, shO sN.leaf sN.tagged (.slice A1 sN.pairs.length c1) (.slice A2 sN.keys.length c2) (.slice A3 sN.kids.length c3)) :: (N ++ R)) → (w.cell? ⟨bn, 0, none⟩ = some (.bool sN.leaf) ∧ w.cell? ⟨bn, 1, none⟩ = some (.bool sN.tagged) ∧ w.cell? ⟨bn, 2, none⟩ = some (.slice A1 sN.pairs.length c1) ∧ w.cell? ⟨bn, 3, none⟩ = some (.slice A2 sN.keys.length c2) ∧ w.cell? ⟨bn, 4, none⟩ = some (.slice A3 sN.kids.length c3)) := fun w hw => hw.five (b := bn) (l := sN.leaf) (t := sN.tagged) (by simp)
                              have vm0 := fun w hw => (vm w hw).1
                              have vm1 := fun w hw => (vm w hw).2.1
                              have vm2 := fun w hw => (vm w hw).2.2.1
                              have vm3 := fun w hw => (vm w hw).2.2.2.1
                              have vm4 := fun w hw => (vm w hw).2.2.2.2
                              have hgn := HK.out.2.2.2.2
                              have hrl := HK.out.2.2.2.1
                              have hbu := hQ.b2
                              have h63a : Hid (up.length + 1 ≤ maxLen) := Lib.hid (by simp [maxLen]; omega)
                              have hba : Hid ((up.length + 1) * 80 ≤ 140737488355328) := Lib.hid (by omega)
                              have hbb : Hid ((up.length + 1) * 8 ≤ 140737488355328) := Lib.hid (by omega)
                              have HR := Lib.hid (And.intro hQ.ru hQ.rq)
                              have Hhd := Lib.hid (And.intro hhd (And.intro hgn hrl))
                              have i1 : (i : Int) + gn ≤ 50 := by omega
                              have i2 : 0 ≤ (i : Int) + gn := by omega
                              clear vm hkc hhd hgn hrl
                              go_upto_region 33 with fail
                              go_cut [12, 13] (fun v1 v2 wx => ∃ (B3 : Option Addr) (d3 : Nat) (B10 : Option Addr) (d10 : Nat) (L3 L10 Lw : HL), v1 = .slice B3 (up.length + 1) d3 ∧ v2 = .slice B10 (up.length + 1) d10 ∧ Row 31 5 (.slice B3 (up.length + 1) d3) (up.length + 1) (cssu.flatten ++ shCells sN A1 c1 A2 c2 A3 c3) L3 ∧ Row 2 1 (.slice B10 (up.length + 1) d10) (up.length + 1) (ints keys ++ [.int .i64 x0]) L10 ∧
                                Has wx (L3 ++ (L10 ++ ((vb + 1, shO false false nil0 nil0 nil0) :: (Lw ++ (Ly ++ (M ++ (N ++ R))))))) ∧ Ext w wx)
                              case first =>
                                refine start_ (n := 13) (S := fun w' => Knows w' ((bn, shO sN.leaf sN.tagged (.slice A1 sN.pairs.length c1) (.slice A2 sN.keys.length c2) (.slice A3 sN.kids.length c3)) :: (N ++ R))) (ds := []) #[false, false, false, false, false, false, false, false, false, false, false, false, false] (by kernel_rfl) rfl rfl ((hWz2.drew.knows (sub_of_count fun x => by simp only [List.count_append, List.count_cons, List.count_nil, arenaObj, slotObj, nodeObj, worldObj] <;> omega))) (fun hHeld => ?_)
                                refine pure_ (i := 0) (N := some 142) (v := ?_) (a' := ?_) #[true, false, false, false, false, false, false, false, false, false, false, false, false] rfl rfl (by kernel_rfl) (fun _ _ _ h => h) (Or.inl ⟨by rfl, ?_⟩) ?_ ?_
                                rotate_left
                                · intro w'
                                  go_simp
                                  with_reducible rfl
                                rotate_left
                                · simp only [Act.put, List.setIfInBounds_toArray, List.set_cons_zero, List.set_cons_succ, i64_w, i32_w]
                                  rfl
                                refine pure_ (i := 4) (N := some 146) (v := ?_) (a' := ?_) #[true, false, false, false, true, false, false, false, false, false, false, false, false] rfl rfl (by kernel_rfl) (fun _ _ _ h => h) (Or.inl ⟨by rfl, ?_⟩) ?_ ?_
                                rotate_left
                                · intro w'
                                  go_simp
                                  with_reducible rfl
                                rotate_left
                                · simp only [Act.put, List.setIfInBounds_toArray, List.set_cons_zero, List.set_cons_succ, i64_w, i32_w]
                                  rfl
                                refine pure_ (i := 5) (N := some 147) (v := ?_) (a' := ?_) #[true, false, false, false, true, true, false, false, false, false, false, false, false] rfl rfl (by kernel_rfl) (fun _ _ _ h => h) (Or.inl ⟨by rfl, ?_⟩) ?_ ?_
                                rotate_left
                                · intro w'
                                  go_simp
                                  with_reducible rfl
                                rotate_left
                                · simp only [Act.put, List.setIfInBounds_toArray, List.set_cons_zero, List.set_cons_succ, i64_w, i32_w]
                                  rfl
                                refine pure_ (i := 6) (N := some 148) (v := ?_) (a' := ?_) #[true, false, false, false, true, true, true, false, false, false, false, false, false] rfl rfl (by kernel_rfl) (fun _ _ _ h => h) (Or.inl ⟨by rfl, ?_⟩) ?_ ?_
                                rotate_left
                                · intro w'
                                  go_simp
                                  with_reducible rfl
                                rotate_left
                                · simp only [Act.put, List.setIfInBounds_toArray, List.set_cons_zero, List.set_cons_succ, i64_w, i32_w]
                                  rfl
                                refine pure_ (i := 7) (N := some 149) (v := ?_) (a' := ?_) #[true, false, false, false, true, true, true, true, false, false, false, false, false] rfl rfl (by kernel_rfl) (fun _ _ _ h => h) (Or.inl ⟨by rfl, ?_⟩) ?_ ?_
                                rotate_left
                                · intro w'
                                  go_simp
                                  with_reducible rfl
                                rotate_left
                                · simp only [Act.put, List.setIfInBounds_toArray, List.set_cons_zero, List.set_cons_succ, i64_w, i32_w]
                                  rfl
                                refine take_ (i := 1) (N := some 143) (v := ?_) (a' := ?_) #[true, true, false, false, true, true, true, true, false, false, false, false, false] rfl rfl (by kernel_rfl) (fun _ _ _ h => h) (Or.inl ⟨by rfl, ?_⟩) hHeld ?_ ?_
                                rotate_left
                                · intro w' s0
                                  go_simp
                                  with_reducible rfl
                                rotate_left
                                · simp only [Act.put, List.setIfInBounds_toArray, List.set_cons_zero, List.set_cons_succ, i64_w, i32_w]
                                  rfl
                                refine take_ (i := 8) (N := some 150) (v := ?_) (a' := ?_) #[true, true, false, false, true, true, true, true, true, false, false, false, false] rfl rfl (by kernel_rfl) (fun _ _ _ h => h) (Or.inl ⟨by rfl, ?_⟩) hHeld ?_ ?_
                                rotate_left
                                · intro w' s0
                                  go_simp
                                  with_reducible rfl
                                rotate_left
                                · simp only [Act.put, List.setIfInBounds_toArray, List.set_cons_zero, List.set_cons_succ, i64_w, i32_w]
                                  rfl
                                refine join_ (σ := Nat × (Option Addr × Nat × HL) × Nat) 3 #[true, true, true, true, true, true, true, true, true, true, false, false, false] (fun s => [(144, .slice (some ⟨s.1, 0, none⟩) 1 1), (145, .slice s.2.1.1 (up.length + 1) s.2.1.2.1), (151, .slice (some ⟨s.2.2, 0, none⟩) 1 1)]) (fun s w' => (Knows w' ((bn, shO sN.leaf sN.tagged (.slice A1 sN.pairs.length c1) (.slice A2 sN.keys.length c2) (.slice A3 sN.kids.length c3)) :: (N ++ R))) ∧ Has w' ([(s.1, Obj.cells #[.bool sN.leaf, .bool sN.tagged, .slice A1 sN.pairs.length c1, .slice A2 sN.keys.length c2, .slice A3 sN.kids.length c3] 31)] ++ ([(s.2.2, Obj.cells #[.int .i64 x0] 2)] ++ (s.2.1.2.2 ++ (Lq ++ ([(bn, shO sN.leaf sN.tagged (.slice A1 sN.pairs.length c1) (.slice A2 sN.keys.length c2) (.slice A3 sN.kids.length c3))] ++ ([(vb + 1, shO false false nil0 nil0 nil0)] ++ (Ly ++ (M ++ (N ++ (R)))))))))) ∧ Row 31 5 (.slice s.2.1.1 (up.length + 1) s.2.1.2.1) (up.length + 1) (cssu.flatten ++ shCells sN A1 c1 A2 c2 A3 c3) s.2.1.2.2 ∧ Ext w w') ?_ ?_
                                rotate_left
                                · intro hJ2_3_9
                                  refine join_ (σ := Nat × (Option Addr × Nat × HL)) 4 #[true, true, true, true, true, true, true, true, true, false, false, false, false] (fun s => [(144, .slice (some ⟨s.1, 0, none⟩) 1 1), (145, .slice s.2.1 (up.length + 1) s.2.2.1)]) (fun s w' => (Knows w' ((bn, shO sN.leaf sN.tagged (.slice A1 sN.pairs.length c1) (.slice A2 sN.keys.length c2) (.slice A3 sN.kids.length c3)) :: (N ++ R))) ∧ Has w' ([(s.1, Obj.cells #[.bool sN.leaf, .bool sN.tagged, .slice A1 sN.pairs.length c1, .slice A2 sN.keys.length c2, .slice A3 sN.kids.length c3] 31)] ++ (s.2.2.2 ++ (Lq ++ ([(bn, shO sN.leaf sN.tagged (.slice A1 sN.pairs.length c1) (.slice A2 sN.keys.length c2) (.slice A3 sN.kids.length c3))] ++ ([(vb + 1, shO false false nil0 nil0 nil0)] ++ (Ly ++ (M ++ (N ++ (R))))))))) ∧ Row 31 5 (.slice s.2.1 (up.length + 1) s.2.2.1) (up.length + 1) (cssu.flatten ++ shCells sN A1 c1 A2 c2 A3 c3) s.2.2.2 ∧ Ext w w') ?_ ?_
                                  rotate_left
                                  · intro hJ2_3
                                    refine join_ (σ := Nat × Nat) 4 #[true, true, true, false, true, true, true, true, true, true, false, false, false] (fun s => [(144, .slice (some ⟨s.1, 0, none⟩) 1 1), (151, .slice (some ⟨s.2, 0, none⟩) 1 1)]) (fun s w' => (Knows w' ((bn, shO sN.leaf sN.tagged (.slice A1 sN.pairs.length c1) (.slice A2 sN.keys.length c2) (.slice A3 sN.kids.length c3)) :: (N ++ R))) ∧ Has w' ([(s.1, Obj.cells #[.bool sN.leaf, .bool sN.tagged, .slice A1 sN.pairs.length c1, .slice A2 sN.keys.length c2, .slice A3 sN.kids.length c3] 31)] ++ ([(s.2, Obj.cells #[.int .i64 x0] 2)] ++ (Lu ++ (Lq ++ ([(bn, shO sN.leaf sN.tagged (.slice A1 sN.pairs.length c1) (.slice A2 sN.keys.length c2) (.slice A3 sN.kids.length c3))] ++ ([(vb + 1, shO false false nil0 nil0 nil0)] ++ (Ly ++ (M ++ (N ++ (R)))))))))) ∧ Ext w w') ?_ ?_
                                    rotate_left
                                    · intro hJ2_9
                                      refine join_ (σ := Nat) 5 #[true, true, true, false, true, true, true, true, true, false, false, false, false] (fun s => [(144, .slice (some ⟨s, 0, none⟩) 1 1)]) (fun s w' => (Knows w' ((bn, shO sN.leaf sN.tagged (.slice A1 sN.pairs.length c1) (.slice A2 sN.keys.length c2) (.slice A3 sN.kids.length c3)) :: (N ++ R))) ∧ Has w' ([(s, Obj.cells #[.bool sN.leaf, .bool sN.tagged, .slice A1 sN.pairs.length c1, .slice A2 sN.keys.length c2, .slice A3 sN.kids.length c3] 31)] ++ (Lu ++ (Lq ++ ([(bn, shO sN.leaf sN.tagged (.slice A1 sN.pairs.length c1) (.slice A2 sN.keys.length c2) (.slice A3 sN.kids.length c3))] ++ ([(vb + 1, shO false false nil0 nil0 nil0)] ++ (Ly ++ (M ++ (N ++ (R))))))))) ∧ Ext w w') ?_ ?_
                                      rotate_left
                                      · intro hJ2
                                        refine join_ (σ := Nat) 5 #[true, true, false, false, true, true, true, true, true, true, false, false, false] (fun s => [(151, .slice (some ⟨s, 0, none⟩) 1 1)]) (fun s w' => (Knows w' ((bn, shO sN.leaf sN.tagged (.slice A1 sN.pairs.length c1) (.slice A2 sN.keys.length c2) (.slice A3 sN.kids.length c3)) :: (N ++ R))) ∧ Has w' ([(s, Obj.cells #[.int .i64 x0] 2)] ++ (Lu ++ (Lq ++ ([(bn, shO sN.leaf sN.tagged (.slice A1 sN.pairs.length c1) (.slice A2 sN.keys.length c2) (.slice A3 sN.kids.length c3))] ++ ([(vb + 1, shO false false nil0 nil0 nil0)] ++ (Ly ++ (M ++ (N ++ (R))))))))) ∧ Ext w w') ?_ ?_
                                        rotate_left
                                        · intro hJ9
                                          refine two_ (i := 2) (j := 9) (Ni := some 144) (Nj := some 151) #[true, true, true, false, true, true, true, true, true, false, false, false, false] #[true, true, false, false, true, true, true, true, true, true, false, false, false] rfl rfl rfl rfl (by kernel_rfl) (by decide) (by decide) (fun K hK => ?_) (fun K hK => ?_)
                                          · skip
                                            have h_ := hWz2.drew
                                            have e_ := hEz2.drew
                                            generalize wc.drew = x_ at h_ e_ ⊢
                                            refine value_ (w1 := ?_) (v := ?_) (by rfl) rfl ?_ ?_
                                            rotate_left 2
                                            · go_simp
                                              constructor
                                              · rfl
                                              · rfl
                                            have h2_ := h_.alloc (Obj.cells #[.bool sN.leaf, .bool sN.tagged, .slice A1 sN.pairs.length c1, .slice A2 sN.keys.length c2, .slice A3 sN.kids.length c3] 31)
                                            have e2_ := e_.alloc (Obj.cells #[.bool sN.leaf, .bool sN.tagged, .slice A1 sN.pairs.length c1, .slice A2 sN.keys.length c2, .slice A3 sN.kids.length c3] 31)
                                            generalize World.alloc x_ _ = y_ at h2_ e2_ ⊢
                                            generalize x_.heap.size = b2_ at h2_ ⊢
                                            have h3_ := h2_.perm (L' := [(b2_, Obj.cells #[.bool sN.leaf, .bool sN.tagged, .slice A1 sN.pairs.length c1, .slice A2 sN.keys.length c2, .slice A3 sN.kids.length c3] 31)] ++ (Lu ++ (Lq ++ ([(bn, shO sN.leaf sN.tagged (.slice A1 sN.pairs.length c1) (.slice A2 sN.keys.length c2) (.slice A3 sN.kids.length c3))] ++ ([(vb + 1, shO false false nil0 nil0 nil0)] ++ (Ly ++ (M ++ (N ++ (R))))))))) (perm_of_count fun x => by simp only [List.count_append, List.count_cons, List.count_nil, arenaObj, slotObj, nodeObj, worldObj] <;> omega)
                                            refine hK.out _ _ ((h3_.knows (sub_of_count fun x => by simp only [List.count_append, List.count_cons, List.count_nil, arenaObj, slotObj, nodeObj, worldObj] <;> omega))) (fun hHeld => ?_)
                                            clear hK K
                                            refine norm_ (a' := ?_) ?_ ?_
                                            rotate_left
                                            · show Act.put _ (some 144) _ = _
                                              simp only [Act.put, List.setIfInBounds_toArray, List.set_cons_zero, List.set_cons_succ, i64_w, i32_w]
                                              rfl
                                            exact norm_ (by first | (simp only [putAll, Act.put, List.setIfInBounds_toArray, List.set_cons_zero, List.set_cons_succ]; done) | (simp only [putAll, Act.put, List.setIfInBounds_toArray, List.set_cons_zero, List.set_cons_succ]; rfl)) (hJ2 b2_ _ ⟨hHeld, h3_, e2_⟩)
                                          · skip
                                            have h_ := hWz2.drew
                                            have e_ := hEz2.drew
                                            generalize wc.drew = x_ at h_ e_ ⊢
                                            refine value_ (w1 := ?_) (v := ?_) (by rfl) rfl ?_ ?_
                                            rotate_left 2
                                            · go_simp
                                              constructor
                                              · rfl
                                              · rfl
                                            have h2_ := h_.alloc (Obj.cells #[.int .i64 x0] 2)
                                            have e2_ := e_.alloc (Obj.cells #[.int .i64 x0] 2)
                                            generalize World.alloc x_ _ = y_ at h2_ e2_ ⊢
                                            generalize x_.heap.size = b9_ at h2_ ⊢
                                            have h3_ := h2_.perm (L' := [(b9_, Obj.cells #[.int .i64 x0] 2)] ++ (Lu ++ (Lq ++ ([(bn, shO sN.leaf sN.tagged (.slice A1 sN.pairs.length c1) (.slice A2 sN.keys.length c2) (.slice A3 sN.kids.length c3))] ++ ([(vb + 1, shO false false nil0 nil0 nil0)] ++ (Ly ++ (M ++ (N ++ (R))))))))) (perm_of_count fun x => by simp only [List.count_append, List.count_cons, List.count_nil, arenaObj, slotObj, nodeObj, worldObj] <;> omega)
                                            refine hK.out _ _ ((h3_.knows (sub_of_count fun x => by simp only [List.count_append, List.count_cons, List.count_nil, arenaObj, slotObj, nodeObj, worldObj] <;> omega))) (fun hHeld => ?_)
                                            clear hK K
                                            refine norm_ (a' := ?_) ?_ ?_
                                            rotate_left
                                            · show Act.put _ (some 151) _ = _
                                              simp only [Act.put, List.setIfInBounds_toArray, List.set_cons_zero, List.set_cons_succ, i64_w, i32_w]
                                              rfl
                                            exact norm_ (by first | (simp only [putAll, Act.put, List.setIfInBounds_toArray, List.set_cons_zero, List.set_cons_succ]; done) | (simp only [putAll, Act.put, List.setIfInBounds_toArray, List.set_cons_zero, List.set_cons_succ]; rfl)) (hJ9 b9_ _ ⟨hHeld, h3_, e2_⟩)
                                        · skip
                                          rintro b9_ x_ ⟨hHeld, h_, e_⟩
                                          refine norm_ (a' := ?_) ?_ ?_
                                          rotate_left
                                          · simp only [putAll, Act.put, List.setIfInBounds_toArray, List.set_cons_zero, List.set_cons_succ]
                                            rfl
                                          refine one_ (i := 2) (N := some 144) #[true, true, true, false, true, true, true, true, true, true, false, false, false] rfl rfl (by kernel_rfl) (by decide) (fun K hK => ?_)
                                          refine value_ (w1 := ?_) (v := ?_) (by rfl) rfl ?_ ?_
                                          rotate_left 2
                                          · go_simp
                                            constructor
                                            · rfl
                                            · rfl
                                          have h2_ := h_.alloc (Obj.cells #[.bool sN.leaf, .bool sN.tagged, .slice A1 sN.pairs.length c1, .slice A2 sN.keys.length c2, .slice A3 sN.kids.length c3] 31)
                                          have e2_ := e_.alloc (Obj.cells #[.bool sN.leaf, .bool sN.tagged, .slice A1 sN.pairs.length c1, .slice A2 sN.keys.length c2, .slice A3 sN.kids.length c3] 31)
                                          generalize World.alloc x_ _ = y_ at h2_ e2_ ⊢
                                          generalize x_.heap.size = b2_ at h2_ ⊢
                                          have h3_ := h2_.perm (L' := [(b2_, Obj.cells #[.bool sN.leaf, .bool sN.tagged, .slice A1 sN.pairs.length c1, .slice A2 sN.keys.length c2, .slice A3 sN.kids.length c3] 31)] ++ ([(b9_, Obj.cells #[.int .i64 x0] 2)] ++ (Lu ++ (Lq ++ ([(bn, shO sN.leaf sN.tagged (.slice A1 sN.pairs.length c1) (.slice A2 sN.keys.length c2) (.slice A3 sN.kids.length c3))] ++ ([(vb + 1, shO false false nil0 nil0 nil0)] ++ (Ly ++ (M ++ (N ++ (R)))))))))) (perm_of_count fun x => by simp only [List.count_append, List.count_cons, List.count_nil, arenaObj, slotObj, nodeObj, worldObj] <;> omega)
                                          refine hK.out _ _ ((h3_.knows (sub_of_count fun x => by simp only [List.count_append, List.count_cons, List.count_nil, arenaObj, slotObj, nodeObj, worldObj] <;> omega))) (fun hHeld => ?_)
                                          clear hK K
                                          refine norm_ (a' := ?_) ?_ ?_
                                          rotate_left
                                          · show Act.put _ (some 144) _ = _
                                            simp only [Act.put, List.setIfInBounds_toArray, List.set_cons_zero, List.set_cons_succ, i64_w, i32_w]
                                            rfl
                                          exact norm_ (by first | (simp only [putAll, Act.put, List.setIfInBounds_toArray, List.set_cons_zero, List.set_cons_succ]; done) | (simp only [putAll, Act.put, List.setIfInBounds_toArray, List.set_cons_zero, List.set_cons_succ]; rfl)) (hJ2_9 ⟨b2_, b9_⟩ _ ⟨hHeld, h3_, e2_⟩)
                                      · skip
                                        rintro b2_ x_ ⟨hHeld, h_, e_⟩
                                        refine norm_ (a' := ?_) ?_ ?_
                                        rotate_left
                                        · simp only [putAll, Act.put, List.setIfInBounds_toArray, List.set_cons_zero, List.set_cons_succ]
                                          rfl
                                        refine two_ (i := 3) (j := 9) (Ni := some 145) (Nj := some 151) #[true, true, true, true, true, true, true, true, true, false, false, false, false] #[true, true, true, false, true, true, true, true, true, true, false, false, false] rfl rfl rfl rfl (by kernel_rfl) (by decide) (by decide) (fun K hK => ?_) (fun K hK => ?_)
                                        · skip
                                          have hp_ := h_.perm (L' := Lu ++ ([(b2_, Obj.cells #[.bool sN.leaf, .bool sN.tagged, .slice A1 sN.pairs.length c1, .slice A2 sN.keys.length c2, .slice A3 sN.kids.length c3] 31)] ++ (Lq ++ ([(bn, shO sN.leaf sN.tagged (.slice A1 sN.pairs.length c1) (.slice A2 sN.keys.length c2) (.slice A3 sN.kids.length c3))] ++ ([(vb + 1, shO false false nil0 nil0 nil0)] ++ (Ly ++ (M ++ (N ++ (R))))))))) (perm_of_count fun x => by simp only [List.count_append, List.count_cons, List.count_nil, arenaObj, slotObj, nodeObj, worldObj] <;> omega)
                                          refine append_to (.tmp 142) (.tmp 144) 29 (by rfl) rfl rfl el_shape HR.out.1 hp_ rfl (Src.of_block (m := 1) (sz := 5) (cs := shCells sN A1 c1 A2 c2 A3 c3) (h_.get b2_ (Obj.cells #[.bool sN.leaf, .bool sN.tagged, .slice A1 sN.pairs.length c1, .slice A2 sN.keys.length c2, .slice A3 sN.kids.length c3] 31) (by simp)) rfl hsz2.one) (up.length + 1) (by omega) h63a.out hba.out ?_
                                          intro v_ y_ L3_ r3_ h2_ e2_
                                          obtain ⟨A3_, c3_, rfl⟩ := r3_.shape
                                          have e2_ := e_.trans e2_
                                          have h3_ := h2_.perm (L' := [(b2_, Obj.cells #[.bool sN.leaf, .bool sN.tagged, .slice A1 sN.pairs.length c1, .slice A2 sN.keys.length c2, .slice A3 sN.kids.length c3] 31)] ++ (L3_ ++ (Lq ++ ([(bn, shO sN.leaf sN.tagged (.slice A1 sN.pairs.length c1) (.slice A2 sN.keys.length c2) (.slice A3 sN.kids.length c3))] ++ ([(vb + 1, shO false false nil0 nil0 nil0)] ++ (Ly ++ (M ++ (N ++ (R))))))))) (perm_of_count fun x => by simp only [List.count_append, List.count_cons, List.count_nil, arenaObj, slotObj, nodeObj, worldObj] <;> omega)
                                          refine hK.out _ _ ((h3_.knows (sub_of_count fun x => by simp only [List.count_append, List.count_cons, List.count_nil, arenaObj, slotObj, nodeObj, worldObj] <;> omega))) (fun hHeld => ?_)
                                          clear hK K
                                          refine norm_ (a' := ?_) ?_ ?_
                                          rotate_left
                                          · show Act.put _ (some 145) _ = _
                                            simp only [Act.put, List.setIfInBounds_toArray, List.set_cons_zero, List.set_cons_succ, i64_w, i32_w]
                                            rfl
                                          exact norm_ (by first | (simp only [putAll, Act.put, List.setIfInBounds_toArray, List.set_cons_zero, List.set_cons_succ]; done) | (simp only [putAll, Act.put, List.setIfInBounds_toArray, List.set_cons_zero, List.set_cons_succ]; rfl)) (hJ2_3 ⟨b2_, ⟨A3_, c3_, L3_⟩⟩ _ ⟨hHeld, h3_, r3_, e2_⟩)
                                        · skip
                                          refine value_ (w1 := ?_) (v := ?_) (by rfl) rfl ?_ ?_
                                          rotate_left 2
                                          · go_simp
                                            constructor
                                            · rfl
                                            · rfl
                                          have h2_ := h_.alloc (Obj.cells #[.int .i64 x0] 2)
                                          have e2_ := e_.alloc (Obj.cells #[.int .i64 x0] 2)
                                          generalize World.alloc x_ _ = y_ at h2_ e2_ ⊢
                                          generalize x_.heap.size = b9_ at h2_ ⊢
                                          have h3_ := h2_.perm (L' := [(b2_, Obj.cells #[.bool sN.leaf, .bool sN.tagged, .slice A1 sN.pairs.length c1, .slice A2 sN.keys.length c2, .slice A3 sN.kids.length c3] 31)] ++ ([(b9_, Obj.cells #[.int .i64 x0] 2)] ++ (Lu ++ (Lq ++ ([(bn, shO sN.leaf sN.tagged (.slice A1 sN.pairs.length c1) (.slice A2 sN.keys.length c2) (.slice A3 sN.kids.length c3))] ++ ([(vb + 1, shO false false nil0 nil0 nil0)] ++ (Ly ++ (M ++ (N ++ (R)))))))))) (perm_of_count fun x => by simp only [List.count_append, List.count_cons, List.count_nil, arenaObj, slotObj, nodeObj, worldObj] <;> omega)
                                          refine hK.out _ _ ((h3_.knows (sub_of_count fun x => by simp only [List.count_append, List.count_cons, List.count_nil, arenaObj, slotObj, nodeObj, worldObj] <;> omega))) (fun hHeld => ?_)
                                          clear hK K
                                          refine norm_ (a' := ?_) ?_ ?_
                                          rotate_left
                                          · show Act.put _ (some 151) _ = _
                                            simp only [Act.put, List.setIfInBounds_toArray, List.set_cons_zero, List.set_cons_succ, i64_w, i32_w]
                                            rfl
                                          exact norm_ (by first | (simp only [putAll, Act.put, List.setIfInBounds_toArray, List.set_cons_zero, List.set_cons_succ]; done) | (simp only [putAll, Act.put, List.setIfInBounds_toArray, List.set_cons_zero, List.set_cons_succ]; rfl)) (hJ2_9 ⟨b2_, b9_⟩ _ ⟨hHeld, h3_, e2_⟩)
                                    · skip
                                      rintro ⟨b2_, b9_⟩ x_ ⟨hHeld, h_, e_⟩
                                      refine norm_ (a' := ?_) ?_ ?_
                                      rotate_left
                                      · simp only [putAll, Act.put, List.setIfInBounds_toArray, List.set_cons_zero, List.set_cons_succ]
                                        rfl
                                      refine one_ (i := 3) (N := some 145) #[true, true, true, true, true, true, true, true, true, true, false, false, false] rfl rfl (by kernel_rfl) (by decide) (fun K hK => ?_)
                                      have hp_ := h_.perm (L' := Lu ++ ([(b2_, Obj.cells #[.bool sN.leaf, .bool sN.tagged, .slice A1 sN.pairs.length c1, .slice A2 sN.keys.length c2, .slice A3 sN.kids.length c3] 31)] ++ ([(b9_, Obj.cells #[.int .i64 x0] 2)] ++ (Lq ++ ([(bn, shO sN.leaf sN.tagged (.slice A1 sN.pairs.length c1) (.slice A2 sN.keys.length c2) (.slice A3 sN.kids.length c3))] ++ ([(vb + 1, shO false false nil0 nil0 nil0)] ++ (Ly ++ (M ++ (N ++ (R)))))))))) (perm_of_count fun x => by simp only [List.count_append, List.count_cons, List.count_nil, arenaObj, slotObj, nodeObj, worldObj] <;> omega)
                                      refine append_to (.tmp 142) (.tmp 144) 29 (by rfl) rfl rfl el_shape HR.out.1 hp_ rfl (Src.of_block (m := 1) (sz := 5) (cs := shCells sN A1 c1 A2 c2 A3 c3) (h_.get b2_ (Obj.cells #[.bool sN.leaf, .bool sN.tagged, .slice A1 sN.pairs.length c1, .slice A2 sN.keys.length c2, .slice A3 sN.kids.length c3] 31) (by simp)) rfl hsz2.one) (up.length + 1) (by omega) h63a.out hba.out ?_
                                      intro v_ y_ L3_ r3_ h2_ e2_
                                      obtain ⟨A3_, c3_, rfl⟩ := r3_.shape
                                      have e2_ := e_.trans e2_
                                      have h3_ := h2_.perm (L' := [(b2_, Obj.cells #[.bool sN.leaf, .bool sN.tagged, .slice A1 sN.pairs.length c1, .slice A2 sN.keys.length c2, .slice A3 sN.kids.length c3] 31)] ++ ([(b9_, Obj.cells #[.int .i64 x0] 2)] ++ (L3_ ++ (Lq ++ ([(bn, shO sN.leaf sN.tagged (.slice A1 sN.pairs.length c1) (.slice A2 sN.keys.length c2) (.slice A3 sN.kids.length c3))] ++ ([(vb + 1, shO false false nil0 nil0 nil0)] ++ (Ly ++ (M ++ (N ++ (R)))))))))) (perm_of_count fun x => by simp only [List.count_append, List.count_cons, List.count_nil, arenaObj, slotObj, nodeObj, worldObj] <;> omega)
                                      refine hK.out _ _ ((h3_.knows (sub_of_count fun x => by simp only [List.count_append, List.count_cons, List.count_nil, arenaObj, slotObj, nodeObj, worldObj] <;> omega))) (fun hHeld => ?_)
                                      clear hK K
                                      refine norm_ (a' := ?_) ?_ ?_
                                      rotate_left
                                      · show Act.put _ (some 145) _ = _
                                        simp only [Act.put, List.setIfInBounds_toArray, List.set_cons_zero, List.set_cons_succ, i64_w, i32_w]
                                        rfl
                                      exact norm_ (by first | (simp only [putAll, Act.put, List.setIfInBounds_toArray, List.set_cons_zero, List.set_cons_succ]; done) | (simp only [putAll, Act.put, List.setIfInBounds_toArray, List.set_cons_zero, List.set_cons_succ]; rfl)) (hJ2_3_9 ⟨b2_, ⟨A3_, c3_, L3_⟩, b9_⟩ _ ⟨hHeld, h3_, r3_, e2_⟩)
                                  · skip
                                    rintro ⟨b2_, ⟨A3_, c3_, L3_⟩⟩ x_ ⟨hHeld, h_, r3_, e_⟩
                                    refine norm_ (a' := ?_) ?_ ?_
                                    rotate_left
                                    · simp only [putAll, Act.put, List.setIfInBounds_toArray, List.set_cons_zero, List.set_cons_succ]
                                      rfl
                                    refine one_ (i := 9) (N := some 151) #[true, true, true, true, true, true, true, true, true, true, false, false, false] rfl rfl (by kernel_rfl) (by decide) (fun K hK => ?_)
                                    refine value_ (w1 := ?_) (v := ?_) (by rfl) rfl ?_ ?_
                                    rotate_left 2
                                    · go_simp
                                      constructor
                                      · rfl
                                      · rfl
                                    have h2_ := h_.alloc (Obj.cells #[.int .i64 x0] 2)
                                    have e2_ := e_.alloc (Obj.cells #[.int .i64 x0] 2)
                                    generalize World.alloc x_ _ = y_ at h2_ e2_ ⊢
                                    generalize x_.heap.size = b9_ at h2_ ⊢
                                    have h3_ := h2_.perm (L' := [(b2_, Obj.cells #[.bool sN.leaf, .bool sN.tagged, .slice A1 sN.pairs.length c1, .slice A2 sN.keys.length c2, .slice A3 sN.kids.length c3] 31)] ++ ([(b9_, Obj.cells #[.int .i64 x0] 2)] ++ (L3_ ++ (Lq ++ ([(bn, shO sN.leaf sN.tagged (.slice A1 sN.pairs.length c1) (.slice A2 sN.keys.length c2) (.slice A3 sN.kids.length c3))] ++ ([(vb + 1, shO false false nil0 nil0 nil0)] ++ (Ly ++ (M ++ (N ++ (R)))))))))) (perm_of_count fun x => by simp only [List.count_append, List.count_cons, List.count_nil, arenaObj, slotObj, nodeObj, worldObj] <;> omega)
                                    refine hK.out _ _ ((h3_.knows (sub_of_count fun x => by simp only [List.count_append, List.count_cons, List.count_nil, arenaObj, slotObj, nodeObj, worldObj] <;> omega))) (fun hHeld => ?_)
                                    clear hK K
                                    refine norm_ (a' := ?_) ?_ ?_
                                    rotate_left
                                    · show Act.put _ (some 151) _ = _
                                      simp only [Act.put, List.setIfInBounds_toArray, List.set_cons_zero, List.set_cons_succ, i64_w, i32_w]
                                      rfl
                                    exact norm_ (by first | (simp only [putAll, Act.put, List.setIfInBounds_toArray, List.set_cons_zero, List.set_cons_succ]; done) | (simp only [putAll, Act.put, List.setIfInBounds_toArray, List.set_cons_zero, List.set_cons_succ]; rfl)) (hJ2_3_9 ⟨b2_, ⟨A3_, c3_, L3_⟩, b9_⟩ _ ⟨hHeld, h3_, r3_, e2_⟩)
                                rintro ⟨m2, ⟨B3, d3, L3⟩, m9⟩ w4 ⟨hHeld, hW4, hr3, hE4⟩
                                refine norm_ (a' := ?_) ?_ ?_
                                rotate_left
                                · simp only [putAll, Act.put, List.setIfInBounds_toArray, List.set_cons_zero, List.set_cons_succ]
                                  rfl
                                refine one_ (i := 10) (N := some 152) #[true, true, true, true, true, true, true, true, true, true, true, false, false] rfl rfl (by kernel_rfl) (by decide) (fun K hK => ?_)
                                have hp := hW4.perm (L' := Lq ++ ((m9, Obj.cells #[.int .i64 x0] 2) :: ((m2, Obj.cells #[.bool sN.leaf, .bool sN.tagged, .slice A1 sN.pairs.length c1, .slice A2 sN.keys.length c2, .slice A3 sN.kids.length c3] 31) :: (L3 ++ ((bn, shO sN.leaf sN.tagged (.slice A1 sN.pairs.length c1) (.slice A2 sN.keys.length c2) (.slice A3 sN.kids.length c3)) :: ((vb + 1, shO false false nil0 nil0 nil0) :: (Ly ++ (M ++ (N ++ R))))))))) (perm_of_count fun x => by simp only [List.count_append, List.count_cons, List.count_nil, arenaObj, slotObj, nodeObj, worldObj] <;> omega)
                                refine append_to (.tmp 146) (.tmp 151) 22 (by rfl) rfl rfl el_int HR.out.2 hp rfl (Src.of_block (m := 1) (sz := 1) (cs := [.int .i64 x0]) (hp.get m9 (Obj.cells #[.int .i64 x0] 2) (by simp)) rfl (by intro u hu; simp at hu; subst hu; rfl)) (up.length + 1) rfl h63a.out hbb.out ?_
                                intro v10 w5 L10 hr10 h5 e5
                                obtain ⟨B10, d10, rfl⟩ := hr10.shape
                                refine hK.out _ _ ((h5.knows (sub_of_count fun x => by simp only [List.count_append, List.count_cons, List.count_nil, arenaObj, slotObj, nodeObj, worldObj] <;> omega))) (fun hHeld => ?_)
                                clear hK K
                                refine norm_ (a' := ?_) ?_ ?_
                                rotate_left
                                · show Act.put _ (some 152) _ = _
                                  simp only [Act.put, List.setIfInBounds_toArray, List.set_cons_zero, List.set_cons_succ, i64_w, i32_w]
                                  rfl
                                refine pure_ (i := 11) (N := some 12) (v := ?_) (a' := ?_) #[true, true, true, true, true, true, true, true, true, true, true, true, false] rfl rfl (by kernel_rfl) (fun _ _ _ h => h) (Or.inl ⟨by rfl, ?_⟩) ?_ ?_
                                rotate_left
                                · intro w'
                                  go_simp
                                  with_reducible rfl
                                rotate_left
                                · simp only [Act.put, List.setIfInBounds_toArray, List.set_cons_zero, List.set_cons_succ, i64_w, i32_w]
                                  rfl
                                refine pure_ (i := 12) (N := some 13) (v := ?_) (a' := ?_) #[true, true, true, true, true, true, true, true, true, true, true, true, true] rfl rfl (by kernel_rfl) (fun _ _ _ h => h) (Or.inl ⟨by rfl, ?_⟩) ?_ ?_
                                rotate_left
                                · intro w'
                                  go_simp
                                  with_reducible rfl
                                rotate_left
                                · simp only [Act.put, List.setIfInBounds_toArray, List.set_cons_zero, List.set_cons_succ, i64_w, i32_w]
                                  rfl
                                refine done_ (by kernel_rfl) ?_
                                go_wp2_with fail
                                go_meet
                                case rel =>
                                  exact ⟨B3, d3, B10, d10, L3, L10, [(m2, Obj.cells #[.bool sN.leaf, .bool sN.tagged, .slice A1 sN.pairs.length c1, .slice A2 sN.keys.length c2, .slice A3 sN.kids.length c3] 31), (m9, Obj.cells #[.int .i64 x0] 2), (bn, shO sN.leaf sN.tagged (.slice A1 sN.pairs.length c1) (.slice A2 sN.keys.length c2) (.slice A3 sN.kids.length c3))], rfl, rfl, hr3, hr10, h5.perm (perm_of_count fun x => by simp only [List.count_append, List.count_cons, List.count_nil, arenaObj, slotObj, nodeObj, worldObj]; omega), hE4.trans e5⟩
                              case rest =>
                                obtain ⟨B3, d3, B10, d10, L3, L10, Lw, rfl, rfl, hr3, hr10, hW5, hE5⟩ := hcut
                                clear hWz2 hEz2 kk vm0 vm1 vm2 vm3 vm4 hx0
                                go_wp2
                                go_roundw
                                case rel =>
                                  have hgn := Hhd.out.2.1
                                  have hrl := Hhd.out.2.2
                                  have hhd := Hhd.out.1
                                  refine ⟨i + gn, k' + 1, up ++ [sN], cssu ++ [shCells sN A1 c1 A2 c2 A3 c3], keys ++ [x0], B3, d3, B10, d10, L3, L10, Lw ++ (Ly ++ M), fu' - 1, ⟨by go_num, by go_num, by simp, by simp, by simp [hQ.fl], by simpa using hr3, by simpa [ints] using hr10, ?_, hW5.perm (perm_of_count fun x => by simp only [List.count_append, List.count_cons, List.count_nil, arenaObj, slotObj, nodeObj, worldObj]; omega), hE5, by omega, by have := hQ.hf; omega, ?_, ?_, ?_, by have := hQ.b1; simp; omega, by simp; omega⟩⟩
                                  · exact (hQ.sh.mono (sub_of_count fun x => by simp only [List.count_append, List.count_cons, List.count_nil, arenaObj, slotObj, nodeObj, worldObj] <;> omega)).append (ShRows.one (hsz2.mono (sub_of_count fun x => by simp only [List.count_append, List.count_cons, List.count_nil, arenaObj, slotObj, nodeObj, worldObj] <;> omega)))
                                  · have t := Ht.out.1
                                    rw [List.drop_drop, List.drop_drop] at t
                                    rw [show (i + gn == 0) = false from beq_false_of_ne (by omega), List.append_assoc]; exact t
                                  · have t := Ht.out.2.1
                                    rw [List.drop_drop, List.drop_drop, hhd] at t
                                    rw [show (i + gn == 0) = false from beq_false_of_ne (by omega), List.append_assoc]; exact t
                                  · have t := Ht.out.2.2
                                    rw [List.drop_drop, List.drop_drop] at t
                                    rw [show (i + gn == 0) = false from beq_false_of_ne (by omega)]; exact t
                                case measure => simp [intOf]; have := Hhd.out.2.1; omega
              · skip
                have hi : i = row.length := by have := hQ.il; omega
                have t1 := hQ.t1
                have t2 := hQ.t2
                have t3 := hQ.t3
                rw [List.drop_of_length_le (by omega), groupL_nil] at t1 t2 t3
                simp only [List.append_nil] at t1 t2 t3
                obtain ⟨g1, g2, g3, g4⟩ := groupL_len p b row.length k true row firsts
                rw [hG, ← t1, ← t2] at g1
                rw [hG, ← t1] at g2
                rw [hG, ← t1, ← t3] at g3
                rw [hG, ← t1] at g4
                have g4 := g4 rfl (by omega)
                have hpos : 0 < up.length := by
                  have := groupL_some p b row.length k true (row := row) firsts (by omega) (by omega)
                  rw [hG, ← t1] at this
                  exact this
                have hstep := climbL_step p b fu k firsts h1 hS.hu
                rw [hG, hS.t1, ← t1, ← t2, ← t3] at hstep
                have hsq : up.length * up.length + up.length ≤ row.length * row.length := by
                  obtain ⟨m, hm⟩ : ∃ m, row.length = m + 1 := ⟨row.length - 1, by omega⟩
                  rw [hm]
                  have h1 : up.length ≤ m := by omega
                  have h2 : up.length * up.length ≤ m * m := Nat.mul_le_mul h1 h1
                  have h3 : (m + 1) * (m + 1) = m * m + 2 * m + 1 := by rw [Nat.add_mul, Nat.mul_add]; omega
                  omega
                have hd3 : decide ((i : Int) < row.length) = false := decide_eq_false (by omega)
                have hrd1 : Rd ((Lu ++ (Lq ++ (M ++ N))) ++ R) 31 5 (.slice Au up.length cu) up.length cssu.flatten := (hQ.ru.rd (Lq ++ (M ++ N) ++ R)).mono (fun q hq => by simp only [List.mem_append] at hq ⊢; grind)
                have hrd2 : Rd ((Lu ++ (Lq ++ (M ++ N))) ++ R) 2 1 (.slice Aq up.length cq) up.length (ints keys) := (hQ.rq.rd (Lu ++ (M ++ N) ++ R)).mono (fun q hq => by simp only [List.mem_append] at hq ⊢; grind)
                have hsh2 : ShRows (Lu ++ (Lq ++ (M ++ N))) cssu up := hQ.sh.mono (fun q hq => by simp only [List.mem_append] at hq ⊢; grind)
                have hW2 := hQ.hw.perm (L' := (vb + 1, shO false false nil0 nil0 nil0) :: ((Lu ++ (Lq ++ (M ++ N))) ++ R)) (perm_of_count fun x => by simp only [List.count_append, List.count_cons, List.count_nil, arenaObj, slotObj, nodeObj, worldObj]; omega)
                have hE2 := hQ.he
                have hpo := hS.po
                have hb1' := hQ.b1
                have Hn := Lib.hid (And.intro hrd1 (And.intro hrd2 (And.intro hsh2 (And.intro hW2 (And.intro hE2 (And.intro hpo hstep))))))
                clear hrd1 hrd2 hsh2 hW2 hE2 hpo hstep t1 t2 t3 hQ
                go_wp2
                go_roundw
                case rel =>
                  exact ⟨k', up, cssu, keys, Au, cu, Aq, cq, Lu ++ (Lq ++ (M ++ N)), fu - 1, ⟨rfl, rfl, rfl, g1.symm, hpos, Hn.out.1, Hn.out.2.1, Hn.out.2.2.1, Hn.out.2.2.2.1, Hn.out.2.2.2.2.1, by have := Hn.out.2.2.2.2.2.1; simp [this], by have := hS.hu; omega, Hn.out.2.2.2.2.2.2.symm, by omega, by omega⟩⟩
                case measure => simp [slen]; omega
          · skip
            have hpos := hS.pos
            have hlen : row.length = 1 := by omega
            obtain ⟨g, off, cr', her, _, _, hcc⟩ := hS.rr.known hpos
            cases her
            obtain ⟨s1, A1, x1, A2, x2, A3, x3, hk1, hr1, hc1, ha⟩ := kid_known (hS.sh.mono (fun q hq => List.mem_append_left R hq)) hcc (i := 0) hpos
            have hr1 := hS.sh.2 0 _ _ hc1 hk1
            have hKn : Knows wr (N ++ R) := hS.hw.knows (fun q hq => List.mem_cons_of_mem _ hq)
            obtain ⟨a0, a1, a2, a3, a4⟩ := ha (N ++ R) (fun q hq => hq)
            have a0 := a0 wr hKn
            have a1 := a1 wr hKn
            have a2 := a2 wr hKn
            have a3 := a3 wr hKn
            have a4 := a4 wr hKn
            simp only [Nat.zero_mul, Nat.add_zero] at a0 a1 a2 a3 a4
            have hSe : S = s1 := by
              rw [← hS.t1, climbL_end p b fu k firsts (by omega)]
              cases row with
              | nil => simp at hlen
              | cons x xs => simp at hk1; simp [hk1]
            obtain ⟨z0, z1, z2, z3, z4⟩ := hS.hw.five (b := vb + 1) (l := false) (t := false) (p := nil0) (k := nil0) (c := nil0) (by simp)
            have zf := hS.hw.free (b := vb + 1) (c := #[.bool false, .bool false, nil0, nil0, nil0]) (t := 31) (by simp)
            have hW := hS.hw
            have hE := hS.he
            clear hcc ha hKn
            go_wp2
            have hW9 := hW.set5 s1.leaf s1.tagged (.slice A1 s1.pairs.length x1) (.slice A2 s1.keys.length x2) (.slice A3 s1.kids.length x3)
            have hE9 := hE.set5 (vb + 1) s1.leaf s1.tagged (.slice A1 s1.pairs.length x1) (.slice A2 s1.keys.length x2) (.slice A3 s1.kids.length x3)
            unfold Go.Proofs.Ytjkfigkgeoacfaa.set5 at hW9 hE9
            generalize World.setCell _ _ _ = w9 at hW9 hE9 ⊢
            obtain ⟨m0, m1, m2, m3, m4⟩ := hW9.five (b := vb + 1) (l := s1.leaf) (t := s1.tagged) (p := .slice A1 s1.pairs.length x1) (k := .slice A2 s1.keys.length x2) (c := .slice A3 s1.kids.length x3) (List.mem_cons_self ..)
            refine bodyPost_ret (v := .agg (shCells s1 A1 x1 A2 x2 A3 x3).toArray) (by simp [results, Try.results9, go_sem, m0, m1, m2, m3, m4]) rfl ?_
            refine ⟨shCells s1 A1 x1 A2 x2 A3 x3, (vb + 1, shO s1.leaf s1.tagged (.slice A1 s1.pairs.length x1) (.slice A2 s1.keys.length x2) (.slice A3 s1.kids.length x3)) :: N, rfl, ?_, hW9, hE9⟩
            rw [Hlast.out.1.out, if_neg Hlast.out.2, hSe]
            exact hr1.mono (fun q hq => List.mem_cons_of_mem _ hq)
end Go.Proofs.Ytjkfigkgeoacfaa
