import Derived.Test.YtjkfigkgeoacfaaV0
set_option linter.unusedVariables false
set_option linter.unusedSimpArgs false
namespace Go.Proofs.Ytjkfigkgeoacfaa
open Go.RowKit Go.Proofs.YtjkfigkgeoacfaaW.PrintLast

/-- How a thread's run ends: done, or not yet. -/
def RunEnd (ts out : List Int) (m tb : Nat) (wk : Value) (R : HL) (w : World) (ed : Ending) (w' : World) : Prop := ∃ Al' cl' Ll' N,
  (if ts.length ≤ m + 1 then ∃ Ao co Lo, ed = .returned (.bool true) ∧ Row 2 1 (.slice Ao out.length co) out.length (ints out) Lo ∧ Row 2 1 (.slice Al' ts.length cl') ts.length (ints ts) Ll' ∧
      Has w' ((tb, thO wk (.slice Al' ts.length cl') ts.length (decide (m < ts.length)) false true (.slice Ao out.length co)) :: (Ll' ++ (Lo ++ (N ++ R))))
    else ed = .returned (.bool false) ∧ Row 2 1 (.slice Al' (m + 1) cl') (m + 1) (ints (ts.take (m + 1))) Ll' ∧ Has w' ((tb, thO wk (.slice Al' (m + 1) cl') (m + 1 : Nat) true false false nil0) :: (Ll' ++ (N ++ R)))) ∧ Ext w w'

theorem Leaves.put {P : Program} {fn : Func} {tmps : Array Value} {R : Ending → World → Prop} {n : Nat} {v : Value} (hr : results fn (tmps.setIfInBounds n v) = results fn tmps) : ∀ (ds : List Deferred) (u : FrameMode) (w : World), Leaves P fn (tmps.setIfInBounds n v) R ds u w → Leaves P fn tmps R ds u w := by
  intro ds
  induction ds with
  | nil =>
    intro u w h
    cases u with
    | returning =>
      obtain ⟨x, h1, h2⟩ := h
      rw [hr] at h1
      exact ⟨x, h1, h2⟩
    | panicking c => exact h
    | run => exact h
  | cons d ds ih =>
    intro u w h
    obtain ⟨hu, fv, cap, f, args, h1, h2, h3⟩ := h
    refine ⟨hu, fv, cap, f, args, h1, h2, h3.mono ?_⟩
    intro e u' w' he
    cases e with
    | returned x => exact ih _ _ he
    | panicked c => exact ih _ _ he
    | outgrown => exact he
theorem run_results (tmps : Array Value) (n : Nat) (v : Value) (hn : n ≠ 2) : results Try.f66 (tmps.setIfInBounds n v) = results Try.f66 tmps := by
  have h : (tmps.setIfInBounds n v)[2]? = tmps[2]? := by rw [Array.getElem?_setIfInBounds_ne hn]
  simp only [results, Try.results66]
  simp [h]
theorem runQ {K : Act → World → Prop} {R : Ending → World → Prop} {c : List PanicEntry} {a : Act} {w : World} {n : Nat} {v : Value} (hn : n ≠ 2) (h : Exit.then K (bodyPostD Try.prog Try.f66 R) (.panic c) (a.put (some n) v) w) : Exit.then K (bodyPostD Try.prog Try.f66 R) (.panic c) a w := by
  have h' : Leaves Try.prog Try.f66 (a.tmps.setIfInBounds n v) R a.defers (.panicking c) w := h
  have := Leaves.put (run_results _ _ _ hn) _ _ _ h'
  exact this

set_option maxRecDepth 100000 in
set_option maxHeartbeats 4000000 in
theorem run_any {R0 : HL} {F : Nat} {caps : Array Value} {ts out : List Int} (hT : ThreadOK R0 F caps ts out) (hent : ∀ args w, (callFunc F args).run Try.prog w = .ok (.enter F args) w) {m : Nat} (hm : m ≤ ts.length) (N : HL) {tb : Nat} {Al : Option Addr} {cl : Nat} {Ll : HL} {w : World}
    (hl : Row 2 1 (.slice Al m cl) m (ints (ts.take m)) Ll) (hw : Has w ((tb, thO (.func (.func F) #[] caps) (.slice Al m cl) 0 false false false nil0) :: (Ll ++ (N ++ R0)))) :
    Calls Try.prog 66 #[.pointer (some ⟨tb, 0, none⟩)] w (RunEnd ts out m tb (.func (.func F) #[] caps) (N ++ R0) w) := by
  have hmf : ∀ (fn : Fn) (first cap : Array Value) (w : World), (Instr.makeFunc fn first cap).run Try.prog w = .ok (.func fn first cap) w := fun _ _ _ _ => rfl
  have hW0 := (hw.alloc (Obj.cells #[.pointer (some ⟨tb, 0, none⟩)] 46)).alloc (Obj.cells #[.bool false] 4)
  have hE0 := ((Ext.refl w).alloc (Obj.cells #[.pointer (some ⟨tb, 0, none⟩)] 46)).alloc (Obj.cells #[.bool false] 4)
  rw [World.size_alloc] at hW0
  have H0 := Lib.hid (And.intro hW0 (And.intro hE0 (And.intro hT (And.intro hent (And.intro hm hl)))))
  clear hW0 hE0 hw hT hent hm hl
  go_enter_defers Try.func66, Try.ntmps66
  go_upto_region 1 with fail
  obtain ⟨hW, hE, hT, hent, hm, hl⟩ := H0.out
  generalize hEq : World.alloc _ _ = w1
  rw [hEq] at hW hE
  clear hEq H0
  generalize w.heap.size = t1 at hW ⊢
  have hW1 := hW.perm (L' := (tb, thO (.func (.func F) #[] caps) (.slice Al m cl) 0 false false false nil0) :: (Ll ++ ((t1 + 1, Obj.cells #[.bool false] 4) :: ((t1, Obj.cells #[.pointer (some ⟨tb, 0, none⟩)] 46) :: (N ++ R0))))) (perm_of_count fun x => by simp only [List.count_append, List.count_cons, List.count_nil, arenaObj, slotObj, nodeObj, worldObj]; omega)
  have c1 : w1.cell? ⟨t1, 0, none⟩ = some (.pointer (some ⟨tb, 0, none⟩)) := (hW1.cell (b := t1) (c := #[.pointer (some ⟨tb, 0, none⟩)]) (t := 46) (fr := (0, 0)) (by simp) 0).trans rfl
  have c4 := (hW1.th (b := tb) (List.mem_cons_self ..)).1.2.2.2.2.1
  have z4 := (hW1.th (b := tb) (List.mem_cons_self ..)).2 4
  have hW2 : Has (w1.setCell ⟨tb, 4, none⟩ (.bool true)) ((tb, thO (.func (.func F) #[] caps) (.slice Al m cl) 0 false true false nil0) :: (Ll ++ ((t1 + 1, Obj.cells #[.bool false] 4) :: ((t1, Obj.cells #[.pointer (some ⟨tb, 0, none⟩)] 46) :: (N ++ R0))))) := hW1.set 4 (.bool true)
  have hE2 := hE.setCell ⟨tb, 4, none⟩ (.bool true)
  clear hW hE hW1
  go_upto_region 3 with fail
  clear c1 c4 z4
  generalize World.setCell w1 _ _ = w2 at hW2 hE2 ⊢
  have c1 : w2.cell? ⟨t1, 0, none⟩ = some (.pointer (some ⟨tb, 0, none⟩)) := (hW2.cell (b := t1) (c := #[.pointer (some ⟨tb, 0, none⟩)]) (t := 46) (fr := (0, 0)) (by simp) 0).trans rfl
  have c0 := (hW2.th (b := tb) (List.mem_cons_self ..)).1.1
  have hwork := hT m hm ((t1 + 1, Obj.cells #[.bool false] 4) :: ((t1, Obj.cells #[.pointer (some ⟨tb, 0, none⟩)] 46) :: N)) tb (.func (.func F) #[] caps) Al cl Ll w2.drew hl hW2.drew
  by_cases hc : ts.length ≤ m + 1
  · unfold WorkEnd at hwork
    simp only [if_pos hc] at hwork
    have HK := Lib.hid (And.intro hwork (And.intro hent hc))
    clear hwork hent hc hT hm hl
    refine start_ (n := 10) (S := fun w' => w'.cell? ⟨t1, 0, none⟩ = some (.pointer (some ⟨tb, 0, none⟩)) ∧ w'.cell? ⟨tb, 0, none⟩ = some (.func (.func F) #[] caps)) (ds := [9]) #[false, false, false, false, false, false, false, false, false, false] (by kernel_rfl) rfl rfl ⟨c1, c0⟩ (fun hHeld => ?_)
    refine take_ (i := 0) (N := some 7) (v := ?_) (a' := ?_) #[true, false, false, false, false, false, false, false, false, false] rfl rfl (by kernel_rfl) (by first | exact fun _ _ _ h => h | exact fun _ _ _ h => runQ (by decide) h) (Or.inl ⟨by rfl, ?_⟩) hHeld ?_ ?_
    rotate_left
    · rintro w' ⟨s0, s1⟩
      go_simp
      with_reducible rfl
    rotate_left
    · simp only [Act.put, List.setIfInBounds_toArray, List.set_cons_zero, List.set_cons_succ, i64_w, i32_w]
      rfl
    refine take_ (i := 1) (N := some 8) (v := ?_) (a' := ?_) #[true, true, false, false, false, false, false, false, false, false] rfl rfl (by kernel_rfl) (by first | exact fun _ _ _ h => h | exact fun _ _ _ h => runQ (by decide) h) (Or.inl ⟨by rfl, ?_⟩) hHeld ?_ ?_
    rotate_left
    · rintro w' ⟨s0, s1⟩
      go_simp
      with_reducible rfl
    rotate_left
    · simp only [Act.put, List.setIfInBounds_toArray, List.set_cons_zero, List.set_cons_succ, i64_w, i32_w]
      rfl
    refine pure_ (i := 2) (N := some 9) (v := ?_) (a' := ?_) #[true, true, true, false, false, false, false, false, false, false] rfl rfl (by kernel_rfl) (by first | exact fun _ _ _ h => h | exact fun _ _ _ h => runQ (by decide) h) (Or.inl ⟨by rfl, ?_⟩) ?_ ?_
    rotate_left
    · intro w'
      go_simp
      with_reducible rfl
    rotate_left
    · simp only [Act.put, List.setIfInBounds_toArray, List.set_cons_zero, List.set_cons_succ, i64_w, i32_w]
      rfl
    refine pure_ (i := 3) (N := some 10) (v := ?_) (a' := ?_) #[true, true, true, true, false, false, false, false, false, false] rfl rfl (by kernel_rfl) (by first | exact fun _ _ _ h => h | exact fun _ _ _ h => runQ (by decide) h) (Or.inl ⟨by rfl, ?_⟩) ?_ ?_
    rotate_left
    · intro w'
      go_simp
      with_reducible rfl
    rotate_left
    · simp only [Act.put, List.setIfInBounds_toArray, List.set_cons_zero, List.set_cons_succ, i64_w, i32_w]
      rfl
    refine take_ (i := 4) (N := some 11) (v := ?_) (a' := ?_) #[true, true, true, true, true, false, false, false, false, false] rfl rfl (by kernel_rfl) (by first | exact fun _ _ _ h => h | exact fun _ _ _ h => runQ (by decide) h) (Or.inl ⟨by rfl, ?_⟩) hHeld ?_ ?_
    rotate_left
    · rintro w' ⟨s0, s1⟩
      go_simp
      with_reducible rfl
    rotate_left
    · simp only [Act.put, List.setIfInBounds_toArray, List.set_cons_zero, List.set_cons_succ, i64_w, i32_w]
      rfl
    refine take_ (i := 5) (N := some 12) (v := ?_) (a' := ?_) #[true, true, true, true, true, true, false, false, false, false] rfl rfl (by kernel_rfl) (by first | exact fun _ _ _ h => h | exact fun _ _ _ h => runQ (by decide) h) (Or.inl ⟨by rfl, ?_⟩) hHeld ?_ ?_
    rotate_left
    · rintro w' ⟨s0, s1⟩
      go_simp
      with_reducible rfl
    rotate_left
    · simp only [Act.put, List.setIfInBounds_toArray, List.set_cons_zero, List.set_cons_succ, i64_w, i32_w]
      rfl
    refine one_ (i := 6) (N := some 13) #[true, true, true, true, true, true, true, false, false, false] rfl rfl (by kernel_rfl) (by decide) (fun K hK => ?_)
    refine goesF_ HK.out.2.1 #[.pointer (some ⟨tb, 0, none⟩)] (by rfl) rfl rfl (by rfl) (by simp only [List.map_toArray, List.map_cons, List.map_nil]; rfl) ?_
    refine HK.out.1.mono ?_
    rintro ed w3 ⟨Al', cl', Ll', N', ⟨Ao, co, Lo, rfl, hro, hrl, hW3⟩, hE3⟩
    refine Or.inl ⟨_, rfl, ?_⟩
    have z6 := (hW3.th (b := tb) (List.mem_cons_self ..)).2 6
    have c6 := (hW3.th (b := tb) (List.mem_cons_self ..)).1.2.2.2.2.2.2
    refine hK.out _ _ ⟨((hW3.cell (b := t1) (c := #[.pointer (some ⟨tb, 0, none⟩)]) (t := 46) (fr := (0, 0)) (by simp) 0).trans rfl), (hW3.th (b := tb) (List.mem_cons_self ..)).1.1⟩ (fun hHeld => ?_)
    clear hK K
    refine norm_ (a' := ?_) ?_ ?_
    rotate_left
    · show Act.put _ (some 13) _ = _
      simp only [Act.put, List.setIfInBounds_toArray, List.set_cons_zero, List.set_cons_succ, i64_w, i32_w]
      rfl
    refine pure_ (i := 7) (N := some 14) (v := ?_) (a' := ?_) #[true, true, true, true, true, true, true, true, false, false] rfl rfl (by kernel_rfl) (by first | exact fun _ _ _ h => h | exact fun _ _ _ h => runQ (by decide) h) (Or.inl ⟨by rfl, ?_⟩) ?_ ?_
    rotate_left
    · intro w'
      go_simp
      with_reducible rfl
    rotate_left
    · simp only [Act.put, List.setIfInBounds_toArray, List.set_cons_zero, List.set_cons_succ, i64_w, i32_w]
      rfl
    refine pure_ (i := 8) (N := some 15) (v := ?_) (a' := ?_) #[true, true, true, true, true, true, true, true, true, false] rfl rfl (by kernel_rfl) (by first | exact fun _ _ _ h => h | exact fun _ _ _ h => runQ (by decide) h) (Or.inl ⟨by rfl, ?_⟩) ?_ ?_
    rotate_left
    · intro w'
      go_simp
      with_reducible rfl
    rotate_left
    · simp only [Act.put, List.setIfInBounds_toArray, List.set_cons_zero, List.set_cons_succ, i64_w, i32_w]
      rfl
    refine last_ (i := 9) (N := none) #[true, true, true, true, true, true, true, true, true, true] rfl rfl (by kernel_rfl) (by decide) (fun K hK => ?_)
    refine skip_ (w1 := ?_) (by rfl) rfl ?_ ?_
    rotate_left
    · go_simp
      rfl
    refine hK.out _ _ ?_
    clear hK K
    refine done_ (by kernel_rfl) ?_
    have hW4 : Has (w3.setCell ⟨tb, 6, none⟩ (.slice Ao out.length co)) ((tb, thO (.func (.func F) #[] caps) (.slice Al' ts.length cl') ts.length (decide (m < ts.length)) true false (.slice Ao out.length co)) :: (Ll' ++ (Lo ++ (N' ++ ((t1 + 1, Obj.cells #[.bool false] 4) :: ((t1, Obj.cells #[.pointer (some ⟨tb, 0, none⟩)] 46) :: (N ++ R0))))))) := hW3.set 6 (.slice Ao out.length co)
    have hE4 := ((hE2.drew).trans hE3).setCell ⟨tb, 6, none⟩ (.slice Ao out.length co)
    clear hHeld z6 c6 hW3 hE3 c1 c0 hW2 hE2
    generalize World.setCell w3 _ _ = w4 at hW4 hE4 ⊢
    have c1 : w4.cell? ⟨t1, 0, none⟩ = some (.pointer (some ⟨tb, 0, none⟩)) := (hW4.cell (b := t1) (c := #[.pointer (some ⟨tb, 0, none⟩)]) (t := 46) (fr := (0, 0)) (by simp) 0).trans rfl
    have c5 := (hW4.th (b := tb) (List.mem_cons_self ..)).1.2.2.2.2.2.1
    have z5 := (hW4.th (b := tb) (List.mem_cons_self ..)).2 5
    have hW5 := (hW4.set 5 (.bool true)).perm (L' := (t1 + 1, Obj.cells #[.bool false] 4) :: ((tb, thO (.func (.func F) #[] caps) (.slice Al' ts.length cl') ts.length (decide (m < ts.length)) true true (.slice Ao out.length co)) :: (Ll' ++ (Lo ++ (N' ++ ((t1, Obj.cells #[.pointer (some ⟨tb, 0, none⟩)] 46) :: (N ++ R0))))))) (by
      show List.Perm ((tb, thO (.func (.func F) #[] caps) (.slice Al' ts.length cl') ts.length (decide (m < ts.length)) true true (.slice Ao out.length co)) :: _) _
      exact (perm_of_count fun x => by simp only [List.count_append, List.count_cons, List.count_nil, arenaObj, slotObj, nodeObj, worldObj]; omega))
    have k2 := (hW5.cell (List.mem_cons_self ..) 0).trans (show #[Value.bool false][0]? = some (.bool false) from rfl)
    have kz := hW5.free (List.mem_cons_self ..) 0
    have hW6 : Has ((w4.setCell ⟨tb, 5, none⟩ (.bool true)).setCell ⟨t1 + 1, 0, none⟩ (.bool true)) ((t1 + 1, Obj.cells #[.bool true] 4) :: ((tb, thO (.func (.func F) #[] caps) (.slice Al' ts.length cl') ts.length (decide (m < ts.length)) true true (.slice Ao out.length co)) :: (Ll' ++ (Lo ++ (N' ++ ((t1, Obj.cells #[.pointer (some ⟨tb, 0, none⟩)] 46) :: (N ++ R0))))))) := hW5.set 0 (.bool true)
    have hE6 := (hE4.setCell ⟨tb, 5, none⟩ (.bool true)).setCell ⟨t1 + 1, 0, none⟩ (.bool true)
    have H6 := Lib.hid (And.intro hW6 (And.intro hE6 (And.intro hro hrl)))
    clear hW6 hE6 hW5 hE4 hro hrl hW4
    go_wp2_with fail
    obtain ⟨gW, gE, gro, grl⟩ := H6.out
    generalize World.setCell (World.setCell w4 _ _) _ _ = w6 at gW gE ⊢
    have gW := gW.perm (L' := (tb, thO (.func (.func F) #[] caps) (.slice Al' ts.length cl') ts.length (decide (m < ts.length)) true true (.slice Ao out.length co)) :: ((t1 + 1, Obj.cells #[.bool true] 4) :: (Ll' ++ (Lo ++ (N' ++ ((t1, Obj.cells #[.pointer (some ⟨tb, 0, none⟩)] 46) :: (N ++ R0))))))) (perm_of_count fun x => by simp only [List.count_append, List.count_cons, List.count_nil, arenaObj, slotObj, nodeObj, worldObj]; omega)
    clear c1 c5 z5 k2 kz H6
    refine leaves_cons (f := 81) (args := #[.pointer (some ⟨t1, 0, none⟩), .pointer (some ⟨t1 + 1, 0, none⟩)]) (by simp) (by simp [go_sem]) ?_
    refine (rec_idle gW (by simp)).mono ?_
    rintro e u' w'' ⟨rfl, rfl, rfl⟩
    have hF : Has (w6.setCell ⟨tb, 4, none⟩ (.bool false)) ((tb, thO (.func (.func F) #[] caps) (.slice Al' ts.length cl') ts.length (decide (m < ts.length)) false true (.slice Ao out.length co)) :: ((t1 + 1, Obj.cells #[.bool true] 4) :: (Ll' ++ (Lo ++ (N' ++ ((t1, Obj.cells #[.pointer (some ⟨tb, 0, none⟩)] 46) :: (N ++ R0))))))) := gW.set 4 (.bool false)
    have hFE := gE.setCell ⟨tb, 4, none⟩ (.bool false)
    generalize World.setCell w6 _ _ = w7 at hF hFE ⊢
    have hc2 := (hF.cell (b := t1 + 1) (c := #[.bool true]) (t := 4) (fr := (0, 0)) (by simp) 0).trans (show #[Value.bool true][0]? = some (.bool true) from rfl)
    show ∃ v, (results Try.f66 _).run Try.prog w7 = .ok v w7 ∧ RunEnd _ _ _ _ _ _ _ (.returned v) w7
    refine ⟨.bool true, by simp [results, Try.results66, go_sem, hc2], Al', cl', Ll', (t1 + 1, Obj.cells #[.bool true] 4) :: (N' ++ [(t1, Obj.cells #[.pointer (some ⟨tb, 0, none⟩)] 46)]), ?_, hFE⟩
    rw [if_pos HK.out.2.2]
    exact ⟨Ao, co, Lo, rfl, gro, grl, hF.perm (perm_of_count fun x => by simp only [List.count_append, List.count_cons, List.count_nil, arenaObj, slotObj, nodeObj, worldObj]; omega)⟩
  · unfold WorkEnd at hwork
    simp only [if_neg hc] at hwork
    have HK := Lib.hid (And.intro hwork (And.intro hent hc))
    clear hwork hent hc hT hm hl
    refine start_ (n := 10) (S := fun w' => w'.cell? ⟨t1, 0, none⟩ = some (.pointer (some ⟨tb, 0, none⟩)) ∧ w'.cell? ⟨tb, 0, none⟩ = some (.func (.func F) #[] caps)) (ds := [9]) #[false, false, false, false, false, false, false, false, false, false] (by kernel_rfl) rfl rfl ⟨c1, c0⟩ (fun hHeld => ?_)
    refine take_ (i := 0) (N := some 7) (v := ?_) (a' := ?_) #[true, false, false, false, false, false, false, false, false, false] rfl rfl (by kernel_rfl) (by first | exact fun _ _ _ h => h | exact fun _ _ _ h => runQ (by decide) h) (Or.inl ⟨by rfl, ?_⟩) hHeld ?_ ?_
    rotate_left
    · rintro w' ⟨s0, s1⟩
      go_simp
      with_reducible rfl
    rotate_left
    · simp only [Act.put, List.setIfInBounds_toArray, List.set_cons_zero, List.set_cons_succ, i64_w, i32_w]
      rfl
    refine take_ (i := 1) (N := some 8) (v := ?_) (a' := ?_) #[true, true, false, false, false, false, false, false, false, false] rfl rfl (by kernel_rfl) (by first | exact fun _ _ _ h => h | exact fun _ _ _ h => runQ (by decide) h) (Or.inl ⟨by rfl, ?_⟩) hHeld ?_ ?_
    rotate_left
    · rintro w' ⟨s0, s1⟩
      go_simp
      with_reducible rfl
    rotate_left
    · simp only [Act.put, List.setIfInBounds_toArray, List.set_cons_zero, List.set_cons_succ, i64_w, i32_w]
      rfl
    refine pure_ (i := 2) (N := some 9) (v := ?_) (a' := ?_) #[true, true, true, false, false, false, false, false, false, false] rfl rfl (by kernel_rfl) (by first | exact fun _ _ _ h => h | exact fun _ _ _ h => runQ (by decide) h) (Or.inl ⟨by rfl, ?_⟩) ?_ ?_
    rotate_left
    · intro w'
      go_simp
      with_reducible rfl
    rotate_left
    · simp only [Act.put, List.setIfInBounds_toArray, List.set_cons_zero, List.set_cons_succ, i64_w, i32_w]
      rfl
    refine pure_ (i := 3) (N := some 10) (v := ?_) (a' := ?_) #[true, true, true, true, false, false, false, false, false, false] rfl rfl (by kernel_rfl) (by first | exact fun _ _ _ h => h | exact fun _ _ _ h => runQ (by decide) h) (Or.inl ⟨by rfl, ?_⟩) ?_ ?_
    rotate_left
    · intro w'
      go_simp
      with_reducible rfl
    rotate_left
    · simp only [Act.put, List.setIfInBounds_toArray, List.set_cons_zero, List.set_cons_succ, i64_w, i32_w]
      rfl
    refine take_ (i := 4) (N := some 11) (v := ?_) (a' := ?_) #[true, true, true, true, true, false, false, false, false, false] rfl rfl (by kernel_rfl) (by first | exact fun _ _ _ h => h | exact fun _ _ _ h => runQ (by decide) h) (Or.inl ⟨by rfl, ?_⟩) hHeld ?_ ?_
    rotate_left
    · rintro w' ⟨s0, s1⟩
      go_simp
      with_reducible rfl
    rotate_left
    · simp only [Act.put, List.setIfInBounds_toArray, List.set_cons_zero, List.set_cons_succ, i64_w, i32_w]
      rfl
    refine take_ (i := 5) (N := some 12) (v := ?_) (a' := ?_) #[true, true, true, true, true, true, false, false, false, false] rfl rfl (by kernel_rfl) (by first | exact fun _ _ _ h => h | exact fun _ _ _ h => runQ (by decide) h) (Or.inl ⟨by rfl, ?_⟩) hHeld ?_ ?_
    rotate_left
    · rintro w' ⟨s0, s1⟩
      go_simp
      with_reducible rfl
    rotate_left
    · simp only [Act.put, List.setIfInBounds_toArray, List.set_cons_zero, List.set_cons_succ, i64_w, i32_w]
      rfl
    refine one_ (i := 6) (N := some 13) #[true, true, true, true, true, true, true, false, false, false] rfl rfl (by kernel_rfl) (by decide) (fun K hK => ?_)
    refine goesF_ HK.out.2.1 #[.pointer (some ⟨tb, 0, none⟩)] (by rfl) rfl rfl (by rfl) (by simp only [List.map_toArray, List.map_cons, List.map_nil]; rfl) ?_
    refine HK.out.1.mono ?_
    rintro ed w3 ⟨Al', cl', Ll', N', ⟨rfl, hrl, hW3⟩, hE3⟩
    refine Or.inr ⟨_, rfl, ?_⟩
    show Leaves Try.prog Try.f66 _ _ [{ target := .fn (.func 81) #[.pointer (some ⟨t1, 0, none⟩), .pointer (some ⟨t1 + 1, 0, none⟩)], args := #[] }] (.panicking waitP) w3
    have gE := hE2.drew.trans hE3
    have gW := hW3.perm (L' := (tb, thO (.func (.func F) #[] caps) (.slice Al' (m + 1) cl') (m + 1 : Nat) true true false nil0) :: ((t1 + 1, Obj.cells #[.bool false] 4) :: (Ll' ++ (N' ++ ((t1, Obj.cells #[.pointer (some ⟨tb, 0, none⟩)] 46) :: (N ++ R0)))))) (perm_of_count fun x => by simp only [List.count_append, List.count_cons, List.count_nil, arenaObj, slotObj, nodeObj, worldObj]; omega)
    clear hW3 hE3 hE2 hK hHeld c1 c0 hW2
    refine leaves_cons (f := 81) (args := #[.pointer (some ⟨t1, 0, none⟩), .pointer (some ⟨t1 + 1, 0, none⟩)]) (by simp) (by simp [go_sem]) ?_
    refine (rec_wait gW (v2 := false) (by simp) (by simp)).mono ?_
    rintro e u' w'' ⟨rfl, rfl, rfl⟩
    have hF1 : Has (w3.setCell ⟨tb, 4, none⟩ (.bool false)) ((tb, thO (.func (.func F) #[] caps) (.slice Al' (m + 1) cl') (m + 1 : Nat) true false false nil0) :: ((t1 + 1, Obj.cells #[.bool false] 4) :: (Ll' ++ (N' ++ ((t1, Obj.cells #[.pointer (some ⟨tb, 0, none⟩)] 46) :: (N ++ R0)))))) := gW.set 4 (.bool false)
    have hF2 := (hF1.alloc (Obj.cells #[] 153 (0, 0))).perm (L' := (t1 + 1, Obj.cells #[.bool false] 4) :: ((tb, thO (.func (.func F) #[] caps) (.slice Al' (m + 1) cl') (m + 1 : Nat) true false false nil0) :: (Ll' ++ (N' ++ ((t1, Obj.cells #[.pointer (some ⟨tb, 0, none⟩)] 46) :: (((w3.setCell ⟨tb, 4, none⟩ (.bool false)).heap.size, Obj.cells #[] 153 (0, 0)) :: (N ++ R0))))))) (perm_of_count fun x => by simp only [List.count_append, List.count_cons, List.count_nil, arenaObj, slotObj, nodeObj, worldObj]; omega)
    generalize (w3.setCell ⟨tb, 4, none⟩ (.bool false)).heap.size = b9 at hF2
    have hF : Has (((w3.setCell ⟨tb, 4, none⟩ (.bool false)).alloc (Obj.cells #[] 153 (0, 0))).setCell ⟨t1 + 1, 0, none⟩ (.bool false)) ((t1 + 1, Obj.cells #[.bool false] 4) :: ((tb, thO (.func (.func F) #[] caps) (.slice Al' (m + 1) cl') (m + 1 : Nat) true false false nil0) :: (Ll' ++ (N' ++ ((t1, Obj.cells #[.pointer (some ⟨tb, 0, none⟩)] 46) :: ((b9, Obj.cells #[] 153 (0, 0)) :: (N ++ R0))))))) := hF2.set 0 (.bool false)
    have hFE := ((gE.setCell ⟨tb, 4, none⟩ (.bool false)).alloc (Obj.cells #[] 153 (0, 0))).setCell ⟨t1 + 1, 0, none⟩ (.bool false)
    generalize World.setCell (World.alloc _ _) _ _ = w7 at hF hFE ⊢
    have hc2 := (hF.cell (b := t1 + 1) (c := #[.bool false]) (t := 4) (fr := (0, 0)) (List.mem_cons_self ..) 0).trans (show #[Value.bool false][0]? = some (.bool false) from rfl)
    show ∃ v, (results Try.f66 _).run Try.prog w7 = .ok v w7 ∧ RunEnd _ _ _ _ _ _ _ (.returned v) w7
    refine ⟨.bool false, by simp [results, Try.results66, go_sem, hc2], Al', cl', Ll', (t1 + 1, Obj.cells #[.bool false] 4) :: (N' ++ [(t1, Obj.cells #[.pointer (some ⟨tb, 0, none⟩)] 46), (b9, Obj.cells #[] 153 (0, 0))]), ?_, hFE⟩
    rw [if_neg HK.out.2.2]
    exact ⟨rfl, hrl, hF.perm (perm_of_count fun x => by simp only [List.count_append, List.count_cons, List.count_nil, arenaObj, slotObj, nodeObj, worldObj]; omega)⟩
end Go.Proofs.Ytjkfigkgeoacfaa
