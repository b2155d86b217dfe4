import Derived.Test.YtjkfigkgeoacfaaU3
set_option linter.unusedVariables false
set_option linter.unusedSimpArgs false
namespace Go.Proofs.Ytjkfigkgeoacfaa
open Go.RowKit Go.Proofs.YtjkfigkgeoacfaaW.PrintLast

theorem WorkEnd.perm {ts out : List Int} {m tb : Nat} {wk : Value} {R R' : HL} {w w' : World} {ed : Ending} (h : WorkEnd ts out m tb wk R w ed w') (hp : R.Perm R') : WorkEnd ts out m tb wk R' w ed w' := by
  obtain ⟨Al', cl', Ll', N, hif, hE⟩ := h
  refine ⟨Al', cl', Ll', N, ?_, hE⟩
  split at hif
  · rename_i hc
    rw [if_pos hc]
    obtain ⟨Ao, co, Lo, h1, h2, h3, h4⟩ := hif
    exact ⟨Ao, co, Lo, h1, h2, h3, h4.perm (List.Perm.cons _ (List.Perm.append_left _ (List.Perm.append_left _ (List.Perm.append_left _ hp))))⟩
  · rename_i hc
    rw [if_neg hc]
    obtain ⟨h1, h2, h3⟩ := hif
    exact ⟨h1, h2, h3.perm (List.Perm.cons _ (List.Perm.append_left _ (List.Perm.append_left _ hp)))⟩

/-- A function that does a task's work, and that of a thread. -/
def WorkOK (R0 : HL) (K : Nat) (caps : Array Value) (p : Nat) (me : Int) (ts out : List Int) : Prop :=
  ∀ (m : Nat), m ≤ ts.length → ∀ (N : HL) (tb : Nat) (wk : Value) (Al : Option Addr) (cl : Nat) (Ll : HL) (w : World), Row 2 1 (.slice Al m cl) m (ints (ts.take m)) Ll → Has w ((tb, thO wk (.slice Al m cl) 0 false true false nil0) :: (Ll ++ (N ++ R0))) →
    Calls Try.prog K (#[.agg #[.pointer (some ⟨tb, 0, none⟩), .pointer (some ⟨p, 0, none⟩), .int .i64 me]] ++ caps) w (WorkEnd ts out m tb wk (N ++ R0) w)
def ThreadOK (R0 : HL) (F : Nat) (caps : Array Value) (ts out : List Int) : Prop :=
  ∀ (m : Nat), m ≤ ts.length → ∀ (N : HL) (tb : Nat) (wk : Value) (Al : Option Addr) (cl : Nat) (Ll : HL) (w : World), Row 2 1 (.slice Al m cl) m (ints (ts.take m)) Ll → Has w ((tb, thO wk (.slice Al m cl) 0 false true false nil0) :: (Ll ++ (N ++ R0))) →
    Calls Try.prog F (#[.pointer (some ⟨tb, 0, none⟩)] ++ caps) w (WorkEnd ts out m tb wk (N ++ R0) w)

theorem walker_work {Ra R2 : HL} {a : Nat} {A : AArena} {L : HL} (hA : ArenaRep Ra a A L) (hO : A.Ok) (hsub : ∀ q, q ∈ Ra → q ∈ R2) {p t e : Nat} {x y er : Int} (hp : (p, wldO a t e x y er) ∈ R2)
    {key : Int} {ss0 : List (Int × ANode × Nat)} {ts0 : List Int} (hP : PathA A key er ss0 ts0) (hlen : ts0.length ≤ 100000) (hpl : ∀ st ∈ ss0, st.2.1.pairs.length ≤ 100000) {kb : Nat} (hkb : (kb, Obj.cells #[.int .i64 key] 2 (0, 0)) ∈ R2) (me : Int) :
    WorkOK (L ++ R2) 43 #[.pointer (some ⟨kb, 0, none⟩)] p me ts0 (tells ss0) := by
  intro m hm N tb wk Al cl Ll w hl hw
  have hw' := hw.perm (L' := (tb, thO wk (.slice Al m cl) 0 false true false nil0) :: (Ll ++ (L ++ (N ++ R2)))) (perm_of_count fun x => by simp only [List.count_append, List.count_cons, List.count_nil, arenaObj, slotObj, nodeObj, worldObj]; omega)
  exact (walker1_any hA hO (R2 := N ++ R2) (fun q hq => List.mem_append_right _ (hsub q hq)) (List.mem_append_right _ hp) hP hlen hpl hm hl (List.mem_append_right _ hkb) hw').mono fun ed w' h => h.perm (List.perm_append_comm_assoc L N R2)

set_option maxRecDepth 100000 in
set_option maxHeartbeats 1000000 in
theorem start_work {R0 : HL} {K : Nat} {caps : Array Value} {p : Nat} {me : Int} {ts out : List Int} (hwk : WorkOK R0 K caps p me ts out) (hent : ∀ args w, (callFunc K args).run Try.prog w = .ok (.enter K args) w) {wb vb mb : Nat}
    (h1 : (wb, Obj.cells #[.func (.func K) #[] caps] 76 (0, 0)) ∈ R0) (h2 : (vb, Obj.cells #[.pointer (some ⟨p, 0, none⟩)] 34 (0, 0)) ∈ R0) (h3 : (mb, Obj.cells #[.int .i64 me] 3 (0, 0)) ∈ R0) :
    ThreadOK R0 52 #[.pointer (some ⟨wb, 0, none⟩), .pointer (some ⟨vb, 0, none⟩), .pointer (some ⟨mb, 0, none⟩)] ts out := by
  intro m hm N tb wk Al cl Ll w hl hw
  have c1 : w.cell? ⟨wb, 0, none⟩ = some (.func (.func K) #[] caps) := (hw.cell (b := wb) (c := #[.func (.func K) #[] caps]) (t := 76) (fr := (0, 0)) (by simp [h1]) 0).trans rfl
  have c2 : w.cell? ⟨vb, 0, none⟩ = some (.pointer (some ⟨p, 0, none⟩)) := (hw.cell (b := vb) (c := #[.pointer (some ⟨p, 0, none⟩)]) (t := 34) (fr := (0, 0)) (by simp [h2]) 0).trans rfl
  have c3 : w.cell? ⟨mb, 0, none⟩ = some (.int .i64 me) := (hw.cell (b := mb) (c := #[.int .i64 me]) (t := 3) (fr := (0, 0)) (by simp [h3]) 0).trans rfl
  have hwork := hwk m hm N tb wk Al cl Ll w hl hw
  have HW := Lib.hid (And.intro hwork hent)
  clear hwork hent hwk hl hw h1 h2 h3
  show Calls Try.prog 52 #[.pointer (some ⟨tb, 0, none⟩), .pointer (some ⟨wb, 0, none⟩), .pointer (some ⟨vb, 0, none⟩), .pointer (some ⟨mb, 0, none⟩)] w _
  by_cases hc : ts.length ≤ m + 1
  · go_enter Try.func52, Try.ntmps52
    go_wp2_with fail
    rw [HW.out.2, Oper.upon_enter]
    refine HW.out.1.mono ?_
    intro ed w2 hend
    unfold WorkEnd at hend
    simp only [if_pos hc] at hend
    obtain ⟨Al', cl', Ll', N', ⟨Ao, co, Lo, rfl, r1, r2, r3⟩, hE⟩ := hend
    have HF := Lib.hid (And.intro hc (And.intro r1 (And.intro r2 (And.intro r3 hE))))
    clear r1 r2 r3 hE hc HW c1 c2 c3
    go_wp2
    go_ret
    obtain ⟨hc, r1, r2, r3, hE⟩ := HF.out
    refine ⟨Al', cl', Ll', N', ?_, hE⟩
    rw [if_pos hc]
    exact ⟨Ao, co, Lo, rfl, r1, r2, r3⟩
  · go_enter Try.func52, Try.ntmps52
    go_wp2_with fail
    rw [HW.out.2, Oper.upon_enter]
    refine HW.out.1.mono ?_
    intro ed w2 hend
    have hend2 := hend
    unfold WorkEnd at hend
    simp only [if_neg hc] at hend
    obtain ⟨Al', cl', Ll', N', ⟨rfl, r2, r3⟩, hE⟩ := hend
    go_wp2
    exact ⟨rfl, hend2⟩

set_option maxRecDepth 100000 in
set_option maxHeartbeats 1000000 in
theorem rec_wait {t1 t2 tb : Nat} {wk lg out : Value} {pos : Int} {sp dn : Bool} {R : HL} {w : World} {v2 : Bool} (hw : Has w ((tb, thO wk lg pos sp true dn out) :: R)) (h1 : (t1, Obj.cells #[.pointer (some ⟨tb, 0, none⟩)] 46 (0, 0)) ∈ R) (h2 : (t2, Obj.cells #[.bool v2] 4 (0, 0)) ∈ R) :
    CallsD Try.prog 81 #[.pointer (some ⟨t1, 0, none⟩), .pointer (some ⟨t2, 0, none⟩)] (.panicking waitP) w fun e u' w' =>
      e = .returned (.tuple #[]) ∧ u' = .panicking [{ v := .iface 153 (.agg #[]), recovered := true }] ∧ w' = ((w.setCell ⟨tb, 4, none⟩ (.bool false)).alloc (.cells #[] 153)).setCell ⟨t2, 0, none⟩ (.bool false) := by
  have c1 : w.cell? ⟨t1, 0, none⟩ = some (.pointer (some ⟨tb, 0, none⟩)) := (hw.cell (b := t1) (c := #[.pointer (some ⟨tb, 0, none⟩)]) (t := 46) (fr := (0, 0)) (by simp [h1]) 0).trans rfl
  have c2 : w.cell? ⟨t2, 0, none⟩ = some (.bool v2) := (hw.cell (b := t2) (c := #[.bool v2]) (t := 4) (fr := (0, 0)) (by simp [h2]) 0).trans rfl
  have z2 : w.frozen? ⟨t2, 0, none⟩ = false := hw.free (b := t2) (c := #[.bool v2]) (t := 4) (by simp [h2]) 0
  have c4 := (hw.th (b := tb) (List.mem_cons_self ..)).1.2.2.2.2.1
  have z4 := (hw.th (b := tb) (List.mem_cons_self ..)).2 4
  have hwx := (hw.set 4 (.bool false)).alloc (Obj.cells #[] 153 (0, 0))
  have k2 := (hwx.cell (b := t2) (c := #[.bool v2]) (t := 4) (fr := (0, 0)) (by simp [h2]) 0).trans (show #[Value.bool v2][0]? = some (.bool v2) from rfl)
  have kz := hwx.free (b := t2) (c := #[.bool v2]) (t := 4) (by simp [h2]) 0
  clear hwx
  have hta : ∀ w : World, (Instr.typeAssert (.iface 153 (.agg #[])) 20 153 true).run Try.prog w = .ok (.tuple #[.agg #[], .bool true]) w := fun _ => by kernel_rfl
  refine callsD_of_wpS Try.func81 rfl fun c₀ cs hu => ?_
  apply wpS_seq
  apply wpS_region
  simp [wpOpsS, go_sem, c1, c4, z4, Try.ntmps81, Exit.thenS]
  apply wpS_seq
  apply wpS_region
  simp [wpOpsS, go_sem, recoverD, hu, Try.ntmps81, Exit.thenS]
  refine wpS_of_wp ?_
  show Code.wp _ _ _ { tmps := #[.pointer (some ⟨t1, 0, none⟩), .pointer (some ⟨t2, 0, none⟩), .iface 153 (.agg #[]), undef, undef, .pointer (some ⟨tb, 0, none⟩), .pointer (some ⟨tb, 0, none⟩), .pointer (some ⟨tb, 4, none⟩), .iface 153 (.agg #[]), undef, undef, undef, undef, undef, undef, undef, undef, undef, undef], defers := [] } _
  go_wp2_with fail
  simp [bodyPostS, results, Try.results81]

set_option maxRecDepth 100000 in
set_option maxHeartbeats 1000000 in
theorem rec_idle {t1 t2 tb : Nat} {wk lg out : Value} {pos : Int} {sp dn : Bool} {R : HL} {w : World} (hw : Has w ((tb, thO wk lg pos sp true dn out) :: R)) (h1 : (t1, Obj.cells #[.pointer (some ⟨tb, 0, none⟩)] 46 (0, 0)) ∈ R) :
    CallsD Try.prog 81 #[.pointer (some ⟨t1, 0, none⟩), .pointer (some ⟨t2, 0, none⟩)] .returning w fun e u' w' => e = .returned (.tuple #[]) ∧ u' = .returning ∧ w' = w.setCell ⟨tb, 4, none⟩ (.bool false) := by
  have c1 : w.cell? ⟨t1, 0, none⟩ = some (.pointer (some ⟨tb, 0, none⟩)) := (hw.cell (b := t1) (c := #[.pointer (some ⟨tb, 0, none⟩)]) (t := 46) (fr := (0, 0)) (by simp [h1]) 0).trans rfl
  have c4 := (hw.th (b := tb) (List.mem_cons_self ..)).1.2.2.2.2.1
  have z4 := (hw.th (b := tb) (List.mem_cons_self ..)).2 4
  refine callsD_of_wpS Try.func81 rfl fun c₀ cs hu => ?_
  apply wpS_seq
  apply wpS_region
  simp [wpOpsS, go_sem, c1, c4, z4, Try.ntmps81, Exit.thenS]
  apply wpS_seq
  apply wpS_region
  simp [wpOpsS, go_sem, recoverD, hu, Try.ntmps81, Exit.thenS]
  refine wpS_of_wp ?_
  show Code.wp _ _ _ { tmps := #[.pointer (some ⟨t1, 0, none⟩), .pointer (some ⟨t2, 0, none⟩), .nilIface, undef, undef, .pointer (some ⟨tb, 0, none⟩), .pointer (some ⟨tb, 0, none⟩), .pointer (some ⟨tb, 4, none⟩), .nilIface, undef, undef, undef, undef, undef, undef, undef, undef, undef, undef], defers := [] } _
  go_wp2_with fail
  cases c₀
  simp_all [bodyPostS, results, Try.results81]

/-- A call of a function value, which may panic, as an operation of a region of open order. -/
theorem goesF_ {P : Program} {ops : Array Oper} {Q : Exit → Act → World → Prop} {oi : Oper} {N : Option Tmp} {a : Act} {w : World} {K : Act → World → Prop} {f : FuncId} {caps : Array Value} {ops1 : Array Operand} {ts : Array TypeId} {o : Operand} (hent : ∀ args w, (callFunc f args).run P w = .ok (.enter f args) w) (args : Array Value)
    (hw : Region.wanted oi (yielded ops a.tmps) = true) (hN : oi.dst = N) (hop : oi.op = .call { callee := .value o, args := ops1, argTypes := ts }) (ho : a.eval o = .func (.func f) #[] caps) (hargs : ops1.map a.eval = args)
    (h : Calls P f (args ++ caps) w fun e w' => (∃ v, e = .returned v ∧ K (a.put N v) w') ∨ ∃ ch, e = .panicked ch ∧ Q (.panic ch) a w') : if Region.wanted oi (yielded ops a.tmps) = true then Oper.wp P oi a w K Q else K (a.put N undef) w := by
  rw [if_pos hw]
  subst hN
  unfold Oper.wp
  have he := hent (args ++ caps) w
  have hrun : (execOp a.eval oi).run P w = .ok (.enter f (args ++ caps)) w := by
    unfold execOp
    simp [hop, resolve, Deferred.ofValue, invoke, ho, hargs, he]
  rw [hrun, Oper.upon_enter]
  refine h.mono fun e w'' hh => ?_
  rcases hh with ⟨v, rfl, hk⟩ | ⟨ch, rfl, hk⟩
  · exact hk
  · exact hk
end Go.Proofs.Ytjkfigkgeoacfaa
