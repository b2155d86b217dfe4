import Derived.Test.YtjkfigkgeoacfaaM0
set_option linter.unusedVariables false
set_option linter.unusedSimpArgs false
namespace Go.Proofs.Ytjkfigkgeoacfaa
open Go.RowKit Go.Proofs.YtjkfigkgeoacfaaW.PrintLast

/-- A walker goes alone to its end. -/
theorem alone_walk {S : AWorld} {R L : HL} {p : Nat} (hWR : WorldRep R p S L) (hO : S.arena.Ok) {key : Int} {ss : List (Int × ANode × Nat)} {ts : List Int} (hP : PathA S.arena key S.entry ss ts) (hlen : ts.length ≤ 19999) (hpl : ∀ st ∈ ss, st.2.1.pairs.length ≤ 100000)
    {tb vb mb wb kb : Nat} {w : World} (hw : Has w ((tb, thO (.func (.func 52) #[] #[.pointer (some ⟨wb, 0, none⟩), .pointer (some ⟨vb, 0, none⟩), .pointer (some ⟨mb, 0, none⟩)]) nil0 0 false false false nil0) :: ((wb, Obj.cells #[.func (.func 43) #[] #[.pointer (some ⟨kb, 0, none⟩)]] 76 (0, 0)) :: (mb, Obj.cells #[.int .i64 0] 3 (0, 0)) :: (vb, Obj.cells #[.pointer (some ⟨p, 0, none⟩)] 34 (0, 0)) :: (kb, Obj.cells #[.int .i64 key] 2 (0, 0)) :: (L ++ R)))) :
    Calls Try.prog 14 #[.pointer (some ⟨tb, 0, none⟩)] w fun e w' => ∃ A c Lo N', e = .returned (.tuple #[.slice A (tells ss).length c, .int .i64 (max ts.length 1 : Nat), .bool true]) ∧ Row 2 1 (.slice A (tells ss).length c) (tells ss).length (ints (tells ss)) Lo ∧ Has w' (Lo ++ (N' ++ (L ++ R))) ∧ Ext w w' := by
  obtain ⟨a, t, e, La, Lt, Le, rfl, hA, hT, hEp⟩ := hWR
  have hslen := hP.len
  have hwk := walker_work hA hO (R2 := (wb, Obj.cells #[.func (.func 43) #[] #[.pointer (some ⟨kb, 0, none⟩)]] 76 (0, 0)) :: (mb, Obj.cells #[.int .i64 0] 3 (0, 0)) :: (vb, Obj.cells #[.pointer (some ⟨p, 0, none⟩)] 34 (0, 0)) :: (kb, Obj.cells #[.int .i64 key] 2 (0, 0)) :: ((p, wldO a t e S.a S.b S.entry) :: (Lt ++ (Le ++ R)))) (fun q hq => by simp [hq]) (p := p) (t := t) (e := e) (x := S.a) (y := S.b) (by simp) hP (by omega) hpl (kb := kb) (by simp) 0
  have hth := start_work hwk (fun args w => enters_ Try.func43 (by kernel_rfl) rfl args w) (wb := wb) (vb := vb) (mb := mb) (by simp) (by simp) (by simp)
  have hal := alone_any hth (fun args w => enters_ Try.func52 (by kernel_rfl) rfl args w) hlen (by rw [tells_len]; omega) [] (tb := tb) (w := w) (by
    have hw' : Has w ((tb, thO (.func (.func 52) #[] #[.pointer (some ⟨wb, 0, none⟩), .pointer (some ⟨vb, 0, none⟩), .pointer (some ⟨mb, 0, none⟩)]) nil0 0 false false false nil0) :: ((wb, Obj.cells #[.func (.func 43) #[] #[.pointer (some ⟨kb, 0, none⟩)]] 76 (0, 0)) :: (mb, Obj.cells #[.int .i64 0] 3 (0, 0)) :: (vb, Obj.cells #[.pointer (some ⟨p, 0, none⟩)] 34 (0, 0)) :: (kb, Obj.cells #[.int .i64 key] 2 (0, 0)) :: (((p, wldO a t e S.a S.b S.entry) :: (La ++ (Lt ++ Le))) ++ R))) := hw
    exact hw'.perm (perm_of_count fun x => by simp only [List.count_append, List.count_cons, List.count_nil, arenaObj, slotObj, nodeObj, worldObj]; omega))
  refine hal.mono ?_
  rintro ed w' ⟨A, c, Lo, N', rfl, hr, hW, hE⟩
  refine ⟨A, c, Lo, N' ++ [(wb, Obj.cells #[.func (.func 43) #[] #[.pointer (some ⟨kb, 0, none⟩)]] 76 (0, 0)), (mb, Obj.cells #[.int .i64 0] 3 (0, 0)), (vb, Obj.cells #[.pointer (some ⟨p, 0, none⟩)] 34 (0, 0)), (kb, Obj.cells #[.int .i64 key] 2 (0, 0))], rfl, hr, ?_, hE⟩
  show Has w' (Lo ++ (_ ++ (((p, wldO a t e S.a S.b S.entry) :: (La ++ (Lt ++ Le))) ++ R)))
  exact hW.perm (perm_of_count fun x => by simp only [List.count_append, List.count_cons, List.count_nil, arenaObj, slotObj, nodeObj, worldObj]; omega)

/-- The way in a new world: the entry, and an empty leaf. -/
theorem new_path (a b : Int) (threads : Nat) (nodes records key : Int) : PathA (newWorld a b threads nodes records).arena key (newWorld a b threads nodes records).entry
    [(refOf 1 1, entryNode (refOf 0 1), 0), (refOf 0 1, leafNode, 0)] [refOf 0 1] := by
  have h0 : (newWorld a b threads nodes records).arena.slots[0]? = some (newSlot leafNode 1) := rfl
  have h1 : (newWorld a b threads nodes records).arena.slots[1]? = some (newSlot (entryNode (refOf 0 1)) 1) := rfl
  have hl := PathA.leaf (key := key) h0 rfl rfl
  have := PathA.node (key := key) (r' := refOf 0 1) h1 rfl rfl List.Pairwise.nil (by simp [newSlot, entryNode]) rfl rfl (refOf_ne (i := 0) (by omega) (by omega) (by omega)) hl
  exact this

set_option maxRecDepth 100000 in
set_option maxHeartbeats 4000000 in
theorem awake11_any {R : HL} {w : World} (hw : Has w R) : Calls Try.prog 7 #[] w fun e w' => e = .returned (.bool true) ∧ (∃ N, Has w' (N ++ R)) ∧ Ext w w' := by
  have hnew := worldNew_any (a := 2) (b := 3) (threads := 1) (nodes := 9) (records := 9) (by omega) (by omega) (by omega) (by omega) (by omega) (by omega) (by omega) (by omega) (by omega) (by omega) hw
  have HN := Lib.hid hnew
  clear hnew hw
  go_enter Try.func7, Try.ntmps7
  go_upto_region 4 with (go_at_call 33; refine HN.out.mono ?_; rintro ed w1 ⟨p, L, N, rfl, hWR, hW1, hE1⟩)
  have hwalk := walker_any (p := p) (key := 7) hW1
  have HK := Lib.hid (And.intro hwalk (And.intro hWR hE1))
  clear hwalk hWR hE1 hW1
  go_upto_region 5 with first
    | (go_at_call 15; refine HK.out.1.mono ?_; rintro ed w2 ⟨tb, vb, mb, wb, kb, rfl, hW2, hE2⟩)
    | (go_at_call 14; refine (alone_walk HK.out.2.1 (newWorld_fresh (by omega) (by omega)).ok (new_path 2 3 1 9 9 7) (by simp) (by simp [entryNode, leafNode]) hW2).mono ?_; rintro ed w3 ⟨A3, c3, L3, N3, rfl, hr3, hW3, hE3⟩)
  have htl : tells [(refOf 1 1, entryNode (refOf 0 1), 0), (refOf 0 1, leafNode, 0)] = [refOf 1 1, 0, 0, refOf 0 1, 0, -1] := by simp [tells, tellS, entryNode, leafNode]
  rw [htl] at hr3 ⊢
  obtain ⟨a, t, e, La, Lt, Le, hL, _⟩ := HK.out.2.1
  have cp : w3.cell? ⟨p, 5, none⟩ = some (.int .i64 (refOf 1 1)) := (hW3.cell (b := p) (c := #[.pointer (some ⟨a, 0, none⟩), .pointer (some ⟨t, 0, none⟩), .pointer (some ⟨e, 0, none⟩), .int .i64 2, .int .i64 3, .int .i64 (refOf 1 1)]) (t := 41) (fr := (0, 0)) (by rw [hL]; simp [newWorld]) 5).trans rfl
  obtain ⟨g, off, c3', he, _, _, hc⟩ := (hr3.rd []).known (by simp)
  cases he
  have hc := hc w3 _ (hW3.knows (L0 := L3 ++ []) (fun q hq => by simp only [List.append_nil] at hq; simp [hq])) (fun q hq => hq)
  have k0 : w3.cell? ⟨g, off + 0, none⟩ = some (.int .i64 (refOf 1 1)) := hc 0 _ rfl
  have k3 : w3.cell? ⟨g, off + 3, none⟩ = some (.int .i64 (refOf 0 1)) := hc 3 _ rfl
  have k5 : w3.cell? ⟨g, off + 5, none⟩ = some (.int .i64 (-1)) := hc 5 _ rfl
  rw [Nat.add_zero] at k0
  have hof : ∀ n, Calls Try.prog 34 #[.int .i64 0, .int .u32 1] (w3.drewN n) fun e w' => e = .returned (.int .i64 (refOf 0 1)) ∧ w' = w3.drewN n := fun n => (of_any 0 1 (w3.drewN n)).mono fun _ _ h => ⟨h.1, h.2.symm⟩
  have HF := Lib.hid (And.intro hof (And.intro hW3 ((HK.out.2.2.trans hE2).trans hE3)))
  clear hof hW3 hE3 hE2 hc hr3 htl hW2 HK HN hL
  generalize refOf 1 1 = r1 at *
  generalize refOf 0 1 = r0 at *
  simp only [List.length_cons, List.length_nil]
  go_quiet ((go_at_call 34; exact Calls.quiet_of_same (HF.out.1 _)))
  go_wp2_with fail
  go_ret
  refine ⟨rfl, ⟨L3 ++ (N3 ++ (L ++ N)), ?_⟩, HF.out.2.2.drewN _⟩
  have := HF.out.2.1.drewN nq
  simpa using this
end Go.Proofs.Ytjkfigkgeoacfaa
