import Derived.Test.YtjkfigkgeoacfaaM2
import Derived.Test.YtjkfigkgeoacfaaU7
import Derived.Test.YtjkfigkgeoacfaaU8
import Derived.Test.YtjkfigkgeoacfaaL4
set_option linter.unusedVariables false
set_option linter.unusedSimpArgs false
namespace Go.Proofs.Ytjkfigkgeoacfaa
open Go.RowKit Go.Proofs.YtjkfigkgeoacfaaW.PrintLast

/-- A thread with whatever work goes alone to its end. -/
theorem alone_work {L Y : HL} {K : Nat} {caps : Array Value} {p : Nat} {me : Int} {ts out : List Int} {tb vb mb wb : Nat}
    (hwk : WorkOK (L ++ ((wb, Obj.cells #[.func (.func K) #[] caps] 76 (0, 0)) :: (mb, Obj.cells #[.int .i64 me] 3 (0, 0)) :: (vb, Obj.cells #[.pointer (some ⟨p, 0, none⟩)] 34 (0, 0)) :: Y)) K caps p me ts out)
    (hent : ∀ args w, (callFunc K args).run Try.prog w = .ok (.enter K args) w) (hlen : ts.length ≤ 19999) (hout : out.length ≤ 1000000)
    {w : World} (hw : Has w ((tb, thO (.func (.func 52) #[] #[.pointer (some ⟨wb, 0, none⟩), .pointer (some ⟨vb, 0, none⟩), .pointer (some ⟨mb, 0, none⟩)]) nil0 0 false false false nil0) :: ((wb, Obj.cells #[.func (.func K) #[] caps] 76 (0, 0)) :: (mb, Obj.cells #[.int .i64 me] 3 (0, 0)) :: (vb, Obj.cells #[.pointer (some ⟨p, 0, none⟩)] 34 (0, 0)) :: (L ++ Y)))) :
    Calls Try.prog 14 #[.pointer (some ⟨tb, 0, none⟩)] w fun e w' => ∃ A c Lo N', e = .returned (.tuple #[.slice A out.length c, .int .i64 (max ts.length 1 : Nat), .bool true]) ∧ Row 2 1 (.slice A out.length c) out.length (ints out) Lo ∧ Has w' (Lo ++ (N' ++ (L ++ Y))) ∧ Ext w w' := by
  have hth := start_work hwk hent (wb := wb) (vb := vb) (mb := mb) (by simp) (by simp) (by simp)
  have hal := alone_any hth (fun args w => enters_ Try.func52 (by kernel_rfl) rfl args w) hlen hout [] (tb := tb) (w := w) (hw.perm (perm_of_count fun x => by simp only [List.count_append, List.count_cons, List.count_nil, arenaObj, slotObj, nodeObj, worldObj, pairObj]; omega))
  refine hal.mono ?_
  rintro ed w' ⟨A, c, Lo, N', rfl, hr, hW, hE⟩
  exact ⟨A, c, Lo, N' ++ [(wb, Obj.cells #[.func (.func K) #[] caps] 76 (0, 0)), (mb, Obj.cells #[.int .i64 me] 3 (0, 0)), (vb, Obj.cells #[.pointer (some ⟨p, 0, none⟩)] 34 (0, 0))], rfl, hr, hW.perm (perm_of_count fun x => by simp only [List.count_append, List.count_cons, List.count_nil, arenaObj, slotObj, nodeObj, worldObj, pairObj]; omega), hE⟩

theorem leaf1_work {Ra R2 : HL} {a : Nat} {A : AArena} {L : HL} (hA : ArenaRep Ra a A L) (hO : A.Ok) (hsub : ∀ q, q ∈ Ra → q ∈ R2) {p t e : Nat} {x y er : Int} (hp : (p, wldO a t e x y er) ∈ R2)
    {k0 : Int} {ss0 : List (Int × ANode × Nat)} {ts0 : List Int} (hP : PathA A k0 er ss0 ts0) (hlen : ts0.length ≤ 100000) {d : Nat} (hd2 : ss0.length = d + 2) {up at_ : Int × ANode × Nat} (hup : ss0[d]? = some up) (hat : ss0[d + 1]? = some at_) (hri : (at_.2.1.pairs.map Prod.fst).Pairwise (· < ·)) (hpb : at_.2.1.pairs.length ≤ 100000)
    {xb : Nat} (hxb : (xb, Obj.cells #[.int .i64 k0] 2 (0, 0)) ∈ R2) (me : Int) :
    WorkOK (L ++ R2) 30 #[.pointer (some ⟨xb, 0, none⟩)] p me ts0 [up.1, (up.2.2 : Int), at_.1, (getL at_.2.1.pairs k0).getD (-1)] := by
  intro m hm N tb wk Al cl Ll w hl hw
  have hw' := hw.perm (L' := (tb, thO wk (.slice Al m cl) 0 false true false nil0) :: (Ll ++ (L ++ (N ++ R2)))) (perm_of_count fun x => by simp only [List.count_append, List.count_cons, List.count_nil, arenaObj, slotObj, nodeObj, worldObj, pairObj]; omega)
  exact (leaf1_any hA hO (R2 := N ++ R2) (fun q hq => List.mem_append_right _ (hsub q hq)) (List.mem_append_right _ hp) hP hlen hd2 hup hat hri hpb hm hl (List.mem_append_right _ hxb) hw').mono fun ed w' h => h.perm (List.perm_append_comm_assoc L N R2)

theorem finds1_work {Ra R2 : HL} {a : Nat} {A : AArena} {L : HL} (hA : ArenaRep Ra a A L) (hO : A.Ok) (hsub : ∀ q, q ∈ Ra → q ∈ R2) {p t e : Nat} {x y er : Int} (hp : (p, wldO a t e x y er) ∈ R2)
    {k0 v0 : Int} {ss0 : List (Int × ANode × Nat)} {ts0 : List Int} (hP : PathA A k0 er ss0 ts0) (hlen : ts0.length ≤ 100000) {d : Nat} (hd2 : ss0.length = d + 2) {up at_ : Int × ANode × Nat} (hup : ss0[d]? = some up) (hat : ss0[d + 1]? = some at_) (hri : (at_.2.1.pairs.map Prod.fst).Pairwise (· < ·)) (hpb : at_.2.1.pairs.length ≤ 100000)
    {xb : Nat} (hxb : (xb, pairObj k0 v0) ∈ R2) (me : Int) :
    WorkOK (L ++ R2) 27 #[.pointer (some ⟨xb, 0, none⟩)] p me ts0 [(getL at_.2.1.pairs k0).getD 0] := by
  intro m hm N tb wk Al cl Ll w hl hw
  have hw' := hw.perm (L' := (tb, thO wk (.slice Al m cl) 0 false true false nil0) :: (Ll ++ (L ++ (N ++ R2)))) (perm_of_count fun x => by simp only [List.count_append, List.count_cons, List.count_nil, arenaObj, slotObj, nodeObj, worldObj, pairObj]; omega)
  exact (finds1_any hA hO (R2 := N ++ R2) (fun q hq => List.mem_append_right _ (hsub q hq)) (List.mem_append_right _ hp) hP hlen hd2 hup hat hri hpb hm hl (List.mem_append_right _ hxb) hw').mono fun ed w' h => h.perm (List.perm_append_comm_assoc L N R2)
end Go.Proofs.Ytjkfigkgeoacfaa
