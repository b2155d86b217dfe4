import Derived.Test.YtjkfigkgeoacfaaM1
import Derived.Test.YtjkfigkgeoacfaaL2
set_option linter.unusedVariables false
set_option linter.unusedSimpArgs false
namespace Go.Proofs.Ytjkfigkgeoacfaa
open Go.RowKit Go.Proofs.YtjkfigkgeoacfaaW.PrintLast

/-! A block of another type is not what a slice lies in. -/
theorem Rd.drop1 {X Y : HL} {sb : Nat} {c : Array Value} {T' : TypeId} {fr : Nat × Nat} {T sz n : Nat} {v : Value} {xs : List Value} (h : Rd (X ++ (sb, Obj.cells c T' fr) :: Y) T sz v n xs) (hne : T ≠ T') : Rd (X ++ Y) T sz v n xs := by
  obtain ⟨h0, A, cap, h1, h2, h3, h4⟩ := h
  refine ⟨h0, A, cap, h1, h2, h3, fun hn => ?_⟩
  obtain ⟨g, off, cur, fr2, a, hm, b⟩ := h4 hn
  refine ⟨g, off, cur, fr2, a, ?_, b⟩
  rcases List.mem_append.1 hm with hm | hm
  · exact List.mem_append_left _ hm
  · rcases List.mem_cons.1 hm with hm | hm
    · have he : Obj.cells cur T fr2 = Obj.cells c T' fr := congrArg Prod.snd hm
      injection he with _ h2 _
      exact absurd h2 hne
    · exact List.mem_append_right _ hm
theorem SlotsRep.drop1 {X Y : HL} {sb : Nat} {c : Array Value} {fr : Nat × Nat} {ss : List ASlot} {css : List (List Value)} {L : HL} (h : SlotsRep (X ++ (sb, Obj.cells c 31 fr) :: Y) ss css L) : SlotsRep (X ++ Y) ss css L := by
  induction h with
  | nil => exact .nil
  | cons h _ ih =>
    obtain ⟨pv, kv, wv, yv, hn, hy, e⟩ := h
    exact .cons ⟨pv, kv, wv, yv, ⟨hn.p.drop1 (by decide), hn.k.drop1 (by decide), hn.w.drop1 (by decide)⟩, hy, e⟩ ih
theorem ArenaRep.drop1 {X Y : HL} {sb : Nat} {c : Array Value} {fr : Nat × Nat} {a : Nat} {A : AArena} {L : HL} (h : ArenaRep (X ++ (sb, Obj.cells c 31 fr) :: Y) a A L) : ArenaRep (X ++ Y) a A L := by
  obtain ⟨sv, fv, css, L1, L2, L3, h1, h2, h3, h4⟩ := h
  exact ⟨sv, fv, css, L1, L2, L3, h1, h2, h3, h4.drop1⟩

theorem alone_walkA {Ra Y L : HL} {a : Nat} {A : AArena} (hA : ArenaRep Ra a A L) (hO : A.Ok) (hsub : ∀ q, q ∈ Ra → q ∈ Y) {p t e : Nat} {x y er : Int} (hp : (p, wldO a t e x y er) ∈ Y) {key : Int} {ss : List (Int × ANode × Nat)} {ts : List Int} (hP : PathA A key er ss ts) (hlen : ts.length ≤ 19999) (hpl : ∀ st ∈ ss, st.2.1.pairs.length ≤ 100000)
    {tb vb mb wb kb : Nat} {w : World} (hw : Has w ((tb, thO (.func (.func 52) #[] #[.pointer (some ⟨wb, 0, none⟩), .pointer (some ⟨vb, 0, none⟩), .pointer (some ⟨mb, 0, none⟩)]) nil0 0 false false false nil0) :: ((wb, Obj.cells #[.func (.func 43) #[] #[.pointer (some ⟨kb, 0, none⟩)]] 76 (0, 0)) :: (mb, Obj.cells #[.int .i64 0] 3 (0, 0)) :: (vb, Obj.cells #[.pointer (some ⟨p, 0, none⟩)] 34 (0, 0)) :: (kb, Obj.cells #[.int .i64 key] 2 (0, 0)) :: (L ++ Y)))) :
    Calls Try.prog 14 #[.pointer (some ⟨tb, 0, none⟩)] w fun e w' => ∃ A c Lo N', e = .returned (.tuple #[.slice A (tells ss).length c, .int .i64 (max ts.length 1 : Nat), .bool true]) ∧ Row 2 1 (.slice A (tells ss).length c) (tells ss).length (ints (tells ss)) Lo ∧ Has w' (Lo ++ (N' ++ (L ++ Y))) ∧ Ext w w' := by
  have hslen := hP.len
  have hwk := walker_work hA hO (R2 := (wb, Obj.cells #[.func (.func 43) #[] #[.pointer (some ⟨kb, 0, none⟩)]] 76 (0, 0)) :: (mb, Obj.cells #[.int .i64 0] 3 (0, 0)) :: (vb, Obj.cells #[.pointer (some ⟨p, 0, none⟩)] 34 (0, 0)) :: (kb, Obj.cells #[.int .i64 key] 2 (0, 0)) :: Y) (fun q hq => by simp [hsub q hq]) (p := p) (t := t) (e := e) (x := x) (y := y) (by simp [hp]) hP (by omega) hpl (kb := kb) (by simp) 0
  have hth := start_work hwk (fun args w => enters_ Try.func43 (by kernel_rfl) rfl args w) (wb := wb) (vb := vb) (mb := mb) (by simp) (by simp) (by simp)
  have hal := alone_any hth (fun args w => enters_ Try.func52 (by kernel_rfl) rfl args w) hlen (by rw [tells_len]; omega) [] (tb := tb) (w := w) (hw.perm (perm_of_count fun x => by simp only [List.count_append, List.count_cons, List.count_nil, arenaObj, slotObj, nodeObj, worldObj]; omega))
  refine hal.mono ?_
  rintro ed w' ⟨A, c, Lo, N', rfl, hr, hW, hE⟩
  exact ⟨A, c, Lo, N' ++ [(wb, Obj.cells #[.func (.func 43) #[] #[.pointer (some ⟨kb, 0, none⟩)]] 76 (0, 0)), (mb, Obj.cells #[.int .i64 0] 3 (0, 0)), (vb, Obj.cells #[.pointer (some ⟨p, 0, none⟩)] 34 (0, 0)), (kb, Obj.cells #[.int .i64 key] 2 (0, 0))], rfl, hr, hW.perm (perm_of_count fun x => by simp only [List.count_append, List.count_cons, List.count_nil, arenaObj, slotObj, nodeObj, worldObj]; omega), hE⟩
end Go.Proofs.Ytjkfigkgeoacfaa
