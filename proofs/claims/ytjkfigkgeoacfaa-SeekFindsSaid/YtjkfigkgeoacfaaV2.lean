import Derived.Test.YtjkfigkgeoacfaaV1
set_option linter.unusedVariables false
set_option linter.unusedSimpArgs false
namespace Go.Proofs.Ytjkfigkgeoacfaa
open Go.RowKit Go.Proofs.YtjkfigkgeoacfaaW.PrintLast

theorem eql_work (fn : Fn) (a b : Array Value) (w : World) : (binOp .eql 118 (.func fn a b) .nilFunc).run Try.prog w = .ok (.bool false) w := by kernel_rfl

theorem RunEnd.ext {ts out : List Int} {m tb : Nat} {wk : Value} {R : HL} {w0 w w' : World} {ed : Ending} (h : RunEnd ts out m tb wk R w ed w') (he : Ext w0 w) : RunEnd ts out m tb wk R w0 ed w' := by
  obtain ⟨Al', cl', Ll', N, hif, hE⟩ := h
  exact ⟨Al', cl', Ll', N, hif, he.trans hE⟩

set_option maxRecDepth 100000 in
set_option maxHeartbeats 4000000 in
theorem step_any {R0 : HL} {F : Nat} {caps : Array Value} {ts out : List Int} (hT : ThreadOK R0 F caps ts out) (hent : ∀ args w, (callFunc F args).run Try.prog w = .ok (.enter F args) w) {m : Nat} (hm : m ≤ ts.length) (N : HL) {tb : Nat} {Al : Option Addr} {cl : Nat} {Ll : HL} {w : World} {pos : Int} {sp : Bool}
    (hl : Row 2 1 (.slice Al m cl) m (ints (ts.take m)) Ll) (hw : Has w ((tb, thO (.func (.func F) #[] caps) (.slice Al m cl) pos sp false false nil0) :: (Ll ++ (N ++ R0)))) :
    Calls Try.prog 41 #[.pointer (some ⟨tb, 0, none⟩)] w (RunEnd ts out m tb (.func (.func F) #[] caps) (N ++ R0) w) := by
  have hf := eql_work
  obtain ⟨⟨c0, c1, c2, c3, c4, c5, c6⟩, cz⟩ := hw.th (List.mem_cons_self ..)
  have z2 := cz 2
  have z3 := cz 3
  have hW : Has ((w.setCell ⟨tb, 2, none⟩ (.int .i64 0)).setCell ⟨tb, 3, none⟩ (.bool false)) ((tb, thO (.func (.func F) #[] caps) (.slice Al m cl) 0 false false false nil0) :: (Ll ++ (N ++ R0))) := (hw.set 2 (.int .i64 0)).set 3 (.bool false)
  have hE := ((Ext.refl w).setCell ⟨tb, 2, none⟩ (.int .i64 0)).setCell ⟨tb, 3, none⟩ (.bool false)
  have hrun := run_any hT hent hm N hl hW
  have HR := Lib.hid (And.intro hrun hE)
  clear hrun hE hW hT hent hl hw cz
  by_cases hc : ts.length ≤ m + 1
  · have HC := Lib.hid hc
    clear hc hm
    go_enter Try.func41, Try.ntmps41
    go_wp2_with (go_at_call 66; refine HR.out.1.mono ?_; intro ed w2 hend; have hend2 := hend; unfold RunEnd at hend; simp only [if_pos HC.out] at hend; obtain ⟨Al', cl', Ll', N', ⟨Ao, co, Lo, rfl, _, _, _⟩, _⟩ := hend)
    go_ret
    exact hend2.ext HR.out.2
  · have HC := Lib.hid hc
    clear hc hm
    go_enter Try.func41, Try.ntmps41
    go_wp2_with (go_at_call 66; refine HR.out.1.mono ?_; intro ed w2 hend; have hend2 := hend; unfold RunEnd at hend; simp only [if_neg HC.out] at hend; obtain ⟨Al', cl', Ll', N', ⟨rfl, _, _⟩, _⟩ := hend)
    go_ret
    exact hend2.ext HR.out.2

set_option maxRecDepth 100000 in
set_option maxHeartbeats 4000000 in
theorem out_any {out : List Int} {Ao : Option Addr} {co : Nat} {R : HL} (hr : Rd R 2 1 (.slice Ao out.length co) out.length (ints out)) {tb : Nat} {wk lg : Value} {pos : Int} {sp : Bool} {w : World} (hb : out.length ≤ 1000000)
    (hw : Has w ((tb, thO wk lg pos sp false true (.slice Ao out.length co)) :: R)) :
    Calls Try.prog 42 #[.pointer (some ⟨tb, 0, none⟩)] w fun e w' => ∃ A c Lo N, e = .returned (.slice A out.length c) ∧ Row 2 1 (.slice A out.length c) out.length (ints out) Lo ∧ Has w' (Lo ++ (N ++ R)) ∧ Ext w w' := by
  obtain ⟨⟨c0, c1, c2, c3, c4, c5, c6⟩, cz⟩ := hw.th (List.mem_cons_self ..)
  have k6 := ca (o := Obj.cells #[] 2) c6
  have hWa := (hw.alloc (Obj.cells #[] 2)).perm (L' := [] ++ ((w.heap.size, Obj.cells #[] 2) :: (tb, thO wk lg pos sp false true (.slice Ao out.length co)) :: R)) (List.Perm.refl _)
  have hsa := Src.of_rd hWa (hr.mono (fun q hq => by simp [hq])) (one_ints out)
  have Ha := Lib.hid (And.intro hWa (And.intro hsa ((Ext.refl w).alloc (Obj.cells #[] 2))))
  clear hWa hsa hw cz hr
  go_enter Try.func42, Try.ntmps42
  go_wp2_with (at_builtin; refine wpList_append_row rfl (.tmp 12) (.tmp 16) 22 rfl el_int (Row.nil 2 1 (some ⟨w.heap.size, 0, none⟩)) Ha.out.1 (m := out.length) (news := ints out) rfl Ha.out.2.1 (by simp [maxLen]; omega) (by omega) ?_)
  intro v1 w1 L1 r1 h1 e1
  have r1 : Row 2 1 v1 out.length (ints out) L1 := by
    have q := r1
    simpa using q
  obtain ⟨A1, c1', rfl⟩ := r1.shape
  go_wp2
  go_ret
  exact ⟨A1, c1', L1, [(w.heap.size, Obj.cells #[] 2), (tb, thO wk lg pos sp false true (.slice Ao out.length co))], rfl, r1, h1, Ha.out.2.2.trans e1⟩

set_option maxRecDepth 100000 in
set_option maxHeartbeats 4000000 in
theorem alone_any {R0 : HL} {F : Nat} {caps : Array Value} {ts out : List Int} (hT : ThreadOK R0 F caps ts out) (hent : ∀ args w, (callFunc F args).run Try.prog w = .ok (.enter F args) w) (hlen : ts.length ≤ 19999) (hob : out.length ≤ 1000000) (N : HL) {tb : Nat} {w : World}
    (hw : Has w ((tb, thO (.func (.func F) #[] caps) nil0 0 false false false nil0) :: (N ++ R0))) :
    Calls Try.prog 14 #[.pointer (some ⟨tb, 0, none⟩)] w fun e w' => ∃ A c Lo N', e = .returned (.tuple #[.slice A out.length c, .int .i64 (max ts.length 1 : Nat), .bool true]) ∧ Row 2 1 (.slice A out.length c) out.length (ints out) Lo ∧ Has w' (Lo ++ (N' ++ R0)) ∧ Ext w w' := by
  have H0 := Lib.hid (And.intro hT (And.intro hent hw))
  clear hT hent hw
  go_enter Try.func14, Try.ntmps14
  go_wp2
  go_loopw [5] (fun nv wr => ∃ (j : Nat) (Al : Option Addr) (cl : Nat) (Ll N' : HL) (sp : Bool), nv = .int .i64 j ∧ (j = 0 ∨ j < ts.length) ∧ Row 2 1 (.slice Al j cl) j (ints (ts.take j)) Ll ∧ Has wr ((tb, thO (.func (.func F) #[] caps) (.slice Al j cl) j sp false false nil0) :: (Ll ++ (N' ++ R0))) ∧ Ext w wr) (fun nv _ => 20000 - (intOf nv).toNat)
  case atStart => exact ⟨0, none, 0, [], N, false, rfl, .inl rfl, Row.nil _ _ _, H0.out.2.2, Ext.refl w⟩
  case round =>
    obtain ⟨j, Al, cl, Ll, N', sp, rfl, hj, hl, hW, hE⟩ := hrel
    have hjb : j < 20000 := by omega
    have hd : decide ((j : Int) < 20000) = true := decide_eq_true (by omega)
    have hjm : j ≤ ts.length := by omega
    have hstep := step_any H0.out.1 H0.out.2.1 hjm N' hl hW
    have HS := Lib.hid (And.intro hstep (And.intro hE (And.intro hjm hj)))
    clear hstep hE hjm hj hl hW
    by_cases hc : ts.length ≤ j + 1
    · have HC := Lib.hid hc
      clear hc
      go_upto_region 5 with (go_at_call 41; refine HS.out.1.mono ?_; intro ed w2 hend; unfold RunEnd at hend; simp only [if_pos HC.out] at hend; obtain ⟨Al', cl', Ll', N2, ⟨Ao, co, Lo, rfl, hro, hrl, hW2⟩, hE2⟩ := hend)
      have hout := out_any ((hro.rd (Ll' ++ (N2 ++ (N' ++ R0)))).mono (sub_of_count fun x => by simp only [List.count_append, List.count_cons, List.count_nil, arenaObj, slotObj, nodeObj, worldObj] <;> omega)) hob (hW2.perm (L' := (tb, thO (.func (.func F) #[] caps) (.slice Al' ts.length cl') ts.length (decide (j < ts.length)) false true (.slice Ao out.length co)) :: (Lo ++ (Ll' ++ (N2 ++ (N' ++ R0))))) (perm_of_count fun x => by simp only [List.count_append, List.count_cons, List.count_nil, arenaObj, slotObj, nodeObj, worldObj]; omega))
      have HO := Lib.hid hout
      clear hout hW2 hro hrl
      go_wp2_with (go_at_call 42; refine HO.out.mono ?_; rintro ed w3 ⟨A3, c3, L3, N3, rfl, hr3, hW3, hE3⟩)
      refine bodyPost_ret (v := .tuple #[.slice A3 out.length c3, .int .i64 ((j : Int) + 1), .bool true]) (by simp [results, Try.results14, go_sem]) rfl ?_
      refine ⟨A3, c3, L3, N3 ++ (Lo ++ (Ll' ++ (N2 ++ N'))), ?_, hr3, hW3.perm (perm_of_count fun x => by simp only [List.count_append, List.count_cons, List.count_nil, arenaObj, slotObj, nodeObj, worldObj]; omega), (HS.out.2.1.trans hE2).trans hE3⟩
      have hmx : ((j : Int) + 1) = ((max ts.length 1 : Nat) : Int) := by
        have h1 := HC.out
        have h2 := HS.out.2.2.2
        omega
      rw [hmx]
    · have HC := Lib.hid hc
      clear hc
      go_wp2_with (go_at_call 41; refine HS.out.1.mono ?_; intro ed w2 hend; unfold RunEnd at hend; simp only [if_neg HC.out] at hend; obtain ⟨Al', cl', Ll', N2, ⟨rfl, hrl, hW2⟩, hE2⟩ := hend)
      go_roundw
      case rel => exact ⟨j + 1, Al', cl', Ll', N2 ++ N', true, by go_num, .inr (by have := HC.out; omega), hrl, hW2.perm (perm_of_count fun x => by simp only [List.count_append, List.count_cons, List.count_nil, arenaObj, slotObj, nodeObj, worldObj]; omega), HS.out.2.1.trans hE2⟩
      case measure => simp [intOf]; omega

set_option maxRecDepth 100000 in
set_option maxHeartbeats 1000000 in
theorem start_any {R : HL} {p K : Nat} {me : Int} {caps : Array Value} {w : World} (hw : Has w R) :
    Calls Try.prog 26 #[.pointer (some ⟨p, 0, none⟩), .int .i64 me, .func (.func K) #[] caps] w fun e w' => ∃ tb vb mb wb, e = .returned (.pointer (some ⟨tb, 0, none⟩)) ∧
      Has w' ((tb, thO (.func (.func 52) #[] #[.pointer (some ⟨wb, 0, none⟩), .pointer (some ⟨vb, 0, none⟩), .pointer (some ⟨mb, 0, none⟩)]) nil0 0 false false false nil0) :: ((wb, Obj.cells #[.func (.func K) #[] caps] 76 (0, 0)) :: (mb, Obj.cells #[.int .i64 me] 3 (0, 0)) :: (vb, Obj.cells #[.pointer (some ⟨p, 0, none⟩)] 34 (0, 0)) :: R)) ∧ Ext w w' := by
  have hmf : ∀ (fn : Fn) (first cap : Array Value) (w : World), (Instr.makeFunc fn first cap).run Try.prog w = .ok (.func fn first cap) w := fun _ _ _ _ => rfl
  have hW := ((hw.alloc (Obj.cells #[.pointer (some ⟨p, 0, none⟩)] 34)).alloc (Obj.cells #[.int .i64 me] 3)).alloc (Obj.cells #[.func (.func K) #[] caps] 76)
  have hE := (((Ext.refl w).alloc (Obj.cells #[.pointer (some ⟨p, 0, none⟩)] 34)).alloc (Obj.cells #[.int .i64 me] 3)).alloc (Obj.cells #[.func (.func K) #[] caps] 76)
  rw [World.size_alloc, World.size_alloc] at hW
  have HW := Lib.hid (And.intro hW hE)
  clear hW hE hw
  go_enter Try.func26, Try.ntmps26
  go_upto_region 1 with fail
  obtain ⟨hW, hE⟩ := HW.out
  generalize hEq : World.alloc _ _ = w1
  rw [hEq] at hW hE
  clear hEq HW
  generalize w.heap.size = b at hW ⊢
  have hF := hW.alloc (thO (.func (.func 52) #[] #[.pointer (some ⟨b + 1 + 1, 0, none⟩), .pointer (some ⟨b, 0, none⟩), .pointer (some ⟨b + 1, 0, none⟩)]) nil0 0 false false false nil0)
  have hFE := hE.alloc (thO (.func (.func 52) #[] #[.pointer (some ⟨b + 1 + 1, 0, none⟩), .pointer (some ⟨b, 0, none⟩), .pointer (some ⟨b + 1, 0, none⟩)]) nil0 0 false false false nil0)
  have HF := Lib.hid (And.intro hF hFE)
  clear hF hFE hW hE
  go_wp2
  go_ret
  exact ⟨w1.heap.size, b, b + 1, b + 1 + 1, rfl, HF.out.1, HF.out.2⟩

set_option maxRecDepth 100000 in
set_option maxHeartbeats 1000000 in
theorem walker_any {R : HL} {p : Nat} {key : Int} {w : World} (hw : Has w R) :
    Calls Try.prog 15 #[.pointer (some ⟨p, 0, none⟩), .int .i64 key] w fun e w' => ∃ tb vb mb wb kb, e = .returned (.pointer (some ⟨tb, 0, none⟩)) ∧
      Has w' ((tb, thO (.func (.func 52) #[] #[.pointer (some ⟨wb, 0, none⟩), .pointer (some ⟨vb, 0, none⟩), .pointer (some ⟨mb, 0, none⟩)]) nil0 0 false false false nil0) :: ((wb, Obj.cells #[.func (.func 43) #[] #[.pointer (some ⟨kb, 0, none⟩)]] 76 (0, 0)) :: (mb, Obj.cells #[.int .i64 0] 3 (0, 0)) :: (vb, Obj.cells #[.pointer (some ⟨p, 0, none⟩)] 34 (0, 0)) :: (kb, Obj.cells #[.int .i64 key] 2 (0, 0)) :: R)) ∧ Ext w w' := by
  have hmf : ∀ (fn : Fn) (first cap : Array Value) (w : World), (Instr.makeFunc fn first cap).run Try.prog w = .ok (.func fn first cap) w := fun _ _ _ _ => rfl
  have hst := start_any (p := p) (me := 0) (K := 43) (caps := #[.pointer (some ⟨w.heap.size, 0, none⟩)]) (hw.alloc (Obj.cells #[.int .i64 key] 2))
  have HS := Lib.hid (And.intro hst ((Ext.refl w).alloc (Obj.cells #[.int .i64 key] 2)))
  clear hst hw
  go_enter Try.func15, Try.ntmps15
  go_wp2_with (go_at_call 26; refine HS.out.1.mono ?_; rintro ed w2 ⟨tb, vb, mb, wb, rfl, hW2, hE2⟩)
  go_ret
  exact ⟨tb, vb, mb, wb, w.heap.size, rfl, hW2, HS.out.2.trans hE2⟩
end Go.Proofs.Ytjkfigkgeoacfaa
