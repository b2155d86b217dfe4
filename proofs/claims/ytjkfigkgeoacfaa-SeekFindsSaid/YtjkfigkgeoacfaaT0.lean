import Derived.Test.YtjkfigkgeoacfaaK0
import Derived.Shelf.Abstract
import Derived.Recover
import Derived.Defers
set_option linter.unusedVariables false
set_option linter.unusedSimpArgs false
namespace Go.Proofs.Ytjkfigkgeoacfaa
open Go.RowKit Go.Proofs.YtjkfigkgeoacfaaW.PrintLast

/-- A thread's block. -/
abbrev thO (wk lg : Value) (pos : Int) (sp inn dn : Bool) (out : Value) : Obj := .cells #[wk, lg, .int .i64 pos, .bool sp, .bool inn, .bool dn, out] 134 (0, 0)
theorem Has.th {w : World} {L : HL} (h : Has w L) {b : Nat} {wk lg out : Value} {pos : Int} {sp inn dn : Bool} (hm : (b, thO wk lg pos sp inn dn out) ∈ L) :
    (w.cell? ⟨b, 0, none⟩ = some wk ∧ w.cell? ⟨b, 1, none⟩ = some lg ∧ w.cell? ⟨b, 2, none⟩ = some (.int .i64 pos) ∧ w.cell? ⟨b, 3, none⟩ = some (.bool sp) ∧ w.cell? ⟨b, 4, none⟩ = some (.bool inn) ∧ w.cell? ⟨b, 5, none⟩ = some (.bool dn) ∧ w.cell? ⟨b, 6, none⟩ = some out) ∧ ∀ j, w.frozen? ⟨b, j, none⟩ = false :=
  ⟨⟨(h.cell hm 0).trans rfl, (h.cell hm 1).trans rfl, (h.cell hm 2).trans rfl, (h.cell hm 3).trans rfl, (h.cell hm 4).trans rfl, (h.cell hm 5).trans rfl, (h.cell hm 6).trans rfl⟩, h.free hm⟩

/-- What an operation panics with, when its step is done. -/
abbrev waitP : List PanicEntry := [{ v := .iface 153 (.agg #[]), recovered := false }]

theorem row_mem {R : HL} {T sz n : Nat} {g off cap : Nat} {xs : List Value} (h : Rd R T sz (.slice (some ⟨g, off, none⟩) n cap) n xs) (hn : 0 < n) : ∃ o, (g, o) ∈ R := by
  obtain ⟨_, A, c, e, _, _, h4⟩ := h
  obtain ⟨g', off', cur, fr, e2, hm, _⟩ := h4 hn
  cases e
  cases e2
  exact ⟨_, hm⟩
theorem wrap64_nat' {z : Int} {n : Nat} (h : z = n) (hn : n ≤ 1000000) : wrap64 z = (n : Int) := by subst h; unfold wrap64; omega
theorem eql_func (fn : Fn) (a b : Array Value) (w : World) : (binOp .eql 136 (.func fn a b) .nilFunc).run Try.prog w = .ok (.bool false) w := by kernel_rfl

set_option maxRecDepth 100000 in
set_option maxHeartbeats 1000000 in
theorem do_replay {log : List Int} {n : Nat} (hn : log.length = n) {Al : Option Addr} {cl : Nat} {Ll R : HL} (hl : Row 2 1 (.slice Al n cl) n (ints log) Ll) {wk out : Value} {sp dn : Bool} {pos tb : Nat} {w : World}
    (hw : Has w ((tb, thO wk (.slice Al n cl) pos sp true dn out) :: (Ll ++ R))) {x : Int} (hx : log[pos]? = some x) (hb : n ≤ 1000000) {K : Nat} {caps : Array Value} :
    Calls Try.prog 68 #[.pointer (some ⟨tb, 0, none⟩), .func (.func K) #[] caps] w fun e w' => e = .returned (.int .i64 x) ∧ Has w' ((tb, thO wk (.slice Al n cl) (pos + 1 : Nat) sp true dn out) :: (Ll ++ R)) ∧ Ext w w' := by
  subst hn
  have hp := (List.getElem?_eq_some_iff.1 hx).1
  obtain ⟨g, off, cl', he, _, _, hc⟩ := (hl.rd R).known (by omega)
  cases he
  have hf := eql_func
  have hd : decide ((pos : Int) < log.length) = true := decide_eq_true (by omega)
  have hcx := hc w _ (hw.knows (L0 := Ll ++ R) (fun q hq => List.mem_cons_of_mem _ hq)) (fun q hq => hq) pos (.int .i64 x) (by simp [ints, hx])
  obtain ⟨og, hgm⟩ := row_mem (hl.rd R) (by omega)
  obtain ⟨⟨c0, c1, c2, c3, c4, c5, c6⟩, cz⟩ := hw.th (List.mem_cons_self ..)
  have hne : tb ≠ g := (hw.ne hgm).symm
  have hne2 : g ≠ tb := hw.ne hgm
  have hwp : IntKind.i64.wrap (pos : Int) = pos := IntWalk.i64_in _ (by omega)
  have hlt : (pos : Int) < log.length := by omega
  have cz2 := cz 2
  have HW := Lib.hid (fun n m => ((hw.drewN n).set 2 (.int .i64 ((pos : Int) + 1))).drewN m)
  clear hc c0 c3 c5 c6 cz
  go_enter Try.func68, Try.ntmps68
  go_wp2_with fail
  go_quiet (fail)
  go_wp2_with fail
  go_quiet (fail)
  go_wp2
  go_ret
  refine ⟨rfl, ?_, (((Ext.refl w).drewN _).setCell _ _).drewN _⟩
  rw [show ((pos + 1 : Nat) : Int) = (pos : Int) + 1 by omega]
  exact HW.out _ _

set_option maxRecDepth 100000 in
set_option maxHeartbeats 1000000 in
theorem do_wait {n : Nat} {Al : Option Addr} {cl : Nat} {R : HL} {wk out : Value} {dn : Bool} {pos tb : Nat} {w : World}
    (hw : Has w ((tb, thO wk (.slice Al n cl) pos true true dn out) :: R)) (hp : pos = n) (hb : n ≤ 1000000) {K : Nat} {caps : Array Value} :
    Calls Try.prog 68 #[.pointer (some ⟨tb, 0, none⟩), .func (.func K) #[] caps] w fun e w' => e = .panicked waitP ∧ Has w' ((tb, thO wk (.slice Al n cl) pos true true dn out) :: R) ∧ Ext w w' := by
  subst hp
  have hf := eql_func
  have hd : decide ((pos : Int) < pos) = false := decide_eq_false (by omega)
  obtain ⟨⟨c0, c1, c2, c3, c4, c5, c6⟩, cz⟩ := hw.th (List.mem_cons_self ..)
  have HW := Lib.hid (fun n => hw.drewN n)
  clear c0 c5 c6 cz
  go_enter Try.func68, Try.ntmps68
  go_wp2_with fail
  go_quiet (fail)
  go_wp2
  exact ⟨rfl, rfl, HW.out _, (Ext.refl w).drewN _⟩

set_option maxRecDepth 100000 in
set_option maxHeartbeats 1000000 in
theorem do_fresh {log : List Int} {n : Nat} (hn : log.length = n) {Al : Option Addr} {cl : Nat} {Ll R : HL} (hl : Row 2 1 (.slice Al n cl) n (ints log) Ll) {wk out : Value} {dn : Bool} {pos tb : Nat} {w : World}
    (hw : Has w ((tb, thO wk (.slice Al n cl) pos false true dn out) :: (Ll ++ R))) (hp : pos = n) (hb : n ≤ 1000000) {K : Nat} {caps : Array Value} {x : Int} {Q : HL → Prop}
    (hent : ∀ w, (callFunc K caps).run Try.prog w = .ok (.enter K caps) w)
    (ht : ∀ w', Has w' ((tb, thO wk (.slice Al n cl) pos true false dn out) :: (Ll ++ R)) → Calls Try.prog K caps w' fun e w'' => e = .returned (.int .i64 x) ∧ ∃ R', Has w'' ((tb, thO wk (.slice Al n cl) pos true false dn out) :: (Ll ++ R')) ∧ Q R' ∧ Ext w' w'') :
    Calls Try.prog 68 #[.pointer (some ⟨tb, 0, none⟩), .func (.func K) #[] caps] w fun e w' => e = .returned (.int .i64 x) ∧ ∃ Al' cl' Ll' N R', Row 2 1 (.slice Al' (n + 1) cl') (n + 1) (ints (log ++ [x])) Ll' ∧
      Has w' ((tb, thO wk (.slice Al' (n + 1) cl') (pos + 1 : Nat) true true dn out) :: (Ll' ++ (N ++ R'))) ∧ Q R' ∧ Ext w w' := by
  subst hn
  subst hp
  have hf := eql_func
  have hd : decide ((log.length : Int) < log.length) = false := decide_eq_false (by omega)
  obtain ⟨⟨c0, c1, c2, c3, c4, c5, c6⟩, cz⟩ := hw.th (List.mem_cons_self ..)
  have cz3 := cz 3
  have cz4 := cz 4
  have HT := Lib.hid ht
  have HE := Lib.hid hent
  have HW := Lib.hid (fun n => ((hw.drewN n).set 3 (.bool true)).set 4 (.bool false))
  clear c0 c5 c6 cz ht hent
  go_enter Try.func68, Try.ntmps68
  go_wp2_with fail
  go_quiet (fail)
  go_wp2_with fail
  rw [HE.out, Oper.upon_enter]
  refine (HT.out _ (HW.out _)).mono ?_
  rintro e w2 ⟨rfl, R', hR, hq, hE2⟩
  have he2 := (((((Ext.refl w).drewN _).setCell _ _).setCell _ _).trans hE2).setCell ⟨tb, 4, none⟩ (.bool true)
  have hz := hR.free (b := tb) (List.mem_cons_self ..) 4
  obtain ⟨_, _, _, _, z4, _⟩ := (hR.th (b := tb) (List.mem_cons_self ..)).1
  clear HW HT HE hE2 hw c1 c2 c3 c4 cz3 cz4
  have hw3 : Has (w2.setCell ⟨tb, 4, none⟩ (.bool true)) ((tb, thO wk (.slice Al log.length cl) log.length true true dn out) :: (Ll ++ R')) := hR.set 4 (.bool true)
  go_upto_region 11 with fail
  generalize World.setCell w2 _ _ = w3 at hw3 he2 ⊢
  clear hz z4 hR
  obtain ⟨⟨c0, c1, c2, c3, c4, c5, c6⟩, cz⟩ := hw3.th (b := tb) (wk := wk) (lg := .slice Al log.length cl) (pos := log.length) (sp := true) (inn := true) (dn := dn) (out := out) (List.mem_cons_self ..)
  have hWa := (hw3.alloc (Obj.cells #[.int .i64 x] 2)).perm (L' := Ll ++ ((w3.heap.size, Obj.cells #[.int .i64 x] 2) :: (tb, thO wk (.slice Al log.length cl) log.length true true dn out) :: R')) (perm_of_count fun x => by simp only [List.count_append, List.count_cons, List.count_nil, arenaObj, slotObj, nodeObj, worldObj]; omega)
  have hsa : Src (w3.alloc (Obj.cells #[.int .i64 x] 2)) (.slice (some ⟨w3.heap.size, 0, none⟩) 1 1) 1 1 [.int .i64 x] := Src.of_block (hWa.get w3.heap.size (Obj.cells #[.int .i64 x] 2) (by simp)) rfl (by intro u hu; simp at hu; subst hu; rfl)
  have Ha := Lib.hid (And.intro hWa (And.intro hsa (he2.alloc (Obj.cells #[.int .i64 x] 2))))
  have Hl := Lib.hid hl
  clear hWa hsa hl c0 c2 c3 c4 c5 c6 cz
  go_wp2_with (at_builtin; refine wpList_append_row rfl (.tmp 68) (.tmp 70) 22 rfl el_int Hl.out Ha.out.1 (m := 1) (news := [.int .i64 x]) rfl Ha.out.2.1 (by simp [maxLen]; omega) (by omega) ?_)
  intro v4 w4 L4 r4 h4 e4
  obtain ⟨A4, c4, rfl⟩ := r4.shape
  have h4' := h4.perm (L' := (tb, thO wk (.slice Al log.length cl) log.length true true dn out) :: (L4 ++ ((w3.heap.size, Obj.cells #[.int .i64 x] 2) :: R'))) (perm_of_count fun x => by simp only [List.count_append, List.count_cons, List.count_nil, arenaObj, slotObj, nodeObj, worldObj]; omega)
  obtain ⟨⟨d0, d1, d2, d3, d4, d5, d6⟩, dz⟩ := h4'.th (b := tb) (wk := wk) (lg := .slice Al log.length cl) (pos := log.length) (sp := true) (inn := true) (dn := dn) (out := out) (List.mem_cons_self ..)
  have dz1 := dz 1
  have dz2 := dz 2
  have HF := Lib.hid (And.intro ((h4'.set 1 (.slice A4 (log.length + 1) c4)).set 2 (.int .i64 ((log.length : Int) + 1))) (((Ha.out.2.2.trans e4).setCell ⟨tb, 1, none⟩ (.slice A4 (log.length + 1) c4)).setCell ⟨tb, 2, none⟩ (.int .i64 ((log.length : Int) + 1))))
  clear h4' h4 dz d0 d3 d4 d5 d6 c1
  go_wp2
  go_ret
  refine ⟨rfl, A4, c4, L4, [(w3.heap.size, Obj.cells #[.int .i64 x] 2)], R', ?_, ?_, hq, HF.out.2⟩
  · simpa [ints] using r4
  · rw [show ((log.length + 1 : Nat) : Int) = (log.length : Int) + 1 by omega]
    exact HF.out.1
end Go.Proofs.Ytjkfigkgeoacfaa
