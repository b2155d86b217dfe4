import Derived.Test.YtjkfigkgeoacfaaU1
set_option linter.unusedVariables false
set_option linter.unusedSimpArgs false
namespace Go.Proofs.Ytjkfigkgeoacfaa
open Go.RowKit Go.Proofs.YtjkfigkgeoacfaaW.PrintLast

/-- The way down an arena, by a key: the nodes, and what the touches answer. -/
inductive PathA (A : AArena) (key : Int) : Int → List (Int × ANode × Nat) → List Int → Prop
  | leaf {i : Nat} {s : ASlot} (h : A.slots[i]? = some s) (hu : s.used = true) (hin : s.node.inner = false) : PathA A key (refOf i s.count) [(refOf i s.count, s.node, 0)] []
  | node {i : Nat} {s : ASlot} {r' : Int} {ss : List (Int × ANode × Nat)} {ts : List Int} (h : A.slots[i]? = some s) (hu : s.used = true) (hin : s.node.inner = true) (hr : s.node.keys.Pairwise (· < ·)) (hkb : s.node.keys.length ≤ 60000) (hl : s.node.ways.length = s.node.keys.length + 1)
    (hw : s.ways[wayN s.node.keys key]? = some r') (h0 : r' ≠ 0) (tail : PathA A key r' ss ts) : PathA A key (refOf i s.count) ((refOf i s.count, s.node, wayN s.node.keys key) :: ss) (r' :: ts)
theorem PathA.len {A : AArena} {key r : Int} {ss : List (Int × ANode × Nat)} {ts : List Int} (h : PathA A key r ss ts) : ss.length = ts.length + 1 := by
  induction h with
  | leaf => rfl
  | node _ _ _ _ _ _ _ _ _ ih => simp [ih]

/-- The steps of a path, in a row. -/
def StepsRep (R : HL) (ss : List (Int × ANode × Nat)) (css : List (List Value)) : Prop :=
  css.length = ss.length ∧ ∀ (i : Nat) (cs : List Value) (st : Int × ANode × Nat), css[i]? = some cs → ss[i]? = some st → ∃ pv kv wv, cs = stepCells st.1 st.2.1 st.2.2 pv kv wv ∧ NodeRep R st.2.1 pv kv wv
theorem StepsRep.mono {R R' : HL} {ss : List (Int × ANode × Nat)} {css : List (List Value)} (h : StepsRep R ss css) (hs : ∀ p, p ∈ R → p ∈ R') : StepsRep R' ss css :=
  ⟨h.1, fun i cs st a b => let ⟨pv, kv, wv, e, n⟩ := h.2 i cs st a b; ⟨pv, kv, wv, e, n.mono hs⟩⟩
theorem StepsRep.nil (R : HL) : StepsRep R [] [] := ⟨rfl, fun i cs st h => by simp at h⟩
theorem StepsRep.snoc {R : HL} {ss : List (Int × ANode × Nat)} {css : List (List Value)} (h : StepsRep R ss css) {r : Int} {n : ANode} {k : Nat} {pv kv wv : Value} (hn : NodeRep R n pv kv wv) : StepsRep R (ss ++ [(r, n, k)]) (css ++ [stepCells r n k pv kv wv]) := by
  refine ⟨by simp [h.1], fun i cs st a b => ?_⟩
  by_cases hi : i < css.length
  · rw [List.getElem?_append_left hi] at a
    rw [List.getElem?_append_left (by rw [← h.1]; exact hi)] at b
    exact h.2 i cs st a b
  · rw [List.getElem?_append_right (by omega)] at a
    rw [List.getElem?_append_right (by rw [← h.1]; omega)] at b
    rw [← h.1] at b
    have hz : i - css.length = 0 := by
      have := (List.getElem?_eq_some_iff.1 a).1
      simp only [List.length_cons, List.length_nil] at this
      omega
    rw [hz] at a b
    simp at a b
    subst a b
    exact ⟨pv, kv, wv, rfl, hn⟩

theorem el_step : Elem Try.prog 93 71 7 96 := elem_of (z := .agg #[.int .i64 0, .bool false, .bool false, .slice none 0 0, .slice none 0 0, .slice none 0 0, .int .i64 0]) (by kernel_rfl) (by kernel_rfl) rfl (by omega)

/-- The state of seek.Path's loop: j nodes are gone by; M of the touches' answers are told. -/
structure PSt (A : AArena) (key : Int) (ss0 : List (Int × ANode × Nat)) (ts0 : List Int) (Z : HL) (tb tv p : Nat) (me : Int) (wk : Value) (m : Nat) (w : World) (ov rv : Value) (wr : World) (j M : Nat) (sp : Bool) (r : Int) (ss : List (Int × ANode × Nat)) (ts : List Int) (css : List (List Value)) (Ao : Option Addr) (co : Nat) (Al : Option Addr) (cl : Nat) (Lo Ll N : HL) : Prop where
  hr : rv = .int .i64 r
  ho : ov = .slice Ao j co
  path : PathA A key r ss ts
  es : ss = ss0.drop j
  et : ts = ts0.drop j
  jl : j ≤ ts0.length
  ro : Row 71 7 (.slice Ao j co) j css.flatten Lo
  st : StepsRep N (ss0.take j) css
  rl : Row 2 1 (.slice Al M cl) M (ints (ts0.take M)) Ll
  hw : Has wr ((tb, thO wk (.slice Al M cl) j sp true false nil0) :: (Ll ++ (Lo ++ ((tv, taskO tb p me) :: (N ++ Z)))))
  he : Ext w wr
  hM : (M = m ∧ sp = false ∧ j ≤ m ∧ m ≤ ts0.length) ∨ (M = m + 1 ∧ sp = true ∧ j = m + 1 ∧ m + 1 ≤ ts0.length)

def slLen : Value → Nat
  | .slice _ n _ => n
  | _ => 0
theorem nodeRep_slices {R : HL} {n : ANode} {pv kv wv : Value} (h : NodeRep R n pv kv wv) : ∃ A1 c1 A2 c2 A3 c3, pv = .slice A1 n.pairs.length c1 ∧ kv = .slice A2 n.keys.length c2 ∧ wv = .slice A3 n.ways.length c3 := by
  obtain ⟨⟨_, A1, c1, rfl, _⟩, ⟨_, A2, c2, rfl, _⟩, ⟨_, A3, c3, rfl, _⟩⟩ := h
  exact ⟨_, _, _, _, _, _, rfl, rfl, rfl⟩

/-- How seek.Path ends: the path, if all its touches but one were told; else it waits. -/
def PathEnd (ss0 : List (Int × ANode × Nat)) (ts0 : List Int) (m tb : Nat) (wk : Value) (Z : HL) (w : World) (ed : Ending) (w' : World) : Prop := ∃ Al' cl' Ll' N,
  (if ts0.length ≤ m + 1 then ∃ Ao co Lo css, ed = .returned (.slice Ao ss0.length co) ∧ Row 71 7 (.slice Ao ss0.length co) ss0.length css.flatten Lo ∧ StepsRep N ss0 css ∧ Row 2 1 (.slice Al' ts0.length cl') ts0.length (ints ts0) Ll' ∧
      Has w' ((tb, thO wk (.slice Al' ts0.length cl') ts0.length (decide (m < ts0.length)) true false nil0) :: (Ll' ++ (Lo ++ (N ++ Z))))
    else ed = .panicked waitP ∧ Row 2 1 (.slice Al' (m + 1) cl') (m + 1) (ints (ts0.take (m + 1))) Ll' ∧ Has w' ((tb, thO wk (.slice Al' (m + 1) cl') (m + 1 : Nat) true true false nil0) :: (Ll' ++ (N ++ Z)))) ∧ Ext w w'

set_option maxRecDepth 100000 in
set_option maxHeartbeats 4000000 in
theorem path_any {Ra R2 : HL} {a : Nat} {A : AArena} {L : HL} (hA : ArenaRep Ra a A L) (hO : A.Ok) (hsub : ∀ q, q ∈ Ra → q ∈ R2) {p t e : Nat} {x y er : Int} (hp : (p, wldO a t e x y er) ∈ R2)
    {key : Int} {ss0 : List (Int × ANode × Nat)} {ts0 : List Int} (hP : PathA A key er ss0 ts0) (hlen : ts0.length ≤ 100000) {m : Nat} (hm : m ≤ ts0.length) {Al : Option Addr} {cl : Nat} {Ll : HL} (hl : Row 2 1 (.slice Al m cl) m (ints (ts0.take m)) Ll)
    {tb : Nat} {me : Int} {wk : Value} {w : World} (hw : Has w ((tb, thO wk (.slice Al m cl) 0 false true false nil0) :: (Ll ++ (L ++ R2)))) :
    Calls Try.prog 44 #[.agg #[.pointer (some ⟨tb, 0, none⟩), .pointer (some ⟨p, 0, none⟩), .int .i64 me], .int .i64 key] w (PathEnd ss0 ts0 m tb wk (L ++ R2) w) := by
  have hmf : ∀ (fn : Fn) (first cap : Array Value) (w : World), (Instr.makeFunc fn first cap).run Try.prog w = .ok (.func fn first cap) w := fun _ _ _ _ => rfl
  have hslen := hP.len
  have hW := hw.alloc (taskO tb p me)
  have hE := (Ext.refl w).alloc (taskO tb p me)
  generalize hZ : L ++ R2 = Z at *
  have hpZ : (p, wldO a t e x y er) ∈ Z := by rw [← hZ]; exact List.mem_append_right _ hp
  have HW := Lib.hid (And.intro hW hE)
  have HA := Lib.hid (And.intro hA (And.intro hO (And.intro hsub hZ)))
  clear hW hE hA hO hsub hZ hp hw
  go_enter Try.func44, Try.ntmps44
  go_upto_region 2 with fail
  obtain ⟨hW, hE⟩ := HW.out
  generalize hEq : World.alloc _ _ = w1
  rw [hEq] at hW hE
  clear hEq HW
  generalize w.heap.size = tv at hW ⊢
  have c1 : w1.cell? ⟨tv, 1, none⟩ = some (.pointer (some ⟨p, 0, none⟩)) := (hW.cell (List.mem_cons_self ..) 1).trans rfl
  have c5 : w1.cell? ⟨p, 5, none⟩ = some (.int .i64 er) := (hW.cell (b := p) (c := #[.pointer (some ⟨a, 0, none⟩), .pointer (some ⟨t, 0, none⟩), .pointer (some ⟨e, 0, none⟩), .int .i64 x, .int .i64 y, .int .i64 er]) (t := 41) (fr := (0, 0)) (by simp [hpZ]) 5).trans rfl
  go_wp2
  clear c1 c5
  go_loopw [5, 6] (fun ov rv wr => ∃ j M sp r ss ts css Ao co Al cl Lo Ll N, PSt A key ss0 ts0 Z tb tv p me wk m w ov rv wr j M sp r ss ts css Ao co Al cl Lo Ll N) (fun ov _ _ => ss0.length - slLen ov)
  case atStart =>
    have hW0 : Has w1 ((tv, taskO tb p me) :: ((tb, thO wk (.slice Al m cl) ((0 : Nat) : Int) false true false nil0) :: (Ll ++ Z))) := hW
    exact ⟨0, m, false, er, ss0, ts0, [], none, 0, Al, cl, [], Ll, [], ⟨rfl, rfl, hP, rfl, rfl, Nat.zero_le _, Row.nil _ _ _, StepsRep.nil _, hl, hW0.perm (perm_of_count fun x => by simp only [List.count_append, List.count_cons, List.count_nil, arenaObj, slotObj, nodeObj, worldObj]; omega), hE, .inl ⟨rfl, rfl, Nat.zero_le _, hm⟩⟩⟩
  case round =>
    obtain ⟨j, M, sp, r, ss, ts, css, Ao, co, Al', cl', Lo, Ll', N, hS⟩ := hrel
    have e1 := hS.hr
    have e2 := hS.ho
    subst e1 e2
    have hW := hS.hw
    have hE := hS.he
    have hpath := hS.path
    obtain ⟨hA, hO, hsub, hZ⟩ := HA.out
    have hWp := hW.perm (L' := L ++ ((tb, thO wk (.slice Al' M cl') j sp true false nil0) :: (Ll' ++ (Lo ++ ((tv, taskO tb p me) :: (N ++ R2)))))) (by rw [← hZ]; exact (perm_of_count fun x => by simp only [List.count_append, List.count_cons, List.count_nil, arenaObj, slotObj, nodeObj, worldObj]; omega))
    have c1 : wr.cell? ⟨tv, 1, none⟩ = some (.pointer (some ⟨p, 0, none⟩)) := (hW.cell (b := tv) (c := #[.pointer (some ⟨tb, 0, none⟩), .pointer (some ⟨p, 0, none⟩), .int .i64 me]) (t := 64) (fr := (0, 0)) (by simp) 1).trans rfl
    have c5 : wr.cell? ⟨p, 0, none⟩ = some (.pointer (some ⟨a, 0, none⟩)) := (hW.cell (b := p) (c := #[.pointer (some ⟨a, 0, none⟩), .pointer (some ⟨t, 0, none⟩), .pointer (some ⟨e, 0, none⟩), .int .i64 x, .int .i64 y, .int .i64 er]) (t := 41) (fr := (0, 0)) (by simp [hpZ]) 0).trans rfl
    have hjl := hS.jl
    cases hpath with
    | @leaf i s h hu hin =>
      have hlook := look_at (R2 := (tb, thO wk (.slice Al' M cl') j sp true false nil0) :: (Ll' ++ (Lo ++ ((tv, taskO tb p me) :: (N ++ R2))))) hA hO (fun q hq => by simp [hsub q hq]) hWp h hu rfl
      have Hlook := Lib.hid hlook
      clear hlook hWp hA hO hsub
      generalize hn : s.node = n at *
      go_upto_region 6 with (go_at_call 32; refine Hlook.out.mono ?_; rintro ed w2 ⟨pv, kv, wv, N2, rfl, hnr, hW2, hE2⟩; obtain ⟨A1, c1', A2, c2', A3, c3', rfl, rfl, rfl⟩ := nodeRep_slices hnr)
      have hW5 := hW2.alloc (Obj.cells #[.int .i64 (refOf i s.count), .bool false, .bool n.tagged, .slice A1 n.pairs.length c1', .slice A2 n.keys.length c2', .slice A3 n.ways.length c3', .int .i64 0] 71 (0, 0))
      have hE5 := (hE.trans hE2).alloc (Obj.cells #[.int .i64 (refOf i s.count), .bool false, .bool n.tagged, .slice A1 n.pairs.length c1', .slice A2 n.keys.length c2', .slice A3 n.ways.length c3', .int .i64 0] 71 (0, 0))
      clear hW2 hE2 hW hE Hlook c1 c5
      obtain ⟨rr, hrr⟩ : ∃ rr, refOf i s.count = rr := ⟨_, rfl⟩
      rw [hrr] at hW5 hE5 ⊢
      generalize World.alloc w2 _ = w5 at hW5 hE5 ⊢
      generalize w2.heap.size = sv at hW5 ⊢
      generalize hN5 : N2 = N5 at hW5 hnr
      have hW5 : Has w5 (Lo ++ ((sv, Obj.cells #[.int .i64 rr, .bool false, .bool n.tagged, .slice A1 n.pairs.length c1', .slice A2 n.keys.length c2', .slice A3 n.ways.length c3', .int .i64 0] 71 (0, 0)) :: ((tb, thO wk (.slice Al' M cl') j sp true false nil0) :: (Ll' ++ ((tv, taskO tb p me) :: (N5 ++ (N ++ Z))))))) := by rw [← hZ]; exact hW5.perm (perm_of_count fun x => by simp only [List.count_append, List.count_cons, List.count_nil, arenaObj, slotObj, nodeObj, worldObj]; omega)
      have d0 : w5.cell? ⟨sv, 0, none⟩ = some (.int .i64 rr) := (hW5.cell (b := sv) (c := #[.int .i64 rr, .bool false, .bool n.tagged, .slice A1 n.pairs.length c1', .slice A2 n.keys.length c2', .slice A3 n.ways.length c3', .int .i64 0]) (t := 71) (fr := (0, 0)) (by simp) 0).trans rfl
      have d1 : w5.cell? ⟨sv, 1, none⟩ = some (.bool false) := (hW5.cell (b := sv) (c := #[.int .i64 rr, .bool false, .bool n.tagged, .slice A1 n.pairs.length c1', .slice A2 n.keys.length c2', .slice A3 n.ways.length c3', .int .i64 0]) (t := 71) (fr := (0, 0)) (by simp) 1).trans rfl
      have d2 : w5.cell? ⟨sv, 2, none⟩ = some (.bool n.tagged) := (hW5.cell (b := sv) (c := #[.int .i64 rr, .bool false, .bool n.tagged, .slice A1 n.pairs.length c1', .slice A2 n.keys.length c2', .slice A3 n.ways.length c3', .int .i64 0]) (t := 71) (fr := (0, 0)) (by simp) 2).trans rfl
      have d3 : w5.cell? ⟨sv, 3, none⟩ = some (.slice A1 n.pairs.length c1') := (hW5.cell (b := sv) (c := #[.int .i64 rr, .bool false, .bool n.tagged, .slice A1 n.pairs.length c1', .slice A2 n.keys.length c2', .slice A3 n.ways.length c3', .int .i64 0]) (t := 71) (fr := (0, 0)) (by simp) 3).trans rfl
      have d4 : w5.cell? ⟨sv, 4, none⟩ = some (.slice A2 n.keys.length c2') := (hW5.cell (b := sv) (c := #[.int .i64 rr, .bool false, .bool n.tagged, .slice A1 n.pairs.length c1', .slice A2 n.keys.length c2', .slice A3 n.ways.length c3', .int .i64 0]) (t := 71) (fr := (0, 0)) (by simp) 4).trans rfl
      have d5 : w5.cell? ⟨sv, 5, none⟩ = some (.slice A3 n.ways.length c3') := (hW5.cell (b := sv) (c := #[.int .i64 rr, .bool false, .bool n.tagged, .slice A1 n.pairs.length c1', .slice A2 n.keys.length c2', .slice A3 n.ways.length c3', .int .i64 0]) (t := 71) (fr := (0, 0)) (by simp) 5).trans rfl
      have d6 : w5.cell? ⟨sv, 6, none⟩ = some (.int .i64 0) := (hW5.cell (b := sv) (c := #[.int .i64 rr, .bool false, .bool n.tagged, .slice A1 n.pairs.length c1', .slice A2 n.keys.length c2', .slice A3 n.ways.length c3', .int .i64 0]) (t := 71) (fr := (0, 0)) (by simp) 6).trans rfl
      have hWa := (hW5.alloc (Obj.cells #[.int .i64 rr, .bool false, .bool n.tagged, .slice A1 n.pairs.length c1', .slice A2 n.keys.length c2', .slice A3 n.ways.length c3', .int .i64 0] 71 (0, 0))).perm (L' := Lo ++ ((w5.heap.size, Obj.cells #[.int .i64 rr, .bool false, .bool n.tagged, .slice A1 n.pairs.length c1', .slice A2 n.keys.length c2', .slice A3 n.ways.length c3', .int .i64 0] 71 (0, 0)) :: ((sv, Obj.cells #[.int .i64 rr, .bool false, .bool n.tagged, .slice A1 n.pairs.length c1', .slice A2 n.keys.length c2', .slice A3 n.ways.length c3', .int .i64 0] 71 (0, 0)) :: ((tb, thO wk (.slice Al' M cl') j sp true false nil0) :: (Ll' ++ ((tv, taskO tb p me) :: (N5 ++ (N ++ Z)))))))) (perm_of_count fun x => by simp only [List.count_append, List.count_cons, List.count_nil, arenaObj, slotObj, nodeObj, worldObj]; omega)
      have hsa : Src (w5.alloc (Obj.cells #[.int .i64 rr, .bool false, .bool n.tagged, .slice A1 n.pairs.length c1', .slice A2 n.keys.length c2', .slice A3 n.ways.length c3', .int .i64 0] 71 (0, 0))) (.slice (some ⟨w5.heap.size, 0, none⟩) 1 1) 7 1 [.int .i64 rr, .bool false, .bool n.tagged, .slice A1 n.pairs.length c1', .slice A2 n.keys.length c2', .slice A3 n.ways.length c3', .int .i64 0] := Src.of_block (hWa.get w5.heap.size (Obj.cells #[.int .i64 rr, .bool false, .bool n.tagged, .slice A1 n.pairs.length c1', .slice A2 n.keys.length c2', .slice A3 n.ways.length c3', .int .i64 0] 71 (0, 0)) (by simp)) rfl (by intro u hu; simp only [List.mem_cons, List.not_mem_nil, or_false] at hu; rcases hu with rfl | rfl | rfl | rfl | rfl | rfl | rfl <;> rfl)
      have Ha := Lib.hid (And.intro hWa (And.intro hsa (hE5.alloc (Obj.cells #[.int .i64 rr, .bool false, .bool n.tagged, .slice A1 n.pairs.length c1', .slice A2 n.keys.length c2', .slice A3 n.ways.length c3', .int .i64 0] 71 (0, 0)))))
      have Hro := Lib.hid hS.ro
      clear hWa hsa hW5 hE5
      go_upto_region 7 with (at_builtin; refine wpList_append_row rfl (.tmp 32) (.tmp 34) 93 rfl el_step Hro.out Ha.out.1 (m := 1) (news := [.int .i64 rr, .bool false, .bool n.tagged, .slice A1 n.pairs.length c1', .slice A2 n.keys.length c2', .slice A3 n.ways.length c3', .int .i64 0]) rfl Ha.out.2.1 (by simp [maxLen]; omega) (by omega) ?_; intro v7 w7 L7 r7 h7 e7; obtain ⟨A7, c7, rfl⟩ := r7.shape)
      generalize w5.heap.size = b7 at h7
      have hE7 := Ha.out.2.2.trans e7
      clear Ha d0 d1 d2 d3 d4 d5 d6 e7
      have d1 : w7.cell? ⟨sv, 1, none⟩ = some (.bool false) := (h7.cell (b := sv) (c := #[.int .i64 rr, .bool false, .bool n.tagged, .slice A1 n.pairs.length c1', .slice A2 n.keys.length c2', .slice A3 n.ways.length c3', .int .i64 0]) (t := 71) (fr := (0, 0)) (by simp) 1).trans rfl
      have HF := Lib.hid (And.intro h7 (And.intro hE7 r7))
      clear h7 hE7 r7 hjl
      go_wp2
      go_ret
      have hjl := hS.jl
      have het := hS.et
      have hes := hS.es
      have hj : j = ts0.length := by
        have := congrArg List.length het
        rw [List.length_drop] at this
        simp only [List.length_nil] at this
        omega
      have hM : M = ts0.length ∧ (ts0.length ≤ m + 1) ∧ sp = decide (m < ts0.length) := by
        rcases hS.hM with ⟨h1, h2, h3, h4⟩ | ⟨h1, h2, h3, h4⟩
        · exact ⟨by omega, by omega, by rw [h2]; exact (decide_eq_false (by omega)).symm⟩
        · exact ⟨by omega, by omega, by rw [h2]; exact (decide_eq_true (by omega)).symm⟩
      obtain ⟨hM1, hM2, hM3⟩ := hM
      subst hM1 hM3
      obtain ⟨g7, gE, gr⟩ := HF.out
      have hss : ss0.take j ++ [(rr, n, 0)] = ss0 := by
        rw [← hrr, hes, List.take_append_drop]
      have hj1 : j + 1 = ss0.length := by rw [hslen, hj]
      refine ⟨Al', cl', Ll', N ++ (N5 ++ [(tv, taskO tb p me), (sv, Obj.cells #[.int .i64 rr, .bool false, .bool n.tagged, .slice A1 n.pairs.length c1', .slice A2 n.keys.length c2', .slice A3 n.ways.length c3', .int .i64 0] 71 (0, 0)), (b7, Obj.cells #[.int .i64 rr, .bool false, .bool n.tagged, .slice A1 n.pairs.length c1', .slice A2 n.keys.length c2', .slice A3 n.ways.length c3', .int .i64 0] 71 (0, 0))]), ?_, gE⟩
      rw [if_pos hM2]
      rw [hj1] at gr ⊢
      refine ⟨A7, c7, L7, css ++ [stepCells rr n 0 (.slice A1 n.pairs.length c1') (.slice A2 n.keys.length c2') (.slice A3 n.ways.length c3')], rfl, ?_, ?_, ?_, ?_⟩
      · simpa [stepCells, hin] using gr
      · have := (hS.st.mono (R' := N ++ (N5 ++ [(tv, taskO tb p me), (sv, Obj.cells #[.int .i64 rr, .bool false, .bool n.tagged, .slice A1 n.pairs.length c1', .slice A2 n.keys.length c2', .slice A3 n.ways.length c3', .int .i64 0] 71 (0, 0)), (b7, Obj.cells #[.int .i64 rr, .bool false, .bool n.tagged, .slice A1 n.pairs.length c1', .slice A2 n.keys.length c2', .slice A3 n.ways.length c3', .int .i64 0] 71 (0, 0))])) (fun q hq => by simp [hq])).snoc (r := rr) (n := n) (k := 0) (hnr.mono (fun q hq => by simp [hq]))
        rw [hss] at this
        exact this
      · have := hS.rl
        rwa [List.take_of_length_le (Nat.le_refl _)] at this
      · rw [hj] at g7
        exact g7.perm (perm_of_count fun x => by simp only [List.count_append, List.count_cons, List.count_nil, arenaObj, slotObj, nodeObj, worldObj]; omega)
    | @node i s r' ss ts h hu hin hr hkb hwl hw h0 tail =>
      have hlook := look_at (R2 := (tb, thO wk (.slice Al' M cl') j sp true false nil0) :: (Ll' ++ (Lo ++ ((tv, taskO tb p me) :: (N ++ R2))))) hA hO (fun q hq => by simp [hsub q hq]) hWp h hu rfl
      have Hlook := Lib.hid hlook
      have HS := Lib.hid (And.intro h (And.intro hu (And.intro hw (And.intro tail (And.intro hwl h0)))))
      clear hlook hWp hA hO hsub h hu hw tail hwl h0
      generalize hn : s.node = n at *
      go_upto_region 5 with (go_at_call 32; refine Hlook.out.mono ?_; rintro ed w2 ⟨pv, kv, wv, N2, rfl, hnr, hW2, hE2⟩; obtain ⟨A1, c1', A2, c2', A3, c3', rfl, rfl, rfl⟩ := nodeRep_slices hnr)
      have hW3 := hW2.alloc (Obj.cells #[.int .i64 (refOf i s.count), .bool true, .bool n.tagged, .slice A1 n.pairs.length c1', .slice A2 n.keys.length c2', .slice A3 n.ways.length c3', .int .i64 0] 71 (0, 0))
      have hE3 := (hE.trans hE2).alloc (Obj.cells #[.int .i64 (refOf i s.count), .bool true, .bool n.tagged, .slice A1 n.pairs.length c1', .slice A2 n.keys.length c2', .slice A3 n.ways.length c3', .int .i64 0] 71 (0, 0))
      clear hW2 hE2 hW hE Hlook c1 c5
      obtain ⟨rr, hrr⟩ : ∃ rr, refOf i s.count = rr := ⟨_, rfl⟩
      rw [hrr] at hW3 hE3 ⊢
      generalize World.alloc w2 _ = w3 at hW3 hE3 ⊢
      generalize w2.heap.size = sv at hW3 ⊢
      obtain ⟨kw, hkw⟩ : ∃ kw, wayN n.keys key = kw := ⟨_, rfl⟩
      have d4 : w3.cell? ⟨sv, 4, none⟩ = some (.slice A2 n.keys.length c2') := (hW3.cell (List.mem_cons_self ..) 4).trans rfl
      have d5 : w3.cell? ⟨sv, 5, none⟩ = some (.slice A3 n.ways.length c3') := (hW3.cell (List.mem_cons_self ..) 5).trans rfl
      have hway := innerWay_any (Aw := A3) (nw := n.ways.length) (cw := c3') (hnr.k.mono (fun q hq => by simp [hq])) hr (by omega) HS.out.2.2.2.2.1 key hW3
      rw [hkw] at hway
      have Hway := Lib.hid hway
      clear hway
      go_upto_region 6 with (go_at_call 67; refine Hway.out.mono ?_; rintro ed w4 ⟨rfl, ⟨N4, hW4⟩, hE4⟩; have y6 : w4.cell? ⟨sv, 6, none⟩ = some (.int .i64 0) := (hW4.cell (b := sv) (c := #[.int .i64 rr, .bool true, .bool n.tagged, .slice A1 n.pairs.length c1', .slice A2 n.keys.length c2', .slice A3 n.ways.length c3', .int .i64 0]) (t := 71) (fr := (0, 0)) (by simp) 6).trans rfl; have yf := hW4.free (b := sv) (c := #[.int .i64 rr, .bool true, .bool n.tagged, .slice A1 n.pairs.length c1', .slice A2 n.keys.length c2', .slice A3 n.ways.length c3', .int .i64 0]) (t := 71) (by simp) 6)
      have hW5 : Has (w4.setCell ⟨sv, 6, none⟩ (.int .i64 kw)) ((sv, Obj.cells #[.int .i64 rr, .bool true, .bool n.tagged, .slice A1 n.pairs.length c1', .slice A2 n.keys.length c2', .slice A3 n.ways.length c3', .int .i64 kw] 71 (0, 0)) :: (L ++ ((N4 ++ N2) ++ ((tb, thO wk (.slice Al' M cl') j sp true false nil0) :: (Ll' ++ (Lo ++ ((tv, taskO tb p me) :: (N ++ R2)))))))) := (hW4.perm (L' := (sv, Obj.cells #[.int .i64 rr, .bool true, .bool n.tagged, .slice A1 n.pairs.length c1', .slice A2 n.keys.length c2', .slice A3 n.ways.length c3', .int .i64 0] 71 (0, 0)) :: (L ++ ((N4 ++ N2) ++ ((tb, thO wk (.slice Al' M cl') j sp true false nil0) :: (Ll' ++ (Lo ++ ((tv, taskO tb p me) :: (N ++ R2)))))))) (perm_of_count fun x => by simp only [List.count_append, List.count_cons, List.count_nil, arenaObj, slotObj, nodeObj, worldObj]; omega)).set 6 (.int .i64 kw)
      have hE5 := (hE3.trans hE4).setCell ⟨sv, 6, none⟩ (.int .i64 kw)
      have hnr := hnr.mono (R' := N4 ++ N2) (fun q hq => by simp [hq])
      clear hW4 hE4 y6 yf d4 d5 hW3 hE3 Hway
      generalize World.setCell w4 _ _ = w5 at hW5 hE5 ⊢
      generalize N4 ++ N2 = N5 at hW5 hnr
      have hW5 : Has w5 (Lo ++ ((sv, Obj.cells #[.int .i64 rr, .bool true, .bool n.tagged, .slice A1 n.pairs.length c1', .slice A2 n.keys.length c2', .slice A3 n.ways.length c3', .int .i64 kw] 71 (0, 0)) :: ((tb, thO wk (.slice Al' M cl') j sp true false nil0) :: (Ll' ++ ((tv, taskO tb p me) :: (N5 ++ (N ++ Z))))))) := by rw [← hZ]; exact hW5.perm (perm_of_count fun x => by simp only [List.count_append, List.count_cons, List.count_nil, arenaObj, slotObj, nodeObj, worldObj]; omega)
      have d0 : w5.cell? ⟨sv, 0, none⟩ = some (.int .i64 rr) := (hW5.cell (b := sv) (c := #[.int .i64 rr, .bool true, .bool n.tagged, .slice A1 n.pairs.length c1', .slice A2 n.keys.length c2', .slice A3 n.ways.length c3', .int .i64 kw]) (t := 71) (fr := (0, 0)) (by simp) 0).trans rfl
      have d1 : w5.cell? ⟨sv, 1, none⟩ = some (.bool true) := (hW5.cell (b := sv) (c := #[.int .i64 rr, .bool true, .bool n.tagged, .slice A1 n.pairs.length c1', .slice A2 n.keys.length c2', .slice A3 n.ways.length c3', .int .i64 kw]) (t := 71) (fr := (0, 0)) (by simp) 1).trans rfl
      have d2 : w5.cell? ⟨sv, 2, none⟩ = some (.bool n.tagged) := (hW5.cell (b := sv) (c := #[.int .i64 rr, .bool true, .bool n.tagged, .slice A1 n.pairs.length c1', .slice A2 n.keys.length c2', .slice A3 n.ways.length c3', .int .i64 kw]) (t := 71) (fr := (0, 0)) (by simp) 2).trans rfl
      have d3 : w5.cell? ⟨sv, 3, none⟩ = some (.slice A1 n.pairs.length c1') := (hW5.cell (b := sv) (c := #[.int .i64 rr, .bool true, .bool n.tagged, .slice A1 n.pairs.length c1', .slice A2 n.keys.length c2', .slice A3 n.ways.length c3', .int .i64 kw]) (t := 71) (fr := (0, 0)) (by simp) 3).trans rfl
      have d4 : w5.cell? ⟨sv, 4, none⟩ = some (.slice A2 n.keys.length c2') := (hW5.cell (b := sv) (c := #[.int .i64 rr, .bool true, .bool n.tagged, .slice A1 n.pairs.length c1', .slice A2 n.keys.length c2', .slice A3 n.ways.length c3', .int .i64 kw]) (t := 71) (fr := (0, 0)) (by simp) 4).trans rfl
      have d5 : w5.cell? ⟨sv, 5, none⟩ = some (.slice A3 n.ways.length c3') := (hW5.cell (b := sv) (c := #[.int .i64 rr, .bool true, .bool n.tagged, .slice A1 n.pairs.length c1', .slice A2 n.keys.length c2', .slice A3 n.ways.length c3', .int .i64 kw]) (t := 71) (fr := (0, 0)) (by simp) 5).trans rfl
      have d6 : w5.cell? ⟨sv, 6, none⟩ = some (.int .i64 kw) := (hW5.cell (b := sv) (c := #[.int .i64 rr, .bool true, .bool n.tagged, .slice A1 n.pairs.length c1', .slice A2 n.keys.length c2', .slice A3 n.ways.length c3', .int .i64 kw]) (t := 71) (fr := (0, 0)) (by simp) 6).trans rfl
      have hWa := (hW5.alloc (Obj.cells #[.int .i64 rr, .bool true, .bool n.tagged, .slice A1 n.pairs.length c1', .slice A2 n.keys.length c2', .slice A3 n.ways.length c3', .int .i64 kw] 71 (0, 0))).perm (L' := Lo ++ ((w5.heap.size, Obj.cells #[.int .i64 rr, .bool true, .bool n.tagged, .slice A1 n.pairs.length c1', .slice A2 n.keys.length c2', .slice A3 n.ways.length c3', .int .i64 kw] 71 (0, 0)) :: ((sv, Obj.cells #[.int .i64 rr, .bool true, .bool n.tagged, .slice A1 n.pairs.length c1', .slice A2 n.keys.length c2', .slice A3 n.ways.length c3', .int .i64 kw] 71 (0, 0)) :: ((tb, thO wk (.slice Al' M cl') j sp true false nil0) :: (Ll' ++ ((tv, taskO tb p me) :: (N5 ++ (N ++ Z)))))))) (perm_of_count fun x => by simp only [List.count_append, List.count_cons, List.count_nil, arenaObj, slotObj, nodeObj, worldObj]; omega)
      have hsa : Src (w5.alloc (Obj.cells #[.int .i64 rr, .bool true, .bool n.tagged, .slice A1 n.pairs.length c1', .slice A2 n.keys.length c2', .slice A3 n.ways.length c3', .int .i64 kw] 71 (0, 0))) (.slice (some ⟨w5.heap.size, 0, none⟩) 1 1) 7 1 [.int .i64 rr, .bool true, .bool n.tagged, .slice A1 n.pairs.length c1', .slice A2 n.keys.length c2', .slice A3 n.ways.length c3', .int .i64 kw] := Src.of_block (hWa.get w5.heap.size (Obj.cells #[.int .i64 rr, .bool true, .bool n.tagged, .slice A1 n.pairs.length c1', .slice A2 n.keys.length c2', .slice A3 n.ways.length c3', .int .i64 kw] 71 (0, 0)) (by simp)) rfl (by intro u hu; simp only [List.mem_cons, List.not_mem_nil, or_false] at hu; rcases hu with rfl | rfl | rfl | rfl | rfl | rfl | rfl <;> rfl)
      have Ha := Lib.hid (And.intro hWa (And.intro hsa (hE5.alloc (Obj.cells #[.int .i64 rr, .bool true, .bool n.tagged, .slice A1 n.pairs.length c1', .slice A2 n.keys.length c2', .slice A3 n.ways.length c3', .int .i64 kw] 71 (0, 0)))))
      have Hro := Lib.hid hS.ro
      clear hWa hsa hW5 hE5
      go_upto_region 7 with (at_builtin; refine wpList_append_row rfl (.tmp 32) (.tmp 34) 93 rfl el_step Hro.out Ha.out.1 (m := 1) (news := [.int .i64 rr, .bool true, .bool n.tagged, .slice A1 n.pairs.length c1', .slice A2 n.keys.length c2', .slice A3 n.ways.length c3', .int .i64 kw]) rfl Ha.out.2.1 (by simp [maxLen]; omega) (by omega) ?_; intro v7 w7 L7 r7 h7 e7; obtain ⟨A7, c7, rfl⟩ := r7.shape)
      generalize w5.heap.size = b7 at h7
      have hE7 := Ha.out.2.2.trans e7
      clear Ha d0 d1 d2 d3 d4 d5 d6 e7
      have d1 : w7.cell? ⟨sv, 1, none⟩ = some (.bool true) := (h7.cell (b := sv) (c := #[.int .i64 rr, .bool true, .bool n.tagged, .slice A1 n.pairs.length c1', .slice A2 n.keys.length c2', .slice A3 n.ways.length c3', .int .i64 kw]) (t := 71) (fr := (0, 0)) (by simp) 1).trans rfl
      have hWb := h7.alloc (Obj.cells #[.int .i64 kw] 3 (0, 0))
      have hEb := hE7.alloc (Obj.cells #[.int .i64 kw] 3 (0, 0))
      have d6 : w7.cell? ⟨sv, 6, none⟩ = some (.int .i64 kw) := (h7.cell (b := sv) (c := #[.int .i64 rr, .bool true, .bool n.tagged, .slice A1 n.pairs.length c1', .slice A2 n.keys.length c2', .slice A3 n.ways.length c3', .int .i64 kw]) (t := 71) (fr := (0, 0)) (by simp) 6).trans rfl
      clear h7 hE7 hjl
      go_upto_region 10 with fail
      generalize World.alloc w7 _ = w8 at hWb hEb ⊢
      generalize w7.heap.size = av at hWb ⊢
      have hW8 : Has w8 ((tb, thO wk (.slice Al' M cl') j sp true false nil0) :: (Ll' ++ ((av, Obj.cells #[.int .i64 kw] 3 (0, 0)) :: (L7 ++ ((b7, Obj.cells #[.int .i64 rr, .bool true, .bool n.tagged, .slice A1 n.pairs.length c1', .slice A2 n.keys.length c2', .slice A3 n.ways.length c3', .int .i64 kw] 71 (0, 0)) :: ((sv, Obj.cells #[.int .i64 rr, .bool true, .bool n.tagged, .slice A1 n.pairs.length c1', .slice A2 n.keys.length c2', .slice A3 n.ways.length c3', .int .i64 kw] 71 (0, 0)) :: ((tv, taskO tb p me) :: (N5 ++ (N ++ Z))))))))) := hWb.perm (perm_of_count fun x => by simp only [List.count_append, List.count_cons, List.count_nil, arenaObj, slotObj, nodeObj, worldObj]; omega)
      have g0 : w8.cell? ⟨tv, 0, none⟩ = some (.pointer (some ⟨tb, 0, none⟩)) := (hW8.cell (b := tv) (c := #[.pointer (some ⟨tb, 0, none⟩), .pointer (some ⟨p, 0, none⟩), .int .i64 me]) (t := 64) (fr := (0, 0)) (by simp) 0).trans rfl
      obtain ⟨gA, gO, gsub, gZ⟩ := HA.out
      have htouch : ∀ (w' : World) (lg : Value) (pp : Int) (b1 b2 b3 : Bool) (ov : Value), Has w' ((tb, thO wk lg pp b1 b2 b3 ov) :: (Ll' ++ ((av, Obj.cells #[.int .i64 kw] 3 (0, 0)) :: (L7 ++ ((b7, Obj.cells #[.int .i64 rr, .bool true, .bool n.tagged, .slice A1 n.pairs.length c1', .slice A2 n.keys.length c2', .slice A3 n.ways.length c3', .int .i64 kw] 71 (0, 0)) :: ((sv, Obj.cells #[.int .i64 rr, .bool true, .bool n.tagged, .slice A1 n.pairs.length c1', .slice A2 n.keys.length c2', .slice A3 n.ways.length c3', .int .i64 kw] 71 (0, 0)) :: ((tv, taskO tb p me) :: (N5 ++ (N ++ Z))))))))) →
          Calls Try.prog 69 #[.pointer (some ⟨tv, 0, none⟩), .pointer (some ⟨sv, 0, none⟩), .pointer (some ⟨av, 0, none⟩)] w' fun ed w'' => ed = .returned (.int .i64 r') ∧ ∃ n, w'' = w'.drewN n := by
        intro w' lg pp b1 b2 b3 ov h
        have hs1 := HS.out.1
        have hs2 := HS.out.2.1
        have hs3 := HS.out.2.2.1
        rw [hkw] at hs3
        have h' := h.perm (L' := L ++ ((tb, thO wk lg pp b1 b2 b3 ov) :: (Ll' ++ ((av, Obj.cells #[.int .i64 kw] 3 (0, 0)) :: (L7 ++ ((b7, Obj.cells #[.int .i64 rr, .bool true, .bool n.tagged, .slice A1 n.pairs.length c1', .slice A2 n.keys.length c2', .slice A3 n.ways.length c3', .int .i64 kw] 71 (0, 0)) :: ((sv, Obj.cells #[.int .i64 rr, .bool true, .bool n.tagged, .slice A1 n.pairs.length c1', .slice A2 n.keys.length c2', .slice A3 n.ways.length c3', .int .i64 kw] 71 (0, 0)) :: ((tv, taskO tb p me) :: (N5 ++ (N ++ R2)))))))))) (by rw [← gZ]; exact (perm_of_count fun x => by simp only [List.count_append, List.count_cons, List.count_nil, arenaObj, slotObj, nodeObj, worldObj]; omega))
        have hps : (p, wldO a t e x y er) ∈ L ++ R2 := by rw [gZ]; exact hpZ
        refine touch_any gA gO (tb := tb) (p := p) (t := t) (e := e) (tv := tv) (sv := sv) (av := av) (me := me) (x := x) (y := y) (er := er) (n := n) (pv := .slice A1 n.pairs.length c1') (kv := .slice A2 n.keys.length c2') (wv := .slice A3 n.ways.length c3') hs1 hs2 (k := kw) hs3 h' (by simp) ?_ (by simp) ?_
        · have he : stepO rr n kw (.slice A1 n.pairs.length c1') (.slice A2 n.keys.length c2') (.slice A3 n.ways.length c3') = Obj.cells #[.int .i64 rr, .bool true, .bool n.tagged, .slice A1 n.pairs.length c1', .slice A2 n.keys.length c2', .slice A3 n.ways.length c3', .int .i64 kw] 71 (0, 0) := by unfold stepO; rw [hin]
          rw [hrr, he]; simp
        · rcases List.mem_append.1 hps with h | h
          · simp [h]
          · simp [h]
      have HT := Lib.hid (And.intro htouch hW8)
      have hjts : j < ts0.length := by
        have := congrArg List.length hS.et
        rw [List.length_drop] at this
        simp only [List.length_cons] at this
        omega
      have hrj : ts0[j]? = some r' := by
        have h := congrArg (fun l => l[0]?) hS.et
        simp only [List.getElem?_drop, List.getElem?_cons_zero, Nat.add_zero] at h
        exact h.symm
      have hts : ts = ts0.drop (j + 1) := by
        have h := congrArg (fun l => l.drop 1) hS.et
        simpa [List.drop_drop] using h
      have hss : ss = ss0.drop (j + 1) := by
        have h := congrArg (fun l => l.drop 1) hS.es
        simpa [List.drop_drop] using h
      have htk : ss0.take (j + 1) = ss0.take j ++ [(rr, n, kw)] := by
        have h := congrArg (fun l => l[0]?) hS.es
        simp only [List.getElem?_drop, List.getElem?_cons_zero, Nat.add_zero] at h
        rw [List.take_add_one, ← h, hrr, hkw]
        rfl
      have hMl : (ts0.take M).length = M := by
        rw [List.length_take]
        rcases hS.hM with ⟨h1, h2, h3, h4⟩ | ⟨h1, h2, h3, h4⟩ <;> omega
      have hMb : M ≤ 100000 := by rw [List.length_take] at hMl; omega
      have hMM := hS.hM
      have H0 := Lib.hid (And.intro HS.out.2.2.2.2.2 (And.intro hrj (And.intro hts (And.intro hss (And.intro htk (And.intro hMl hMM))))))
      have h0b : (r' == 0) = false := beq_false_of_ne HS.out.2.2.2.2.2
      clear htouch hWb hW8 hrj hts hss htk hMl hMM d1 d6
      have HN := Lib.hid (And.intro hnr (And.intro r7 hEb))
      clear hnr r7 hEb
      by_cases hjM : j < M
      · have hdo := do_replay (log := ts0.take M) H0.out.2.2.2.2.2.1 hS.rl HT.out.2 (x := r') (by rw [List.getElem?_take, if_pos hjM]; exact H0.out.2.1) (by omega) (K := 69) (caps := #[.pointer (some ⟨tv, 0, none⟩), .pointer (some ⟨sv, 0, none⟩), .pointer (some ⟨av, 0, none⟩)])
        have Hdo := Lib.hid hdo
        clear hdo
        go_wp2_with (go_at_call 68; refine Hdo.out.mono ?_; rintro ed w9 ⟨rfl, hW9, hE9⟩)
        go_roundw
        case rel =>
          refine ⟨j + 1, M, sp, r', ss, ts, css ++ [stepCells rr n kw (.slice A1 n.pairs.length c1') (.slice A2 n.keys.length c2') (.slice A3 n.ways.length c3')], A7, c7, Al', cl', L7, Ll', (av, Obj.cells #[.int .i64 kw] 3 (0, 0)) :: (b7, Obj.cells #[.int .i64 rr, .bool true, .bool n.tagged, .slice A1 n.pairs.length c1', .slice A2 n.keys.length c2', .slice A3 n.ways.length c3', .int .i64 kw] 71 (0, 0)) :: (sv, Obj.cells #[.int .i64 rr, .bool true, .bool n.tagged, .slice A1 n.pairs.length c1', .slice A2 n.keys.length c2', .slice A3 n.ways.length c3', .int .i64 kw] 71 (0, 0)) :: (N5 ++ N), ⟨rfl, rfl, HS.out.2.2.2.1, H0.out.2.2.2.1, H0.out.2.2.1, hjts, by have q := HN.out.2.1; simpa [stepCells, hin] using q, by rw [H0.out.2.2.2.2.1]; exact (hS.st.mono (fun q hq => by simp [hq])).snoc (HN.out.1.mono (fun q hq => by simp [hq])), hS.rl, hW9.perm (perm_of_count fun x => by simp only [List.count_append, List.count_cons, List.count_nil, arenaObj, slotObj, nodeObj, worldObj]; omega), HN.out.2.2.trans hE9, ?_⟩⟩
          rcases hS.hM with ⟨h1, h2, h3, h4⟩ | ⟨h1, h2, h3, h4⟩
          · exact .inl ⟨h1, h2, by omega, h4⟩
          · omega
        case measure => simp [slLen]; omega
      · have hMj : j = M := by rcases hS.hM with ⟨h1, h2, h3, h4⟩ | ⟨h1, h2, h3, h4⟩ <;> omega
        by_cases hsp : sp = true
        · have hjm : j = m + 1 := by
            rcases hS.hM with ⟨h1, h2, h3, h4⟩ | ⟨h1, h2, h3, h4⟩
            · rw [h2] at hsp; cases hsp
            · exact h3
          have hdo := do_wait (R := Ll' ++ ((av, Obj.cells #[.int .i64 kw] 3 (0, 0)) :: (L7 ++ ((b7, Obj.cells #[.int .i64 rr, .bool true, .bool n.tagged, .slice A1 n.pairs.length c1', .slice A2 n.keys.length c2', .slice A3 n.ways.length c3', .int .i64 kw] 71 (0, 0)) :: ((sv, Obj.cells #[.int .i64 rr, .bool true, .bool n.tagged, .slice A1 n.pairs.length c1', .slice A2 n.keys.length c2', .slice A3 n.ways.length c3', .int .i64 kw] 71 (0, 0)) :: ((tv, taskO tb p me) :: (N5 ++ (N ++ Z)))))))) (by have q := HT.out.2; rw [hsp] at q; exact q) hMj (by omega) (K := 69) (caps := #[.pointer (some ⟨tv, 0, none⟩), .pointer (some ⟨sv, 0, none⟩), .pointer (some ⟨av, 0, none⟩)])
          have Hdo := Lib.hid hdo
          clear hdo
          go_wp2_with (go_at_call 68; refine Hdo.out.mono ?_; rintro ed w9 ⟨rfl, hW9, hE9⟩)
          have hrl := hS.rl
          subst hMj
          subst hjm
          refine ⟨rfl, Al', cl', Ll', (L7 ++ ((av, Obj.cells #[.int .i64 kw] 3 (0, 0)) :: (b7, Obj.cells #[.int .i64 rr, .bool true, .bool n.tagged, .slice A1 n.pairs.length c1', .slice A2 n.keys.length c2', .slice A3 n.ways.length c3', .int .i64 kw] 71 (0, 0)) :: (sv, Obj.cells #[.int .i64 rr, .bool true, .bool n.tagged, .slice A1 n.pairs.length c1', .slice A2 n.keys.length c2', .slice A3 n.ways.length c3', .int .i64 kw] 71 (0, 0)) :: (N5 ++ N))) ++ [(tv, taskO tb p me)], ?_, HN.out.2.2.trans hE9⟩
          rw [if_neg (by omega)]
          exact ⟨rfl, hrl, hW9.perm (perm_of_count fun x => by simp only [List.count_append, List.count_cons, List.count_nil, arenaObj, slotObj, nodeObj, worldObj]; omega)⟩
        · have hsf : sp = false := by simpa using hsp
          have hjm : M = m := by
            rcases hS.hM with ⟨h1, h2, h3, h4⟩ | ⟨h1, h2, h3, h4⟩
            · exact h1
            · rw [h2] at hsf; cases hsf
          have hdo := do_fresh (log := ts0.take M) (R := ((av, Obj.cells #[.int .i64 kw] 3 (0, 0)) :: (L7 ++ ((b7, Obj.cells #[.int .i64 rr, .bool true, .bool n.tagged, .slice A1 n.pairs.length c1', .slice A2 n.keys.length c2', .slice A3 n.ways.length c3', .int .i64 kw] 71 (0, 0)) :: ((sv, Obj.cells #[.int .i64 rr, .bool true, .bool n.tagged, .slice A1 n.pairs.length c1', .slice A2 n.keys.length c2', .slice A3 n.ways.length c3', .int .i64 kw] 71 (0, 0)) :: ((tv, taskO tb p me) :: (N5 ++ (N ++ Z)))))))) (Q := fun R' => R' = ((av, Obj.cells #[.int .i64 kw] 3 (0, 0)) :: (L7 ++ ((b7, Obj.cells #[.int .i64 rr, .bool true, .bool n.tagged, .slice A1 n.pairs.length c1', .slice A2 n.keys.length c2', .slice A3 n.ways.length c3', .int .i64 kw] 71 (0, 0)) :: ((sv, Obj.cells #[.int .i64 rr, .bool true, .bool n.tagged, .slice A1 n.pairs.length c1', .slice A2 n.keys.length c2', .slice A3 n.ways.length c3', .int .i64 kw] 71 (0, 0)) :: ((tv, taskO tb p me) :: (N5 ++ (N ++ Z)))))))) H0.out.2.2.2.2.2.1 hS.rl (by have q := HT.out.2; rw [hsf] at q; exact q) hMj (by omega) (K := 69) (caps := #[.pointer (some ⟨tv, 0, none⟩), .pointer (some ⟨sv, 0, none⟩), .pointer (some ⟨av, 0, none⟩)]) (x := r') (fun w => enters_ Try.func69 (by kernel_rfl) rfl _ w)
            (fun w' hw' => (HT.out.1 w' _ _ _ _ _ _ hw').mono (fun ed w'' ⟨h1, n1, h2⟩ => ⟨h1, _, by rw [h2]; exact hw'.drewN n1, rfl, by rw [h2]; exact (Ext.refl w').drewN n1⟩))
          have Hdo := Lib.hid hdo
          clear hdo
          have HJ := Lib.hid (And.intro hMj hjm)
          clear hMj hjm hsf
          go_wp2_with (go_at_call 68; refine Hdo.out.mono ?_; rintro ed w9 ⟨rfl, A9, c9, L9, N9, R9, hr9, hW9, rfl, hE9⟩)
          go_roundw
          case rel =>
            obtain ⟨hMj, hjm⟩ := HJ.out
            refine ⟨j + 1, M + 1, true, r', ss, ts, css ++ [stepCells rr n kw (.slice A1 n.pairs.length c1') (.slice A2 n.keys.length c2') (.slice A3 n.ways.length c3')], A7, c7, A9, c9, L7, L9, N9 ++ ((av, Obj.cells #[.int .i64 kw] 3 (0, 0)) :: (b7, Obj.cells #[.int .i64 rr, .bool true, .bool n.tagged, .slice A1 n.pairs.length c1', .slice A2 n.keys.length c2', .slice A3 n.ways.length c3', .int .i64 kw] 71 (0, 0)) :: (sv, Obj.cells #[.int .i64 rr, .bool true, .bool n.tagged, .slice A1 n.pairs.length c1', .slice A2 n.keys.length c2', .slice A3 n.ways.length c3', .int .i64 kw] 71 (0, 0)) :: (N5 ++ N)), ⟨rfl, rfl, HS.out.2.2.2.1, H0.out.2.2.2.1, H0.out.2.2.1, hjts, by have q := HN.out.2.1; simpa [stepCells, hin] using q, by rw [H0.out.2.2.2.2.1]; exact (hS.st.mono (fun q hq => by simp [hq])).snoc (HN.out.1.mono (fun q hq => by simp [hq])), ?_, hW9.perm (perm_of_count fun x => by simp only [List.count_append, List.count_cons, List.count_nil, arenaObj, slotObj, nodeObj, worldObj]; omega), HN.out.2.2.trans hE9, .inr ⟨by omega, rfl, by omega, by omega⟩⟩⟩
            rw [List.take_add_one, ← hMj, H0.out.2.1, hMj]
            exact hr9
          case measure => simp [slLen]; omega
end Go.Proofs.Ytjkfigkgeoacfaa
