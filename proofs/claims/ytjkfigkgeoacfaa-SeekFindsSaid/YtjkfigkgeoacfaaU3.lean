import Derived.Test.YtjkfigkgeoacfaaU2
set_option linter.unusedVariables false
set_option linter.unusedSimpArgs false
namespace Go.Proofs.Ytjkfigkgeoacfaa
open Go.RowKit Go.Proofs.YtjkfigkgeoacfaaW.PrintLast

/-- How an operation's work ends. -/
def WorkEnd (ts out : List Int) (m tb : Nat) (wk : Value) (R : HL) (w : World) (ed : Ending) (w' : World) : Prop := ∃ Al' cl' Ll' N,
  (if ts.length ≤ m + 1 then ∃ Ao co Lo, ed = .returned (.slice Ao out.length co) ∧ Row 2 1 (.slice Ao out.length co) out.length (ints out) Lo ∧ Row 2 1 (.slice Al' ts.length cl') ts.length (ints ts) Ll' ∧
      Has w' ((tb, thO wk (.slice Al' ts.length cl') ts.length (decide (m < ts.length)) true false nil0) :: (Ll' ++ (Lo ++ (N ++ R))))
    else ed = .panicked waitP ∧ Row 2 1 (.slice Al' (m + 1) cl') (m + 1) (ints (ts.take (m + 1))) Ll' ∧ Has w' ((tb, thO wk (.slice Al' (m + 1) cl') (m + 1 : Nat) true true false nil0) :: (Ll' ++ (N ++ R)))) ∧ Ext w w'

/-- What the walker tells of a node. -/
def tellS (st : Int × ANode × Nat) : List Int := [st.1, st.2.2, if st.2.1.inner then st.2.1.keys.length else -1 - st.2.1.pairs.length]
def tells (ss : List (Int × ANode × Nat)) : List Int := ss.flatMap tellS
theorem tells_len (ss : List (Int × ANode × Nat)) : (tells ss).length = 3 * ss.length := by
  induction ss with
  | nil => rfl
  | cons s ss ih => simp only [tells, List.flatMap_cons, List.length_append, List.length_cons] at *; simp [tellS] at *; omega
theorem tells_snoc (ss : List (Int × ANode × Nat)) (s : Int × ANode × Nat) : tells (ss ++ [s]) = tells ss ++ tellS s := by simp [tells]

structure KSt (ss : List (Int × ANode × Nat)) (X : HL) (w : World) (iv ov : Value) (wr : World) (i : Nat) (A : Option Addr) (c : Nat) (Lo N : HL) : Prop where
  hi : iv = .int .i64 i
  ho : ov = .slice A (3 * i) c
  il : i ≤ ss.length
  ro : Row 2 1 (.slice A (3 * i) c) (3 * i) (ints (tells (ss.take i))) Lo
  hw : Has wr (Lo ++ (N ++ X))
  he : Ext w wr

theorem flat_at7 {css : List (List Value)} (h : ∀ cs ∈ css, cs.length = 7) : ∀ {i : Nat} {cs : List Value}, css[i]? = some cs → ∀ (k : Nat), k < 7 → css.flatten[i * 7 + k]? = cs[k]? := by
  induction css with
  | nil => intro i cs h; simp at h
  | cons c css ih =>
    intro i cs hi k hk
    have hc : c.length = 7 := h c (List.mem_cons_self ..)
    cases i with
    | zero =>
      have : c = cs := by simpa using hi
      subst this
      simp only [List.flatten_cons, Nat.zero_mul, Nat.zero_add]
      rw [List.getElem?_append_left (by omega)]
    | succ i =>
      simp only [List.flatten_cons]
      rw [List.getElem?_append_right (by omega)]
      have e : (i + 1) * 7 + k - c.length = i * 7 + k := by omega
      rw [e]
      exact ih (fun cs hm => h cs (List.mem_cons_of_mem _ hm)) (by simpa using hi) k hk
theorem StepsRep.seven {R : HL} {ss : List (Int × ANode × Nat)} {css : List (List Value)} (h : StepsRep R ss css) : ∀ cs ∈ css, cs.length = 7 := by
  intro cs hm
  obtain ⟨j, hj, rfl⟩ := List.getElem_of_mem hm
  obtain ⟨_, _, _, e, _⟩ := h.2 j css[j] (ss[j]'(by rw [← h.1]; exact hj)) (List.getElem?_eq_getElem hj) (List.getElem?_eq_getElem (by rw [← h.1]; exact hj))
  rw [e]; rfl
theorem step_known {R : HL} {g off : Nat} {ss : List (Int × ANode × Nat)} {css : List (List Value)} (hs : StepsRep R ss css) {w : World} (hc : ∀ j u, css.flatten[j]? = some u → w.cell? ⟨g, off + j, none⟩ = some u) {i : Nat} (hi : i < ss.length) :
    ∃ (st : Int × ANode × Nat) (A1 : Option Addr) (c1 : Nat) (A2 : Option Addr) (c2 : Nat) (A3 : Option Addr) (c3 : Nat), ss[i]? = some st ∧ NodeRep R st.2.1 (.slice A1 st.2.1.pairs.length c1) (.slice A2 st.2.1.keys.length c2) (.slice A3 st.2.1.ways.length c3) ∧
      w.cell? ⟨g, off + i * 7, none⟩ = some (.int .i64 st.1) ∧ w.cell? ⟨g, off + i * 7 + 1, none⟩ = some (.bool st.2.1.inner) ∧ w.cell? ⟨g, off + i * 7 + 2, none⟩ = some (.bool st.2.1.tagged) ∧ w.cell? ⟨g, off + i * 7 + 3, none⟩ = some (.slice A1 st.2.1.pairs.length c1) ∧
      w.cell? ⟨g, off + i * 7 + 4, none⟩ = some (.slice A2 st.2.1.keys.length c2) ∧ w.cell? ⟨g, off + i * 7 + 5, none⟩ = some (.slice A3 st.2.1.ways.length c3) ∧ w.cell? ⟨g, off + i * 7 + 6, none⟩ = some (.int .i64 st.2.2) := by
  have hi' : i < css.length := by rw [hs.1]; exact hi
  obtain ⟨pv, kv, wv, e, hn⟩ := hs.2 i css[i] ss[i] (List.getElem?_eq_getElem hi') (List.getElem?_eq_getElem hi)
  have hat := flat_at7 hs.seven (List.getElem?_eq_getElem hi')
  obtain ⟨A1, c1, A2, c2, A3, c3, rfl, rfl, rfl⟩ := nodeRep_slices hn
  rw [e] at hat
  refine ⟨ss[i], A1, c1, A2, c2, A3, c3, List.getElem?_eq_getElem hi, hn, ?_, ?_, ?_, ?_, ?_, ?_, ?_⟩
  · exact hc (i * 7) _ (hat 0 (by omega))
  · rw [Nat.add_assoc]; exact hc _ _ (hat 1 (by omega))
  · rw [Nat.add_assoc]; exact hc _ _ (hat 2 (by omega))
  · rw [Nat.add_assoc]; exact hc _ _ (hat 3 (by omega))
  · rw [Nat.add_assoc]; exact hc _ _ (hat 4 (by omega))
  · rw [Nat.add_assoc]; exact hc _ _ (hat 5 (by omega))
  · rw [Nat.add_assoc]; exact hc _ _ (hat 6 (by omega))

set_option maxRecDepth 100000 in
set_option maxHeartbeats 4000000 in
theorem walker1_any {Ra R2 : HL} {a : Nat} {A : AArena} {L : HL} (hA : ArenaRep Ra a A L) (hO : A.Ok) (hsub : ∀ q, q ∈ Ra → q ∈ R2) {p t e : Nat} {x y er : Int} (hp : (p, wldO a t e x y er) ∈ R2)
    {key : Int} {ss0 : List (Int × ANode × Nat)} {ts0 : List Int} (hP : PathA A key er ss0 ts0) (hlen : ts0.length ≤ 100000) (hpl : ∀ st ∈ ss0, st.2.1.pairs.length ≤ 100000) {m : Nat} (hm : m ≤ ts0.length) {Al : Option Addr} {cl : Nat} {Ll : HL} (hl : Row 2 1 (.slice Al m cl) m (ints (ts0.take m)) Ll)
    {tb kb : Nat} (hkb : (kb, Obj.cells #[.int .i64 key] 2 (0, 0)) ∈ R2) {me : Int} {wk : Value} {w : World} (hw : Has w ((tb, thO wk (.slice Al m cl) 0 false true false nil0) :: (Ll ++ (L ++ R2)))) :
    Calls Try.prog 43 #[.agg #[.pointer (some ⟨tb, 0, none⟩), .pointer (some ⟨p, 0, none⟩), .int .i64 me], .pointer (some ⟨kb, 0, none⟩)] w (WorkEnd ts0 (tells ss0) m tb wk (L ++ R2) w) := by
  have hslen := hP.len
  have hW : Has (w.alloc (taskO tb p me)) ((tb, thO wk (.slice Al m cl) 0 false true false nil0) :: (Ll ++ (L ++ ((w.heap.size, taskO tb p me) :: R2)))) := (hw.alloc (taskO tb p me)).perm (perm_of_count fun x => by simp only [List.count_append, List.count_cons, List.count_nil, arenaObj, slotObj, nodeObj, worldObj]; omega)
  have hE := (Ext.refl w).alloc (taskO tb p me)
  generalize hEq : w.alloc (taskO tb p me) = w1 at hW hE
  have hpe := path_any hA hO (R2 := (w.heap.size, taskO tb p me) :: R2) (fun q hq => List.mem_cons_of_mem _ (hsub q hq)) (List.mem_cons_of_mem _ hp) hP hlen hm hl (me := me) hW
  have ck : w1.cell? ⟨kb, 0, none⟩ = some (.int .i64 key) := (hW.cell (b := kb) (c := #[.int .i64 key]) (t := 2) (fr := (0, 0)) (by simp [hkb]) 0).trans rfl
  have ct0 : w1.cell? ⟨w.heap.size, 0, none⟩ = some (.pointer (some ⟨tb, 0, none⟩)) := (hW.cell (b := w.heap.size) (c := #[.pointer (some ⟨tb, 0, none⟩), .pointer (some ⟨p, 0, none⟩), .int .i64 me]) (t := 64) (fr := (0, 0)) (by simp) 0).trans rfl
  have ct1 : w1.cell? ⟨w.heap.size, 1, none⟩ = some (.pointer (some ⟨p, 0, none⟩)) := (hW.cell (b := w.heap.size) (c := #[.pointer (some ⟨tb, 0, none⟩), .pointer (some ⟨p, 0, none⟩), .int .i64 me]) (t := 64) (fr := (0, 0)) (by simp) 1).trans rfl
  have ct2 : w1.cell? ⟨w.heap.size, 2, none⟩ = some (.int .i64 me) := (hW.cell (b := w.heap.size) (c := #[.pointer (some ⟨tb, 0, none⟩), .pointer (some ⟨p, 0, none⟩), .int .i64 me]) (t := 64) (fr := (0, 0)) (by simp) 2).trans rfl
  have HP := Lib.hid (And.intro hE (And.intro hslen hEq))
  by_cases hc : ts0.length ≤ m + 1
  · unfold PathEnd at hpe
    simp only [if_pos hc] at hpe
    have Hpe := Lib.hid hpe
    have HC := Lib.hid (And.intro hc (And.intro hlen hpl))
    clear hpe hc hA hO hsub hp hP hlen hpl hm hl hkb hw hW hE hslen hEq
    go_enter Try.func43, Try.ntmps43
    go_upto_region 2 with fail
    rw [HP.out.2.2]
    generalize w.heap.size = tv at *
    go_wp2_with (go_at_call 44; refine Hpe.out.mono ?_; rintro ed w2 ⟨Al', cl', Ll', N, ⟨Ao, co, Lo, css, rfl, hro, hst, hrl, hW2⟩, hE2⟩)
    generalize hX : ((tb, thO wk (.slice Al' ts0.length cl') ts0.length (decide (m < ts0.length)) true false nil0) :: (Ll' ++ (Lo ++ (N ++ (L ++ ((tv, taskO tb p me) :: R2)))))) = X at hW2
    have hsubX : ∀ q, q ∈ Lo ++ N → q ∈ X := by
      rw [← hX]
      exact (sub_of_count fun x => by simp only [List.count_append, List.count_cons, List.count_nil, arenaObj, slotObj, nodeObj, worldObj] <;> omega)
    have hst' : StepsRep (Lo ++ N) ss0 css := hst.mono (fun q hq => by simp [hq])
    have hrd := (hro.rd N)
    have HX := Lib.hid (And.intro hX (And.intro hsubX (And.intro hst' (And.intro hrd hrl))))
    have hlen0 : ss0.length ≤ 100001 := by have := HC.out.2.1; have := HP.out.2.1; omega
    clear hX hsubX hst hst' hro hrd hrl ck ct0 ct1 ct2
    go_loopw [4, 12] (fun ov iv wr => ∃ i A c Lo2 N2, KSt ss0 X w iv ov wr i A c Lo2 N2) (fun _ iv _ => ss0.length - (intOf iv).toNat)
    case atStart => exact ⟨0, none, 0, [], [], ⟨rfl, rfl, Nat.zero_le _, Row.nil _ _ _, hW2, HP.out.1.trans hE2⟩⟩
    case round =>
      obtain ⟨i, A, c, Lo2, N2, hS⟩ := hrel
      have q1 := hS.hi
      have q2 := hS.ho
      subst q1 q2
      have hil := hS.il
      by_cases hlt : i < ss0.length
      · have hd : decide ((i : Int) < ss0.length) = true := decide_eq_true (by omega)
        obtain ⟨g, off, co', her, _, _, hcc⟩ := HX.out.2.2.2.1.known (by omega)
        cases her
        obtain ⟨⟨r, nd, k⟩, A1, c1, A2, c2, A3, c3, hsti, hnr, e0, e1, e2, e3, e4, e5, e6⟩ := step_known HX.out.2.2.1 (fun j u hu => hcc wr _ (hS.hw.knows (L0 := X) (fun q hq => by simp [hq])) HX.out.2.1 j u hu) hlt
        simp only at hnr e0 e1 e2 e3 e4 e5 e6
        have hpln := HC.out.2.2 (r, nd, k) (List.mem_of_getElem? hsti)
        simp only at hpln
        have Hst := Lib.hid hsti
        clear hsti hcc hil
        by_cases hin : nd.inner = true
        · have hW3 := hS.hw.alloc (Obj.cells #[.int .i64 r, .bool true, .bool nd.tagged, .slice A1 nd.pairs.length c1, .slice A2 nd.keys.length c2, .slice A3 nd.ways.length c3, .int .i64 k] 71 (0, 0))
          have hE3 := hS.he.alloc (Obj.cells #[.int .i64 r, .bool true, .bool nd.tagged, .slice A1 nd.pairs.length c1, .slice A2 nd.keys.length c2, .slice A3 nd.ways.length c3, .int .i64 k] 71 (0, 0))
          rw [hin] at e1
          have Hin := Lib.hid hin
          clear hin
          go_upto_region 8 with fail
          generalize World.alloc wr _ = w3 at hW3 hE3 ⊢
          generalize wr.heap.size = sv at hW3 ⊢
          have d0 : w3.cell? ⟨sv, 0, none⟩ = some (.int .i64 r) := (hW3.cell (List.mem_cons_self ..) 0).trans rfl
          have d6 : w3.cell? ⟨sv, 6, none⟩ = some (.int .i64 k) := (hW3.cell (List.mem_cons_self ..) 6).trans rfl
          have hWa := (hW3.alloc (Obj.cells #[.int .i64 r, .int .i64 k, .int .i64 (nd.keys.length)] 2 (0, 0))).perm (L' := Lo2 ++ ((w3.heap.size, Obj.cells #[.int .i64 r, .int .i64 k, .int .i64 (nd.keys.length)] 2 (0, 0)) :: ((sv, Obj.cells #[.int .i64 r, .bool true, .bool nd.tagged, .slice A1 nd.pairs.length c1, .slice A2 nd.keys.length c2, .slice A3 nd.ways.length c3, .int .i64 k] 71 (0, 0)) :: (N2 ++ X)))) (perm_of_count fun x => by simp only [List.count_append, List.count_cons, List.count_nil, arenaObj, slotObj, nodeObj, worldObj]; omega)
          have hsa : Src (w3.alloc (Obj.cells #[.int .i64 r, .int .i64 k, .int .i64 (nd.keys.length)] 2 (0, 0))) (.slice (some ⟨w3.heap.size, 0, none⟩) 3 3) 1 3 [.int .i64 r, .int .i64 k, .int .i64 (nd.keys.length)] := Src.of_block (hWa.get w3.heap.size (Obj.cells #[.int .i64 r, .int .i64 k, .int .i64 (nd.keys.length)] 2 (0, 0)) (by simp)) rfl (by intro u hu; simp only [List.mem_cons, List.not_mem_nil, or_false] at hu; rcases hu with rfl | rfl | rfl <;> rfl)
          have Ha := Lib.hid (And.intro hWa (And.intro hsa (hE3.alloc (Obj.cells #[.int .i64 r, .int .i64 k, .int .i64 (nd.keys.length)] 2 (0, 0)))))
          have Hro := Lib.hid hS.ro
          clear hWa hsa hW3 hE3
          go_wp2_with (at_builtin; refine wpList_append_row rfl (.tmp 30) (.tmp 36) 22 rfl el_int Hro.out Ha.out.1 (m := 3) (news := [.int .i64 r, .int .i64 k, .int .i64 (nd.keys.length)]) rfl Ha.out.2.1 (by simp [maxLen]; omega) (by omega) ?_)
          intro v7 w7 L7 r7 h7 e7
          obtain ⟨A7, c7, rfl⟩ := r7.shape
          go_wp2
          go_roundw
          case rel =>
            refine ⟨i + 1, A7, c7, L7, (w3.heap.size, Obj.cells #[.int .i64 r, .int .i64 k, .int .i64 (nd.keys.length)] 2 (0, 0)) :: ((sv, Obj.cells #[.int .i64 r, .bool true, .bool nd.tagged, .slice A1 nd.pairs.length c1, .slice A2 nd.keys.length c2, .slice A3 nd.ways.length c3, .int .i64 k] 71 (0, 0)) :: N2), ⟨by go_num, by congr 1, hlt, ?_, h7.perm (perm_of_count fun x => by simp only [List.count_append, List.count_cons, List.count_nil, arenaObj, slotObj, nodeObj, worldObj]; omega), Ha.out.2.2.trans e7⟩⟩
            have hts : tells (ss0.take (i + 1)) = tells (ss0.take i) ++ [r, (k : Int), nd.keys.length] := by
              rw [List.take_add_one, Hst.out]
              simp only [Option.toList_some, tells_snoc]
              rw [show tellS (r, nd, k) = [r, (k : Int), nd.keys.length] by simp [tellS, Hin.out]]
            rw [hts]
            simpa [ints, Nat.mul_add] using r7
          case measure => simp [intOf]; omega
        · have hin : nd.inner = false := by simpa using hin
          have hW3 := hS.hw.alloc (Obj.cells #[.int .i64 r, .bool false, .bool nd.tagged, .slice A1 nd.pairs.length c1, .slice A2 nd.keys.length c2, .slice A3 nd.ways.length c3, .int .i64 k] 71 (0, 0))
          have hE3 := hS.he.alloc (Obj.cells #[.int .i64 r, .bool false, .bool nd.tagged, .slice A1 nd.pairs.length c1, .slice A2 nd.keys.length c2, .slice A3 nd.ways.length c3, .int .i64 k] 71 (0, 0))
          rw [hin] at e1
          have Hin := Lib.hid hin
          clear hin
          go_upto_region 8 with fail
          generalize World.alloc wr _ = w3 at hW3 hE3 ⊢
          generalize wr.heap.size = sv at hW3 ⊢
          have d0 : w3.cell? ⟨sv, 0, none⟩ = some (.int .i64 r) := (hW3.cell (List.mem_cons_self ..) 0).trans rfl
          have d6 : w3.cell? ⟨sv, 6, none⟩ = some (.int .i64 k) := (hW3.cell (List.mem_cons_self ..) 6).trans rfl
          have hWa := (hW3.alloc (Obj.cells #[.int .i64 r, .int .i64 k, .int .i64 (-1 - (nd.pairs.length : Int))] 2 (0, 0))).perm (L' := Lo2 ++ ((w3.heap.size, Obj.cells #[.int .i64 r, .int .i64 k, .int .i64 (-1 - (nd.pairs.length : Int))] 2 (0, 0)) :: ((sv, Obj.cells #[.int .i64 r, .bool false, .bool nd.tagged, .slice A1 nd.pairs.length c1, .slice A2 nd.keys.length c2, .slice A3 nd.ways.length c3, .int .i64 k] 71 (0, 0)) :: (N2 ++ X)))) (perm_of_count fun x => by simp only [List.count_append, List.count_cons, List.count_nil, arenaObj, slotObj, nodeObj, worldObj]; omega)
          have hsa : Src (w3.alloc (Obj.cells #[.int .i64 r, .int .i64 k, .int .i64 (-1 - (nd.pairs.length : Int))] 2 (0, 0))) (.slice (some ⟨w3.heap.size, 0, none⟩) 3 3) 1 3 [.int .i64 r, .int .i64 k, .int .i64 (-1 - (nd.pairs.length : Int))] := Src.of_block (hWa.get w3.heap.size (Obj.cells #[.int .i64 r, .int .i64 k, .int .i64 (-1 - (nd.pairs.length : Int))] 2 (0, 0)) (by simp)) rfl (by intro u hu; simp only [List.mem_cons, List.not_mem_nil, or_false] at hu; rcases hu with rfl | rfl | rfl <;> rfl)
          have Ha := Lib.hid (And.intro hWa (And.intro hsa (hE3.alloc (Obj.cells #[.int .i64 r, .int .i64 k, .int .i64 (-1 - (nd.pairs.length : Int))] 2 (0, 0)))))
          have Hro := Lib.hid hS.ro
          clear hWa hsa hW3 hE3
          go_wp2_with (at_builtin; refine wpList_append_row rfl (.tmp 30) (.tmp 36) 22 rfl el_int Hro.out Ha.out.1 (m := 3) (news := [.int .i64 r, .int .i64 k, .int .i64 (-1 - (nd.pairs.length : Int))]) rfl Ha.out.2.1 (by simp [maxLen]; omega) (by omega) ?_)
          intro v7 w7 L7 r7 h7 e7
          obtain ⟨A7, c7, rfl⟩ := r7.shape
          go_wp2
          go_roundw
          case rel =>
            refine ⟨i + 1, A7, c7, L7, (w3.heap.size, Obj.cells #[.int .i64 r, .int .i64 k, .int .i64 (-1 - (nd.pairs.length : Int))] 2 (0, 0)) :: ((sv, Obj.cells #[.int .i64 r, .bool false, .bool nd.tagged, .slice A1 nd.pairs.length c1, .slice A2 nd.keys.length c2, .slice A3 nd.ways.length c3, .int .i64 k] 71 (0, 0)) :: N2), ⟨by go_num, by congr 1, hlt, ?_, h7.perm (perm_of_count fun x => by simp only [List.count_append, List.count_cons, List.count_nil, arenaObj, slotObj, nodeObj, worldObj]; omega), Ha.out.2.2.trans e7⟩⟩
            have hts : tells (ss0.take (i + 1)) = tells (ss0.take i) ++ [r, (k : Int), -1 - (nd.pairs.length : Int)] := by
              rw [List.take_add_one, Hst.out]
              simp only [Option.toList_some, tells_snoc]
              rw [show tellS (r, nd, k) = [r, (k : Int), -1 - (nd.pairs.length : Int)] by simp [tellS, Hin.out]]
            rw [hts]
            simpa [ints, Nat.mul_add] using r7
          case measure => simp [intOf]; omega
      · have hd : decide ((i : Int) < ss0.length) = false := decide_eq_false (by omega)
        have hii : i = ss0.length := by omega
        have HS := Lib.hid (And.intro hii hS)
        clear hii hS hil
        go_wp2
        go_ret
        obtain ⟨hii, hS⟩ := HS.out
        subst hii
        have hro := hS.ro
        rw [List.take_of_length_le (Nat.le_refl _)] at hro
        refine ⟨Al', cl', Ll', N2 ++ (Lo ++ (N ++ [(tv, taskO tb p me)])), ?_, hS.he⟩
        rw [if_pos HC.out.1, tells_len]
        refine ⟨A, c, Lo2, rfl, hro, HX.out.2.2.2.2, ?_⟩
        have hw := hS.hw
        rw [← HX.out.1] at hw
        exact hw.perm (perm_of_count fun x => by simp only [List.count_append, List.count_cons, List.count_nil, arenaObj, slotObj, nodeObj, worldObj]; omega)
  · unfold PathEnd at hpe
    simp only [if_neg hc] at hpe
    have Hpe := Lib.hid hpe
    have HC := Lib.hid hc
    clear hpe hc hA hO hsub hp hP hlen hpl hm hl hkb hw hW hE hslen hEq
    go_enter Try.func43, Try.ntmps43
    go_upto_region 2 with fail
    rw [HP.out.2.2]
    generalize w.heap.size = tv at *
    go_wp2_with (go_at_call 44; refine Hpe.out.mono ?_; rintro ed w2 ⟨Al', cl', Ll', N, ⟨rfl, hrl, hW2⟩, hE2⟩)
    refine ⟨rfl, Al', cl', Ll', N ++ [(tv, taskO tb p me)], ?_, HP.out.1.trans hE2⟩
    rw [if_neg HC.out]
    exact ⟨rfl, hrl, hW2.perm (perm_of_count fun x => by simp only [List.count_append, List.count_cons, List.count_nil, arenaObj, slotObj, nodeObj, worldObj]; omega)⟩
end Go.Proofs.Ytjkfigkgeoacfaa
