import Derived.Test.YtjkfigkgeoacfaaU5
set_option linter.unusedVariables false
set_option linter.unusedSimpArgs false
namespace Go.Proofs.Ytjkfigkgeoacfaa
open Go.RowKit Go.Proofs.YtjkfigkgeoacfaaW.PrintLast

abbrev stO (r : Int) (inn tg : Bool) (pv kv wv : Value) (k : Int) : Obj := .cells #[.int .i64 r, .bool inn, .bool tg, pv, kv, wv, .int .i64 k] 71 (0, 0)
theorem Has.st {w : World} {L : HL} (h : Has w L) {b : Nat} {r k : Int} {inn tg : Bool} {pv kv wv : Value} (hm : (b, stO r inn tg pv kv wv k) ∈ L) :
    (w.cell? ⟨b, 0, none⟩ = some (.int .i64 r) ∧ w.cell? ⟨b, 1, none⟩ = some (.bool inn) ∧ w.cell? ⟨b, 2, none⟩ = some (.bool tg) ∧ w.cell? ⟨b, 3, none⟩ = some pv ∧ w.cell? ⟨b, 4, none⟩ = some kv ∧ w.cell? ⟨b, 5, none⟩ = some wv ∧ w.cell? ⟨b, 6, none⟩ = some (.int .i64 k)) ∧ ∀ j, w.frozen? ⟨b, j, none⟩ = false :=
  ⟨⟨(h.cell hm 0).trans rfl, (h.cell hm 1).trans rfl, (h.cell hm 2).trans rfl, (h.cell hm 3).trans rfl, (h.cell hm 4).trans rfl, (h.cell hm 5).trans rfl, (h.cell hm 6).trans rfl⟩, h.free hm⟩
def set7 (w : World) (b : Nat) (r : Int) (inn tg : Bool) (pv kv wv : Value) (k : Int) : World := ((((((w.setCell ⟨b, 0, none⟩ (.int .i64 r)).setCell ⟨b, 1, none⟩ (.bool inn)).setCell ⟨b, 2, none⟩ (.bool tg)).setCell ⟨b, 3, none⟩ pv).setCell ⟨b, 4, none⟩ kv).setCell ⟨b, 5, none⟩ wv).setCell ⟨b, 6, none⟩ (.int .i64 k)
theorem Has.set7 {w : World} {R : HL} {b : Nat} {r0 k0 : Int} {i0 t0 : Bool} {p0 q0 v0 : Value} (h : Has w ((b, stO r0 i0 t0 p0 q0 v0 k0) :: R)) (r : Int) (inn tg : Bool) (pv kv wv : Value) (k : Int) : Has (set7 w b r inn tg pv kv wv k) ((b, stO r inn tg pv kv wv k) :: R) := by
  have h1 : Has (w.setCell ⟨b, 0, none⟩ (.int .i64 r)) ((b, stO r i0 t0 p0 q0 v0 k0) :: R) := h.set 0 (.int .i64 r)
  have h2 : Has ((w.setCell ⟨b, 0, none⟩ (.int .i64 r)).setCell ⟨b, 1, none⟩ (.bool inn)) ((b, stO r inn t0 p0 q0 v0 k0) :: R) := h1.set 1 (.bool inn)
  have h3 : Has (((w.setCell ⟨b, 0, none⟩ (.int .i64 r)).setCell ⟨b, 1, none⟩ (.bool inn)).setCell ⟨b, 2, none⟩ (.bool tg)) ((b, stO r inn tg p0 q0 v0 k0) :: R) := h2.set 2 (.bool tg)
  have h4 : Has ((((w.setCell ⟨b, 0, none⟩ (.int .i64 r)).setCell ⟨b, 1, none⟩ (.bool inn)).setCell ⟨b, 2, none⟩ (.bool tg)).setCell ⟨b, 3, none⟩ pv) ((b, stO r inn tg pv q0 v0 k0) :: R) := h3.set 3 pv
  have h5 : Has (((((w.setCell ⟨b, 0, none⟩ (.int .i64 r)).setCell ⟨b, 1, none⟩ (.bool inn)).setCell ⟨b, 2, none⟩ (.bool tg)).setCell ⟨b, 3, none⟩ pv).setCell ⟨b, 4, none⟩ kv) ((b, stO r inn tg pv kv v0 k0) :: R) := h4.set 4 kv
  have h6 : Has ((((((w.setCell ⟨b, 0, none⟩ (.int .i64 r)).setCell ⟨b, 1, none⟩ (.bool inn)).setCell ⟨b, 2, none⟩ (.bool tg)).setCell ⟨b, 3, none⟩ pv).setCell ⟨b, 4, none⟩ kv).setCell ⟨b, 5, none⟩ wv) ((b, stO r inn tg pv kv wv k0) :: R) := h5.set 5 wv
  exact h6.set 6 (.int .i64 k)
theorem Ext.set7 {w w0 : World} (h : Ext w0 w) (b : Nat) (r : Int) (inn tg : Bool) (pv kv wv : Value) (k : Int) : Ext w0 (Go.Proofs.Ytjkfigkgeoacfaa.set7 w b r inn tg pv kv wv k) :=
  ((((((h.setCell _ _).setCell _ _).setCell _ _).setCell _ _).setCell _ _).setCell _ _).setCell _ _

/-- How seek.Leaf ends: the last two nodes of the path, if all its touches but one were told; else it waits. -/
def LeafEnd (up at_ : Int × ANode × Nat) (ts0 : List Int) (m tb : Nat) (wk : Value) (Z : HL) (w : World) (ed : Ending) (w' : World) : Prop := ∃ Al' cl' Ll' N,
  (if ts0.length ≤ m + 1 then ∃ p1 k1 v1 p2 k2 v2, ed = .returned (.tuple #[.agg (stepCells up.1 up.2.1 up.2.2 p1 k1 v1).toArray, .agg (stepCells at_.1 at_.2.1 at_.2.2 p2 k2 v2).toArray]) ∧ NodeRep N up.2.1 p1 k1 v1 ∧ NodeRep N at_.2.1 p2 k2 v2 ∧ Row 2 1 (.slice Al' ts0.length cl') ts0.length (ints ts0) Ll' ∧
      Has w' ((tb, thO wk (.slice Al' ts0.length cl') ts0.length (decide (m < ts0.length)) true false nil0) :: (Ll' ++ (N ++ Z)))
    else ed = .panicked waitP ∧ Row 2 1 (.slice Al' (m + 1) cl') (m + 1) (ints (ts0.take (m + 1))) Ll' ∧ Has w' ((tb, thO wk (.slice Al' (m + 1) cl') (m + 1 : Nat) true true false nil0) :: (Ll' ++ (N ++ Z)))) ∧ Ext w w'

theorem step_knownK {R : HL} {g off : Nat} {ss : List (Int × ANode × Nat)} {css : List (List Value)} (hs : StepsRep R ss css)
    (hc : ∀ (w : World) (L : HL), Knows w L → (∀ p, p ∈ R → p ∈ L) → ∀ j u, css.flatten[j]? = some u → w.cell? ⟨g, off + j, none⟩ = some u) {i : Nat} {st : Int × ANode × Nat} (hi : ss[i]? = some st) :
    ∃ (A1 : Option Addr) (c1 : Nat) (A2 : Option Addr) (c2 : Nat) (A3 : Option Addr) (c3 : Nat), NodeRep R st.2.1 (.slice A1 st.2.1.pairs.length c1) (.slice A2 st.2.1.keys.length c2) (.slice A3 st.2.1.ways.length c3) ∧
      ∀ (L : HL), (∀ p, p ∈ R → p ∈ L) → (∀ w, Knows w L → w.cell? ⟨g, off + i * 7, none⟩ = some (.int .i64 st.1)) ∧ (∀ w, Knows w L → w.cell? ⟨g, off + i * 7 + 1, none⟩ = some (.bool st.2.1.inner)) ∧ (∀ w, Knows w L → w.cell? ⟨g, off + i * 7 + 2, none⟩ = some (.bool st.2.1.tagged)) ∧ (∀ w, Knows w L → w.cell? ⟨g, off + i * 7 + 3, none⟩ = some (.slice A1 st.2.1.pairs.length c1)) ∧
        (∀ w, Knows w L → w.cell? ⟨g, off + i * 7 + 4, none⟩ = some (.slice A2 st.2.1.keys.length c2)) ∧ (∀ w, Knows w L → w.cell? ⟨g, off + i * 7 + 5, none⟩ = some (.slice A3 st.2.1.ways.length c3)) ∧ (∀ w, Knows w L → w.cell? ⟨g, off + i * 7 + 6, none⟩ = some (.int .i64 st.2.2)) := by
  have hil := (List.getElem?_eq_some_iff.1 hi).1
  have hi' : i < css.length := by rw [hs.1]; exact hil
  obtain ⟨pv, kv, wv, e, hn⟩ := hs.2 i css[i] st (List.getElem?_eq_getElem hi') hi
  have hat := flat_at7 hs.seven (List.getElem?_eq_getElem hi')
  obtain ⟨A1, c1, A2, c2, A3, c3, rfl, rfl, rfl⟩ := nodeRep_slices hn
  rw [e] at hat
  refine ⟨A1, c1, A2, c2, A3, c3, hn, fun L hL => ⟨fun w hw => ?_, fun w hw => ?_, fun w hw => ?_, fun w hw => ?_, fun w hw => ?_, fun w hw => ?_, fun w hw => ?_⟩⟩
  · exact hc w L hw hL (i * 7) _ (hat 0 (by omega))
  · rw [Nat.add_assoc]; exact hc w L hw hL _ _ (hat 1 (by omega))
  · rw [Nat.add_assoc]; exact hc w L hw hL _ _ (hat 2 (by omega))
  · rw [Nat.add_assoc]; exact hc w L hw hL _ _ (hat 3 (by omega))
  · rw [Nat.add_assoc]; exact hc w L hw hL _ _ (hat 4 (by omega))
  · rw [Nat.add_assoc]; exact hc w L hw hL _ _ (hat 5 (by omega))
  · rw [Nat.add_assoc]; exact hc w L hw hL _ _ (hat 6 (by omega))

set_option maxRecDepth 100000 in
set_option maxHeartbeats 4000000 in
theorem seekLeaf_any {Ra R2 : HL} {a : Nat} {A : AArena} {L : HL} (hA : ArenaRep Ra a A L) (hO : A.Ok) (hsub : ∀ q, q ∈ Ra → q ∈ R2) {p t e : Nat} {x y er : Int} (hp : (p, wldO a t e x y er) ∈ R2)
    {key : Int} {ss0 : List (Int × ANode × Nat)} {ts0 : List Int} (hP : PathA A key er ss0 ts0) (hlen : ts0.length ≤ 100000) {d : Nat} (hd2 : ss0.length = d + 2) {up at_ : Int × ANode × Nat} (hup : ss0[d]? = some up) (hat : ss0[d + 1]? = some at_) {m : Nat} (hm : m ≤ ts0.length) {Al : Option Addr} {cl : Nat} {Ll : HL} (hl : Row 2 1 (.slice Al m cl) m (ints (ts0.take m)) Ll)
    {tb : Nat} {me : Int} {wk : Value} {w : World} (hw : Has w ((tb, thO wk (.slice Al m cl) 0 false true false nil0) :: (Ll ++ (L ++ R2)))) :
    Calls Try.prog 28 #[.agg #[.pointer (some ⟨tb, 0, none⟩), .pointer (some ⟨p, 0, none⟩), .int .i64 me], .int .i64 key] w (LeafEnd up at_ ts0 m tb wk (L ++ R2) w) := by
  have hslen := hP.len
  have hW := ((hw.alloc (taskO tb p me)).alloc (stO 0 false false nil0 nil0 nil0 0)).alloc (stO 0 false false nil0 nil0 nil0 0)
  have hE := (((Ext.refl w).alloc (taskO tb p me)).alloc (stO 0 false false nil0 nil0 nil0 0)).alloc (stO 0 false false nil0 nil0 nil0 0)
  rw [World.size_alloc, World.size_alloc] at hW
  have H0 := Lib.hid (And.intro hA (And.intro hO (And.intro hsub (And.intro hp (And.intro hP (And.intro hlen (And.intro hm (And.intro hl (And.intro hW hE)))))))))
  have HS := Lib.hid (And.intro hslen (And.intro hd2 (And.intro hup hat)))
  clear hA hO hsub hp hP hlen hm hl hW hE hw hslen hd2 hup hat
  go_enter Try.func28, Try.ntmps28
  go_upto_region 1 with fail
  obtain ⟨hA, hO, hsub, hp, hP, hlen, hm, hl, hW, hE⟩ := H0.out
  generalize hEq : World.alloc (World.alloc (World.alloc _ _) _) _ = w1
  rw [hEq] at hW hE
  clear hEq H0
  generalize w.heap.size = tv at hW ⊢
  have hW1 := hW.perm (L' := (tb, thO wk (.slice Al m cl) 0 false true false nil0) :: (Ll ++ (L ++ ((tv, taskO tb p me) :: ((tv + 1, stO 0 false false nil0 nil0 nil0 0) :: ((tv + 1 + 1, stO 0 false false nil0 nil0 nil0 0) :: R2)))))) (perm_of_count fun x => by simp only [List.count_append, List.count_cons, List.count_nil, arenaObj, slotObj, nodeObj, worldObj]; omega)
  have hpe := path_any hA hO (R2 := (tv, taskO tb p me) :: ((tv + 1, stO 0 false false nil0 nil0 nil0 0) :: ((tv + 1 + 1, stO 0 false false nil0 nil0 nil0 0) :: R2))) (fun q hq => by simp [hsub q hq]) (p := p) (t := t) (e := e) (x := x) (y := y) (by simp [hp]) hP hlen hm hl (me := me) hW1
  have ct0 : w1.cell? ⟨tv, 0, none⟩ = some (.pointer (some ⟨tb, 0, none⟩)) := (hW1.cell (b := tv) (c := #[.pointer (some ⟨tb, 0, none⟩), .pointer (some ⟨p, 0, none⟩), .int .i64 me]) (t := 64) (fr := (0, 0)) (by simp) 0).trans rfl
  have ct1 : w1.cell? ⟨tv, 1, none⟩ = some (.pointer (some ⟨p, 0, none⟩)) := (hW1.cell (b := tv) (c := #[.pointer (some ⟨tb, 0, none⟩), .pointer (some ⟨p, 0, none⟩), .int .i64 me]) (t := 64) (fr := (0, 0)) (by simp) 1).trans rfl
  have ct2 : w1.cell? ⟨tv, 2, none⟩ = some (.int .i64 me) := (hW1.cell (b := tv) (c := #[.pointer (some ⟨tb, 0, none⟩), .pointer (some ⟨p, 0, none⟩), .int .i64 me]) (t := 64) (fr := (0, 0)) (by simp) 2).trans rfl
  clear hA hO hsub hp hP hm hl hW hW1
  by_cases hc : ts0.length ≤ m + 1
  · unfold PathEnd at hpe
    simp only [if_pos hc] at hpe
    have Hpe := Lib.hid (And.intro hpe (And.intro hc hE))
    clear hpe hc hE
    go_upto_region 2 with (go_at_call 44; refine Hpe.out.1.mono ?_; rintro ed w2 ⟨Al', cl', Ll', N, ⟨Ao, co, Lo, css, rfl, hro, hst, hrl, hW2⟩, hE2⟩)
    have hdl : d + 2 ≤ 100001 := by obtain ⟨h1, h2, _⟩ := HS.out; omega
    clear ct0 ct1 ct2 hlen
    obtain ⟨hslen, hd2, hup, hat⟩ := HS.out
    rw [hd2] at hro ⊢
    have hst' : StepsRep (Lo ++ N) ss0 css := hst.mono (fun q hq => by simp [hq])
    obtain ⟨g, off, co', her, hcap, _, hcc⟩ := (hro.rd N).known (by omega)
    cases her
    have Hgm := Lib.hid (row_mem (hro.rd N) (by omega))
    obtain ⟨A1, c1, A2, c2, A3, c3, hn1, hk1⟩ := step_knownK hst' hcc hup
    obtain ⟨B1, e1, B2, e2, B3, e3, hn2, hk2⟩ := step_knownK hst' hcc hat
    obtain ⟨a0, a1, a2, a3, a4, a5, a6⟩ := hk1 (Lo ++ N) (fun q hq => hq)
    obtain ⟨b0, b1, b2, b3, b4, b5, b6⟩ := hk2 (Lo ++ N) (fun q hq => hq)
    have HX := Lib.hid (And.intro hslen (And.intro hn1 (And.intro hn2 (And.intro hrl (Hpe.out.2.2.trans hE2)))))
    clear hslen hd2 hup hat hst hst' hcc hk1 hk2 hn1 hn2 hrl HS hro
    have ld : decide ((d : Int) + 2 < 2) = false := decide_eq_false (by omega)
    go_upto_region 4 with fail
    have hWs := hW2.perm (L' := (tv + 1, stO 0 false false nil0 nil0 nil0 0) :: ((tv + 1 + 1, stO 0 false false nil0 nil0 nil0 0) :: ((tb, thO wk (.slice Al' ts0.length cl') ts0.length (decide (m < ts0.length)) true false nil0) :: (Ll' ++ (Lo ++ (N ++ (L ++ ((tv, taskO tb p me) :: R2)))))))) (perm_of_count fun x => by simp only [List.count_append, List.count_cons, List.count_nil, arenaObj, slotObj, nodeObj, worldObj]; omega)
    obtain ⟨⟨z0, z1, z2, z3, z4, z5, z6⟩, zf⟩ := hWs.st (b := tv + 1) (r := 0) (k := 0) (inn := false) (tg := false) (pv := nil0) (kv := nil0) (wv := nil0) (List.mem_cons_self ..)
    obtain ⟨⟨y0, y1, y2, y3, y4, y5, y6⟩, yf⟩ := hWs.st (b := tv + 1 + 1) (r := 0) (k := 0) (inn := false) (tg := false) (pv := nil0) (kv := nil0) (wv := nil0) (List.mem_cons_of_mem _ (List.mem_cons_self ..))
    have hKw0 := hWs.knows (L0 := Lo ++ N) (sub_of_count fun x => by simp only [List.count_append, List.count_cons, List.count_nil, arenaObj, slotObj, nodeObj, worldObj] <;> omega)
    obtain ⟨og, hgm⟩ := Hgm.out
    have hg1 : g ≠ tv + 1 := (hWs.perm (L' := (tv + 1, stO 0 false false nil0 nil0 nil0 0) :: ((Lo ++ N) ++ ((tv + 1 + 1, stO 0 false false nil0 nil0 nil0 0) :: ((tb, thO wk (.slice Al' ts0.length cl') ts0.length (decide (m < ts0.length)) true false nil0) :: (Ll' ++ (L ++ ((tv, taskO tb p me) :: R2))))))) (perm_of_count fun x => by simp only [List.count_append, List.count_cons, List.count_nil, arenaObj, slotObj, nodeObj, worldObj]; omega)).ne (List.mem_append_left _ hgm)
    have hg2 : g ≠ tv + 1 + 1 := (hWs.perm (L' := (tv + 1 + 1, stO 0 false false nil0 nil0 nil0 0) :: ((Lo ++ N) ++ ((tv + 1, stO 0 false false nil0 nil0 nil0 0) :: ((tb, thO wk (.slice Al' ts0.length cl') ts0.length (decide (m < ts0.length)) true false nil0) :: (Ll' ++ (L ++ ((tv, taskO tb p me) :: R2))))))) (perm_of_count fun x => by simp only [List.count_append, List.count_cons, List.count_nil, arenaObj, slotObj, nodeObj, worldObj]; omega)).ne (List.mem_append_left _ hgm)
    clear hgm
    have hWF := ((hWs.set7 up.1 up.2.1.inner up.2.1.tagged (.slice A1 up.2.1.pairs.length c1) (.slice A2 up.2.1.keys.length c2) (.slice A3 up.2.1.ways.length c3) up.2.2).perm (L' := (tv + 1 + 1, stO 0 false false nil0 nil0 nil0 0) :: ((tv + 1, stO up.1 up.2.1.inner up.2.1.tagged (.slice A1 up.2.1.pairs.length c1) (.slice A2 up.2.1.keys.length c2) (.slice A3 up.2.1.ways.length c3) up.2.2) :: ((tb, thO wk (.slice Al' ts0.length cl') ts0.length (decide (m < ts0.length)) true false nil0) :: (Ll' ++ (Lo ++ (N ++ (L ++ ((tv, taskO tb p me) :: R2)))))))) (perm_of_count fun x => by simp only [List.count_append, List.count_cons, List.count_nil, arenaObj, slotObj, nodeObj, worldObj]; omega)).set7 at_.1 at_.2.1.inner at_.2.1.tagged (.slice B1 at_.2.1.pairs.length e1) (.slice B2 at_.2.1.keys.length e2) (.slice B3 at_.2.1.ways.length e3) at_.2.2
    have d1 : (d : Int) < (d : Int) + 2 := by omega
    have d2 : (d : Int) + 1 < (d : Int) + 2 := by omega
    have d3 : 0 ≤ (d : Int) + 1 := by omega
    have d4 : ((d : Int) + 1).toNat = d + 1 := by omega
    have d5 : d < d + 2 := by omega
    have d6 : d + 1 < d + 2 := by omega
    have hEF := (HX.out.2.2.2.2.set7 (tv + 1) up.1 up.2.1.inner up.2.1.tagged (.slice A1 up.2.1.pairs.length c1) (.slice A2 up.2.1.keys.length c2) (.slice A3 up.2.1.ways.length c3) up.2.2).set7 (tv + 1 + 1) at_.1 at_.2.1.inner at_.2.1.tagged (.slice B1 at_.2.1.pairs.length e1) (.slice B2 at_.2.1.keys.length e2) (.slice B3 at_.2.1.ways.length e3) at_.2.2
    unfold Go.Proofs.Ytjkfigkgeoacfaa.set7 at hWF hEF
    have HW := Lib.hid (And.intro hWF hEF)
    clear hWF hEF hWs hW2
    have w0 : wrap64 (d : Int) = d := wrap64_nat' rfl (by omega)
    have w1 : wrap64 ((d : Int) + 1) = (d : Int) + 1 := by
      have h : (d : Int) + 1 = ((d + 1 : Nat) : Int) := by omega
      rw [h]
      exact wrap64_nat' rfl (by omega)
    have e1' : (d : Int) + 2 - 2 = d := by omega
    have e2' : (d : Int) + 2 - 1 = (d : Int) + 1 := by omega
    have a0 := a0 w2 (hKw0)
    have a1 := a1 w2 (hKw0)
    have a2 := a2 w2 (hKw0)
    have a3 := a3 w2 (hKw0)
    have a4 := a4 w2 (hKw0)
    have a5 := a5 w2 (hKw0)
    have a6 := a6 w2 (hKw0)
    have b0 := b0 w2 (hKw0)
    have b1 := b1 w2 (hKw0)
    have b2 := b2 w2 (hKw0)
    have b3 := b3 w2 (hKw0)
    have b4 := b4 w2 (hKw0)
    have b5 := b5 w2 (hKw0)
    have b6 := b6 w2 (hKw0)
    clear hKw0
    go_region
    obtain ⟨gW, gE⟩ := HW.out
    generalize World.setCell (World.setCell _ _ _) _ _ = w5 at gW gE ⊢
    obtain ⟨⟨p0, p1, p2, p3, p4, p5, p6⟩, _⟩ := gW.drew.st (b := tv + 1 + 1) (List.mem_cons_self ..)
    obtain ⟨⟨s0, s1, s2, s3, s4, s5, s6⟩, _⟩ := gW.drew.st (b := tv + 1) (List.mem_cons_of_mem _ (List.mem_cons_self ..))
    clear HW a0 a1 a2 a3 a4 a5 a6 b0 b1 b2 b3 b4 b5 b6 z0 z1 z2 z3 z4 z5 z6 zf y0 y1 y2 y3 y4 y5 y6 yf w0 w1 e1' e2'
    go_wp2_with fail
    refine bodyPost_ret (v := .tuple #[.agg #[.int .i64 up.1, .bool up.2.1.inner, .bool up.2.1.tagged, .slice A1 up.2.1.pairs.length c1, .slice A2 up.2.1.keys.length c2, .slice A3 up.2.1.ways.length c3, .int .i64 up.2.2], .agg #[.int .i64 at_.1, .bool at_.2.1.inner, .bool at_.2.1.tagged, .slice B1 at_.2.1.pairs.length e1, .slice B2 at_.2.1.keys.length e2, .slice B3 at_.2.1.ways.length e3, .int .i64 at_.2.2]]) (by simp [results, Try.results28, go_sem, p0, p1, p2, p3, p4, p5, p6, s0, s1, s2, s3, s4, s5, s6]) rfl ?_
    refine ⟨Al', cl', Ll', (Lo ++ N) ++ [(tv + 1 + 1, stO at_.1 at_.2.1.inner at_.2.1.tagged (.slice B1 at_.2.1.pairs.length e1) (.slice B2 at_.2.1.keys.length e2) (.slice B3 at_.2.1.ways.length e3) at_.2.2), (tv + 1, stO up.1 up.2.1.inner up.2.1.tagged (.slice A1 up.2.1.pairs.length c1) (.slice A2 up.2.1.keys.length c2) (.slice A3 up.2.1.ways.length c3) up.2.2), (tv, taskO tb p me)], ?_, gE.drew⟩
    rw [if_pos Hpe.out.2.1]
    exact ⟨_, _, _, _, _, _, rfl, HX.out.2.1.mono (fun q hq => List.mem_append_left _ hq), HX.out.2.2.1.mono (fun q hq => List.mem_append_left _ hq), HX.out.2.2.2.1, gW.drew.perm (perm_of_count fun x => by simp only [List.count_append, List.count_cons, List.count_nil, arenaObj, slotObj, nodeObj, worldObj]; omega)⟩
  · unfold PathEnd at hpe
    simp only [if_neg hc] at hpe
    have Hpe := Lib.hid (And.intro hpe (And.intro hc hE))
    clear hpe hc hE
    go_wp2_with (go_at_call 44; refine Hpe.out.1.mono ?_; rintro ed w2 ⟨Al', cl', Ll', N, ⟨rfl, hrl, hW2⟩, hE2⟩)
    refine ⟨rfl, Al', cl', Ll', N ++ [(tv + 1 + 1, stO 0 false false nil0 nil0 nil0 0), (tv + 1, stO 0 false false nil0 nil0 nil0 0), (tv, taskO tb p me)], ?_, Hpe.out.2.2.trans hE2⟩
    rw [if_neg Hpe.out.2.1]
    exact ⟨rfl, hrl, hW2.perm (perm_of_count fun x => by simp only [List.count_append, List.count_cons, List.count_nil, arenaObj, slotObj, nodeObj, worldObj]; omega)⟩
end Go.Proofs.Ytjkfigkgeoacfaa
