import Derived.Test.YtjkfigkgeoacfaaU6
import Derived.Test.YtjkfigkgeoacfaaV0
set_option linter.unusedVariables false
set_option linter.unusedSimpArgs false
namespace Go.Proofs.Ytjkfigkgeoacfaa
open Go.RowKit Go.Proofs.YtjkfigkgeoacfaaW.PrintLast

set_option maxRecDepth 100000 in
set_option maxHeartbeats 4000000 in
theorem finds1_any {Ra R2 : HL} {a : Nat} {A : AArena} {L : HL} (hA : ArenaRep Ra a A L) (hO : A.Ok) (hsub : ∀ q, q ∈ Ra → q ∈ R2) {p t e : Nat} {x y er : Int} (hp : (p, wldO a t e x y er) ∈ R2)
    {k0 v0 : Int} {ss0 : List (Int × ANode × Nat)} {ts0 : List Int} (hP : PathA A k0 er ss0 ts0) (hlen : ts0.length ≤ 100000) {d : Nat} (hd2 : ss0.length = d + 2) {up at_ : Int × ANode × Nat} (hup : ss0[d]? = some up) (hat : ss0[d + 1]? = some at_) (hri : (at_.2.1.pairs.map Prod.fst).Pairwise (· < ·)) (hpb : at_.2.1.pairs.length ≤ 100000) {m : Nat} (hm : m ≤ ts0.length) {Al : Option Addr} {cl : Nat} {Ll : HL} (hl : Row 2 1 (.slice Al m cl) m (ints (ts0.take m)) Ll)
    {tb xb : Nat} (hxb : (xb, pairObj k0 v0) ∈ R2) {me : Int} {wk : Value} {w : World} (hw : Has w ((tb, thO wk (.slice Al m cl) 0 false true false nil0) :: (Ll ++ (L ++ R2)))) :
    Calls Try.prog 27 #[.agg #[.pointer (some ⟨tb, 0, none⟩), .pointer (some ⟨p, 0, none⟩), .int .i64 me], .pointer (some ⟨xb, 0, none⟩)] w (WorkEnd ts0 [(getL at_.2.1.pairs k0).getD 0] m tb wk (L ++ R2) w) := by
  have hW : Has (w.alloc (taskO tb p me)) ((tb, thO wk (.slice Al m cl) 0 false true false nil0) :: (Ll ++ (L ++ ((w.heap.size, taskO tb p me) :: R2)))) := (hw.alloc (taskO tb p me)).perm (perm_of_count fun x => by simp only [List.count_append, List.count_cons, List.count_nil, arenaObj, slotObj, nodeObj, worldObj, pairObj]; omega)
  have hE := (Ext.refl w).alloc (taskO tb p me)
  generalize hEq : w.alloc (taskO tb p me) = w1 at hW hE
  have hpe := seekLeaf_any hA hO (R2 := (w.heap.size, taskO tb p me) :: R2) (fun q hq => List.mem_cons_of_mem _ (hsub q hq)) (p := p) (t := t) (e := e) (x := x) (y := y) (List.mem_cons_of_mem _ hp) hP hlen hd2 hup hat hm hl (me := me) hW
  have ck : w1.cell? ⟨xb, 0, none⟩ = some (.int .i64 k0) := (hW.cell (b := xb) (c := #[.int .i64 k0, .int .i64 v0]) (t := 61) (fr := (0, 0)) (by simp [hxb]) 0).trans rfl
  have ct0 : w1.cell? ⟨w.heap.size, 0, none⟩ = some (.pointer (some ⟨tb, 0, none⟩)) := (hW.cell (b := w.heap.size) (c := #[.pointer (some ⟨tb, 0, none⟩), .pointer (some ⟨p, 0, none⟩), .int .i64 me]) (t := 64) (fr := (0, 0)) (by simp) 0).trans rfl
  have ct1 : w1.cell? ⟨w.heap.size, 1, none⟩ = some (.pointer (some ⟨p, 0, none⟩)) := (hW.cell (b := w.heap.size) (c := #[.pointer (some ⟨tb, 0, none⟩), .pointer (some ⟨p, 0, none⟩), .int .i64 me]) (t := 64) (fr := (0, 0)) (by simp) 1).trans rfl
  have ct2 : w1.cell? ⟨w.heap.size, 2, none⟩ = some (.int .i64 me) := (hW.cell (b := w.heap.size) (c := #[.pointer (some ⟨tb, 0, none⟩), .pointer (some ⟨p, 0, none⟩), .int .i64 me]) (t := 64) (fr := (0, 0)) (by simp) 2).trans rfl
  have HP := Lib.hid (And.intro hE (And.intro hxb (And.intro hEq (And.intro hri hpb))))
  by_cases hc : ts0.length ≤ m + 1
  · unfold LeafEnd at hpe
    simp only [if_pos hc] at hpe
    have Hpe := Lib.hid (And.intro hpe hc)
    clear hpe hc hA hO hsub hp hP hlen hm hl hxb hw hW hE hEq hd2 hup hat hri hpb
    go_enter Try.func27, Try.ntmps27
    go_upto_region 1 with fail
    rw [HP.out.2.2.1]
    generalize w.heap.size = tv at *
    go_upto_region 2 with (go_at_call 28; refine Hpe.out.1.mono ?_; rintro ed w2 ⟨Al', cl', Ll', N, ⟨u1, u2, u3, u4, u5, u6, rfl, hn1, hn2, hrl, hW2⟩, hE2⟩; obtain ⟨A1, c1, A2, c2, A3, c3, rfl, rfl, rfl⟩ := nodeRep_slices hn1; obtain ⟨B1, e1, B2, e2, B3, e3, rfl, rfl, rfl⟩ := nodeRep_slices hn2)
    have hW3 := (hW2.alloc (stO up.1 up.2.1.inner up.2.1.tagged (.slice A1 up.2.1.pairs.length c1) (.slice A2 up.2.1.keys.length c2) (.slice A3 up.2.1.ways.length c3) up.2.2)).alloc (stO at_.1 at_.2.1.inner at_.2.1.tagged (.slice B1 at_.2.1.pairs.length e1) (.slice B2 at_.2.1.keys.length e2) (.slice B3 at_.2.1.ways.length e3) at_.2.2)
    rw [World.size_alloc] at hW3
    have hE3 := ((HP.out.1.trans hE2).alloc (stO up.1 up.2.1.inner up.2.1.tagged (.slice A1 up.2.1.pairs.length c1) (.slice A2 up.2.1.keys.length c2) (.slice A3 up.2.1.ways.length c3) up.2.2)).alloc (stO at_.1 at_.2.1.inner at_.2.1.tagged (.slice B1 at_.2.1.pairs.length e1) (.slice B2 at_.2.1.keys.length e2) (.slice B3 at_.2.1.ways.length e3) at_.2.2)
    clear hW2 hE2 ck ct0 ct1 ct2
    generalize World.alloc (World.alloc w2 _) _ = w3 at hW3 hE3 ⊢
    generalize w2.heap.size = sv at hW3 ⊢
    have hxb := HP.out.2.1
    have kx : w3.cell? ⟨xb, 0, none⟩ = some (.int .i64 k0) := (hW3.cell (b := xb) (c := #[.int .i64 k0, .int .i64 v0]) (t := 61) (fr := (0, 0)) (by simp [hxb]) 0).trans rfl
    obtain ⟨⟨_, _, _, p3, _, _, _⟩, _⟩ := hW3.st (b := sv + 1) (r := at_.1) (k := at_.2.2) (inn := at_.2.1.inner) (tg := at_.2.1.tagged) (pv := .slice B1 at_.2.1.pairs.length e1) (kv := .slice B2 at_.2.1.keys.length e2) (wv := .slice B3 at_.2.1.ways.length e3) (List.mem_cons_self ..)
    have hget := get_any (hn2.p.mono (fun q hq => by simp [hq])) HP.out.2.2.2.1 HP.out.2.2.2.2 k0 hW3
    obtain ⟨gv, hgv⟩ : ∃ gv, (getL at_.2.1.pairs k0).getD 0 = gv := ⟨_, rfl⟩
    rw [hgv] at hget
    have HG := Lib.hid (And.intro hget (And.intro hE3 hrl))
    have Hgv := Lib.hid hgv
    clear hget hE3 hrl hW3 hn1 hn2 hxb hgv
    go_upto_region 3 with (go_at_call 29; refine HG.out.1.mono ?_; rintro ed w4 ⟨rfl, ⟨N4, hW4⟩, hE4⟩)
    clear kx p3
    have hW5 := hW4.alloc (Obj.cells #[.int .i64 gv] 2 (0, 0))
    have hE5 := (HG.out.2.1.trans hE4).alloc (Obj.cells #[.int .i64 gv] 2 (0, 0))
    have HF := Lib.hid (And.intro hW5 hE5)
    clear hW4 hE4 hW5 hE5
    go_wp2
    go_ret
    rw [Hgv.out]
    refine ⟨Al', cl', Ll', N4 ++ ((sv + 1, stO at_.1 at_.2.1.inner at_.2.1.tagged (.slice B1 at_.2.1.pairs.length e1) (.slice B2 at_.2.1.keys.length e2) (.slice B3 at_.2.1.ways.length e3) at_.2.2) :: (sv, stO up.1 up.2.1.inner up.2.1.tagged (.slice A1 up.2.1.pairs.length c1) (.slice A2 up.2.1.keys.length c2) (.slice A3 up.2.1.ways.length c3) up.2.2) :: (N ++ [(tv, taskO tb p me)])), ?_, HF.out.2⟩
    rw [if_pos Hpe.out.2]
    refine ⟨some ⟨w4.heap.size, 0, none⟩, 1, [(w4.heap.size, Obj.cells #[.int .i64 gv] 2 (0, 0))], rfl, ⟨rfl, .inr ⟨w4.heap.size, 0, 1, _, rfl, rfl, Nat.le_refl _, ⟨by simp [maxLen]⟩, rfl, rfl⟩⟩, HG.out.2.2, HF.out.1.perm (perm_of_count fun x => by simp only [List.count_append, List.count_cons, List.count_nil, arenaObj, slotObj, nodeObj, worldObj, pairObj]; omega)⟩
  · unfold LeafEnd at hpe
    simp only [if_neg hc] at hpe
    have Hpe := Lib.hid (And.intro hpe hc)
    clear hpe hc hA hO hsub hp hP hlen hm hl hxb hw hW hE hEq hd2 hup hat hri hpb
    go_enter Try.func27, Try.ntmps27
    go_upto_region 1 with fail
    rw [HP.out.2.2.1]
    generalize w.heap.size = tv at *
    go_wp2_with (go_at_call 28; refine Hpe.out.1.mono ?_; rintro ed w2 ⟨Al', cl', Ll', N, ⟨rfl, hrl, hW2⟩, hE2⟩)
    refine ⟨rfl, Al', cl', Ll', N ++ [(tv, taskO tb p me)], ?_, HP.out.1.trans hE2⟩
    rw [if_neg Hpe.out.2]
    exact ⟨rfl, hrl, hW2.perm (perm_of_count fun x => by simp only [List.count_append, List.count_cons, List.count_nil, arenaObj, slotObj, nodeObj, worldObj, pairObj]; omega)⟩

set_option maxRecDepth 100000 in
set_option maxHeartbeats 4000000 in
theorem leaf1_any {Ra R2 : HL} {a : Nat} {A : AArena} {L : HL} (hA : ArenaRep Ra a A L) (hO : A.Ok) (hsub : ∀ q, q ∈ Ra → q ∈ R2) {p t e : Nat} {x y er : Int} (hp : (p, wldO a t e x y er) ∈ R2)
    {k0 : Int} {ss0 : List (Int × ANode × Nat)} {ts0 : List Int} (hP : PathA A k0 er ss0 ts0) (hlen : ts0.length ≤ 100000) {d : Nat} (hd2 : ss0.length = d + 2) {up at_ : Int × ANode × Nat} (hup : ss0[d]? = some up) (hat : ss0[d + 1]? = some at_) (hri : (at_.2.1.pairs.map Prod.fst).Pairwise (· < ·)) (hpb : at_.2.1.pairs.length ≤ 100000) {m : Nat} (hm : m ≤ ts0.length) {Al : Option Addr} {cl : Nat} {Ll : HL} (hl : Row 2 1 (.slice Al m cl) m (ints (ts0.take m)) Ll)
    {tb xb : Nat} (hxb : (xb, Obj.cells #[.int .i64 k0] 2 (0, 0)) ∈ R2) {me : Int} {wk : Value} {w : World} (hw : Has w ((tb, thO wk (.slice Al m cl) 0 false true false nil0) :: (Ll ++ (L ++ R2)))) :
    Calls Try.prog 30 #[.agg #[.pointer (some ⟨tb, 0, none⟩), .pointer (some ⟨p, 0, none⟩), .int .i64 me], .pointer (some ⟨xb, 0, none⟩)] w (WorkEnd ts0 [up.1, (up.2.2 : Int), at_.1, (getL at_.2.1.pairs k0).getD (-1)] m tb wk (L ++ R2) w) := by
  have hW : Has (w.alloc (taskO tb p me)) ((tb, thO wk (.slice Al m cl) 0 false true false nil0) :: (Ll ++ (L ++ ((w.heap.size, taskO tb p me) :: R2)))) := (hw.alloc (taskO tb p me)).perm (perm_of_count fun x => by simp only [List.count_append, List.count_cons, List.count_nil, arenaObj, slotObj, nodeObj, worldObj, pairObj]; omega)
  have hE := (Ext.refl w).alloc (taskO tb p me)
  generalize hEq : w.alloc (taskO tb p me) = w1 at hW hE
  have hpe := seekLeaf_any hA hO (R2 := (w.heap.size, taskO tb p me) :: R2) (fun q hq => List.mem_cons_of_mem _ (hsub q hq)) (p := p) (t := t) (e := e) (x := x) (y := y) (List.mem_cons_of_mem _ hp) hP hlen hd2 hup hat hm hl (me := me) hW
  have ck : w1.cell? ⟨xb, 0, none⟩ = some (.int .i64 k0) := (hW.cell (b := xb) (c := #[.int .i64 k0]) (t := 2) (fr := (0, 0)) (by simp [hxb]) 0).trans rfl
  have ct0 : w1.cell? ⟨w.heap.size, 0, none⟩ = some (.pointer (some ⟨tb, 0, none⟩)) := (hW.cell (b := w.heap.size) (c := #[.pointer (some ⟨tb, 0, none⟩), .pointer (some ⟨p, 0, none⟩), .int .i64 me]) (t := 64) (fr := (0, 0)) (by simp) 0).trans rfl
  have ct1 : w1.cell? ⟨w.heap.size, 1, none⟩ = some (.pointer (some ⟨p, 0, none⟩)) := (hW.cell (b := w.heap.size) (c := #[.pointer (some ⟨tb, 0, none⟩), .pointer (some ⟨p, 0, none⟩), .int .i64 me]) (t := 64) (fr := (0, 0)) (by simp) 1).trans rfl
  have ct2 : w1.cell? ⟨w.heap.size, 2, none⟩ = some (.int .i64 me) := (hW.cell (b := w.heap.size) (c := #[.pointer (some ⟨tb, 0, none⟩), .pointer (some ⟨p, 0, none⟩), .int .i64 me]) (t := 64) (fr := (0, 0)) (by simp) 2).trans rfl
  have HP := Lib.hid (And.intro hE (And.intro hxb (And.intro hEq (And.intro hri hpb))))
  by_cases hc : ts0.length ≤ m + 1
  · unfold LeafEnd at hpe
    simp only [if_pos hc] at hpe
    have Hpe := Lib.hid (And.intro hpe hc)
    clear hpe hc hA hO hsub hp hP hlen hm hl hxb hw hW hE hEq hd2 hup hat hri hpb
    go_enter Try.func30, Try.ntmps30
    go_upto_region 1 with fail
    rw [HP.out.2.2.1]
    generalize w.heap.size = tv at *
    go_upto_region 2 with (go_at_call 28; refine Hpe.out.1.mono ?_; rintro ed w2 ⟨Al', cl', Ll', N, ⟨u1, u2, u3, u4, u5, u6, rfl, hn1, hn2, hrl, hW2⟩, hE2⟩; obtain ⟨A1, c1, A2, c2, A3, c3, rfl, rfl, rfl⟩ := nodeRep_slices hn1; obtain ⟨B1, e1, B2, e2, B3, e3, rfl, rfl, rfl⟩ := nodeRep_slices hn2)
    have hW3 := (hW2.alloc (stO up.1 up.2.1.inner up.2.1.tagged (.slice A1 up.2.1.pairs.length c1) (.slice A2 up.2.1.keys.length c2) (.slice A3 up.2.1.ways.length c3) up.2.2)).alloc (stO at_.1 at_.2.1.inner at_.2.1.tagged (.slice B1 at_.2.1.pairs.length e1) (.slice B2 at_.2.1.keys.length e2) (.slice B3 at_.2.1.ways.length e3) at_.2.2)
    rw [World.size_alloc] at hW3
    have hE3 := ((HP.out.1.trans hE2).alloc (stO up.1 up.2.1.inner up.2.1.tagged (.slice A1 up.2.1.pairs.length c1) (.slice A2 up.2.1.keys.length c2) (.slice A3 up.2.1.ways.length c3) up.2.2)).alloc (stO at_.1 at_.2.1.inner at_.2.1.tagged (.slice B1 at_.2.1.pairs.length e1) (.slice B2 at_.2.1.keys.length e2) (.slice B3 at_.2.1.ways.length e3) at_.2.2)
    clear hW2 hE2 ck ct0 ct1 ct2
    generalize World.alloc (World.alloc w2 _) _ = w3 at hW3 hE3 ⊢
    generalize w2.heap.size = sv at hW3 ⊢
    have hxb := HP.out.2.1
    have kx : w3.cell? ⟨xb, 0, none⟩ = some (.int .i64 k0) := (hW3.cell (b := xb) (c := #[.int .i64 k0]) (t := 2) (fr := (0, 0)) (by simp [hxb]) 0).trans rfl
    obtain ⟨⟨r0, _, _, _, _, _, r6⟩, _⟩ := hW3.st (b := sv) (r := up.1) (k := up.2.2) (inn := up.2.1.inner) (tg := up.2.1.tagged) (pv := .slice A1 up.2.1.pairs.length c1) (kv := .slice A2 up.2.1.keys.length c2) (wv := .slice A3 up.2.1.ways.length c3) (List.mem_cons_of_mem _ (List.mem_cons_self ..))
    obtain ⟨⟨_, _, _, p3, _, _, _⟩, _⟩ := hW3.st (b := sv + 1) (r := at_.1) (k := at_.2.2) (inn := at_.2.1.inner) (tg := at_.2.1.tagged) (pv := .slice B1 at_.2.1.pairs.length e1) (kv := .slice B2 at_.2.1.keys.length e2) (wv := .slice B3 at_.2.1.ways.length e3) (List.mem_cons_self ..)
    have hget := get_any (hn2.p.mono (fun q hq => by simp [hq])) HP.out.2.2.2.1 HP.out.2.2.2.2 k0 hW3
    have HG := Lib.hid (And.intro hget (And.intro hE3 hrl))
    clear hget hE3 hrl hW3 hn1 hn2 hxb
    cases hgl : getL at_.2.1.pairs k0 with
    | none =>
      go_upto_region 5 with (go_at_call 29; refine HG.out.1.mono ?_; rw [hgl]; rintro ed w4 ⟨rfl, ⟨N4, hW4⟩, hE4⟩)
      have hr := hW4.st (b := sv) (r := up.1) (k := up.2.2) (inn := up.2.1.inner) (tg := up.2.1.tagged) (pv := .slice A1 up.2.1.pairs.length c1) (kv := .slice A2 up.2.1.keys.length c2) (wv := .slice A3 up.2.1.ways.length c3) (by simp)
      have hs := hW4.st (b := sv + 1) (r := at_.1) (k := at_.2.2) (inn := at_.2.1.inner) (tg := at_.2.1.tagged) (pv := .slice B1 at_.2.1.pairs.length e1) (kv := .slice B2 at_.2.1.keys.length e2) (wv := .slice B3 at_.2.1.ways.length e3) (by simp)
      obtain ⟨⟨r0', _, _, _, _, _, r6'⟩, _⟩ := hr
      obtain ⟨⟨s0', _, _, _, _, _, _⟩, _⟩ := hs
      clear kx p3 r0 r6
      have hW5 := hW4.alloc (Obj.cells #[.int .i64 up.1, .int .i64 up.2.2, .int .i64 at_.1, .int .i64 (-1)] 2 (0, 0))
      have hE5 := (HG.out.2.1.trans hE4).alloc (Obj.cells #[.int .i64 up.1, .int .i64 up.2.2, .int .i64 at_.1, .int .i64 (-1)] 2 (0, 0))
      have HF := Lib.hid (And.intro hW5 (And.intro hE5 hgl))
      clear hW4 hE4 hW5 hE5 hgl
      go_wp2
      go_ret
      rw [HF.out.2.2]
      refine ⟨Al', cl', Ll', N4 ++ ((sv + 1, stO at_.1 at_.2.1.inner at_.2.1.tagged (.slice B1 at_.2.1.pairs.length e1) (.slice B2 at_.2.1.keys.length e2) (.slice B3 at_.2.1.ways.length e3) at_.2.2) :: (sv, stO up.1 up.2.1.inner up.2.1.tagged (.slice A1 up.2.1.pairs.length c1) (.slice A2 up.2.1.keys.length c2) (.slice A3 up.2.1.ways.length c3) up.2.2) :: (N ++ [(tv, taskO tb p me)])), ?_, HF.out.2.1⟩
      rw [if_pos Hpe.out.2]
      exact ⟨some ⟨w4.heap.size, 0, none⟩, 4, [(w4.heap.size, Obj.cells #[.int .i64 up.1, .int .i64 up.2.2, .int .i64 at_.1, .int .i64 (-1)] 2 (0, 0))], rfl, ⟨rfl, .inr ⟨w4.heap.size, 0, 4, _, rfl, rfl, Nat.le_refl _, ⟨by simp [maxLen]⟩, rfl, rfl⟩⟩, HG.out.2.2, HF.out.1.perm (perm_of_count fun x => by simp only [List.count_append, List.count_cons, List.count_nil, arenaObj, slotObj, nodeObj, worldObj, pairObj]; omega)⟩
    | some gv =>
      go_upto_region 5 with (go_at_call 29; refine HG.out.1.mono ?_; rw [hgl]; rintro ed w4 ⟨rfl, ⟨N4, hW4⟩, hE4⟩)
      have hr := hW4.st (b := sv) (r := up.1) (k := up.2.2) (inn := up.2.1.inner) (tg := up.2.1.tagged) (pv := .slice A1 up.2.1.pairs.length c1) (kv := .slice A2 up.2.1.keys.length c2) (wv := .slice A3 up.2.1.ways.length c3) (by simp)
      have hs := hW4.st (b := sv + 1) (r := at_.1) (k := at_.2.2) (inn := at_.2.1.inner) (tg := at_.2.1.tagged) (pv := .slice B1 at_.2.1.pairs.length e1) (kv := .slice B2 at_.2.1.keys.length e2) (wv := .slice B3 at_.2.1.ways.length e3) (by simp)
      obtain ⟨⟨r0', _, _, _, _, _, r6'⟩, _⟩ := hr
      obtain ⟨⟨s0', _, _, _, _, _, _⟩, _⟩ := hs
      clear kx p3 r0 r6
      have hW5 := hW4.alloc (Obj.cells #[.int .i64 up.1, .int .i64 up.2.2, .int .i64 at_.1, .int .i64 (gv)] 2 (0, 0))
      have hE5 := (HG.out.2.1.trans hE4).alloc (Obj.cells #[.int .i64 up.1, .int .i64 up.2.2, .int .i64 at_.1, .int .i64 (gv)] 2 (0, 0))
      have HF := Lib.hid (And.intro hW5 (And.intro hE5 hgl))
      clear hW4 hE4 hW5 hE5 hgl
      go_wp2
      go_ret
      rw [HF.out.2.2]
      refine ⟨Al', cl', Ll', N4 ++ ((sv + 1, stO at_.1 at_.2.1.inner at_.2.1.tagged (.slice B1 at_.2.1.pairs.length e1) (.slice B2 at_.2.1.keys.length e2) (.slice B3 at_.2.1.ways.length e3) at_.2.2) :: (sv, stO up.1 up.2.1.inner up.2.1.tagged (.slice A1 up.2.1.pairs.length c1) (.slice A2 up.2.1.keys.length c2) (.slice A3 up.2.1.ways.length c3) up.2.2) :: (N ++ [(tv, taskO tb p me)])), ?_, HF.out.2.1⟩
      rw [if_pos Hpe.out.2]
      exact ⟨some ⟨w4.heap.size, 0, none⟩, 4, [(w4.heap.size, Obj.cells #[.int .i64 up.1, .int .i64 up.2.2, .int .i64 at_.1, .int .i64 (gv)] 2 (0, 0))], rfl, ⟨rfl, .inr ⟨w4.heap.size, 0, 4, _, rfl, rfl, Nat.le_refl _, ⟨by simp [maxLen]⟩, rfl, rfl⟩⟩, HG.out.2.2, HF.out.1.perm (perm_of_count fun x => by simp only [List.count_append, List.count_cons, List.count_nil, arenaObj, slotObj, nodeObj, worldObj, pairObj]; omega)⟩
  · unfold LeafEnd at hpe
    simp only [if_neg hc] at hpe
    have Hpe := Lib.hid (And.intro hpe hc)
    clear hpe hc hA hO hsub hp hP hlen hm hl hxb hw hW hE hEq hd2 hup hat hri hpb
    go_enter Try.func30, Try.ntmps30
    go_upto_region 1 with fail
    rw [HP.out.2.2.1]
    generalize w.heap.size = tv at *
    go_wp2_with (go_at_call 28; refine Hpe.out.1.mono ?_; rintro ed w2 ⟨Al', cl', Ll', N, ⟨rfl, hrl, hW2⟩, hE2⟩)
    refine ⟨rfl, Al', cl', Ll', N ++ [(tv, taskO tb p me)], ?_, HP.out.1.trans hE2⟩
    rw [if_neg Hpe.out.2]
    exact ⟨rfl, hrl, hW2.perm (perm_of_count fun x => by simp only [List.count_append, List.count_cons, List.count_nil, arenaObj, slotObj, nodeObj, worldObj, pairObj]; omega)⟩
end Go.Proofs.Ytjkfigkgeoacfaa
