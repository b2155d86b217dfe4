import Derived.Test.YtjkfigkgeoacfaaB0
import Derived.Test.YtjkfigkgeoacfaaRows
import Derived.ProofKit
import Derived.OpenShut
import Derived.KernelRfl
set_option linter.unusedVariables false
set_option linter.unusedSimpArgs false
namespace Go.Proofs.Ytjkfigkgeoacfaa
open Go.ChangeShapes Go.WideShapes Go.ChangeAt Go.RowKit

/-! A world's heap as a list of blocks; what the call leaves of it. -/
def heapL (W : World) : HL := List.ofFn (fun i : Fin W.heap.size => (i.val, W.heap[i]))
theorem heapL_has (W : World) : Has W (heapL W) := by
  refine ⟨?_, ?_⟩
  · unfold heapL
    have e : (List.ofFn (fun i : Fin W.heap.size => (i.val, W.heap[i]))).map Prod.fst = List.range W.heap.size := by
      apply List.ext_getElem
      · simp
      · intro i h1 h2
        simp
    rw [e]
    exact List.nodup_range
  · intro b o hm
    obtain ⟨i, hi⟩ := List.mem_ofFn.1 hm
    cases hi
    simp
theorem heapL_mem {W : World} {b : Nat} {o : Obj} (h : W.heap[b]? = some o) : (b, o) ∈ heapL W := by
  obtain ⟨hlt, he⟩ := Array.getElem?_eq_some_iff.1 h
  exact List.mem_ofFn.2 ⟨⟨b, hlt⟩, by simp [he]⟩
theorem below_of {W W' : World} {N : HL} (h : Has W' (N ++ heapL W)) (he : Ext W W') : Below W.heap.size W W' :=
  ⟨he.os, he.tape, he.output, he.size, fun k hk => by
    have h1 : W.heap[k]? = some W.heap[k] := Array.getElem?_eq_getElem hk
    rw [h1]
    exact h.get k _ (List.mem_append_right _ (heapL_mem h1))⟩

theorem slice_rdx {H : Type} {enc : TypeId × Value → H} {P : Program} {w : World} {base : Nat} {held : Bool} {t e : TypeId} {k : IntKind} {fuel : Nat} {c : Value} {x : DataW H × List MemPlace} (ht : P.underlying t = some (.slice e)) (he : P.underlying e = some (.int k)) (hc : P.cellsOf e = 1)
    (h : DataW.trod enc P w base (fun _ => true) held fuel t [c] = some x) : ∃ zs : List Int, RdX (heapL w) 1 c zs.length (zs.map (Value.int k)) ∧ ∀ n ∈ zs, (Lit.int k n).wf = true := by
  rcases open_ints ht he hc h with ⟨hcs, hx⟩ | ⟨a, len, cap, zs, hcs, _, hl, hm, hz, hx, hcell, hwz⟩
  · cases hcs
    exact ⟨[], ⟨0, by simp, none, 0, rfl, Nat.le_refl _, ⟨by simp [maxLen]⟩, fun h => by simp at h⟩, fun n hn => by cases hn⟩
  · cases hcs
    simp only [if_true] at hz
    have hlen : (zs.take len).length = len := by rw [List.length_take]; omega
    refine ⟨zs.take len, ?_, fun n hn => hwz n (List.mem_of_mem_take hn)⟩
    rcases Nat.eq_zero_or_pos len with h0 | h0
    · subst h0
      exact ⟨0, by simp, some a, cap, by simp, by simp, ⟨hm⟩, fun h => by simp at h⟩
    · obtain ⟨b, off, rfl, hcc⟩ := ints_at hcell (by omega)
      have hc0 := hcc 0 (by omega)
      have hblk : ∃ cur T fr, w.heap[b]? = some (Obj.cells cur T fr) := by
        simp only [World.cell?] at hc0
        split at hc0
        · rename_i c' T fr hh; exact ⟨c', T, fr, hh⟩
        · cases hc0
      obtain ⟨cur, T, fr, hh⟩ := hblk
      have hcur : ∀ j, j < zs.length → cur[off + j]? = some (.int k (zs.getD j 0)) := fun j hj => by
        have := hcc j hj
        simpa [World.cell?, hh] using this
      refine ⟨T, by simp, some ⟨b, off, none⟩, cap, by rw [hlen], by rw [hlen]; exact hl, ⟨hm⟩, fun _ => ⟨b, off, cur, fr, rfl, heapL_mem hh, ?_⟩⟩
      rw [hlen, Nat.mul_one]
      refine List.ext_getElem? fun j => ?_
      rw [List.getElem?_take, List.getElem?_drop, List.getElem?_map]
      by_cases hj : j < len
      · rw [if_pos hj, List.getElem?_take, if_pos hj, Array.getElem?_toList, hcur j (by omega)]
        have hjz : j < zs.length := by omega
        simp [hjz]
      · rw [if_neg hj, List.getElem?_take, if_neg hj]; rfl

theorem Try.cells25 : Try.prog.cellsOf 25 = 5 := by kernel_rfl
theorem Try.cellsI64 : Try.prog.cellsOf 2 = 1 := by kernel_rfl
theorem Try.cellsU8 : Try.prog.cellsOf 5 = 1 := by kernel_rfl

set_option maxRecDepth 100000 in
/-- A plan, as it comes in. -/
theorem plan_open {H : Type} {enc : TypeId × Value → H} {W : World} {r : Reach} {b0 : Nat} {v : Value} {d : DataW H} {p : List MemPlace} (hv : Value.okWide Try.prog W r b0 25 v) (h : DataW.Trod enc Try.prog W 0 (fun _ => true) true 25 v d p) :
    ∃ (kv sv ev gv tv : Value) (ks ss es gs ts : List Int), v = .agg #[kv, sv, ev, gv, tv] ∧ RdX (heapL W) 1 kv ks.length (ks.map (Value.int .i64)) ∧ RdX (heapL W) 1 sv ss.length (ss.map (Value.int .u8)) ∧ RdX (heapL W) 1 ev es.length (es.map (Value.int .u8)) ∧ RdX (heapL W) 1 gv gs.length (gs.map (Value.int .u8)) ∧ RdX (heapL W) 1 tv ts.length (ts.map (Value.int .u8)) ∧
      (∀ n ∈ ss, (Lit.int .u8 n).wf = true) ∧ (∀ n ∈ es, (Lit.int .u8 n).wf = true) ∧ (∀ n ∈ gs, (Lit.int .u8 n).wf = true) ∧ ∀ n ∈ ts, (Lit.int .u8 n).wf = true := by
  obtain ⟨cs, rfl, hsz⟩ := okWide_struct Try.underlying25 hv
  obtain ⟨fuel, hf⟩ := h
  obtain ⟨xs, n, _, hx, hl, hlen, hfs⟩ := DataW.trod_struct Try.underlying25 hf
  obtain ⟨c0, c1, c2, c3, c4, rfl⟩ : ∃ c0 c1 c2 c3 c4, cs = #[c0, c1, c2, c3, c4] := by
    rw [Try.cells25] at hsz
    obtain ⟨l⟩ := cs
    match l, hsz with
    | [c0, c1, c2, c3, c4], _ => exact ⟨c0, c1, c2, c3, c4, rfl⟩
  obtain ⟨y0, y1, y2, y3, y4, rfl⟩ : ∃ y0 y1 y2 y3 y4, xs = [y0, y1, y2, y3, y4] := by
    match xs, hlen with
    | [y0, y1, y2, y3, y4], _ => exact ⟨y0, y1, y2, y3, y4, rfl⟩
  have k22 : Try.prog.cellsOf 22 = 1 := by kernel_rfl
  have k23 : Try.prog.cellsOf 23 = 1 := by kernel_rfl
  have f0 : DataW.trod enc Try.prog W 0 (fun _ => true) true n 22 (List.take (Try.prog.cellsOf 22) (List.drop 0 [c0, c1, c2, c3, c4])) = some y0 := hfs 0 _ rfl
  have f1 : DataW.trod enc Try.prog W 0 (fun _ => true) true n 23 (List.take (Try.prog.cellsOf 23) (List.drop 1 [c0, c1, c2, c3, c4])) = some y1 := hfs 1 _ rfl
  have f2 : DataW.trod enc Try.prog W 0 (fun _ => true) true n 23 (List.take (Try.prog.cellsOf 23) (List.drop 2 [c0, c1, c2, c3, c4])) = some y2 := hfs 2 _ rfl
  have f3 : DataW.trod enc Try.prog W 0 (fun _ => true) true n 23 (List.take (Try.prog.cellsOf 23) (List.drop 3 [c0, c1, c2, c3, c4])) = some y3 := hfs 3 _ rfl
  have f4 : DataW.trod enc Try.prog W 0 (fun _ => true) true n 23 (List.take (Try.prog.cellsOf 23) (List.drop 4 [c0, c1, c2, c3, c4])) = some y4 := hfs 4 _ rfl
  rw [k22] at f0
  rw [k23] at f1 f2 f3 f4
  obtain ⟨ks, g0, _⟩ := slice_rdx Try.underlying22 Try.underlying2 Try.cellsI64 f0
  obtain ⟨ss, g1, w1⟩ := slice_rdx Try.underlying23 Try.underlying5 Try.cellsU8 f1
  obtain ⟨es, g2, w2⟩ := slice_rdx Try.underlying23 Try.underlying5 Try.cellsU8 f2
  obtain ⟨gs, g3, w3⟩ := slice_rdx Try.underlying23 Try.underlying5 Try.cellsU8 f3
  obtain ⟨ts, g4, w4⟩ := slice_rdx Try.underlying23 Try.underlying5 Try.cellsU8 f4
  exact ⟨c0, c1, c2, c3, c4, ks, ss, es, gs, ts, rfl, g0, g1, g2, g3, g4, w1, w2, w3, w4⟩
end Go.Proofs.Ytjkfigkgeoacfaa
