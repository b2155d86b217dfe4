import Derived.Test.YtjkfigkgeoacfaaY0
set_option linter.unusedVariables false
set_option linter.unusedSimpArgs false
namespace Go.Proofs.Ytjkfigkgeoacfaa
open Go.ChangeShapes Go.WideShapes Go.ChangeAt Go.RowKit

theorem Try.own : ownKnob Try.prog.godebug = none := by kernel_rfl
theorem Try.laidOut : laidOutB Try.prog = true := by kernel_rfl

/-- The frame of a law over a plan, a byte and a key: what is left is the walk. -/
def Walk3 (f : Nat) : Prop := ∀ (W : World) (kv sv ev gv tv : Value) (ks ss es gs ts : List Int) (b key : Int),
  RdX (heapL W) 1 kv ks.length (ks.map (Value.int .i64)) → RdX (heapL W) 1 sv ss.length (ss.map (Value.int .u8)) → RdX (heapL W) 1 ev es.length (es.map (Value.int .u8)) → RdX (heapL W) 1 gv gs.length (gs.map (Value.int .u8)) → RdX (heapL W) 1 tv ts.length (ts.map (Value.int .u8)) →
  (∀ n ∈ ss, (Lit.int .u8 n).wf = true) → (∀ n ∈ es, (Lit.int .u8 n).wf = true) → (∀ n ∈ gs, (Lit.int .u8 n).wf = true) → (∀ n ∈ ts, (Lit.int .u8 n).wf = true) → (Lit.int .u8 b).wf = true →
  Calls Try.prog f #[.agg #[kv, sv, ev, gv, tv], .int .u8 b, .int .i64 key] W fun e W' => e = .returned (.bool true) ∧ (∃ N, Has W' (N ++ heapL W)) ∧ Ext W W'

theorem wf_u8 {n : Int} (h : (Lit.int .u8 n).wf = true) : 0 ≤ n ∧ n < 256 := by
  have hmin : IntKind.u8.min = 0 := rfl
  have hmax : IntKind.u8.max = 255 := rfl
  simp only [Lit.wf, Bool.and_eq_true, decide_eq_true_eq] at h
  omega

set_option maxRecDepth 100000 in
theorem seekPaths_lifted (hwalk : Walk3 3) (os : Os) (started : os.Started) (H : Type) (enc : TypeId × Value → H) :
    ReturnsInHanded {} Try.checked os 3 .any (Rows.seekPathsSpec.pre6 enc Try.prog Try.f3 Rows.seekPathsRow.domain false) (Rows.seekPathsSpec.post enc Try.prog Try.f3 false true false false) := by
  refine returnsInHanded_of_change (C := Try.checked) Try.own started (by kernel_rfl) Try.func3
    (ChangeSpec.witness6 (enc := enc) (C := Try.checked) false ⟨#[], #[.agg #[.slice none 0 0, .slice none 0 0, .slice none 0 0, .slice none 0 0, .slice none 0 0], .int .u8 0, .int .i64 0], []⟩ 8 (by kernel_rfl) (by kernel_rfl) (by kernel_rfl) (by kernel_rfl)) ?_
  intro W base args ds gs before hval0 hW hcnd _
  have hval : ∀ (j : Nat) t v, Try.f3.params[j]? = some t → args[j]? = some v → Value.okWide Try.prog W .any base t v := hval0
  have hW' := hW
  obtain ⟨p, q, hA0, hV, rfl, hfz, hnd⟩ := hW
  have hA : DataW.TrodAll enc Try.prog W 0 (fun _ => true) true Try.f3.params.toList args.toList ds p := hA0
  rw [Try.params3] at hA hval
  obtain ⟨v0, v1, v2, d0, d1, d2, p0, p1, p2, rfl, rfl, rfl, h0, h1, h2⟩ := trodAll_three hA
  obtain ⟨rfl, rfl⟩ := trodVars_none hV
  obtain ⟨b, rfl, rfl, rfl, wb⟩ := open_int Try.underlying5 (hval 1 5 v1 rfl rfl) h1
  obtain ⟨key, rfl, rfl, rfl, wk⟩ := open_int Try.underlying2 (hval 2 2 v2 rfl rfl) h2
  obtain ⟨kv, sv, ev, gv, tv, ks, ss, es, gs, ts, rfl, g0, g1, g2, g3, g4, w1, w2, w3, w4⟩ := plan_open (hval 0 25 v0 rfl rfl) h0
  clear hA0 hval0
  simp only [List.append_nil] at hW'
  have hlt : ∀ x ∈ p0, x.block < W.heap.size := fun x hx => by simpa using hW'.lt x hx
  refine (hwalk W kv sv ev gv tv ks ss es gs ts b key g0 g1 g2 g3 g4 w1 w2 w3 w4 wb).mono fun e W' ⟨he, ⟨N, hN⟩, hE⟩ => ?_
  subst he
  have hnx := below_of hN hE
  have hargs : DataW.Trod enc Try.prog W' 0 (fun b => decide (b < W.heap.size)) true 25 (.agg #[kv, sv, ev, gv, tv]) d0 p0 := Below.trod Try.laidOut (by kernel_rfl) (of_decide_eq_true (by kernel_rfl)) h0 hnx hlt
  refine ⟨_, rfl, _, _, _, [], p0 ++ ([] ++ []), [], hW', ?_, ?_, rfl, hnx.frame _, fun h => by cases h⟩
  · exact trodAll_mk1 (shut_bool Try.underlying4 true)
  · exact trodAll_mk3 hargs (shut_int Try.underlying5 wb) (shut_int Try.underlying2 wk)

theorem seekPaths_row (hwalk : Walk3 3) : Rows.SeekPathsSaid :=
  OpenClaim.holds_of_wide 3 Try.f3 rfl rfl rfl rfl rfl rfl rfl ⟨rfl, rfl, rfl, rfl, rfl⟩ rfl rfl rfl rfl rfl (by kernel_rfl) Try.func3 (by kernel_rfl)
    (of_decide_eq_true (by kernel_rfl)) (by unfold Func.isWrapper; rw [if_neg (of_decide_eq_false (by kernel_rfl))]; exact ⟨rfl, rfl⟩)
    (fun os started H enc _ => seekPaths_lifted hwalk os started H enc)
end Go.Proofs.Ytjkfigkgeoacfaa
