/- SeekFinds: whatever the plan and the byte: the law returns true, and each argument reads behind the call as it read before. No condition. -/
import Derived.Test.YtjkfigkgeoacfaaZ0
import Derived.Test.YtjkfigkgeoacfaaX2
set_option linter.unusedVariables false
set_option linter.unusedSimpArgs false
namespace Go.Proofs.Ytjkfigkgeoacfaa
open Go.ChangeShapes Go.WideShapes Go.ChangeAt Go.RowKit

/-- The frame of a law over a plan and a byte: what is left is the walk. -/
def Walk2 (f : Nat) : Prop := ∀ (W : World) (kv sv ev gv tv : Value) (ks ss es gs ts : List Int) (b : Int),
  RdX (heapL W) 1 kv ks.length (ks.map (Value.int .i64)) → RdX (heapL W) 1 sv ss.length (ss.map (Value.int .u8)) → RdX (heapL W) 1 ev es.length (es.map (Value.int .u8)) → RdX (heapL W) 1 gv gs.length (gs.map (Value.int .u8)) → RdX (heapL W) 1 tv ts.length (ts.map (Value.int .u8)) →
  (∀ n ∈ ss, (Lit.int .u8 n).wf = true) → (∀ n ∈ es, (Lit.int .u8 n).wf = true) → (∀ n ∈ gs, (Lit.int .u8 n).wf = true) → (∀ n ∈ ts, (Lit.int .u8 n).wf = true) → (Lit.int .u8 b).wf = true →
  Calls Try.prog f #[.agg #[kv, sv, ev, gv, tv], .int .u8 b] W fun e W' => e = .returned (.bool true) ∧ (∃ N, Has W' (N ++ heapL W)) ∧ Ext W W'

set_option maxRecDepth 100000 in
theorem seekFinds_lifted (hwalk : Walk2 5) (os : Os) (started : os.Started) (H : Type) (enc : TypeId × Value → H) :
    ReturnsInHanded {} Try.checked os 5 .any (Rows.seekFindsSpec.pre6 enc Try.prog Try.f5 Rows.seekFindsRow.domain false) (Rows.seekFindsSpec.post enc Try.prog Try.f5 false true false false) := by
  refine returnsInHanded_of_change (C := Try.checked) Try.own started (by kernel_rfl) Try.func5
    (ChangeSpec.witness6 (enc := enc) (C := Try.checked) false ⟨#[], #[.agg #[.slice none 0 0, .slice none 0 0, .slice none 0 0, .slice none 0 0, .slice none 0 0], .int .u8 0], []⟩ 8 (by kernel_rfl) (by kernel_rfl) (by kernel_rfl) (by kernel_rfl)) ?_
  intro W base args ds gs before hval0 hW hcnd _
  have hval : ∀ (j : Nat) t v, Try.f5.params[j]? = some t → args[j]? = some v → Value.okWide Try.prog W .any base t v := hval0
  have hW' := hW
  obtain ⟨p, q, hA0, hV, rfl, hfz, hnd⟩ := hW
  have hA : DataW.TrodAll enc Try.prog W 0 (fun _ => true) true Try.f5.params.toList args.toList ds p := hA0
  rw [Try.params5] at hA hval
  obtain ⟨v0, v1, d0, d1, p0, p1, rfl, rfl, rfl, h0, h1⟩ := trodAll_two hA
  obtain ⟨rfl, rfl⟩ := trodVars_none hV
  obtain ⟨b, rfl, rfl, rfl, wb⟩ := open_int Try.underlying5 (hval 1 5 v1 rfl rfl) h1
  obtain ⟨kv, sv, ev, gv, tv, ks, ss, es, gs, ts, rfl, g0, g1, g2, g3, g4, w1, w2, w3, w4⟩ := plan_open (hval 0 25 v0 rfl rfl) h0
  clear hA0 hval0
  simp only [List.append_nil] at hW'
  have hlt : ∀ x ∈ p0, x.block < W.heap.size := fun x hx => by simpa using hW'.lt x hx
  refine (hwalk W kv sv ev gv tv ks ss es gs ts b g0 g1 g2 g3 g4 w1 w2 w3 w4 wb).mono fun e W' ⟨he, ⟨N, hN⟩, hE⟩ => ?_
  subst he
  have hnx := below_of hN hE
  have hargs : DataW.Trod enc Try.prog W' 0 (fun b => decide (b < W.heap.size)) true 25 (.agg #[kv, sv, ev, gv, tv]) d0 p0 := Below.trod Try.laidOut (by kernel_rfl) (of_decide_eq_true (by kernel_rfl)) h0 hnx hlt
  refine ⟨_, rfl, _, _, _, [], p0 ++ [], [], hW', ?_, ?_, rfl, hnx.frame _, fun h => by cases h⟩
  · exact trodAll_mk1 (shut_bool Try.underlying4 true)
  · exact trodAll_mk2 hargs (shut_int Try.underlying5 wb)

theorem seekFinds_row (hwalk : Walk2 5) : Rows.SeekFindsSaid :=
  OpenClaim.holds_of_wide 5 Try.f5 rfl rfl rfl rfl rfl rfl rfl ⟨rfl, rfl, rfl, rfl, rfl⟩ rfl rfl rfl rfl rfl (by kernel_rfl) Try.func5 (by kernel_rfl)
    (of_decide_eq_true (by kernel_rfl)) (by unfold Func.isWrapper; rw [if_neg (of_decide_eq_false (by kernel_rfl))]; exact ⟨rfl, rfl⟩)
    (fun os started H enc _ => seekFinds_lifted hwalk os started H enc)

theorem seekFinds_walk : Walk2 5 := by
  intro W kv sv ev gv tv ks ss es gs ts b g0 g1 g2 g3 g4 w1 w2 w3 w4 wb
  have hb := wf_u8 wb
  exact seekFinds_all (p := ⟨ks, ss, es, gs, ts⟩) ⟨g0, g1, g2, g3, g4, fun x hx => wf_u8 (w1 x hx), fun x hx => wf_u8 (w2 x hx), fun x hx => wf_u8 (w3 x hx), fun x hx => wf_u8 (w4 x hx)⟩ hb.1 hb.2 (heapL_has W)
theorem seekFinds_holds : Rows.SeekFindsSaid := seekFinds_row seekFinds_walk
#print axioms seekFinds_holds
end Go.Proofs.Ytjkfigkgeoacfaa
