import Derived.Test.YtjkfigkgeoacfaaM0
import Derived.Test.YtjkfigkgeoacfaaL1
set_option linter.unusedVariables false
set_option linter.unusedSimpArgs false
namespace Go.Proofs.Ytjkfigkgeoacfaa
open Go.RowKit Go.Proofs.YtjkfigkgeoacfaaW.PrintLast

structure PlRd (R : HL) (kv sv ev gv tv : Value) (p : Pl) : Prop where
  k : RdX R 1 kv p.keys.length (ints p.keys)
  s : RdX R 1 sv p.sizes.length (bytes p.sizes)
  e : RdX R 1 ev p.keeps.length (bytes p.keeps)
  g : RdX R 1 gv p.groups.length (bytes p.groups)
  t : RdX R 1 tv p.tags.length (bytes p.tags)
  bs : ∀ x ∈ p.sizes, 0 ≤ x ∧ x < 256
  be : ∀ x ∈ p.keeps, 0 ≤ x ∧ x < 256
  bg : ∀ x ∈ p.groups, 0 ≤ x ∧ x < 256
  bt : ∀ x ∈ p.tags, 0 ≤ x ∧ x < 256
theorem PlRd.rep {R R' : HL} {kv sv ev gv tv : Value} {p : Pl} (h : PlRd R kv sv ev gv tv p) (hl : lightB p = true) (hs : ∀ q, q ∈ R → q ∈ R') : PlRep R' kv sv ev gv tv p := by
  simp only [lightB, Bool.and_eq_true, decide_eq_true_eq] at hl
  obtain ⟨⟨⟨⟨h1, h2⟩, h3⟩, h4⟩, h5⟩ := hl
  exact ⟨h.k.mono hs, h.s.mono hs, h.e.mono hs, h.g.mono hs, h.t.mono hs, h.bs, h.be, h.bg, h.bt, h1, h2, h3, h4, h5⟩

theorem PlRep.mono {R R' : HL} {kv sv ev gv tv : Value} {p : Pl} (h : PlRep R kv sv ev gv tv p) (hs : ∀ q, q ∈ R → q ∈ R') : PlRep R' kv sv ev gv tv p :=
  ⟨h.k.mono hs, h.s.mono hs, h.e.mono hs, h.g.mono hs, h.t.mono hs, h.bs, h.be, h.bg, h.bt, h.lk, h.ls, h.le, h.lg, h.lt⟩
/-- The tree of a plan, as the program makes it: whatever it is, it is good. -/
theorem plan_shape {p : Pl} {B : Nat} (hB3 : 3 ≤ B) (hB8 : B ≤ 8) {R : HL} {kv sv ev gv tv : Value} (hp : PlRep R kv sv ev gv tv p) : ∃ (s : Sh) (hh : Nat), Good B hh none none s ∧ s.many ≤ 8000 ∧ ∀ (w : World) (X : HL), Has w X → (∀ q, q ∈ R → q ∈ X) →
    Calls Try.prog 9 #[.agg #[kv, sv, ev, gv, tv], .int .i64 B] w fun e w' => ∃ (A1 : Option Addr) (c1 : Nat) (A2 : Option Addr) (c2 : Nat) (A3 : Option Addr) (c3 : Nat) (N : HL), e = .returned (.agg #[.bool s.leaf, .bool s.tagged, .slice A1 s.pairs.length c1, .slice A2 s.keys.length c2, .slice A3 s.kids.length c3]) ∧ ShRep N (shCells s A1 c1 A2 c2 A3 c3) s ∧ Has w' (N ++ X) ∧ Ext w w' := by
  obtain ⟨hh, hgood⟩ := shapeL_good p (b := B) (by omega)
  refine ⟨shapeL p B, hh, hgood, shapeL_many (p := p) B hp.lk, fun w X hw hs => ?_⟩
  refine (shape_any hB3 hB8 (hp.mono hs) hw).mono ?_
  rintro e w' ⟨cs, N, rfl, hsr, hW, hE⟩
  obtain ⟨A1, c1, A2, c2, A3, c3, rfl⟩ := hsr.shape
  exact ⟨A1, c1, A2, c2, A3, c3, N, rfl, hsr, hW, hE⟩
end Go.Proofs.Ytjkfigkgeoacfaa
