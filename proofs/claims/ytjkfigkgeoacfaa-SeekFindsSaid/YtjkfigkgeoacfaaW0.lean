import Derived.Test.YtjkfigkgeoacfaaP6
set_option linter.unusedVariables false
set_option linter.unusedSimpArgs false
namespace Go.Proofs.Ytjkfigkgeoacfaa
open Go.RowKit

set_option maxHeartbeats 400000 in
theorem arenaNew_any (n : Int) (h0 : 0 ≤ n) (h1 : n ≤ 65536) (w : World) :
    Calls Try.prog 57 #[.int .i64 n] w fun e w' => e = .returned (.pointer (some ⟨w.heap.size, 0, none⟩)) ∧ w' = w.alloc (arenaObj (.slice none 0 0) (.slice none 0 0) n 0 0) := by
  go_enter Try.func57, Try.ntmps57
  go_wp2
  go_ret
  exact ⟨rfl, rfl⟩
set_option maxHeartbeats 400000 in
theorem recordNew_any (n : Int) (h0 : 0 ≤ n) (h1 : n ≤ 65536) (w : World) :
    Calls Try.prog 58 #[.int .i64 n] w fun e w' => e = .returned (.pointer (some ⟨w.heap.size, 0, none⟩)) ∧ w' = w.alloc (.cells #[.slice none 0 0, .int .i64 n] 148) := by
  go_enter Try.func58, Try.ntmps58
  go_wp2
  go_ret
  exact ⟨rfl, rfl⟩
theorem made_cells (z : Value) (n : Nat) : (Array.range n).map (fun i => (#[z] : Array Value)[i % (#[z] : Array Value).size]!) = (List.replicate n z).toArray := by
  apply Array.ext
  · simp
  · intro i h1 h2
    simp [Nat.mod_one]
theorem run_make1 {P : Program} {t e : TypeId} {i : TypeInfo} {z : Value} (hsl : P.underlying t = some (.slice e)) (hi : P.info? e = some i) (hz : i.zero = some z) (h1 : i.size = 1) (hzc : z.cells = #[z]) (n : Nat) (hn : 0 < n) (hb : i.bytes * n ≤ 1000000) (hn2 : n ≤ 1000000) (w : World) :
    (Instr.makeSlice t (.int .i64 n) (.int .i64 n)).run P w = .ok (.slice (some ⟨w.heap.size, 0, none⟩) n n) (w.alloc (.cells (List.replicate n z).toArray e)) := by
  have hw : IntKind.i64.wrap (n : Int) = n := by rw [IntKind.wrap_i64]; omega
  have a1 : ¬ ((n : Int) < 0) := by omega
  have a2 : ¬ (281474976710656 < (i.bytes : Int) * (n : Int)) := by
    have : (i.bytes : Int) * (n : Int) = ((i.bytes * n : Nat) : Int) := by simp
    rw [this]; omega
  have a3 : ¬ n = 0 := by omega
  have a4 : ¬ (140737488355328 < n * i.bytes) := by rw [Nat.mul_comm]; omega
  have hm := made_cells z n
  rw [← hzc] at hm
  simp [Instr.makeSlice, run_underlying hsl, asInt, asIntOf, typeInfo, zeroValue, sizeOf, hi, hz, hw, a1, a2, a3, a4, h1, askRoom, roomBytes, newRow]
  rw [hm]
  simp

structure ARec where
  nodes : List Int
  infos : List Int
  keep : Int
  way : Int
  old : Int
  new : Int
  state : Int
  all : Bool
structure ATable where
  recs : List ARec
  most : Int
structure AEpochs where
  now : Int
  said : List Int
  limbo : List (List (Int × Int))
structure AWorld where
  arena : AArena
  recs : ATable
  eps : AEpochs
  a : Int
  b : Int
  entry : Int

/-- Records: each in a block of its own. -/
inductive RecsRep (R : HL) : List ARec → List Value → HL → Prop
  | nil : RecsRep R [] [] []
  | cons {r : ARec} {rs : List ARec} {g : Nat} {nv iv : Value} {vs : List Value} {L : HL} (hn : Rd R 39 1 nv r.nodes.length (ints r.nodes)) (hi : Rd R 2 1 iv r.infos.length (ints r.infos)) (t : RecsRep R rs vs L) :
      RecsRep R (r :: rs) (.pointer (some ⟨g, 0, none⟩) :: vs) ((g, Obj.cells #[nv, iv, .int .i64 r.keep, .int .i64 r.way, .int .i64 r.old, .int .i64 r.new, .int .u8 r.state, .bool r.all] 180 (0, 0)) :: L)
theorem RecsRep.mono {R R' : HL} {rs : List ARec} {vs : List Value} {L : HL} (h : RecsRep R rs vs L) (hs : ∀ p, p ∈ R → p ∈ R') : RecsRep R' rs vs L := by
  induction h with
  | nil => exact .nil
  | cons hn hi _ ih => exact .cons (hn.mono hs) (hi.mono hs) ih
def TableRep (R : HL) (t : Nat) (T : ATable) (L : HL) : Prop :=
  ∃ lv vs Ll Lr, L = (t, Obj.cells #[lv, .int .i64 T.most] 148 (0, 0)) :: (Ll ++ Lr) ∧ Row 173 1 lv T.recs.length vs Ll ∧ RecsRep R T.recs vs Lr
theorem TableRep.mono {R R' : HL} {t : Nat} {T : ATable} {L : HL} (h : TableRep R t T L) (hs : ∀ p, p ∈ R → p ∈ R') : TableRep R' t T L :=
  let ⟨lv, vs, Ll, Lr, a, b, c⟩ := h; ⟨lv, vs, Ll, Lr, a, b, c.mono hs⟩
abbrev goneCells (l : List (Int × Int)) : List Value := pairCells l
/-- The nodes that each thread let go. -/
inductive LimboRep : List (List (Int × Int)) → List Value → HL → Prop
  | nil : LimboRep [] [] []
  | cons {l : List (Int × Int)} {ls : List (List (Int × Int))} {v : Value} {vs : List Value} {L1 L2 : HL} (h : Row 182 2 v l.length (goneCells l) L1) (t : LimboRep ls vs L2) : LimboRep (l :: ls) (v :: vs) (L1 ++ L2)
def EpochsRep (e : Nat) (E : AEpochs) (L : HL) : Prop :=
  ∃ sv lv vs Ls Ll Lg, L = (e, Obj.cells #[.int .i64 E.now, sv, lv] 151 (0, 0)) :: (Ls ++ (Ll ++ Lg)) ∧ Row 2 1 sv E.said.length (ints E.said) Ls ∧ Row 174 1 lv E.limbo.length vs Ll ∧ LimboRep E.limbo vs Lg
def WorldRep (R : HL) (p : Nat) (S : AWorld) (L : HL) : Prop :=
  ∃ a t e La Lt Le, L = (p, Obj.cells #[.pointer (some ⟨a, 0, none⟩), .pointer (some ⟨t, 0, none⟩), .pointer (some ⟨e, 0, none⟩), .int .i64 S.a, .int .i64 S.b, .int .i64 S.entry] 41 (0, 0)) :: (La ++ (Lt ++ Le)) ∧
    ArenaRep R a S.arena La ∧ TableRep R t S.recs Lt ∧ EpochsRep e S.eps Le
theorem WorldRep.mono {R R' : HL} {p : Nat} {S : AWorld} {L : HL} (h : WorldRep R p S L) (hs : ∀ p, p ∈ R → p ∈ R') : WorldRep R' p S L :=
  let ⟨a, t, e, La, Lt, Le, h1, h2, h3, h4⟩ := h; ⟨a, t, e, La, Lt, Le, h1, h2.mono hs, h3.mono hs, h4⟩

theorem limbo_new (n : Nat) : LimboRep (List.replicate n []) (List.replicate n (.slice none 0 0)) [] := by
  induction n with
  | zero => exact .nil
  | succ n ih => exact LimboRep.cons (L1 := []) (Row.nil _ _ none) ih

theorem info_gones : ∃ i z, Try.prog.info? 174 = some i ∧ i.zero = some z ∧ i.size = 1 ∧ i.bytes = 24 ∧ z = .slice none 0 0 := by
  have h : (Try.prog.info? 174).map (fun i => (i.zero, i.size, i.bytes)) = some (some (.slice none 0 0), 1, 24) := by kernel_rfl
  cases hi : Try.prog.info? 174 with
  | none => rw [hi] at h; cases h
  | some i =>
    rw [hi] at h
    simp only [Option.map_some, Option.some.injEq, Prod.mk.injEq] at h
    exact ⟨i, _, rfl, h.1, h.2.1, h.2.2, rfl⟩

set_option maxRecDepth 100000 in
set_option maxHeartbeats 1000000 in
theorem epochNew_any (n : Nat) (h0 : 0 < n) (h1 : n ≤ 64) (w : World) (R : HL) (hw : Has w R) :
    Calls Try.prog 59 #[.int .i64 n] w fun e w' => ∃ g L, e = .returned (.pointer (some ⟨g, 0, none⟩)) ∧ EpochsRep g ⟨0, List.replicate n (-1), List.replicate n []⟩ L ∧ Has w' (L ++ R) ∧ Ext w w' := by
  obtain ⟨i0, z, hi, hz, hs1, hby, rfl⟩ := info_gones
  have hmk := run_make1 Try.underlying149 hi hz hs1 rfl n h0 (by rw [hby]; omega) (by omega)
  go_enter Try.func59, Try.ntmps59
  go_wp2
  have hW := (hw.alloc (.cells (List.replicate n (Value.slice none 0 0)).toArray 174)).alloc (.cells #[.int .i64 0, .slice none 0 0, .slice (some ⟨w.heap.size, 0, none⟩) n n] 151)
  have hE := ((Ext.refl w).alloc (.cells (List.replicate n (Value.slice none 0 0)).toArray 174)).alloc (.cells #[.int .i64 0, .slice none 0 0, .slice (some ⟨w.heap.size, 0, none⟩) n n] 151)
  rw [World.size_alloc] at hW
  rw [List.toArray_replicate] at hW hE
  generalize hEq : World.alloc _ _ = W1
  rw [hEq] at hW hE
  generalize w.heap.size = lb at hW ⊢
  clear hEq hmk
  go_loopw [12] (fun i wr => ∃ (k : Nat) (A : Option Addr) (c : Nat) (Ls N : HL), k ≤ n ∧ i = .int .i64 k ∧ Row 2 1 (.slice A k c) k (ints (List.replicate k (-1))) Ls ∧
      Has wr ((lb + 1, Obj.cells #[.int .i64 0, .slice A k c, .slice (some ⟨lb, 0, none⟩) n n] 151) :: (Ls ++ ((lb, Obj.cells (Array.replicate n (Value.slice none 0 0)) 174) :: R))) ∧ Ext w wr) (fun i _ => n - (intOf i).toNat)
  case atStart => exact ⟨0, none, 0, [], [], Nat.zero_le _, rfl, Row.nil _ _ _, hW, hE⟩
  case round =>
    obtain ⟨k, A, c, Ls, N, hk, rfl, hrow, hN, hX⟩ := hrel
    obtain ⟨ce, fe⟩ := hN.blk (List.mem_cons_self ..)
    by_cases hlt : k < n
    · have hNa := (hN.alloc (.cells #[.int .i64 (-1)] 2)).perm (L' := Ls ++ ((lb + 1, Obj.cells #[.int .i64 0, .slice A k c, .slice (some ⟨lb, 0, none⟩) n n] 151) :: (wr.heap.size, Obj.cells #[.int .i64 (-1)] 2) :: (lb, Obj.cells (Array.replicate n (Value.slice none 0 0)) 174) :: R)) (perm_of_count fun x => by simp only [List.count_append, List.count_cons, List.count_nil, arenaObj, slotObj, nodeObj, worldObj]; omega)
      have hsB : Src (wr.alloc (.cells #[.int .i64 (-1)] 2)) (.slice (some ⟨wr.heap.size, 0, none⟩) 1 1) 1 1 [.int .i64 (-1)] :=
        Src.of_block (fr := (0, 0)) (hNa.get wr.heap.size (.cells #[.int .i64 (-1)] 2 (0, 0)) (by simp)) rfl (by intro u hu; simp at hu; subst hu; rfl)
      have H63 : Hid (k + 1 ≤ maxLen) := Lib.hid (by simp [maxLen]; omega)
      have HN := Lib.hid hNa
      clear hNa hN
      go_wp2_with (at_builtin; refine wpList_append_row rfl (.tmp 18) (.tmp 19) 22 rfl el_int hrow HN.out rfl hsB H63.out ?h2 ?h3)
      case h2 => omega
      intro v' w2 Ls' hr hh he
      obtain ⟨A', c', rfl⟩ := hr.shape
      clear ce fe hsB
      obtain ⟨ce, fe⟩ := hh.blk (b := lb + 1) (t := 151) (c := #[.int .i64 0, .slice A k c, .slice (some ⟨lb, 0, none⟩) n n]) (by simp)
      go_wp2
      go_roundw
      case rel =>
        have q := ((hh.perm (L' := ((lb + 1, Obj.cells #[.int .i64 0, .slice A k c, .slice (some ⟨lb, 0, none⟩) n n] 151) :: (Ls' ++ ((lb, Obj.cells (Array.replicate n (Value.slice none 0 0)) 174) :: R))) ++ [(wr.heap.size, Obj.cells #[.int .i64 (-1)] 2)]) (perm_of_count fun x => by simp only [List.count_append, List.count_cons, List.count_nil, arenaObj, slotObj, nodeObj, worldObj]; omega)).left).set 1 (.slice A' (k + 1) c')
        refine ⟨k + 1, A', c', Ls', [], by omega, by go_num, ?_, q, ((hX.alloc _).trans he).setCell _ _⟩
        have : ints (List.replicate (k + 1) (-1)) = ints (List.replicate k (-1)) ++ [.int .i64 (-1)] := by simp [List.replicate_succ']
        rw [this]; simpa using hr
      case measure => simp [intOf]; omega
    · have hkk : k = n := by omega
      subst hkk
      go_wp2
      go_ret
      refine ⟨lb + 1, _, rfl, ⟨.slice A k c, .slice (some ⟨lb, 0, none⟩) k k, List.replicate k (.slice none 0 0), Ls, [(lb, Obj.cells (Array.replicate k (Value.slice none 0 0)) 174)], [], rfl, by simpa using hrow, ⟨by simp, .inr ⟨lb, 0, k, Array.replicate k (Value.slice none 0 0), by simp, rfl, by simp, ⟨by simp [maxLen]; omega⟩, by simp, by simp⟩⟩, limbo_new k⟩, by simpa using hN, hX⟩
end Go.Proofs.Ytjkfigkgeoacfaa
