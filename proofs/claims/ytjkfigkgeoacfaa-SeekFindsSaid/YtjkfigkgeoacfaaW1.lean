import Derived.Test.YtjkfigkgeoacfaaW0
set_option linter.unusedVariables false
set_option linter.unusedSimpArgs false
namespace Go.Proofs.Ytjkfigkgeoacfaa
open Go.RowKit

def leafNode : ANode := ⟨false, false, [], [], []⟩
def entryNode (r : Int) : ANode := ⟨true, false, [], [], [r]⟩
def newSlot (n : ANode) (c : Int) : ASlot := ⟨n, n.ways, 0, false, c, true⟩
/-- The world that New makes. -/
def newWorld (a b : Int) (threads : Nat) (nodes records : Int) : AWorld :=
  ⟨⟨[newSlot leafNode 1, newSlot (entryNode (refOf 0 1)) 1], [], nodes, 2, 0⟩, ⟨[], records⟩, ⟨0, List.replicate threads (-1), List.replicate threads []⟩, a, b, refOf 1 1⟩

theorem rd_nil (R : HL) (T sz : Nat) (A : Option Addr) (c : Nat) (h : Fits c) : Rd R T sz (.slice A 0 c) 0 [] := ⟨by simp, A, c, rfl, Nat.zero_le _, h, fun h => by omega⟩
theorem fits_of {n : Nat} (h : n ≤ 1000000) : Fits n := ⟨by simp [maxLen]; omega⟩

def AArena.alloc (A : AArena) (n : ANode) : AArena :=
  match A.free with
  | [] => { A with slots := A.slots ++ [newSlot n 1], used := A.used + 1 }
  | i :: rest => { A with slots := A.slots.set i.toNat (newSlot n ((A.slots.getD i.toNat zslot).count + 1)), free := rest, used := A.used + 1 }
def AArena.allocRef (A : AArena) : Int :=
  match A.free with
  | [] => refOf A.slots.length 1
  | i :: _ => refOf i ((A.slots.getD i.toNat zslot).count + 1)
/-- What else holds of an arena: its free places are places; there is room for those that may be. -/
structure AArena.Ok2 (A : AArena) : Prop where
  free : ∀ i ∈ A.free, 0 ≤ i ∧ i.toNat < A.slots.length
  room : A.free = [] → A.slots.length = A.used
  most : A.most ≤ 65536
  used : 0 ≤ A.used

theorem alloc_spec {R R2 : HL} {a : Nat} {A : AArena} {L : HL} (hA : ArenaRep R a A L) (hO : A.Ok) (hO2 : A.Ok2) {w : World} (hw : Has w (L ++ R2)) {n : ANode} {pv kv wv : Value} (hn : NodeRep R2 n pv kv wv)
    (hz1 : n.pairs.length ≤ 60000) (hz2 : n.keys.length ≤ 60000) (hz3 : n.ways.length ≤ 60000) (hlt : A.used < A.most) :
    Calls Try.prog 60 #[.pointer (some ⟨a, 0, none⟩), nodeV n pv kv wv] w fun e w' =>
      ∃ L' N, e = .returned (.tuple #[.int .i64 A.allocRef, .bool true]) ∧ ArenaRep (N ++ R) a (A.alloc n) L' ∧ Has w' (L' ++ (N ++ R2)) ∧ Ext w w' := by
  have hm := hO2.most
  have hu := hO2.used
  cases hf : A.free with
  | nil =>
    have hr := hO2.room hf
    refine (alloc_B hA hO hw hn hz1 hz2 hz3 hu hlt hm hf (by omega)).mono ?_
    rintro e w' ⟨L', N, rfl, h1, h2, h3⟩
    refine ⟨L', N, by simp [AArena.allocRef, hf], ?_, h2, h3⟩
    have : A.alloc n = { A with slots := A.slots ++ [⟨n, n.ways, 0, false, 1, true⟩], free := [], used := A.used + 1 } := by
      simp only [AArena.alloc, hf, newSlot]
    rw [this]; exact h1
  | cons i rest =>
    have hi := hO2.free i (by rw [hf]; exact List.mem_cons_self ..)
    obtain ⟨j, rfl⟩ := Int.eq_ofNat_of_zero_le hi.1
    have hj : j < A.slots.length := by simpa using hi.2
    have hs := List.getElem?_eq_getElem hj
    refine (alloc_A hA hO hw hn hz1 hz2 hz3 hu hlt hm hf hs trivial).mono ?_
    have hd : A.slots.getD j zslot = A.slots[j] := by simp [List.getD, hs]
    rintro e w' ⟨L', N, rfl, h1, h2, h3⟩
    refine ⟨L', N, ?_, ?_, h2, h3⟩
    · simp only [AArena.allocRef, hf, Int.ofNat_eq_natCast, Int.toNat_natCast, hd]
    · have : A.alloc n = { A with slots := A.slots.set j ⟨n, n.ways, 0, false, A.slots[j].count + 1, true⟩, free := rest, used := A.used + 1 } := by
        simp only [AArena.alloc, hf, newSlot, Int.ofNat_eq_natCast, Int.toNat_natCast, hd]
      rw [this]; exact h1

set_option maxRecDepth 100000 in
set_option maxHeartbeats 2000000 in
theorem worldNew_any {a b : Int} {threads : Nat} {nodes records : Int} (ha : 2 ≤ a) (ha' : a ≤ 32) (hb : 2 * a - 1 ≤ b) (hb' : b ≤ 32) (ht : 1 ≤ threads) (ht' : threads ≤ 64) (hn : 2 ≤ nodes) (hn' : nodes ≤ 65536) (hr : 0 ≤ records) (hr' : records ≤ 65536)
    {w : World} {R : HL} (hw : Has w R) :
    Calls Try.prog 33 #[.int .i64 a, .int .i64 b, .int .i64 threads, .int .i64 nodes, .int .i64 records] w fun e w' =>
      ∃ p L N, e = .returned (.tuple #[.pointer (some ⟨p, 0, none⟩), .int .i64 0]) ∧ WorldRep (N ++ R) p (newWorld a b threads nodes records) L ∧ Has w' (L ++ (N ++ R)) ∧ Ext w w' := by
  have h2 := (hw.alloc (arenaObj (.slice none 0 0) (.slice none 0 0) nodes 0 0)).alloc (.cells #[.slice none 0 0, .int .i64 records] 148)
  have e2 := ((Ext.refl w).alloc (arenaObj (.slice none 0 0) (.slice none 0 0) nodes 0 0)).alloc (.cells #[.slice none 0 0, .int .i64 records] 148)
  rw [World.size_alloc] at h2
  have k1 : decide (a < 2) = false := by simp; omega
  have k2 : decide (32 < a) = false := by simp; omega
  have k3 : decide (b < 2 * a - 1) = false := by simp; omega
  have k4 : decide (32 < b) = false := by simp; omega
  have k5 : decide ((threads : Int) < 1) = false := by simp; omega
  have k6 : decide (64 < (threads : Int)) = false := by simp; omega
  have k7 : decide (nodes < 2) = false := by simp; omega
  have k8 : decide (65536 < nodes) = false := by simp; omega
  have k9 : decide (records < 0) = false := by simp; omega
  have k10 : decide (65536 < records) = false := by simp; omega
  have H2 := Lib.hid (And.intro h2 e2)
  clear h2 e2
  go_enter Try.func33, Try.ntmps33
  go_wp2_with (first
    | (go_at_call 57; refine (arenaNew_any _ (by omega) (by omega) _).mono ?_; rintro e w1 ⟨rfl, rfl⟩)
    | (go_at_call 58; refine (recordNew_any _ (by omega) (by omega) _).mono ?_; rintro e w1 ⟨rfl, rfl⟩)
    | (go_at_call 59; refine (epochNew_any threads (by omega) (by omega) _ _ H2.out.1).mono ?_; rintro e w3 ⟨g, Le, rfl, hEp, h3, e3⟩))
  have h4 := h3.alloc (worldObj w.heap.size (w.heap.size + 1) g a b 0)
  have e4 := (H2.out.2.trans e3).alloc (worldObj w.heap.size (w.heap.size + 1) g a b 0)
  generalize hEq : World.alloc _ _ = w4
  rw [hEq] at h4 e4
  clear hEq H2
  generalize w3.heap.size = p at h4 ⊢
  generalize w.heap.size = ga at hEp h3 h4 ⊢
  refine (alloc_spec (R := []) (A := ⟨[], [], nodes, 0, 0⟩) (L := [(ga, arenaObj (.slice none 0 0) (.slice none 0 0) nodes 0 0)]) (R2 := (p, worldObj ga (ga + 1) g a b 0) :: (Le ++ ((ga + 1, Obj.cells #[.slice none 0 0, .int .i64 records] 148) :: R))) (n := leafNode)
    ⟨.slice none 0 0, .slice none 0 0, [], [], [], [], rfl, Row.nil _ _ _, Row.nil _ _ _, .nil⟩ ⟨by simp, by simp, by simp⟩ ⟨by simp, fun _ => rfl, hn', Int.le_refl _⟩ (h4.perm (perm_of_count fun x => by simp only [List.count_append, List.count_cons, List.count_nil, arenaObj, slotObj, nodeObj, worldObj]; omega)) ⟨rd_nil _ _ _ _ _ (fits_of (by omega)), rd_nil _ _ _ _ _ (fits_of (by omega)), rd_nil _ _ _ _ _ (fits_of (by omega))⟩ (by simp [leafNode]) (by simp [leafNode]) (by simp [leafNode]) (by simp; omega)).mono ?_
  rintro e w5 ⟨La, N1, rfl, hA1, h5, e5⟩
  obtain ⟨cp, fp⟩ := h5.blk (b := p) (t := 41) (c := #[.pointer (some ⟨ga, 0, none⟩), .pointer (some ⟨ga + 1, 0, none⟩), .pointer (some ⟨g, 0, none⟩), .int .i64 a, .int .i64 b, .int .i64 0]) (by simp)
  have h6 := h5.alloc (.cells #[.int .i64 (refOf 0 1)] 39)
  have e6 := (e4.trans e5).alloc (.cells #[.int .i64 (refOf 0 1)] 39)
  have H6 := Lib.hid (And.intro h6 e6)
  have HA1 := Lib.hid hA1
  clear h5 e5 h4 e4 h3 e3 h6 e6 hA1
  simp only [AArena.allocRef, List.length_nil]
  go_wp2_with fail
  obtain ⟨h6, e6⟩ := H6.out
  have hA1 := HA1.out
  clear cp fp
  generalize hEq : World.alloc _ _ = w6
  rw [hEq] at h6 e6
  clear hEq H6
  generalize w5.heap.size = q at h6 ⊢
  refine (alloc_spec (R := N1 ++ []) (A := AArena.alloc ⟨[], [], nodes, 0, 0⟩ leafNode) (L := La) (R2 := (q, Obj.cells #[.int .i64 (refOf 0 1)] 39) :: (N1 ++ ((p, worldObj ga (ga + 1) g a b 0) :: (Le ++ ((ga + 1, Obj.cells #[.slice none 0 0, .int .i64 records] 148) :: R))))) (n := entryNode (refOf 0 1))
    hA1 ⟨by simp [AArena.alloc], by simp [AArena.alloc, newSlot], by simp [AArena.alloc, newSlot, leafNode]⟩ ⟨by simp [AArena.alloc], fun _ => by simp [AArena.alloc], hn', by simp [AArena.alloc]⟩ (h6.perm (perm_of_count fun x => by simp only [List.count_append, List.count_cons, List.count_nil, arenaObj, slotObj, nodeObj, worldObj]; omega))
    ⟨rd_nil _ _ _ _ _ (fits_of (by omega)), rd_nil _ _ _ _ _ (fits_of (by omega)), ⟨rfl, _, _, rfl, Nat.le_refl _, fits_of (by simp [entryNode]), fun _ => ⟨q, 0, _, _, rfl, List.mem_cons_self .., rfl⟩⟩⟩ (by simp [entryNode]) (by simp [entryNode]) (by simp [entryNode]) (by simp [AArena.alloc]; omega)).mono ?_
  rintro e w7 ⟨La2, N2, rfl, hA2, h7, e7⟩
  obtain ⟨cp, fp⟩ := h7.blk (b := p) (t := 41) (c := #[.pointer (some ⟨ga, 0, none⟩), .pointer (some ⟨ga + 1, 0, none⟩), .pointer (some ⟨g, 0, none⟩), .int .i64 a, .int .i64 b, .int .i64 0]) (by simp)
  have H7 := Lib.hid (And.intro h7 (e6.trans e7))
  have HA2 := Lib.hid hA2
  clear h7 e7 h6 e6 hA2 hA1 HA1
  simp only [AArena.allocRef, AArena.alloc, List.nil_append, List.length_cons, List.length_nil]
  go_wp2_with fail
  obtain ⟨h7, e7⟩ := H7.out
  generalize hEq : World.setCell _ _ _ = w8
  have h8 : Has w8 ((p, worldObj ga (ga + 1) g a b (refOf 1 1)) :: (La2 ++ ([(ga + 1, Obj.cells #[.slice none 0 0, .int .i64 records] 148)] ++ (Le ++ ((N2 ++ (N1 ++ [(q, Obj.cells #[.int .i64 (refOf 0 1)] 39)])) ++ R))))) := by
    rw [← hEq]
    exact (h7.perm (L' := (p, worldObj ga (ga + 1) g a b 0) :: (La2 ++ ([(ga + 1, Obj.cells #[.slice none 0 0, .int .i64 records] 148)] ++ (Le ++ ((N2 ++ (N1 ++ [(q, Obj.cells #[.int .i64 (refOf 0 1)] 39)])) ++ R))))) (perm_of_count fun x => by simp only [List.count_append, List.count_cons, List.count_nil, arenaObj, slotObj, nodeObj, worldObj]; omega)).set 5 _
  have e8 : Ext w w8 := by rw [← hEq]; exact e7.setCell _ _
  go_ret2
  refine ⟨p, (p, worldObj ga (ga + 1) g a b (refOf 1 1)) :: (La2 ++ ([(ga + 1, Obj.cells #[.slice none 0 0, .int .i64 records] 148)] ++ Le)), N2 ++ (N1 ++ [(q, Obj.cells #[.int .i64 (refOf 0 1)] 39)]), rfl,
    ⟨ga, ga + 1, g, La2, [(ga + 1, Obj.cells #[.slice none 0 0, .int .i64 records] 148)], Le, rfl, HA2.out.mono (by intro p hp; simp only [List.mem_append, List.mem_cons] at hp ⊢; grind), ⟨.slice none 0 0, [], [], [], rfl, Row.nil _ _ _, .nil⟩, hEp⟩, h8.perm (perm_of_count fun x => by simp only [List.count_append, List.count_cons, List.count_nil, arenaObj, slotObj, nodeObj, worldObj]; omega), e8⟩
end Go.Proofs.Ytjkfigkgeoacfaa
