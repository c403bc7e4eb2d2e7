/- WORDS, ENTRIES, SLOTS, WRITES: what they are, and what the small functions over them come to. Conditions: none. -/
import Derived.Test.YtmjanbhmpbhagaaLbB
import Derived.Test.YtmjanbhmpbhagaaLbS
set_option linter.unusedVariables false
set_option linter.unusedSimpArgs false
namespace Go.AM
structure Wd where
  v : Adr
  m : Adr
  deriving DecidableEq
structure En where
  w : Wd
  n : Int
  x : Int
  deriving DecidableEq
structure Sl where
  ok : Bool
  e : En
  deriving DecidableEq
structure Wr where
  k : Int
  s : Sl
  deriving DecidableEq
def Wd.c (w : Wd) : List AV := [u64 (hi w.v), u64 (lo w.v), u64 (hi w.m), u64 (lo w.m)]
def En.c (e : En) : List AV := [u64 (hi e.w.v), u64 (lo e.w.v), u64 (hi e.w.m), u64 (lo e.w.m), .int .i64 e.n, .int .i64 e.x]
def Sl.c (s : Sl) : List AV := [.bool s.ok, u64 (hi s.e.w.v), u64 (lo s.e.w.v), u64 (hi s.e.w.m), u64 (lo s.e.w.m), .int .i64 s.e.n, .int .i64 s.e.x]
def Wr.c (w : Wr) : List AV := [.int .i64 w.k, .bool w.s.ok, u64 (hi w.s.e.w.v), u64 (lo w.s.e.w.v), u64 (hi w.s.e.w.m), u64 (lo w.s.e.w.m), .int .i64 w.s.e.n, .int .i64 w.s.e.x]
def En.z : En := ⟨⟨0#128, 0#128⟩, 0, 0⟩
def Sl.z : Sl := ⟨false, En.z⟩
theorem Wd.len (w : Wd) : w.c.length = 4 := rfl
theorem En.len (e : En) : e.c.length = 6 := rfl
theorem Sl.len (s : Sl) : s.c.length = 7 := rfl
theorem Wr.len (w : Wr) : w.c.length = 8 := rfl
theorem En.fl (e : En) : AV.flats e.c = true := rfl
theorem Sl.fl (s : Sl) : AV.flats s.c = true := rfl
theorem Wr.fl (w : Wr) : AV.flats w.c = true := rfl
theorem Sl.get0 (s : Sl) : s.c[0]? = some (.bool s.ok) := rfl
theorem Sl.get5 (s : Sl) : s.c[5]? = some (.int .i64 s.e.n) := rfl
theorem Sl.get6 (s : Sl) : s.c[6]? = some (.int .i64 s.e.x) := rfl
theorem Sl.ent (s : Sl) : List.take 6 (List.drop 1 s.c) = s.e.c := rfl
theorem Sl.wrd (s : Sl) : List.take 4 (List.drop 1 s.c) = s.e.w.c := rfl
theorem En.wrd (e : En) : List.take 4 e.c = e.w.c := rfl
theorem En.get4 (e : En) : e.c[4]? = some (.int .i64 e.n) := rfl
theorem En.get5 (e : En) : e.c[5]? = some (.int .i64 e.x) := rfl
theorem Wr.get0 (w : Wr) : w.c[0]? = some (.int .i64 w.k) := rfl
theorem Wd.all (w : Wd) : List.take 4 w.c = w.c := rfl
theorem En.all (e : En) : List.take 6 e.c = e.c := rfl
theorem Sl.all (s : Sl) : List.take 7 s.c = s.c := rfl
theorem Wr.all (w : Wr) : List.take 8 w.c = w.c := rfl
theorem Wr.slt (w : Wr) : List.take 7 (List.drop 1 w.c) = w.s.c := rfl
theorem Sl.put (s : Sl) (a b d e f g h : AV) : putCells [a, b, d, e, f, g, h] 0 s.c = s.c := rfl
theorem En.put (e : En) (a b d x f g : AV) : putCells [a, b, d, x, f, g] 0 e.c = e.c := rfl
theorem Wr.put (w : Wr) (a b d e f g h i : AV) : putCells [a, b, d, e, f, g, h, i] 0 w.c = w.c := rfl
theorem Wr.mk1 (s : Sl) (a b d e f g h i : AV) : putCells [a, b, d, e, f, g, h, i] 1 s.c = a :: s.c := rfl
theorem Sl.mk1 (x : En) (a b d e f g h : AV) : putCells [a, b, d, e, f, g, h] 1 x.c = a :: x.c := rfl
theorem Sl.of (b : Bool) (x : En) : AV.bool b :: x.c = Sl.c ⟨b, x⟩ := rfl
theorem Wr.of (k : Int) (s : Sl) : AV.int .i64 k :: s.c = Wr.c ⟨k, s⟩ := rfl
theorem beqW (x y : Wd) : ((hi x.v == hi y.v) && ((lo x.v == lo y.v) && ((hi x.m == hi y.m) && (lo x.m == lo y.m)))) = decide (x = y) := by
  rw [← Bool.and_assoc, beqA, beqA]
  obtain ⟨a, b⟩ := x
  obtain ⟨d, e⟩ := y
  simp only [Wd.mk.injEq, Bool.decide_and]
  rfl
theorem beqE (x y : En) : ((hi x.w.v == hi y.w.v) && ((lo x.w.v == lo y.w.v) && ((hi x.w.m == hi y.w.m) && ((lo x.w.m == lo y.w.m) && ((x.n == y.n) && (x.x == y.x)))))) = decide (x = y) := by
  have h := beqW x.w y.w
  have e : decide (x = y) = (decide (x.w = y.w) && ((x.n == y.n) && (x.x == y.x))) := by
    obtain ⟨a, b, d⟩ := x
    obtain ⟨e, f, g⟩ := y
    simp only [En.mk.injEq, Bool.decide_and]
    rfl
  rw [e, ← h]
  simp only [Bool.and_assoc]
theorem eqE (x y : En) : eqLeaves [.int, .int, .int, .int, .int, .int] x.c y.c = some (decide (x = y)) := by
  rw [← beqE]
  simp only [En.c, go_sem, Nat.reduceAdd, Nat.reduceMul, Nat.reduceSub, Nat.reduceBEq, Nat.reduceEqDiff, Nat.reduceLeDiff, Nat.reduceLT, Nat.reduceBneDiff, Int.reduceAdd, Int.cast_ofNat_Int, Int.toNat_natCast, Int.reduceLE, Int.reduceLT, Int.reduceToNat, Int.reduceEq, ↓reduceIte]
theorem eqS (x y : Sl) : eqLeaves [.bool, .int, .int, .int, .int, .int, .int] x.c y.c = some (decide (x = y)) := by
  have h := beqE x.e y.e
  have e : decide (x = y) = ((x.ok == y.ok) && decide (x.e = y.e)) := by
    obtain ⟨a, b⟩ := x
    obtain ⟨e, f⟩ := y
    simp only [Sl.mk.injEq, Bool.decide_and]
    rfl
  rw [e, ← h]
  simp only [Sl.c, go_sem, Nat.reduceAdd, Nat.reduceMul, Nat.reduceSub, Nat.reduceBEq, Nat.reduceEqDiff, Nat.reduceLeDiff, Nat.reduceLT, Nat.reduceBneDiff, Int.reduceAdd, Int.cast_ofNat_Int, Int.toNat_natCast, Int.reduceLE, Int.reduceLT, Int.reduceToNat, Int.reduceEq, ↓reduceIte]
theorem eqS0 (x : Sl) : eqLeaves [.bool, .int, .int, .int, .int, .int, .int] x.c [.bool false, u64 0#64, u64 0#64, u64 0#64, u64 0#64, .int .i64 0, .int .i64 0] = some (decide (x = Sl.z)) := eqS x Sl.z
theorem eqWr (x y : Wr) : eqLeaves [.int, .bool, .int, .int, .int, .int, .int, .int] x.c y.c = some (decide (x = y)) := by
  have h := beqE x.s.e y.s.e
  have e : decide (x = y) = ((x.k == y.k) && ((x.s.ok == y.s.ok) && decide (x.s.e = y.s.e))) := by
    obtain ⟨k, a, b⟩ := x
    obtain ⟨j, e, f⟩ := y
    simp only [Wr.mk.injEq, Sl.mk.injEq, Bool.decide_and]
    rfl
  rw [e, ← h]
  simp only [Wr.c, go_sem, Nat.reduceAdd, Nat.reduceMul, Nat.reduceSub, Nat.reduceBEq, Nat.reduceEqDiff, Nat.reduceLeDiff, Nat.reduceLT, Nat.reduceBneDiff, Int.reduceAdd, Int.cast_ofNat_Int, Int.toNat_natCast, Int.reduceLE, Int.reduceLT, Int.reduceToNat, Int.reduceEq, ↓reduceIte]
/- WORDS -/
def differA (a b m : Adr) : Adr := (a ^^^ b) &&& m
def Wd.clean (w : Wd) : Wd := ⟨w.v &&& w.m, w.m⟩
def Wd.right (w : Wd) : Bool := decide (w = w.clean)
def Wd.matches (w : Wd) (a : Adr) : Bool := differA w.v a w.m == 0#128
def Wd.covers (x y : Wd) : Bool := (x.m &&& y.m == x.m) && x.matches y.v
def Wd.meet (x y : Wd) : Bool := differA x.v y.v (x.m &&& y.m) == 0#128
def Wd.ofP (a : Adr) (n : Int) : Wd := ⟨cutA a (near n), maskA (near n)⟩
/- ENTRIES -/
def En.right (e : En) : Bool := e.w.right && (decide (0 ≤ e.n) && (decide (e.n ≤ 128) && (decide (1 ≤ e.x) && decide (e.x ≤ 255))))
def En.above (x y : En) : Bool := decide (y.n < x.n) && x.w.meet y.w
def En.alike (x y : En) : Bool := decide (x.w = y.w) && (x.n == y.n)
def En.ofP (a : Adr) (n x : Int) : En := ⟨Wd.ofP a n, near n, x⟩
def mayW (w : Wr) (n : Int) : Bool := decide (0 ≤ w.k) && (decide (w.k < n) && (decide (w.s = Sl.z) || (w.s.ok && w.s.e.right)))
def cmpI (a b : Int) : Int := if a < b then -1 else if b < a then 1 else 0
theorem near_near (n : Int) : near ((near n : Nat) : Int) = near n := by unfold near; omega
theorem cutA_cutA (a : Adr) (n : Nat) : cutA (cutA a n) n = cutA a n := by unfold cutA; rw [BitVec.and_assoc, BitVec.and_self]
theorem hi_cutA (a : Adr) (n : Nat) : hi (cutA a n) = hi a &&& hi (maskA n) := hi_and _ _
theorem lo_cutA (a : Adr) (n : Nat) : lo (cutA a n) = lo a &&& lo (maskA n) := lo_and _ _
end Go.AM
namespace Go.Proofs.Ytmjanbhmpbhagaa.C
open Go.AM
variable {hook : Nat → Nat → List AV → Heap → Option (AV × Heap)} {lim : Nat} {H : Heap}
theorem ev_differ (a b m : Adr) : ev (PX hook) lim 75 [.agg [u64 (hi a), u64 (lo a)], .agg [u64 (hi b), u64 (lo b)], .agg [u64 (hi m), u64 (lo m)]] H = some (.agg [u64 (hi (differA a b m)), u64 (lo (differA a b m))], H) := by
  refine ev_own _ (PF t75) rfl (by decide) ?_
  simp only [f75, go_sem, Nat.reduceAdd, Nat.reduceMul, Nat.reduceSub, Nat.reduceBEq, Nat.reduceEqDiff, Nat.reduceLeDiff, Nat.reduceLT, Nat.reduceBneDiff, Int.reduceAdd, Int.cast_ofNat_Int, Int.toNat_natCast, Int.reduceLE, Int.reduceLT, Int.reduceToNat, Int.reduceEq, ↓reduceIte, ev_Xor, ev_And, differA, hi_and, lo_and, hi_xor, lo_xor]
theorem ev_clean (w : Wd) : ev (PX hook) lim 83 [.agg w.c] H = some (.agg w.clean.c, H) := by
  refine ev_own _ (PF t83) rfl (by decide) ?_
  simp only [f83, go_sem, Nat.reduceAdd, Nat.reduceMul, Nat.reduceSub, Nat.reduceBEq, Nat.reduceEqDiff, Nat.reduceLeDiff, Nat.reduceLT, Nat.reduceBneDiff, Int.reduceAdd, Int.cast_ofNat_Int, Int.toNat_natCast, Int.reduceLE, Int.reduceLT, Int.reduceToNat, Int.reduceEq, ↓reduceIte, ev_And, Wd.c, Wd.clean, hi_and, lo_and]
theorem ev_WRight (w : Wd) : ev (PX hook) lim 55 [.agg w.c] H = some (.bool w.right, H) := by
  refine ev_own _ (PF t55) rfl (by decide) ?_
  have e := beqW w w.clean
  have cl := fun H => ev_clean (hook := hook) (lim := lim) (H := H) w
  unfold Wd.right
  rw [← e]
  simp only [Wd.c] at *
  simp only [f55, go_sem, Nat.reduceAdd, Nat.reduceMul, Nat.reduceSub, Nat.reduceBEq, Nat.reduceEqDiff, Nat.reduceLeDiff, Nat.reduceLT, Nat.reduceBneDiff, Int.reduceAdd, Int.cast_ofNat_Int, Int.toNat_natCast, Int.reduceLE, Int.reduceLT, Int.reduceToNat, Int.reduceEq, ↓reduceIte, ev_clean, Wd.c, show ∀ lim H, ev (PX hook) lim 83 [.agg [u64 (hi w.v), u64 (lo w.v), u64 (hi w.m), u64 (lo w.m)]] H = some (.agg w.clean.c, H) from fun lim H => ev_clean w]
theorem ev_WMatch (w : Wd) (a : Adr) : ev (PX hook) lim 86 [.agg w.c, .agg [u64 (hi a), u64 (lo a)]] H = some (.bool (w.matches a), H) := by
  refine ev_own _ (PF t86) rfl (by decide) ?_
  have e := beqA (differA w.v a w.m) 0#128
  rw [hi_zero, lo_zero] at e
  simp only [f86, go_sem, Nat.reduceAdd, Nat.reduceMul, Nat.reduceSub, Nat.reduceBEq, Nat.reduceEqDiff, Nat.reduceLeDiff, Nat.reduceLT, Nat.reduceBneDiff, Int.reduceAdd, Int.cast_ofNat_Int, Int.toNat_natCast, Int.reduceLE, Int.reduceLT, Int.reduceToNat, Int.reduceEq, ↓reduceIte, ev_differ, Wd.c, Wd.matches, e]
theorem ev_WMeet (x y : Wd) : ev (PX hook) lim 42 [.agg x.c, .agg y.c] H = some (.bool (x.meet y), H) := by
  refine ev_own _ (PF t42) rfl (by decide) ?_
  have e := beqA (differA x.v y.v (x.m &&& y.m)) 0#128
  rw [hi_zero, lo_zero] at e
  have ed := fun lim H => ev_differ (hook := hook) (lim := lim) (H := H) x.v y.v (x.m &&& y.m)
  simp only [hi_and, lo_and] at ed
  simp only [f42, go_sem, Nat.reduceAdd, Nat.reduceMul, Nat.reduceSub, Nat.reduceBEq, Nat.reduceEqDiff, Nat.reduceLeDiff, Nat.reduceLT, Nat.reduceBneDiff, Int.reduceAdd, Int.cast_ofNat_Int, Int.toNat_natCast, Int.reduceLE, Int.reduceLT, Int.reduceToNat, Int.reduceEq, ↓reduceIte, ev_And, ed, Wd.c, Wd.meet, e]
theorem ev_WOf (a : Adr) (n : Int) : ev (PX hook) lim 73 [.agg [u64 (hi a), u64 (lo a), .int .i64 n]] H = some (.agg (Wd.ofP a n).c, H) := by
  refine ev_own _ (PF t73) rfl (by decide) ?_
  simp only [f73, go_sem, Nat.reduceAdd, Nat.reduceMul, Nat.reduceSub, Nat.reduceBEq, Nat.reduceEqDiff, Nat.reduceLeDiff, Nat.reduceLT, Nat.reduceBneDiff, Int.reduceAdd, Int.cast_ofNat_Int, Int.toNat_natCast, Int.reduceLE, Int.reduceLT, Int.reduceToNat, Int.reduceEq, ↓reduceIte, ev_Make, ev_Mask, near_near, Wd.c, Wd.ofP]
theorem ev_EOf (a : Adr) (n x : Int) : ev (PX hook) lim 43 [.agg [u64 (hi a), u64 (lo a), .int .i64 n], .int .i64 x] H = some (.agg (En.ofP a n x).c, H) := by
  refine ev_own _ (PF t43) rfl (by decide) ?_
  simp only [f43, go_sem, Nat.reduceAdd, Nat.reduceMul, Nat.reduceSub, Nat.reduceBEq, Nat.reduceEqDiff, Nat.reduceLeDiff, Nat.reduceLT, Nat.reduceBneDiff, Int.reduceAdd, Int.cast_ofNat_Int, Int.toNat_natCast, Int.reduceLE, Int.reduceLT, Int.reduceToNat, Int.reduceEq, ↓reduceIte, ev_WOf, ev_Make, Wd.c, En.c, En.ofP]
theorem ev_ERight (e : En) : ev (PX hook) lim 24 [.agg e.c] H = some (.bool e.right, H) := by
  refine ev_own _ (PF t24) rfl (by decide) ?_
  have h := fun lim H => ev_WRight (hook := hook) (lim := lim) (H := H) e.w
  simp only [Wd.c] at h
  unfold En.right
  cases h1 : e.w.right <;> cases h2 : decide (0 ≤ e.n) <;> cases h3 : decide (e.n ≤ 128) <;> cases h4 : decide (1 ≤ e.x) <;> cases h5 : decide (e.x ≤ 255) <;>
    simp only [f24, go_sem, Nat.reduceAdd, Nat.reduceMul, Nat.reduceSub, Nat.reduceBEq, Nat.reduceEqDiff, Nat.reduceLeDiff, Nat.reduceLT, Nat.reduceBneDiff, Int.reduceAdd, Int.cast_ofNat_Int, Int.toNat_natCast, Int.reduceLE, Int.reduceLT, Int.reduceToNat, Int.reduceEq, ↓reduceIte, h, En.c, h1, h2, h3, h4, h5, ge_iff_le]
theorem ev_EAbove (x y : En) : ev (PX hook) lim 88 [.agg x.c, .agg y.c] H = some (.bool (x.above y), H) := by
  refine ev_own _ (PF t88) rfl (by decide) ?_
  have h := fun lim H => ev_WMeet (hook := hook) (lim := lim) (H := H) x.w y.w
  simp only [Wd.c] at h
  unfold En.above
  cases h1 : decide (y.n < x.n) <;> simp only [f88, go_sem, Nat.reduceAdd, Nat.reduceMul, Nat.reduceSub, Nat.reduceBEq, Nat.reduceEqDiff, Nat.reduceLeDiff, Nat.reduceLT, Nat.reduceBneDiff, Int.reduceAdd, Int.cast_ofNat_Int, Int.toNat_natCast, Int.reduceLE, Int.reduceLT, Int.reduceToNat, Int.reduceEq, ↓reduceIte, h, En.c, h1, gt_iff_lt]
theorem ev_EAlike (x y : En) : ev (PX hook) lim 26 [.agg x.c, .agg y.c] H = some (.bool (x.alike y), H) := by
  refine ev_own _ (PF t26) rfl (by decide) ?_
  have e := beqW x.w y.w
  unfold En.alike
  cases h1 : decide (x.w = y.w) <;> rw [h1] at e <;> simp only [f26, go_sem, Nat.reduceAdd, Nat.reduceMul, Nat.reduceSub, Nat.reduceBEq, Nat.reduceEqDiff, Nat.reduceLeDiff, Nat.reduceLT, Nat.reduceBneDiff, Int.reduceAdd, Int.cast_ofNat_Int, Int.toNat_natCast, Int.reduceLE, Int.reduceLT, Int.reduceToNat, Int.reduceEq, ↓reduceIte, En.c, e]
theorem ev_rAlike (x y : En) : ev (PX hook) lim 50 [.agg x.c, .agg y.c] H = some (.bool (x.alike y), H) := by
  refine ev_own _ (PF t50) rfl (by decide) ?_
  have e := beqW x.w y.w
  unfold En.alike
  cases h1 : decide (x.w = y.w) <;> rw [h1] at e <;> simp only [f50, go_sem, Nat.reduceAdd, Nat.reduceMul, Nat.reduceSub, Nat.reduceBEq, Nat.reduceEqDiff, Nat.reduceLeDiff, Nat.reduceLT, Nat.reduceBneDiff, Int.reduceAdd, Int.cast_ofNat_Int, Int.toNat_natCast, Int.reduceLE, Int.reduceLT, Int.reduceToNat, Int.reduceEq, ↓reduceIte, En.c, e]
theorem ev_law04Of (w : Wd) : ev (PX hook) lim 54 [.agg w.c] H = some (.agg w.c, H) := by
  refine ev_own _ (PF t54) rfl (by decide) ?_
  simp only [f54, go_sem, Nat.reduceAdd, Nat.reduceMul, Nat.reduceSub, Nat.reduceBEq, Nat.reduceEqDiff, Nat.reduceLeDiff, Nat.reduceLT, Nat.reduceBneDiff, Int.reduceAdd, Int.cast_ofNat_Int, Int.toNat_natCast, Int.reduceLE, Int.reduceLT, Int.reduceToNat, Int.reduceEq, ↓reduceIte, Wd.c]
theorem ev_law05One (e : En) : ev (PX hook) lim 23 [.agg e.c] H = some (.agg e.c, H) := by
  refine ev_own _ (PF t23) rfl (by decide) ?_
  have h := fun lim H => ev_law04Of (hook := hook) (lim := lim) (H := H) e.w
  simp only [Wd.c] at h
  simp only [f23, go_sem, Nat.reduceAdd, Nat.reduceMul, Nat.reduceSub, Nat.reduceBEq, Nat.reduceEqDiff, Nat.reduceLeDiff, Nat.reduceLT, Nat.reduceBneDiff, Int.reduceAdd, Int.cast_ofNat_Int, Int.toNat_natCast, Int.reduceLE, Int.reduceLT, Int.reduceToNat, Int.reduceEq, ↓reduceIte, En.c, h]
theorem ev_law08One (s : Sl) : ev (PX hook) lim 44 [.agg s.c] H = some (.agg s.c, H) := by
  refine ev_own _ (PF t44) rfl (by decide) ?_
  have h := fun lim H => ev_law05One (hook := hook) (lim := lim) (H := H) s.e
  simp only [En.c] at h
  simp only [f44, go_sem, Nat.reduceAdd, Nat.reduceMul, Nat.reduceSub, Nat.reduceBEq, Nat.reduceEqDiff, Nat.reduceLeDiff, Nat.reduceLT, Nat.reduceBneDiff, Int.reduceAdd, Int.cast_ofNat_Int, Int.toNat_natCast, Int.reduceLE, Int.reduceLT, Int.reduceToNat, Int.reduceEq, ↓reduceIte, Sl.c, h]
theorem ev_rRight8 (e : En) : ev (PX hook) lim 48 [.agg e.c] H = some (.bool e.right, H) := by
  refine ev_own _ (PF t48) rfl (by decide) ?_
  have b := beqA (e.w.v &&& e.w.m) e.w.v
  have r : e.w.right = (e.w.v &&& e.w.m == e.w.v) := by
    unfold Wd.right Wd.clean
    rw [Bool.eq_iff_iff, decide_eq_true_eq, beq_iff_eq]
    constructor
    · intro h; exact (congrArg Wd.v h).symm
    · intro h; rw [h]
  unfold En.right
  rw [r]
  cases h1 : (e.w.v &&& e.w.m == e.w.v) <;> rw [h1] at b <;> cases h2 : decide (0 ≤ e.n) <;> cases h3 : decide (e.n ≤ 128) <;> cases h4 : decide (1 ≤ e.x) <;> cases h5 : decide (e.x ≤ 255) <;>
    simp only [f48, go_sem, Nat.reduceAdd, Nat.reduceMul, Nat.reduceSub, Nat.reduceBEq, Nat.reduceEqDiff, Nat.reduceLeDiff, Nat.reduceLT, Nat.reduceBneDiff, Int.reduceAdd, Int.cast_ofNat_Int, Int.toNat_natCast, Int.reduceLE, Int.reduceLT, Int.reduceToNat, Int.reduceEq, ↓reduceIte, ev_Op, En.c, b, h2, h3, h4, h5, ge_iff_le]
theorem ev_Order (n : Int) : ev (PX hook) lim 21 [.int .i64 n] H = some (.bool ((n == 0) || (n == 1)), H) := by
  refine ev_own _ (PF t21) rfl (by decide) ?_
  cases h : (n == 0) <;> simp only [f21, go_sem, Nat.reduceAdd, Nat.reduceMul, Nat.reduceSub, Nat.reduceBEq, Nat.reduceEqDiff, Nat.reduceLeDiff, Nat.reduceLT, Nat.reduceBneDiff, Int.reduceAdd, Int.cast_ofNat_Int, Int.toNat_natCast, Int.reduceLE, Int.reduceLT, Int.reduceToNat, Int.reduceEq, ↓reduceIte, h]
theorem ev_ploEmpty (s : Sl) : ev (PX hook) lim 101 [.agg s.c] H = some (.bool (!s.ok), H) := by
  refine ev_own _ (PF t101) rfl (by decide) ?_
  simp only [f101, go_sem, Nat.reduceAdd, Nat.reduceMul, Nat.reduceSub, Nat.reduceBEq, Nat.reduceEqDiff, Nat.reduceLeDiff, Nat.reduceLT, Nat.reduceBneDiff, Int.reduceAdd, Int.cast_ofNat_Int, Int.toNat_natCast, Int.reduceLE, Int.reduceLT, Int.reduceToNat, Int.reduceEq, ↓reduceIte, Sl.c]
theorem ev_May (w : Wr) (n : Int) : ev (PX hook) lim 57 [.agg w.c, .int .i64 n] H = some (.bool (mayW w n), H) := by
  refine ev_own _ (PF t57) rfl (by decide) ?_
  have h := fun lim H => ev_ERight (hook := hook) (lim := lim) (H := H) w.s.e
  simp only [En.c] at h
  have e := eqS0 w.s
  simp only [Sl.c] at e
  unfold mayW
  cases h1 : decide (0 ≤ w.k) <;> cases h2 : decide (w.k < n) <;> cases h3 : decide (w.s = Sl.z) <;> rw [h3] at e <;> cases h4 : w.s.ok <;> rw [h4] at e <;>
    simp only [f57, go_sem, Nat.reduceAdd, Nat.reduceMul, Nat.reduceSub, Nat.reduceBEq, Nat.reduceEqDiff, Nat.reduceLeDiff, Nat.reduceLT, Nat.reduceBneDiff, Int.reduceAdd, Int.cast_ofNat_Int, Int.toNat_natCast, Int.reduceLE, Int.reduceLT, Int.reduceToNat, Int.reduceEq, ↓reduceIte, h, Wr.c, e, h1, h2, h3, h4, ge_iff_le]
theorem ev_isNaN (n : Int) : ev (PX hook) lim 108 [.int .i64 n] H = some (.bool false, H) := by
  refine ev_own _ (PF t108) rfl (by decide) ?_
  have h : (n != n) = false := by simp
  simp only [f108, go_sem, Nat.reduceAdd, Nat.reduceMul, Nat.reduceSub, Nat.reduceBEq, Nat.reduceEqDiff, Nat.reduceLeDiff, Nat.reduceLT, Nat.reduceBneDiff, Int.reduceAdd, Int.cast_ofNat_Int, Int.toNat_natCast, Int.reduceLE, Int.reduceLT, Int.reduceToNat, Int.reduceEq, ↓reduceIte, h]
end Go.Proofs.Ytmjanbhmpbhagaa.C
namespace Go.AM
attribute [go_sem] En.fl Sl.fl Wr.fl Wd.all En.all Sl.all Wr.all Wd.len En.len Sl.len Wr.len Sl.get0 Sl.get5 Sl.get6 Sl.ent Sl.wrd En.wrd En.get4 En.get5 Wr.get0 Wr.slt Sl.put En.put Wr.put Wr.mk1 Sl.mk1 Sl.of Wr.of eqE eqS eqS0 eqWr
end Go.AM
