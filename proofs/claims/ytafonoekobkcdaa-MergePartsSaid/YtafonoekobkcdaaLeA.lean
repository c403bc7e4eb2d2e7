/- WORDS MERGED: how many bits, what covers, what two words that differ in one bit are merged to: the program's. Conditions: none. -/
import Derived.Test.YtafonoekobkcdaaLdB
set_option linter.unusedVariables false
set_option linter.unusedSimpArgs false
namespace Go.AM
def andI (a b : Int) : Int := IntKind.wrap .i64 (BitVec.ofInt 64 a &&& BitVec.ofInt 64 b).toNat
theorem binV_i_and (a b : Int) : binV .and (.int .i64 a) (.int .i64 b) = some (.int .i64 (andI a b)) := rfl
/-- The bits of a word, added up by halves. -/
def pop1 (x : BitVec 64) : BitVec 64 := (x >>> 1 &&& 6148914691236517205#64) + (x &&& 6148914691236517205#64)
def pop2 (x : BitVec 64) : BitVec 64 := (x >>> 2 &&& 3689348814741910323#64) + (x &&& 3689348814741910323#64)
def pop3 (x : BitVec 64) : BitVec 64 := (x >>> 4 + x) &&& 1085102592571150095#64
def popS (k : Nat) (x : BitVec 64) : BitVec 64 := x + x >>> k
def pop64 (x : BitVec 64) : BitVec 64 := popS 32 (popS 16 (popS 8 (pop3 (pop2 (pop1 x)))))
def ones64 (x : BitVec 64) : Int := andI (IntKind.wrap .i64 ((pop64 x).toNat : Int)) 127
theorem ones64_bd (x : BitVec 64) : 0 ≤ ones64 x ∧ ones64 x ≤ 127 := by
  unfold ones64 andI
  have h : (BitVec.ofInt 64 (IntKind.wrap .i64 ((pop64 x).toNat : Int)) &&& BitVec.ofInt 64 127).toNat ≤ 127 := by
    rw [BitVec.toNat_and]
    exact Nat.and_le_right
  rw [wrap_i64] <;> omega
def onesA (a : Adr) : Int := ones64 (hi a) + ones64 (lo a)
/-- What two words are merged to, if they differ in one bit. -/
def Wd.merge (x y : Wd) : Option Wd := if x.m = y.m ∧ onesA (differA x.v y.v x.m) = 1 then some (Wd.clean ⟨x.v, x.m ^^^ differA x.v y.v x.m⟩) else none
def Wd.z : Wd := ⟨0#128, 0#128⟩
def bitO {α : Type} (o : Option α) : Bool := o.isSome
end Go.AM
namespace Go.Proofs.Ytafonoekobkcdaa.C
open Go.AM
variable {hook : Nat → Nat → List AV → Heap → Option (AV × Heap)} {lim : Nat} {H : Heap}
theorem ev_OnesCount (x : BitVec 64) : ev (PX hook) lim 61 [u64 x] H = some (.int .i64 (ones64 x), H) := by
  refine ev_own _ (PF t61) rfl (by decide) ?_
  have l5 : AV.int .u64 6148914691236517205 = u64 6148914691236517205#64 := rfl
  have l3 : AV.int .u64 3689348814741910323 = u64 3689348814741910323#64 := rfl
  have l0 : AV.int .u64 1085102592571150095 = u64 1085102592571150095#64 := rfl
  have k4 : AV.int .u64 4 = u64 4#64 := rfl
  have k8 : AV.int .u64 8 = u64 8#64 := rfl
  have k16 : AV.int .u64 16 = u64 16#64 := rfl
  have k32 : AV.int .u64 32 = u64 32#64 := rfl
  have s1 := fun y : BitVec 64 => binV_shr y .u64 1
  have s2 := fun y : BitVec 64 => binV_shr y .u64 2
  have s4 := fun y : BitVec 64 => binV_shr y .u64 4
  have s8 := fun y : BitVec 64 => binV_shr y .u64 8
  have s16 := fun y : BitVec 64 => binV_shr y .u64 16
  have s32 := fun y : BitVec 64 => binV_shr y .u64 32
  have e1 : AV.int .u64 ((1 : Nat) : Int) = u64 1#64 := rfl
  have e2 : AV.int .u64 ((2 : Nat) : Int) = u64 2#64 := rfl
  have e4 : AV.int .u64 ((4 : Nat) : Int) = u64 4#64 := rfl
  have e8 : AV.int .u64 ((8 : Nat) : Int) = u64 8#64 := rfl
  have e16 : AV.int .u64 ((16 : Nat) : Int) = u64 16#64 := rfl
  have e32 : AV.int .u64 ((32 : Nat) : Int) = u64 32#64 := rfl
  rw [e1] at s1; rw [e2] at s2; rw [e4] at s4; rw [e8] at s8; rw [e16] at s16; rw [e32] at s32
  have hc : convV .i64 (u64 (pop64 x)) = some (.int .i64 (IntKind.wrap .i64 ((pop64 x).toNat : Int))) := rfl
  have p1 : (x >>> 1 &&& 6148914691236517205#64) + (x &&& 6148914691236517205#64) = pop1 x := rfl
  have p2 : ∀ x : BitVec 64, (x >>> 2 &&& 3689348814741910323#64) + (x &&& 3689348814741910323#64) = pop2 x := fun _ => rfl
  have p3 : ∀ x : BitVec 64, (x >>> 4 + x) &&& 1085102592571150095#64 = pop3 x := fun _ => rfl
  have p8 : ∀ x : BitVec 64, x + x >>> 8 = popS 8 x := fun _ => rfl
  have p16 : ∀ x : BitVec 64, x + x >>> 16 = popS 16 x := fun _ => rfl
  have p32 : ∀ x : BitVec 64, x + x >>> 32 = popS 32 x := fun _ => rfl
  have p : popS 32 (popS 16 (popS 8 (pop3 (pop2 (pop1 x))))) = pop64 x := rfl
  simp only [f61, go_sem, Nat.reduceAdd, Nat.reduceMul, Nat.reduceSub, Nat.reduceBEq, Nat.reduceEqDiff, Nat.reduceLeDiff, Nat.reduceLT, Nat.reduceBneDiff, Int.reduceAdd, Int.cast_ofNat_Int, Int.toNat_natCast, Int.reduceLE, Int.reduceLT, Int.reduceToNat, Int.reduceEq, ↓reduceIte, l5, l3, l0, k4, k8, k16, k32, s1, s2, s4, s8, s16, s32, p1, p2, p3, p8, p16, p32, p, hc, binV_i_and, ones64]
theorem ev_Ones (a b : BitVec 64) : ev (PX hook) lim 39 [.agg [u64 a, u64 b]] H = some (.int .i64 (ones64 a + ones64 b), H) := by
  refine ev_own _ (PF t39) rfl (by decide) ?_
  have h1 := ones64_bd a
  have h2 := ones64_bd b
  have a1 : IntKind.wrap .i64 (ones64 a + ones64 b) = ones64 a + ones64 b := by rw [wrap_i64] <;> omega
  simp only [f39, go_sem, Nat.reduceAdd, Nat.reduceMul, Nat.reduceSub, Nat.reduceBEq, Nat.reduceEqDiff, Nat.reduceLeDiff, Nat.reduceLT, Nat.reduceBneDiff, Int.reduceAdd, Int.cast_ofNat_Int, Int.toNat_natCast, Int.reduceLE, Int.reduceLT, Int.reduceToNat, Int.reduceEq, ↓reduceIte, ev_OnesCount, a1]
theorem ev_Free' (w : Wd) : ev (PX hook) lim 22 [.agg w.c] H = some (.int .i64 (onesA (~~~w.m)), H) := by
  refine ev_own _ (PF t22) rfl (by decide) ?_
  simp only [f22, go_sem, Nat.reduceAdd, Nat.reduceMul, Nat.reduceSub, Nat.reduceBEq, Nat.reduceEqDiff, Nat.reduceLeDiff, Nat.reduceLT, Nat.reduceBneDiff, Int.reduceAdd, Int.cast_ofNat_Int, Int.toNat_natCast, Int.reduceLE, Int.reduceLT, Int.reduceToNat, Int.reduceEq, ↓reduceIte, Wd.c, ev_Not, ev_Ones, onesA, hi_not, lo_not]
theorem ev_WCovers (x y : Wd) : ev (PX hook) lim 20 [.agg x.c, .agg y.c] H = some (.bool (x.covers y), H) := by
  refine ev_own _ (PF t20) rfl (by decide) ?_
  have e := beqA (x.m &&& y.m) x.m
  simp only [hi_and, lo_and] at e
  have hm := fun lim H => ev_WMatch (hook := hook) (lim := lim) (H := H) x y.v
  simp only [Wd.c] at hm
  unfold Wd.covers
  cases hb : (x.m &&& y.m == x.m)
  · rw [hb] at e
    simp only [f20, go_sem, Nat.reduceAdd, Nat.reduceMul, Nat.reduceSub, Nat.reduceBEq, Nat.reduceEqDiff, Nat.reduceLeDiff, Nat.reduceLT, Nat.reduceBneDiff, Int.reduceAdd, Int.cast_ofNat_Int, Int.toNat_natCast, Int.reduceLE, Int.reduceLT, Int.reduceToNat, Int.reduceEq, ↓reduceIte, Wd.c, ev_And, e]
  · rw [hb] at e
    simp only [f20, go_sem, Nat.reduceAdd, Nat.reduceMul, Nat.reduceSub, Nat.reduceBEq, Nat.reduceEqDiff, Nat.reduceLeDiff, Nat.reduceLT, Nat.reduceBneDiff, Int.reduceAdd, Int.cast_ofNat_Int, Int.toNat_natCast, Int.reduceLE, Int.reduceLT, Int.reduceToNat, Int.reduceEq, ↓reduceIte, Wd.c, ev_And, e, hm]
theorem ev_WMerge (x y : Wd) : ev (PX hook) lim 45 [.agg x.c, .agg y.c] H = some (.tup [.agg ((x.merge y).getD Wd.z).c, .bool (x.merge y).isSome], H) := by
  refine ev_own _ (PF t45) rfl (by decide) ?_
  have e := beqA x.m y.m
  have hd := fun lim H => ev_differ (hook := hook) (lim := lim) (H := H) x.v y.v x.m
  generalize hD : differA x.v y.v x.m = D at hd
  have ho := fun lim H => ev_Ones (hook := hook) (lim := lim) (H := H) (hi D) (lo D)
  have hcl := fun lim H => ev_clean (hook := hook) (lim := lim) (H := H) ⟨x.v, x.m ^^^ D⟩
  simp only [Wd.c, hi_xor, lo_xor] at hcl
  have hz : Wd.c Wd.z = [u64 0#64, u64 0#64, u64 0#64, u64 0#64] := rfl
  have hone : ones64 (hi D) + ones64 (lo D) = onesA D := rfl
  unfold Wd.merge
  rw [hD]
  by_cases hm : x.m = y.m
  · have e1 : (hi x.m == hi y.m && lo x.m == lo y.m) = true := by rw [e]; simp [hm]
    by_cases h1 : onesA D = 1
    · have d1 : (onesA D != 1) = false := by simp [h1]
      rw [if_pos ⟨hm, h1⟩]
      have e2 : ((hi x.m == hi y.m && lo x.m == lo y.m) != true) = false := by rw [e1]; rfl
      simp only [f45, go_sem, Nat.reduceAdd, Nat.reduceMul, Nat.reduceSub, Nat.reduceBEq, Nat.reduceEqDiff, Nat.reduceLeDiff, Nat.reduceLT, Nat.reduceBneDiff, Int.reduceAdd, Int.cast_ofNat_Int, Int.toNat_natCast, Int.reduceLE, Int.reduceLT, Int.reduceToNat, Int.reduceEq, ↓reduceIte, Wd.c, hd, ho, hone, e1, d1, ev_Xor, hcl, Option.getD_some, Option.isSome_some]
      try simp only [go_sem, Nat.reduceAdd, Nat.reduceMul, Nat.reduceSub, Nat.reduceBEq, Nat.reduceEqDiff, Nat.reduceLeDiff, Nat.reduceLT, Nat.reduceBneDiff, Int.reduceAdd, Int.cast_ofNat_Int, Int.toNat_natCast, Int.reduceLE, Int.reduceLT, Int.reduceToNat, Int.reduceEq, ↓reduceIte, Wd.clean]
    · have d1 : (onesA D != 1) = true := by simp [h1]
      rw [if_neg (fun h => h1 h.2)]
      simp only [f45, go_sem, Nat.reduceAdd, Nat.reduceMul, Nat.reduceSub, Nat.reduceBEq, Nat.reduceEqDiff, Nat.reduceLeDiff, Nat.reduceLT, Nat.reduceBneDiff, Int.reduceAdd, Int.cast_ofNat_Int, Int.toNat_natCast, Int.reduceLE, Int.reduceLT, Int.reduceToNat, Int.reduceEq, ↓reduceIte, Wd.c, hd, ho, hone, e1, d1, hz, Option.getD_none, Option.isSome_none]
      try simp only [go_sem, Nat.reduceAdd, Nat.reduceMul, Nat.reduceSub, Nat.reduceBEq, Nat.reduceEqDiff, Nat.reduceLeDiff, Nat.reduceLT, Nat.reduceBneDiff, Int.reduceAdd, Int.cast_ofNat_Int, Int.toNat_natCast, Int.reduceLE, Int.reduceLT, Int.reduceToNat, Int.reduceEq, ↓reduceIte, Wd.z, hi_zero, lo_zero]
  · have e1 : (hi x.m == hi y.m && lo x.m == lo y.m) = false := by rw [e]; simp [hm]
    rw [if_neg (fun h => hm h.1)]
    simp only [f45, go_sem, Nat.reduceAdd, Nat.reduceMul, Nat.reduceSub, Nat.reduceBEq, Nat.reduceEqDiff, Nat.reduceLeDiff, Nat.reduceLT, Nat.reduceBneDiff, Int.reduceAdd, Int.cast_ofNat_Int, Int.toNat_natCast, Int.reduceLE, Int.reduceLT, Int.reduceToNat, Int.reduceEq, ↓reduceIte, Wd.c, hd, e1, hz, Option.getD_none, Option.isSome_none]
    try simp only [go_sem, Nat.reduceAdd, Nat.reduceMul, Nat.reduceSub, Nat.reduceBEq, Nat.reduceEqDiff, Nat.reduceLeDiff, Nat.reduceLT, Nat.reduceBneDiff, Int.reduceAdd, Int.cast_ofNat_Int, Int.toNat_natCast, Int.reduceLE, Int.reduceLT, Int.reduceToNat, Int.reduceEq, ↓reduceIte, Wd.z, hi_zero, lo_zero]
end Go.Proofs.Ytafonoekobkcdaa.C
