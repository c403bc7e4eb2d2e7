/- TrieFull's function is true whatever comes in. Conditions: none. -/
import Derived.Test.YtdapdfaejemgdaaLbX
set_option linter.unusedVariables false
set_option linter.unusedSimpArgs false
namespace Go.Proofs.Ytdapdfaejemgdaa.C
open Go.AM
variable {hook : Nat → Nat → List AV → Heap → Option (AV × Heap)} {lim : Nat} {H : Heap}
theorem Kept.low {O : List Nat} {H H1 H2 : Heap} (h : Kept [] H H1) (h' : Kept O H1 H2) (hO : ∀ i, i ∈ O → H.length ≤ i) : Kept [] H H2 :=
  h.trans h' (fun i _ g => g) (fun i hi g => by have := hO i g; omega)
def aK (k : Nat) : Adr := mkA (BitVec.ofNat 64 k <<< 56) 0#64
theorem aK_cut (k : Nat) : cutA (aK k) 8 = aK k := by
  rw [cut_same]
  intro j hj hj'
  by_cases h : j < 64
  · rw [← bit_hi _ _ h, aK, hi_mk, BitVec.getMsbD, BitVec.getLsbD_shiftLeft]
    simp; omega
  · rw [show j = 64 + (j - 64) by omega, ← bit_lo _ _ (by omega), aK, lo_mk]
    simp
theorem aK_inj {i j : Nat} (hi' : i < 256) (hj : j < 256) (h : pth (aK i) 8 = pth (aK j) 8) : i = j := by
  have h1 := (pth_inj (aK_cut i) (aK_cut j) h).1
  have h2 := congrArg (fun a => (hi a).toNat) h1
  simp only [aK, hi_mk, BitVec.toNat_shiftLeft, BitVec.toNat_ofNat, Nat.shiftLeft_eq] at h2
  omega
theorem aK_right (k : Nat) (x : Int) (hx : 1 ≤ x ∧ x ≤ 255) : rightR 32 (aK k) 8 x = true := by
  simp only [rightR, rightP, family, Bool.and_eq_true, decide_eq_true_eq, beq_iff_eq]
  exact ⟨⟨rfl, by omega, by omega, aK_cut k⟩, hx⟩
def fT : Nat → List Bool → Int
  | 0 => fun _ => 0
  | k + 1 => fun q => if q = pth (aK k) 8 then 1 else fT k q
theorem fT_at (k : Nat) : k ≤ 256 → ∀ j, j < 256 → fT k (pth (aK j) 8) = if j < k then 1 else 0 := by
  induction k with
  | zero => intro _ j _; simp [fT]
  | succ k ih =>
    intro hk j hj
    simp only [fT]
    by_cases e : j = k
    · subst e; simp
    · rw [if_neg (fun g => e (aK_inj hj (by omega) g)), ih (by omega) j hj]
      by_cases h : j < k
      · rw [if_pos h, if_pos (by omega)]
      · rw [if_neg h, if_neg (by omega)]
theorem fT_root (k : Nat) : fT k [] = 0 := by
  induction k with
  | zero => rfl
  | succ k ih =>
    simp only [fT]
    rw [if_neg (fun g => by have := congrArg List.length g; rw [pth_length] at this; simp at this), ih]
theorem full_true (m : Nat) (hm : m < 256) (x : Int) : ev (PX hook) lim 3 [.int .u8 (m : Int), .int .i64 x] H = some (.bool true, H) := by
  refine ev_own _ (PF t3) rfl (by decide) ?_
  obtain ⟨H1, hnew, st, k1⟩ := ev_New (hook := hook) (lim := H.length) (B := H.length) (H := H) 32 rfl (Nat.le_refl _)
  have s56 : ∀ y : BitVec 64, binV .shl (u64 y) (.int .u64 56) = some (u64 (y <<< 56)) := fun y => binV_shl y .u64 56
  have z0 : ((0 : Int) != 0) = false := rfl
  have ht1 := st.top
  simp only [f3, go_sem, Nat.reduceAdd, Nat.reduceMul, Nat.reduceSub, Nat.reduceBEq, Nat.reduceEqDiff, Nat.reduceLeDiff, Nat.reduceLT, Nat.reduceBneDiff, Int.reduceAdd, Int.cast_ofNat_Int, Int.toNat_natCast, Int.reduceLE, Int.reduceLT, Int.reduceToNat, Int.reduceEq, ↓reduceIte, hnew, z0, ht1]
  refine GO_loop _ (fun c e' H' => ∃ (k : Nat) (N : List Bool → Nat) (O : List Nat), k + c = 256 ∧ TrieSt H.length H' (H.length + 1) 32 (k : Int) (2 + 128 * k) N (fT k) O ∧ Kept [] H H' ∧
    e' 0 = .int .u8 (m : Int) ∧ e' 1 = .int .i64 x ∧ e' 5 = .ptr (H.length + 1) 0 0 ∧ e' 29 = .int .i64 (k : Int)) ?_ 256 _ _ ?_
  · rintro c e' H' ⟨k, N, O, hk, st', kept, i0, i1, i5, i29⟩
    cases c with
    | zero =>
      have hk' : k = 256 := by omega
      subst hk'
      have st4 : TrieSt H.length H' (H.length + 1) 32 256 32770 N (fT 256) O := st'
      have hof : BitVec.ofInt 64 (m : Int) = BitVec.ofNat 64 m := by simp
      -- the 257th
      have hr0 : rightR 32 0#128 0 1 = true := by decide +kernel
      have bx : Heap := [.rw 0 3 [u64 (BitVec.ofNat 64 m <<< 56), u64 0#64, .int .i64 8]]
      obtain ⟨L, hp2⟩ := St_Put_many (hook := hook) (lim := H.length) (st4.more [.rw 0 3 [u64 (BitVec.ofNat 64 m <<< 56), u64 0#64, .int .i64 8]]) (Nat.le_refl _) 0#128 0 1 hr0 (by rw [show ((0 : Int).toNat) = 0 from rfl, pth_zero]; exact fT_root 256) (by omega)
      rw [hi_zero, lo_zero] at hp2
      have st5 := (st4.more [.rw 0 3 [u64 (BitVec.ofNat 64 m <<< 56), u64 0#64, .int .i64 8]]).more L
      have hbox : (H' ++ [.rw 0 3 [u64 (BitVec.ofNat 64 m <<< 56), u64 0#64, .int .i64 8]] ++ L)[H'.length]? = some (.rw 0 3 [u64 (BitVec.ofNat 64 m <<< 56), u64 0#64, .int .i64 8]) := by
        rw [List.append_assoc, List.getElem?_append_right (Nat.le_refl _)]; simp
      have hTm : fT 256 (pth (aK m) 8) = 1 := by rw [fT_at 256 (Nat.le_refl _) m hm, if_pos hm]
      have hll : H.length ≤ H'.length := kept.1
      have fam33 : family 33 = false := rfl
      have t6 : ((6 : Int) == 6) = true := rfl
      have t1 : ((1 : Int) == 1) = true := rfl
      have t00 : ((0 : Int) == 0) = true := rfl
      have t256 : ((256 : Int) == 256) = true := rfl
      have cb := Heap.cells_of hbox
      have np : ∀ H : Heap, nileqV H .ptr .nilp .nilp = some true := fun _ => rfl
      rw [List.append_assoc, List.singleton_append] at cb hp2
      by_cases hx : 1 ≤ x ∧ x ≤ 255
      · obtain ⟨H2, N2, O2, hput, st6, k2, hO2, hN2⟩ := St_Put (hook := hook) (lim := H.length) st5 (Nat.le_refl _) (aK m) 8 x (aK_right m x hx) (Or.inl (by rw [show ((8 : Int).toNat) = 8 from rfl, hTm]; omega)) (by omega) (by omega)
        rw [show ((8 : Int).toNat) = 8 from rfl, hTm, show hi (aK m) = BitVec.ofNat 64 m <<< 56 from hi_mk _ _, show lo (aK m) = 0#64 from lo_mk _ _, show decide ((1 : Int) ≠ 0) = true from rfl, List.append_assoc, List.singleton_append] at hput
        have hbox2 := k2.at hbox (fun g => by have := st4.lt _ g; omega)
        have cb2 := Heap.cells_of hbox2
        have new33 := fun L => ev_New_bad (hook := hook) (lim := H.length) (H := L) 33 fam33
        have st7 : TrieSt H.length H2 (H.length + 1) 32 256 (32770 + 128) N2 (fun q => if q = pth (aK m) 8 then x else fT 256 q) O2 := by
          rw [show ((8 : Int).toNat) = 8 from rfl, hTm] at st6; exact st6
        have hget := St_Get (hook := hook) (lim := H.length) st7 (aK m) 8
        have hrp : rightP 32 (aK m) 8 = true := by have := aK_right m x hx; unfold rightR at this; simp only [Bool.and_eq_true] at this; exact this.1
        have gv : getV 32 (fun q => if q = pth (aK m) 8 then x else fT 256 q) (aK m) 8 = .tup [.agg [u64 (BitVec.ofNat 64 m <<< 56), u64 0#64, .int .i64 8, .int .i64 x], .bool true] := by
          unfold getV
          rw [show ((8 : Int).toNat) = 8 from rfl]
          simp only [if_true, hrp]
          rw [if_pos ⟨trivial, by omega⟩, show hi (aK m) = BitVec.ofNat 64 m <<< 56 from hi_mk _ _, show lo (aK m) = 0#64 from lo_mk _ _]
        rw [gv, show hi (aK m) = BitVec.ofNat 64 m <<< 56 from hi_mk _ _, show lo (aK m) = 0#64 from lo_mk _ _] at hget
        have hlen := fun L => St_Len (hook := hook) (lim := H.length) (st7.more L)
        have x1 : decide (x < 1) = false := by rw [decide_eq_false_iff_not]; omega
        have x2 : decide (255 < x) = false := by rw [decide_eq_false_iff_not]; omega
        have xx : (x == x) = true := by simp
        have keptZ : Kept [] H H2 := Kept.low (Kept.trans kept (by rw [List.append_assoc]; exact Kept.app [] _ _) (fun _ _ g => g) (fun _ _ g => g)) k2 st5.ge
        have tk := fun L => keptZ.take (by simp) L
        have hl2 : H.length ≤ H2.length := keptZ.1
        simp only [f3b0, go_sem, Nat.reduceAdd, Nat.reduceMul, Nat.reduceSub, Nat.reduceBEq, Nat.reduceEqDiff, Nat.reduceLeDiff, Nat.reduceLT, Nat.reduceBneDiff, Int.reduceAdd, Int.cast_ofNat_Int, Int.toNat_natCast, Int.reduceLE, Int.reduceLT, Int.reduceToNat, Int.reduceEq, ↓reduceIte, i0, i1, i5, i29, hof, s56, hp2, cb, hput, new33, x1, x2, cb2, hget, hlen, np, t6, t1, t00, t256, xx, ev_awake, hl2, hll, tk]
      · have hrb : rightR 32 (aK m) 8 x = false := by
          unfold rightR
          rw [Bool.and_eq_false_iff]; right
          rw [Bool.and_eq_false_iff]
          by_cases h1 : 1 ≤ x
          · right; simp; omega
          · left; simp; omega
        obtain ⟨L3, hput⟩ := St_Put_bad (hook := hook) (lim := H.length) st5 (aK m) 8 x hrb
        rw [show hi (aK m) = BitVec.ofNat 64 m <<< 56 from hi_mk _ _, show lo (aK m) = 0#64 from lo_mk _ _, List.append_assoc, List.singleton_append] at hput
        have new33 := fun L => ev_New_bad (hook := hook) (lim := H.length) (H := L) 33 fam33
        have tk := fun L => kept.take (by simp) L
        by_cases h1 : x < 1
        · have x1 : decide (x < 1) = true := by simp [h1]
          simp only [f3b0, go_sem, Nat.reduceAdd, Nat.reduceMul, Nat.reduceSub, Nat.reduceBEq, Nat.reduceEqDiff, Nat.reduceLeDiff, Nat.reduceLT, Nat.reduceBneDiff, Int.reduceAdd, Int.cast_ofNat_Int, Int.toNat_natCast, Int.reduceLE, Int.reduceLT, Int.reduceToNat, Int.reduceEq, ↓reduceIte, i0, i1, i5, i29, hof, s56, hp2, cb, hput, new33, x1, np, t6, t1, t00, t256, ev_awake, hll, tk]
        · have x1 : decide (x < 1) = false := by simp; omega
          have x2 : decide (255 < x) = true := by simp; omega
          simp only [f3b0, go_sem, Nat.reduceAdd, Nat.reduceMul, Nat.reduceSub, Nat.reduceBEq, Nat.reduceEqDiff, Nat.reduceLeDiff, Nat.reduceLT, Nat.reduceBneDiff, Int.reduceAdd, Int.cast_ofNat_Int, Int.toNat_natCast, Int.reduceLE, Int.reduceLT, Int.reduceToNat, Int.reduceEq, ↓reduceIte, i0, i1, i5, i29, hof, s56, hp2, cb, hput, new33, x1, x2, np, t6, t1, t00, t256, ev_awake, hll, tk]
    | succ c =>
      have hk' : k < 256 := by omega
      have d : decide ((k : Int) < 256) = true := by rw [decide_eq_true_eq]; omega
      have a1 : IntKind.wrap .i64 ((k : Int) + 1) = ((k + 1 : Nat) : Int) := by rw [wrap_i64] <;> omega
      have hz : fT k (pth (aK k) 8) = 0 := by rw [fT_at k (by omega) k hk', if_neg (by omega)]
      obtain ⟨H2, N2, O2, hput, st2, k2, hO2, hN2⟩ := St_Put (hook := hook) (lim := H.length) st' (Nat.le_refl _) (aK k) 8 1 (aK_right k 1 (by omega)) (Or.inr (by omega)) (by omega) (by omega)
      have hof : BitVec.ofInt 64 (k : Int) = BitVec.ofNat 64 k := by simp
      rw [show ((8 : Int).toNat) = 8 from rfl, hz, show hi (aK k) = BitVec.ofNat 64 k <<< 56 from hi_mk _ _, show lo (aK k) = 0#64 from lo_mk _ _] at hput
      rw [show decide ((0 : Int) ≠ 0) = false from rfl] at hput
      have st3 : TrieSt H.length H2 (H.length + 1) 32 ((k + 1 : Nat) : Int) (2 + 128 * (k + 1)) N2 (fT (k + 1)) O2 := by
        have e1 : (if fT k (pth (aK k) (8 : Int).toNat) ≠ 0 then (k : Int) else (k : Int) + 1) = ((k + 1 : Nat) : Int) := by
          rw [show ((8 : Int).toNat) = 8 from rfl, hz, if_neg (fun g => g rfl)]; rfl
        rw [e1] at st2
        exact st2
      simp only [f3b0, go_sem, Nat.reduceAdd, Nat.reduceMul, Nat.reduceSub, Nat.reduceBEq, Nat.reduceEqDiff, Nat.reduceLeDiff, Nat.reduceLT, Nat.reduceBneDiff, Int.reduceAdd, Int.cast_ofNat_Int, Int.toNat_natCast, Int.reduceLE, Int.reduceLT, Int.reduceToNat, Int.reduceEq, ↓reduceIte, i0, i1, i5, i29, d, a1, hof, s56, hput, z0]
      exact ⟨c, by omega, k + 1, N2, O2, by omega, st3, Kept.low kept k2 st'.ge, rfl⟩
  · exact ⟨0, noN, _, rfl, st, k1, by simp only [go_sem, Nat.reduceAdd, Nat.reduceMul, Nat.reduceSub, Nat.reduceBEq, Nat.reduceEqDiff, Nat.reduceLeDiff, Nat.reduceLT, Nat.reduceBneDiff, Int.reduceAdd, Int.cast_ofNat_Int, Int.toNat_natCast, Int.reduceLE, Int.reduceLT, Int.reduceToNat, Int.reduceEq, ↓reduceIte], by simp only [go_sem, Nat.reduceAdd, Nat.reduceMul, Nat.reduceSub, Nat.reduceBEq, Nat.reduceEqDiff, Nat.reduceLeDiff, Nat.reduceLT, Nat.reduceBneDiff, Int.reduceAdd, Int.cast_ofNat_Int, Int.toNat_natCast, Int.reduceLE, Int.reduceLT, Int.reduceToNat, Int.reduceEq, ↓reduceIte], by simp only [go_sem, Nat.reduceAdd, Nat.reduceMul, Nat.reduceSub, Nat.reduceBEq, Nat.reduceEqDiff, Nat.reduceLeDiff, Nat.reduceLT, Nat.reduceBneDiff, Int.reduceAdd, Int.cast_ofNat_Int, Int.toNat_natCast, Int.reduceLE, Int.reduceLT, Int.reduceToNat, Int.reduceEq, ↓reduceIte], by simp only [go_sem, Nat.reduceAdd, Nat.reduceMul, Nat.reduceSub, Nat.reduceBEq, Nat.reduceEqDiff, Nat.reduceLeDiff, Nat.reduceLT, Nat.reduceBneDiff, Int.reduceAdd, Int.cast_ofNat_Int, Int.toNat_natCast, Int.reduceLE, Int.reduceLT, Int.reduceToNat, Int.reduceEq, ↓reduceIte]⟩
end Go.Proofs.Ytdapdfaejemgdaa.C
