/- THE ABSTRACT MACHINE WITHOUT A BOUND ON ROUNDS: its answers, its equations. Conditions: none. -/
import Derived.Test.YtmjanbhmpbhagaaAm11
set_option linter.unusedVariables false
set_option linter.unusedSimpArgs false
namespace Go.AM

def CLe (C C' : Oracle) : Prop := ∀ lim f args H r, C lim f args H = some r → C' lim f args H = some r

theorem quietly_mono {q : Bool} {H : Heap} {r r' : Option (AV × Heap)} (h : ∀ x, r = some x → r' = some x) : ∀ x, quietly q H r = some x → quietly q H r' = some x := by
  intro x hx
  cases r with
  | none => simp [quietly] at hx
  | some y => rw [h y rfl]; exact hx

theorem step_mono {C C' : Oracle} (h : CLe C C') {lim : Nat} {o : AOp} {e : Env} {H : Heap} {x : AV × Heap} (hx : stepOp C lim o e H = some x) : stepOp C' lim o e H = some x := by
  cases o <;> simp only [stepOp] at hx ⊢ <;> (try exact hx)
  case call f l q => exact quietly_mono (h _ _ _ _) x hx
  case callv f l q =>
    split at hx
    · exact quietly_mono (h _ _ _ _) x hx
    · cases hx
  case callA f l =>
    obtain ⟨h1, L, hL⟩ := growing_spec hx
    rw [h _ _ _ _ _ h1]
    simp only [growing, Option.bind_some]
    rw [if_pos ⟨L, hL⟩]

theorem iterJ_mono {l : Nat} {f g : Env → Heap → Option Out} (h : ∀ e H x, f e H = some x → g e H = some x) : ∀ {n n' : Nat} {e : Env} {H : Heap} {x : Out}, n ≤ n' → iterJ l f n e H = some x → iterJ l g n' e H = some x
  | 0, _, e, H, x, _, hx => by simp [iterJ] at hx
  | n + 1, 0, _, _, _, hn, _ => by omega
  | n + 1, n' + 1, e, H, x, hn, hx => by
    simp only [iterJ, Option.bind_eq_some_iff] at hx ⊢
    obtain ⟨r, h1, h2⟩ := hx
    refine ⟨r, h _ _ _ h1, ?_⟩
    split at h2
    · rename_i l' hr
      split at h2
      · rename_i hl
        rw [if_pos hl]
        exact iterJ_mono h (by omega) h2
      · cases h2
    · rename_i hr
      cases hr1 : r.1 with
      | goto l' => exact absurd hr1 (hr l')
      | norm => simpa using h2
      | exit _ => simpa using h2
      | ret => simpa using h2

theorem stepG_mono {C C' : Oracle} (h : CLe C C') {lim : Nat} {o : GOp} {e : Env} {H : Heap} {x : Env × Heap} (hx : stepG C lim o e H = some x) : stepG C' lim o e H = some x := by
  unfold stepG at hx ⊢
  split at hx
  · rename_i hw
    rw [Option.map_eq_some_iff] at hx
    obtain ⟨r, hr, hx⟩ := hx
    simp only [step_mono h hr, Option.map_some, hx]
  · exact hx
  · cases hx

theorem runOps_mono {C C' : Oracle} (h : CLe C C') {lim : Nat} : ∀ {l : List GOp} {e : Env} {H : Heap} {x : Env × Heap}, runOps C lim l e H = some x → runOps C' lim l e H = some x
  | [], e, H, x, hx => hx
  | o :: l, e, H, x, hx => by
    simp only [runOps, Option.bind_eq_some_iff] at hx ⊢
    obtain ⟨s, h1, h2⟩ := hx
    exact ⟨s, stepG_mono h h1, runOps_mono h h2⟩

theorem iter_mono {f g : Env → Heap → Option Out} (h : ∀ e H x, f e H = some x → g e H = some x) : ∀ {n n' : Nat} {e : Env} {H : Heap} {x : Out}, n ≤ n' → iter f n e H = some x → iter g n' e H = some x
  | 0, _, e, H, x, _, hx => by simp [iter] at hx
  | n + 1, 0, _, _, _, hn, _ => by omega
  | n + 1, n' + 1, e, H, x, hn, hx => by
    simp only [iter, Option.bind_eq_some_iff] at hx ⊢
    obtain ⟨r, h1, h2⟩ := hx
    refine ⟨r, h _ _ _ h1, ?_⟩
    split at h2
    · exact iter_mono h (by omega) h2
    · rename_i hr
      cases hr1 : r.1 with
      | norm => exact absurd hr1 hr
      | exit _ => simpa using h2
      | goto _ => simpa using h2
      | ret => simpa using h2

theorem exec_mono {C C' : Oracle} (h : CLe C C') {n n' lim : Nat} (hn : n ≤ n') : ∀ (c : ACode) (e : Env) (H : Heap) (x : Out), execC C n lim c e H = some x → execC C' n' lim c e H = some x := by
  intro c
  induction c with
  | skip => intro e H x hx; exact hx
  | ops l => intro e H x hx; simp only [execC, Option.map_eq_some_iff] at hx ⊢; obtain ⟨s, h1, h2⟩ := hx; exact ⟨s, runOps_mono h h1, h2⟩
  | opsD l ap => intro e H x hx; simp only [execC, Option.bind_eq_some_iff] at hx ⊢; obtain ⟨s, h1, h2⟩ := hx; exact ⟨s, runOps_mono h h1, h2⟩
  | swap y z =>
    intro e H x hx
    simp only [execC, Option.bind_eq_some_iff] at hx ⊢
    obtain ⟨s, h1, h2⟩ := hx
    refine ⟨s, runOps_mono h h1, ?_⟩
    split at h2
    · rename_i h3
      rw [if_pos (runOps_mono h h3)]; exact h2
    · cases h2
  | alt y z => intro e H x hx; simp [execC] at hx
  | again l c ih => intro e H x hx; simp only [execC] at hx ⊢; exact iterJ_mono ih hn hx
  | jump l a b iha ihb =>
    intro e H x hx
    simp only [execC, Option.bind_eq_some_iff] at hx ⊢
    obtain ⟨r, h1, h2⟩ := hx
    refine ⟨r, iha _ _ _ h1, ?_⟩
    split at h2
    · exact iterJ_mono ihb hn h2
    · cases h2
    · rename_i hr hg
      cases hr1 : r.1 with
      | norm => exact absurd hr1 hr
      | goto l' => exact absurd hr1 (hg l')
      | exit _ => simpa using h2
      | ret => simpa using h2
  | seq a b iha ihb =>
    intro e H x hx
    simp only [execC, Option.bind_eq_some_iff] at hx ⊢
    obtain ⟨r, h1, h2⟩ := hx
    refine ⟨r, iha _ _ _ h1, ?_⟩
    split at h2
    · exact ihb _ _ _ h2
    · rename_i hr
      cases hr1 : r.1 with
      | norm => exact absurd hr1 hr
      | exit _ => simpa using h2
      | goto _ => simpa using h2
      | ret => simpa using h2
  | cond c a b iha ihb =>
    intro e H x hx
    simp only [execC] at hx ⊢
    split at hx
    · split at hx
      · rename_i ht; simp only [ht, if_true]; exact iha _ _ _ hx
      · rename_i ht; simp only [ht, if_false]; exact ihb _ _ _ hx
    · cases hx
  | block id c ih => intro e H x hx; simp only [execC, Option.map_eq_some_iff] at hx ⊢; obtain ⟨r, h1, h2⟩ := hx; exact ⟨r, ih _ _ _ h1, h2⟩
  | loop c ih => intro e H x hx; simp only [execC] at hx ⊢; exact iter_mono ih hn hx
  | exit id => intro e H x hx; exact hx
  | scope c ih => intro e H x hx; simp [execC] at hx
  | label l => intro e H x hx; exact hx
  | goto l => intro e H x hx; exact hx
  | ret => intro e H x hx; exact hx

theorem callBody_mono {X : Prog} {C C' : Oracle} (h : CLe C C') {n n' : Nat} (hn : n ≤ n') : CLe (callBody X C n) (callBody X C' n') := by
  intro lim f args H r hr
  unfold callBody at hr ⊢
  split at hr
  · rename_i af haf
    split at hr
    · rename_i hl
      rw [if_pos hl]
      simp only [Option.bind_eq_some_iff] at hr ⊢
      obtain ⟨x, h1, h2⟩ := hr
      exact ⟨x, exec_mono h hn _ _ _ _ h1, h2⟩
    · cases hr
  · exact hr

theorem evalN_succ {X : Prog} : ∀ n, CLe (evalN X n) (evalN X (n + 1))
  | 0 => fun lim f args H r h => by simp [evalN] at h
  | n + 1 => callBody_mono (evalN_succ n) (Nat.le_succ n)
theorem evalN_le {X : Prog} {n m : Nat} (h : n ≤ m) : CLe (evalN X n) (evalN X m) := by
  induction m with
  | zero => have : n = 0 := by omega
            subst this; exact fun _ _ _ _ _ h => h
  | succ m ih =>
    by_cases hn : n = m + 1
    · subst hn; exact fun _ _ _ _ _ h => h
    · exact fun lim f args H r hr => evalN_succ m _ _ _ _ _ (ih (by omega) _ _ _ _ _ hr)

/-- What a growing row of answers comes to. -/
def Lim {α : Type} (f : Nat → Option α) (r : Option α) : Prop := (∀ n x, f n = some x → r = some x) ∧ ∀ x, r = some x → ∃ n, ∀ m, n ≤ m → f m = some x

open Classical in
noncomputable def sup {α : Type} (f : Nat → Option α) : Option α := if h : ∃ n, (f n).isSome = true then f (Classical.choose h) else none

theorem lim_sup {α : Type} {f : Nat → Option α} (h : ∀ n m x, n ≤ m → f n = some x → f m = some x) : Lim f (sup f) := by
  have key : ∀ n x, f n = some x → sup f = some x := by
    intro n x hx
    have hex : ∃ n, (f n).isSome = true := ⟨n, by rw [hx]; rfl⟩
    unfold sup
    rw [dif_pos hex]
    have hc := Classical.choose_spec hex
    generalize Classical.choose hex = k at hc ⊢
    obtain ⟨y, hy⟩ := Option.isSome_iff_exists.1 hc
    have e1 := h n (max n k) x (Nat.le_max_left _ _) hx
    have e2 := h k (max n k) y (Nat.le_max_right _ _) hy
    rw [e1] at e2
    rw [hy, ← e2]
  refine ⟨key, fun x hx => ?_⟩
  unfold sup at hx
  split at hx
  · rename_i hex
    exact ⟨_, fun m hm => h _ m x hm hx⟩
  · cases hx
theorem Lim.unique {α : Type} {f : Nat → Option α} {r r' : Option α} (h : Lim f r) (h' : Lim f r') : r = r' := by
  apply Option.ext
  intro x
  constructor
  · intro hx; obtain ⟨n, hn⟩ := h.2 x hx; exact h'.1 n x (hn n (Nat.le_refl _))
  · intro hx; obtain ⟨n, hn⟩ := h'.2 x hx; exact h.1 n x (hn n (Nat.le_refl _))
theorem Lim.const {α : Type} (r : Option α) : Lim (fun _ => r) r := ⟨fun _ _ h => h, fun x h => ⟨0, fun _ _ => h⟩⟩
theorem Lim.bind {α β : Type} {f : Nat → Option α} {g : Nat → α → Option β} {r : Option α} {s : α → Option β} (h : Lim f r) (k : ∀ x, Lim (fun n => g n x) (s x)) : Lim (fun n => (f n).bind (g n)) (r.bind s) := by
  refine ⟨fun n x hx => ?_, fun x hx => ?_⟩
  · rw [Option.bind_eq_some_iff] at hx ⊢
    obtain ⟨y, h1, h2⟩ := hx
    exact ⟨y, h.1 n y h1, (k y).1 n x h2⟩
  · rw [Option.bind_eq_some_iff] at hx
    obtain ⟨y, h1, h2⟩ := hx
    obtain ⟨n, hn⟩ := h.2 y h1
    obtain ⟨m, hm⟩ := (k y).2 x h2
    exact ⟨max n m, fun q hq => by rw [Option.bind_eq_some_iff]; exact ⟨y, hn q (by omega), hm q (by omega)⟩⟩
theorem Lim.map {α β : Type} {f : Nat → Option α} {r : Option α} (g : α → β) (h : Lim f r) : Lim (fun n => (f n).map g) (r.map g) := by
  refine ⟨fun n x hx => ?_, fun x hx => ?_⟩
  · rw [Option.map_eq_some_iff] at hx ⊢
    obtain ⟨y, h1, h2⟩ := hx
    exact ⟨y, h.1 n y h1, h2⟩
  · rw [Option.map_eq_some_iff] at hx
    obtain ⟨y, h1, h2⟩ := hx
    obtain ⟨n, hn⟩ := h.2 y h1
    exact ⟨n, fun q hq => by rw [Option.map_eq_some_iff]; exact ⟨y, hn q hq, h2⟩⟩
theorem Lim.shift {α : Type} {f : Nat → Option α} {r : Option α} (h0 : f 0 = none) (h : Lim (fun n => f (n + 1)) r) : Lim f r := by
  refine ⟨fun n x hx => ?_, fun x hx => ?_⟩
  · cases n with
    | zero => rw [h0] at hx; cases hx
    | succ n => exact h.1 n x hx
  · obtain ⟨n, hn⟩ := h.2 x hx
    exact ⟨n + 1, fun m hm => by
      obtain ⟨k, rfl⟩ : ∃ k, m = k + 1 := ⟨m - 1, by omega⟩
      exact hn k (by omega)⟩
theorem Lim.congr {α : Type} {f g : Nat → Option α} {r : Option α} (h : Lim f r) (e : ∀ n, f n = g n) : Lim g r := by
  have : f = g := funext e
  rw [← this]; exact h

theorem Lim.guard {α β : Type} {inst : DecidableEq (Option α)} {f : Nat → Option α} {r : Option α} (h : Lim f r) (s : α) (v : β) : Lim (fun n => if f n = some s then some v else none) (if r = some s then some v else none) := by
  refine ⟨fun n x hx => ?_, fun x hx => ?_⟩
  · have hx' : (if f n = some s then some v else none) = some x := hx
    split at hx'
    · rename_i hs
      rw [if_pos (h.1 n s hs)]; exact hx'
    · cases hx'
  · split at hx
    · rename_i hs
      obtain ⟨n, hn⟩ := h.2 s hs
      refine ⟨n, fun m hm => ?_⟩
      show (if f m = some s then some v else none) = some x
      rw [if_pos (hn m hm)]; exact hx
    · cases hx

variable (X : Prog)

noncomputable def ev : Oracle := fun lim f args H => sup fun n => evalN X n lim f args H
noncomputable def ex (lim : Nat) (c : ACode) (e : Env) (H : Heap) : Option Out := sup fun n => execC (evalN X n) n lim c e H

theorem lim_ev (lim f : Nat) (args : List AV) (H : Heap) : Lim (fun n => evalN X n lim f args H) (ev X lim f args H) :=
  lim_sup fun n m x h hx => evalN_le h _ _ _ _ _ hx
theorem lim_ex (lim : Nat) (c : ACode) (e : Env) (H : Heap) : Lim (fun n => execC (evalN X n) n lim c e H) (ex X lim c e H) :=
  lim_sup fun n m x h hx => exec_mono (evalN_le h) h _ _ _ _ hx

theorem lim_quietly {q : Bool} {H : Heap} {f : Nat → Option (AV × Heap)} {r : Option (AV × Heap)} (h : Lim f r) : Lim (fun n => quietly q H (f n)) (quietly q H r) := by
  unfold quietly
  exact h.bind fun x => Lim.const _

theorem lim_step (lim : Nat) (o : AOp) (e : Env) (H : Heap) : Lim (fun n => stepOp (evalN X n) lim o e H) (stepOp (ev X) lim o e H) := by
  cases o <;> simp only [stepOp] <;> (try exact Lim.const _)
  case call f l q => exact lim_quietly (lim_ev X _ _ _ _)
  case callv f l q =>
    split
    · exact lim_quietly (lim_ev X _ _ _ _)
    · exact Lim.const _
  case callA f l =>
    unfold growing
    exact (lim_ev X _ _ _ _).bind fun x => Lim.const _
theorem lim_stepG (lim : Nat) (o : GOp) (e : Env) (H : Heap) : Lim (fun n => stepG (evalN X n) lim o e H) (stepG (ev X) lim o e H) := by
  unfold stepG
  split
  · exact (lim_step X lim o.op e H).map _
  · exact Lim.const _
  · exact Lim.const _
theorem lim_ops (lim : Nat) : ∀ (l : List GOp) (e : Env) (H : Heap), Lim (fun n => runOps (evalN X n) lim l e H) (runOps (ev X) lim l e H)
  | [], e, H => Lim.const _
  | o :: l, e, H => (lim_stepG X lim o e H).bind fun s => lim_ops lim l s.1 s.2

section
variable (lim : Nat) (e : Env) (H : Heap)
theorem ex_skip : ex X lim .skip e H = some (.norm, e, H) := (lim_ex X lim .skip e H).unique (Lim.const _)
theorem ex_exit (id : Nat) : ex X lim (.exit id) e H = some (.exit id, e, H) := (lim_ex X lim (.exit id) e H).unique (Lim.const _)
theorem ex_ret : ex X lim .ret e H = some (.ret, e, H) := (lim_ex X lim .ret e H).unique (Lim.const _)
theorem ex_ops (l : List GOp) : ex X lim (.ops l) e H = (runOps (ev X) lim l e H).map fun s => (.norm, s.1, s.2) :=
  (lim_ex X lim (.ops l) e H).unique ((lim_ops X lim l e H).map _)
theorem ex_opsD (l : List GOp) (ap : List (Nat × Nat)) : ex X lim (.opsD l ap) e H = (runOps (ev X) lim l e H).bind fun s => if apartAll s.1 ap = true then some (.norm, s.1, s.2) else none :=
  (lim_ex X lim (.opsD l ap) e H).unique ((lim_ops X lim l e H).bind fun s => Lim.const _)
theorem ex_seq (a b : ACode) : ex X lim (.seq a b) e H = (ex X lim a e H).bind fun r => match r.1 with | .norm => ex X lim b r.2.1 r.2.2 | _ => some r := by
  refine (lim_ex X lim (.seq a b) e H).unique ?_
  refine ((lim_ex X lim a e H).bind (g := fun n r => match r.1 with | .norm => execC (evalN X n) n lim b r.2.1 r.2.2 | _ => some r) fun r => ?_)
  obtain ⟨x, e', H'⟩ := r
  cases x
  · exact lim_ex X lim b e' H'
  all_goals exact Lim.const _
theorem ex_cond (c : AArg) (a b : ACode) : ex X lim (.cond c a b) e H = match c.ev e with
    | .bool t => if t then ex X lim a e H else ex X lim b e H
    | _ => none := by
  refine (lim_ex X lim (.cond c a b) e H).unique ?_
  simp only [execC]
  generalize c.ev e = v
  cases v <;> (try exact Lim.const _)
  rename_i t
  cases t
  · exact lim_ex X lim b e H
  · exact lim_ex X lim a e H
theorem ex_block (id : Nat) (c : ACode) : ex X lim (.block id c) e H = (ex X lim c e H).map fun r => (if r.1 = .exit id then (.norm, r.2) else r) :=
  (lim_ex X lim (.block id c) e H).unique ((lim_ex X lim c e H).map _)

theorem iter_le {f : Env → Heap → Option Out} {n m : Nat} (h : n ≤ m) {e : Env} {H : Heap} {x : Out} (hx : iter f n e H = some x) : iter f m e H = some x := iter_mono (fun _ _ _ h => h) h hx

theorem ex_loop (c : ACode) : ex X lim (.loop c) e H = (ex X lim c e H).bind fun r => match r.1 with | .norm => ex X lim (.loop c) r.2.1 r.2.2 | _ => some r := by
  refine (lim_ex X lim (.loop c) e H).unique ?_
  have h1 : Lim (fun n => (execC (evalN X n) n lim c e H).bind fun r => match r.1 with | .norm => execC (evalN X n) n lim (.loop c) r.2.1 r.2.2 | _ => some r)
      ((ex X lim c e H).bind fun r => match r.1 with | .norm => ex X lim (.loop c) r.2.1 r.2.2 | _ => some r) := by
    refine ((lim_ex X lim c e H).bind (g := fun n r => match r.1 with | .norm => execC (evalN X n) n lim (.loop c) r.2.1 r.2.2 | _ => some r) fun r => ?_)
    obtain ⟨x, e', H'⟩ := r
    cases x
    · exact lim_ex X lim (.loop c) e' H'
    all_goals exact Lim.const _
  -- a bound more or less on the rounds is all one
  refine ⟨fun n x hx => ?_, fun x hx => ?_⟩
  · refine h1.1 n x ?_
    simp only [execC] at hx ⊢
    cases n with
    | zero => simp [iter] at hx
    | succ n =>
      simp only [iter, Option.bind_eq_some_iff] at hx ⊢
      obtain ⟨r, g1, g2⟩ := hx
      refine ⟨r, g1, ?_⟩
      obtain ⟨y, e', H'⟩ := r
      cases y
      · exact iter_le (n := n) (m := n + 1) (Nat.le_succ n) (by simpa using g2)
      all_goals simpa using g2
  · obtain ⟨n, hn⟩ := h1.2 x hx
    refine ⟨n + 1, fun m hm => ?_⟩
    obtain ⟨k, rfl⟩ : ∃ k, m = k + 1 := ⟨m - 1, by omega⟩
    have g := hn k (by omega)
    simp only [execC, Option.bind_eq_some_iff] at g ⊢
    obtain ⟨r, g1, g2⟩ := g
    simp only [iter, Option.bind_eq_some_iff]
    refine ⟨r, exec_mono (evalN_succ k) (Nat.le_succ k) _ _ _ _ g1, ?_⟩
    obtain ⟨y, e', H'⟩ := r
    cases y
    · simp only at g2 ⊢
      exact iter_mono (fun e H x hx => exec_mono (evalN_succ k) (Nat.le_succ k) _ _ _ _ hx) (Nat.le_refl _) g2
    all_goals simpa using g2

open Classical in
theorem ex_swap (x y : GOp) : ex X lim (.swap x y) e H = (runOps (ev X) lim [x, y] e H).bind fun s => if runOps (ev X) lim [y, x] e H = some s then some (Go.AM.X.norm, s.1, s.2) else none :=
  (lim_ex X lim (.swap x y) e H).unique ((lim_ops X lim [x, y] e H).bind (g := fun n s => if runOps (evalN X n) lim [y, x] e H = some s then some (Go.AM.X.norm, s.1, s.2) else none) (s := fun s => if runOps (ev X) lim [y, x] e H = some s then some (Go.AM.X.norm, s.1, s.2) else none) fun s => (lim_ops X lim [y, x] e H).guard s _)

theorem ex_again (l : Nat) (c : ACode) : ex X lim (.again l c) e H = (ex X lim c e H).bind fun r => match r.1 with | .goto l' => if l' = l then ex X lim (.again l c) r.2.1 r.2.2 else none | _ => some r := by
  refine (lim_ex X lim (.again l c) e H).unique ?_
  have h1 : Lim (fun n => (execC (evalN X n) n lim c e H).bind fun r => match r.1 with | .goto l' => if l' = l then execC (evalN X n) n lim (.again l c) r.2.1 r.2.2 else none | _ => some r)
      ((ex X lim c e H).bind fun r => match r.1 with | .goto l' => if l' = l then ex X lim (.again l c) r.2.1 r.2.2 else none | _ => some r) := by
    refine ((lim_ex X lim c e H).bind (g := fun n r => match r.1 with | .goto l' => if l' = l then execC (evalN X n) n lim (.again l c) r.2.1 r.2.2 else none | _ => some r) fun r => ?_)
    obtain ⟨x, e', H'⟩ := r
    cases x
    case goto l' =>
      by_cases hl : l' = l
      · simp only [hl, if_true]; exact lim_ex X lim (.again l c) e' H'
      · simp only [hl, if_false]; exact Lim.const _
    all_goals exact Lim.const _
  refine ⟨fun n x hx => ?_, fun x hx => ?_⟩
  · refine h1.1 n x ?_
    simp only [execC] at hx ⊢
    cases n with
    | zero => simp [iterJ] at hx
    | succ n =>
      simp only [iterJ, Option.bind_eq_some_iff] at hx ⊢
      obtain ⟨r, g1, g2⟩ := hx
      refine ⟨r, g1, ?_⟩
      obtain ⟨y, e', H'⟩ := r
      cases y
      case goto l' =>
        simp only at g2 ⊢
        by_cases hl : l' = l
        · rw [if_pos hl] at g2 ⊢
          exact iterJ_mono (fun _ _ _ h => h) (Nat.le_succ n) g2
        · rw [if_neg hl] at g2; cases g2
      all_goals simpa using g2
  · obtain ⟨n, hn⟩ := h1.2 x hx
    refine ⟨n + 1, fun m hm => ?_⟩
    obtain ⟨k, rfl⟩ : ∃ k, m = k + 1 := ⟨m - 1, by omega⟩
    have g := hn k (by omega)
    simp only [execC, Option.bind_eq_some_iff] at g ⊢
    obtain ⟨r, g1, g2⟩ := g
    simp only [iterJ, Option.bind_eq_some_iff]
    refine ⟨r, exec_mono (evalN_succ k) (Nat.le_succ k) _ _ _ _ g1, ?_⟩
    obtain ⟨y, e', H'⟩ := r
    cases y
    case goto l' =>
      simp only at g2 ⊢
      by_cases hl : l' = l
      · rw [if_pos hl] at g2 ⊢
        exact iterJ_mono (fun e H x hx => exec_mono (evalN_succ k) (Nat.le_succ k) _ _ _ _ hx) (Nat.le_refl _) g2
      · rw [if_neg hl] at g2; cases g2
    all_goals simpa using g2
theorem ex_jump (l : Nat) (a c : ACode) : ex X lim (.jump l a c) e H = (ex X lim a e H).bind fun r => match r.1 with | .norm => ex X lim (.again l c) r.2.1 r.2.2 | .goto _ => none | _ => some r := by
  refine (lim_ex X lim (.jump l a c) e H).unique ?_
  refine Lim.congr ((lim_ex X lim a e H).bind (g := fun n r => match r.1 with | .norm => execC (evalN X n) n lim (.again l c) r.2.1 r.2.2 | .goto _ => none | _ => some r) fun r => ?_) fun n => ?_
  · obtain ⟨x, e', H'⟩ := r
    cases x
    case norm => exact lim_ex X lim (.again l c) e' H'
    all_goals exact Lim.const _
  · simp only [execC]
    congr 1

def callFin (af : AFunc) (n0 : Nat) (r : Out) : Option (AV × Heap) :=
  match r.1 with
  | .norm | .ret => (resOf r.2.1 r.2.2 af.res).bind fun v => finish af.mode n0 v r.2.2
  | _ => none

/-- A call of a function of the table. -/
theorem ev_eq {f : Nat} {af : AFunc} (hf : X.F f = some af) (args : List AV) (hl : args.length = af.np) : ev X lim f args H = (ex X (if af.mode = .raw then lim else H.length) af.body (Env.ofList args) H).bind (callFin af H.length) := by
  refine (lim_ev X lim f args H).unique (Lim.shift rfl ?_)
  refine Lim.congr (Lim.bind (g := fun _ r => callFin af H.length r) (lim_ex X (if af.mode = .raw then lim else H.length) af.body (Env.ofList args) H) fun r => Lim.const _) fun n => ?_
  simp only [evalN, callBody, hf, hl, if_true]
  rfl
theorem ev_hook {f : Nat} (hf : X.F f = none) (args : List AV) : ev X lim f args H = X.hook lim f args H := by
  refine (lim_ev X lim f args H).unique (Lim.shift rfl ?_)
  exact Lim.congr (Lim.const _) fun n => by simp only [evalN, callBody, hf]
end

end Go.AM
