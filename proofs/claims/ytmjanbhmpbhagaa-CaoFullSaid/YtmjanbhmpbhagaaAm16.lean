/- THE ABSTRACT MACHINE'S ANSWERS, BY REWRITING: a form of 'it comes to' that a simp set can step through. Conditions: none; plain lemmas. -/
import Derived.Test.YtmjanbhmpbhagaaAm15
set_option linter.unusedVariables false
set_option linter.unusedSimpArgs false
namespace Go.AM

/-- The answer is there, and something holds of it. -/
def bindP {α : Type} (o : Option α) (k : α → Prop) : Prop := match o with | some a => k a | none => False
theorem bindP_congr {α : Type} {o o' : Option α} {k : α → Prop} (h : o = o') : bindP o k = bindP o' k := by rw [h]
theorem bindP_some {α : Type} (a : α) (k : α → Prop) : bindP (some a) k = k a := rfl
theorem bindP_none {α : Type} (k : α → Prop) : bindP none k = False := rfl
theorem bindP_mono {α : Type} {o : Option α} {k k' : α → Prop} (h : bindP o k) (g : ∀ a, k a → k' a) : bindP o k' := by
  cases o with
  | none => exact h
  | some a => exact g a h
theorem bindP_iff {α : Type} {o : Option α} {k : α → Prop} : bindP o k ↔ ∃ a, o = some a ∧ k a := by
  cases o with
  | none => simp [bindP]
  | some a => simp [bindP]
theorem bindP_bind {α β : Type} (o : Option α) (f : α → Option β) (k : β → Prop) : bindP (o.bind f) k = bindP o fun a => bindP (f a) k := by cases o <;> rfl
theorem bindP_map {α β : Type} (o : Option α) (f : α → β) (k : β → Prop) : bindP (o.map f) k = bindP o fun a => k (f a) := by cases o <;> rfl

variable (X : Prog)
def EX (lim : Nat) (c : ACode) (e : Env) (H : Heap) (Q : Go.AM.X → Env → Heap → Prop) : Prop := bindP (ex X lim c e H) fun r => Q r.1 r.2.1 r.2.2
def EV (lim f : Nat) (args : List AV) (H : Heap) (Q : AV → Heap → Prop) : Prop := bindP (ev X lim f args H) fun r => Q r.1 r.2

theorem EV_iff {lim f : Nat} {args : List AV} {H : Heap} {Q : AV → Heap → Prop} : EV X lim f args H Q ↔ ∃ v H', ev X lim f args H = some (v, H') ∧ Q v H' := by
  unfold EV
  rw [bindP_iff]
  constructor
  · rintro ⟨⟨v, H'⟩, h, q⟩; exact ⟨v, H', h, q⟩
  · rintro ⟨v, H', h, q⟩; exact ⟨(v, H'), h, q⟩
theorem EV_eq {lim f : Nat} {args : List AV} {H H1 : Heap} {v : AV} (h : EV X lim f args H fun r H' => r = v ∧ H' = H1) : ev X lim f args H = some (v, H1) := by
  rw [EV_iff] at h
  obtain ⟨v', H', h, rfl, rfl⟩ := h
  exact h
theorem EV_mono {lim f : Nat} {args : List AV} {H : Heap} {Q Q' : AV → Heap → Prop} (h : EV X lim f args H Q) (g : ∀ v H', Q v H' → Q' v H') : EV X lim f args H Q' := bindP_mono h fun a => g _ _
theorem EX_mono {lim : Nat} {c : ACode} {e : Env} {H : Heap} {Q Q' : Go.AM.X → Env → Heap → Prop} (h : EX X lim c e H Q) (g : ∀ o e H', Q o e H' → Q' o e H') : EX X lim c e H Q' := bindP_mono h fun a => g _ _ _


/- THE REST OF THE ROAD, as data: so that a rewriting does not look into it -/
inductive Frm where
  | seq (c : ACode)
  | blk (id : Nat)
  | ng
  deriving Inhabited
abbrev Post := Go.AM.X → Env → Heap → Prop
def cont (lim : Nat) : List Frm → Post → Post
  | [], Q => Q
  | .seq c :: K, Q => fun o e H => match o with
    | .norm => EX X lim c e H (cont lim K Q)
    | o => cont lim K Q o e H
  | .blk id :: K, Q => fun o e H => match o with
    | .exit k => if k = id then cont lim K Q .norm e H else cont lim K Q (.exit k) e H
    | o => cont lim K Q o e H
  | .ng :: K, Q => fun o e H => match o with
    | .goto _ => False
    | o => cont lim K Q o e H
/-- To run code, and then the rest. -/
def GO (lim : Nat) (c : ACode) (K : List Frm) (e : Env) (H : Heap) (Q : Post) : Prop := EX X lim c e H (cont X lim K Q)
/-- To go on with the rest. -/
def ON (lim : Nat) (K : List Frm) (o : Go.AM.X) (e : Env) (H : Heap) (Q : Post) : Prop := cont X lim K Q o e H
/-- To run a row of operations, and then the rest. -/
def RUN (lim : Nat) (l : List GOp) (K : List Frm) (e : Env) (H : Heap) (Q : Post) : Prop := EX X lim (.ops l) e H (cont X lim K Q)
def RUND (lim : Nat) (l : List GOp) (ap : List (Nat × Nat)) (K : List Frm) (e : Env) (H : Heap) (Q : Post) : Prop := EX X lim (.opsD l ap) e H (cont X lim K Q)
/-- A value is known: into its place, and on. -/
def STV (lim : Nat) (o : Option AV) (d : Option Nat) (l : List GOp) (K : List Frm) (e : Env) (H : Heap) (Q : Post) : Prop := bindP o fun v => RUN X lim l K (e.put d v) H Q
def STH (lim : Nat) (o : Option (AV × Heap)) (d : Option Nat) (l : List GOp) (K : List Frm) (e : Env) (Q : Post) : Prop := bindP o fun r => RUN X lim l K (e.put d r.1) r.2 Q
def STC (lim : Nat) (o : Option (AV × Heap)) (q : Bool) (d : Option Nat) (l : List GOp) (K : List Frm) (e : Env) (H : Heap) (Q : Post) : Prop := bindP (quietly q H o) fun r => RUN X lim l K (e.put d r.1) r.2 Q
/-- A guarded operation. -/
def GRD (lim : Nat) (v : AV) (w : Bool) (d : Option Nat) (o : AOp) (l : List GOp) (K : List Frm) (e : Env) (H : Heap) (Q : Post) : Prop :=
  match v with
  | .bool b => if (b == w) = true then RUN X lim (⟨none, d, o⟩ :: l) K e H Q else RUN X lim l K (e.put d .undef) H Q
  | .undef => RUN X lim l K (e.put d .undef) H Q
  | _ => False
def BR (lim : Nat) (v : AV) (a b : ACode) (K : List Frm) (e : Env) (H : Heap) (Q : Post) : Prop :=
  match v with
  | .bool t => if t = true then GO X lim a K e H Q else GO X lim b K e H Q
  | _ => False

section
variable {lim : Nat} {e : Env} {H : Heap} {Q : Post} {K : List Frm} {l : List GOp} {d : Option Nat}
theorem EX_seq (a b : ACode) {Q : Post} : EX X lim (.seq a b) e H Q = EX X lim a e H (cont X lim [.seq b] Q) := by
  rw [EX, ex_seq, bindP_bind, EX]
  congr 1
  funext r
  obtain ⟨x, e', H'⟩ := r
  cases x <;> rfl
theorem EX_block (id : Nat) (c : ACode) {Q : Post} : EX X lim (.block id c) e H Q = EX X lim c e H (cont X lim [.blk id] Q) := by
  rw [EX, ex_block, bindP_map, EX]
  congr 1
  funext r
  obtain ⟨x, e', H'⟩ := r
  cases x <;> try rfl
  rename_i k
  by_cases hk : k = id
  · subst hk; simp [cont]
  · have : Go.AM.X.exit k ≠ Go.AM.X.exit id := by intro h; cases h; exact hk rfl
    simp [cont, hk, this]
theorem GO_skip : GO X lim .skip K e H Q = ON X lim K .norm e H Q := by rw [GO, EX, ex_skip]; rfl
theorem GO_exit (id : Nat) : GO X lim (.exit id) K e H Q = ON X lim K (.exit id) e H Q := by rw [GO, EX, ex_exit]; rfl
theorem GO_ret : GO X lim .ret K e H Q = ON X lim K .ret e H Q := by rw [GO, EX, ex_ret]; rfl
theorem GO_ops : GO X lim (.ops l) K e H Q = RUN X lim l K e H Q := rfl
theorem GO_opsD (ap : List (Nat × Nat)) : GO X lim (.opsD l ap) K e H Q = RUND X lim l ap K e H Q := rfl
theorem GO_seq (a b : ACode) : GO X lim (.seq a b) K e H Q = GO X lim a (.seq b :: K) e H Q := by rw [GO, EX_seq]; rfl
theorem GO_block (id : Nat) (c : ACode) : GO X lim (.block id c) K e H Q = GO X lim c (.blk id :: K) e H Q := by rw [GO, EX_block]; rfl
theorem GO_cond (c : AArg) (a b : ACode) : GO X lim (.cond c a b) K e H Q = BR X lim (c.ev e) a b K e H Q := by
  rw [GO, EX, ex_cond]
  generalize c.ev e = v
  cases v <;> try rfl
  rename_i t
  cases t <;> rfl
theorem BR_true (a b : ACode) : BR X lim (.bool true) a b K e H Q = GO X lim a K e H Q := rfl
theorem BR_false (a b : ACode) : BR X lim (.bool false) a b K e H Q = GO X lim b K e H Q := rfl
theorem BR_intro {t : Bool} {a b : ACode} (h1 : t = true → GO X lim a K e H Q) (h2 : t = false → GO X lim b K e H Q) : BR X lim (.bool t) a b K e H Q := by
  cases t
  · exact h2 rfl
  · exact h1 rfl
theorem ON_nil (o : Go.AM.X) : ON X lim [] o e H Q = Q o e H := rfl
theorem ON_seq_norm (c : ACode) : ON X lim (.seq c :: K) .norm e H Q = GO X lim c K e H Q := rfl
theorem ON_seq_ret (c : ACode) : ON X lim (.seq c :: K) .ret e H Q = ON X lim K .ret e H Q := rfl
theorem ON_seq_exit (c : ACode) (k : Nat) : ON X lim (.seq c :: K) (.exit k) e H Q = ON X lim K (.exit k) e H Q := rfl
theorem ON_seq_goto (c : ACode) (k : Nat) : ON X lim (.seq c :: K) (.goto k) e H Q = ON X lim K (.goto k) e H Q := rfl
theorem ON_blk_norm (id : Nat) : ON X lim (.blk id :: K) .norm e H Q = ON X lim K .norm e H Q := rfl
theorem ON_blk_ret (id : Nat) : ON X lim (.blk id :: K) .ret e H Q = ON X lim K .ret e H Q := rfl
theorem ON_blk_goto (id k : Nat) : ON X lim (.blk id :: K) (.goto k) e H Q = ON X lim K (.goto k) e H Q := rfl
theorem ON_blk_here (id : Nat) : ON X lim (.blk id :: K) (.exit id) e H Q = ON X lim K .norm e H Q := by simp [ON, cont]
theorem ON_blk_other (id k : Nat) (h : (k == id) = false) : ON X lim (.blk id :: K) (.exit k) e H Q = ON X lim K (.exit k) e H Q := by simp [ON, cont, by simpa using h]
theorem RUN_nil : RUN X lim [] K e H Q = ON X lim K .norm e H Q := by rw [RUN, EX, ex_ops]; rfl
theorem RUN_def : RUN X lim l K e H Q = bindP (runOps (ev X) lim l e H) fun s => cont X lim K Q .norm s.1 s.2 := by rw [RUN, EX, ex_ops, bindP_map]
theorem RUN_op (o : AOp) : RUN X lim (⟨none, d, o⟩ :: l) K e H Q = STH X lim (stepOp (ev X) lim o e H) d l K e Q := by
  rw [RUN_def, STH]
  simp only [runOps, stepG, wantedA, bindP_bind, bindP_map, RUN_def]
theorem RUN_guard {t : Nat} {w : Bool} {o : AOp} : RUN X lim (⟨some (t, w), d, o⟩ :: l) K e H Q = GRD X lim (e t) w d o l K e H Q := by
  rw [RUN_def, runOps, stepG, wantedA]
  unfold GRD
  generalize e t = v
  cases v <;> simp only [Option.bind_none, bindP_none, Option.bind_some, bindP_some, RUN_def]
  rename_i b
  cases b <;> cases w <;> simp [bindP_bind, bindP_map, bindP_some, RUN_def, runOps, stepG, wantedA]
theorem GRD_true (b : Bool) (o : AOp) : GRD X lim (.bool true) true d o l K e H Q = RUN X lim (⟨none, d, o⟩ :: l) K e H Q := rfl
theorem GRD_false (o : AOp) : GRD X lim (.bool false) false d o l K e H Q = RUN X lim (⟨none, d, o⟩ :: l) K e H Q := rfl
theorem GRD_tf (o : AOp) : GRD X lim (.bool true) false d o l K e H Q = RUN X lim l K (e.put d .undef) H Q := rfl
theorem GRD_ft (o : AOp) : GRD X lim (.bool false) true d o l K e H Q = RUN X lim l K (e.put d .undef) H Q := rfl
theorem GRD_undef (w : Bool) (o : AOp) : GRD X lim .undef w d o l K e H Q = RUN X lim l K (e.put d .undef) H Q := rfl
theorem GRD_tt (o : AOp) : GRD X lim (.bool true) true d o l K e H Q = RUN X lim (⟨none, d, o⟩ :: l) K e H Q := rfl
theorem STH_some (v : AV) (H' : Heap) : STH X lim (some (v, H')) d l K e Q = RUN X lim l K (e.put d v) H' Q := rfl
theorem STV_some (v : AV) : STV X lim (some v) d l K e H Q = RUN X lim l K (e.put d v) H Q := rfl
theorem STC_same (q : Bool) (v : AV) : STC X lim (some (v, H)) q d l K e H Q = RUN X lim l K (e.put d v) H Q := by rw [STC]; cases q <;> simp [quietly, bindP]
theorem STC_false (v : AV) (H' : Heap) : STC X lim (some (v, H')) false d l K e H Q = RUN X lim l K (e.put d v) H' Q := by rw [STC]; simp [quietly, bindP]
theorem STC_iff (q : Bool) (o : Option (AV × Heap)) : STC X lim o q d l K e H Q = bindP (quietly q H o) fun r => RUN X lim l K (e.put d r.1) r.2 Q := rfl
theorem STH_map (o : Option AV) : STH X lim (o.map fun v => (v, H)) d l K e Q = STV X lim o d l K e H Q := by cases o <;> rfl
theorem RUND_def (ap : List (Nat × Nat)) : RUND X lim l ap K e H Q = RUN X lim l [] e H (fun _ e' H' => apartAll e' ap = true ∧ ON X lim K .norm e' H' Q) := by
  rw [RUND, EX, ex_opsD, bindP_bind, RUN_def]
  congr 1
  funext s
  by_cases h : apartAll s.1 ap = true
  · simp only [h, if_true, bindP_some, true_and, cont]; rfl
  · simp only [h, bindP_none, if_false, Bool.false_eq_true, false_and, cont]
theorem ON_ng_norm : ON X lim (.ng :: K) .norm e H Q = ON X lim K .norm e H Q := rfl
theorem ON_ng_ret : ON X lim (.ng :: K) .ret e H Q = ON X lim K .ret e H Q := rfl
theorem ON_ng_exit (k : Nat) : ON X lim (.ng :: K) (.exit k) e H Q = ON X lim K (.exit k) e H Q := rfl
theorem GO_goto (k : Nat) : GO X lim (.goto k) K e H Q = ON X lim K (.goto k) e H Q := by rw [GO, EX, (lim_ex X lim (.goto k) e H).unique (Lim.const _)]; rfl
theorem GO_jump (l : Nat) (a c : ACode) : GO X lim (.jump l a c) K e H Q = GO X lim a (.ng :: .seq (.again l c) :: K) e H Q := by
  rw [GO, EX, ex_jump, bindP_bind, GO, EX]
  congr 1
  funext r
  obtain ⟨x, e', H'⟩ := r
  cases x <;> simp only [bindP_none, bindP_some, cont, EX]
/-- Two operations either way round. -/
theorem GO_swap (x y : GOp) : GO X lim (.swap x y) K e H Q = RUN X lim [x, y] [] e H (fun _ e1 H1 => RUN X lim [y, x] [] e H (fun _ e2 H2 => (e1 = e2 ∧ H1 = H2) ∧ ON X lim K .norm e1 H1 Q)) := by
  rw [GO, EX, ex_swap, bindP_bind, RUN_def]
  congr 1
  funext s
  simp only [cont]
  rw [RUN_def]
  cases h : runOps (ev X) lim [y, x] e H with
  | none => simp [bindP_none]
  | some s' =>
    simp only [bindP_some, cont, Option.some.injEq]
    by_cases hs : s' = s
    · subst hs
      simp [bindP_some, ON]
    · have : ¬ (s.1 = s'.1 ∧ s.2 = s'.2) := fun hh => hs (Prod.ext hh.1.symm hh.2.symm)
      simp [hs, bindP_none, this]
/-- A loop of jumps, by what holds at each. -/
def againX (l : Nat) (I : Nat → Env → Heap → Prop) (m : Nat) (Q : Post) : Post := fun o e H => match o with
  | .goto l' => l' = l ∧ ∃ m', m' < m ∧ I m' e H
  | o => Q o e H
theorem againX_goto (l l' : Nat) (I : Nat → Env → Heap → Prop) (m : Nat) : againX l I m Q (.goto l') e H = (l' = l ∧ ∃ m', m' < m ∧ I m' e H) := rfl
theorem againX_norm (l : Nat) (I : Nat → Env → Heap → Prop) (m : Nat) : againX l I m Q .norm e H = Q .norm e H := rfl
theorem againX_exit (l : Nat) (I : Nat → Env → Heap → Prop) (m k : Nat) : againX l I m Q (.exit k) e H = Q (.exit k) e H := rfl
theorem againX_ret (l : Nat) (I : Nat → Env → Heap → Prop) (m : Nat) : againX l I m Q .ret e H = Q .ret e H := rfl
theorem GO_again {l : Nat} {c : ACode} (I : Nat → Env → Heap → Prop) (step : ∀ m e H, I m e H → GO X lim c [] e H (againX l I m (fun o e' H' => ON X lim K o e' H' Q))) : ∀ m e H, I m e H → GO X lim (.again l c) K e H Q := by
  intro m
  induction m using Nat.strongRecOn with
  | _ m ih =>
    intro e H hI
    rw [GO, EX, ex_again, bindP_bind]
    have := step m e H hI
    rw [GO, EX] at this
    refine bindP_mono this ?_
    rintro ⟨x, e', H'⟩ h
    cases x
    case goto l' =>
      obtain ⟨hl, m', hm, h⟩ := h
      simp only [hl, if_true]
      exact ih m' hm e' H' h
    all_goals exact h
/-- A loop, by what holds at each turn, with a number that falls. -/
def turnX (I : Nat → Env → Heap → Prop) (m : Nat) (Q : Post) : Post := fun o e H => match o with
  | .norm => ∃ m', m' < m ∧ I m' e H
  | o => Q o e H
theorem turnX_norm (I : Nat → Env → Heap → Prop) (m : Nat) : turnX I m Q .norm e H = ∃ m', m' < m ∧ I m' e H := rfl
theorem turnX_exit (I : Nat → Env → Heap → Prop) (m k : Nat) : turnX I m Q (.exit k) e H = Q (.exit k) e H := rfl
theorem turnX_ret (I : Nat → Env → Heap → Prop) (m : Nat) : turnX I m Q .ret e H = Q .ret e H := rfl
theorem GO_loop {c : ACode} (I : Nat → Env → Heap → Prop) (step : ∀ m e H, I m e H → GO X lim c [] e H (turnX I m (fun o e' H' => ON X lim K o e' H' Q))) : ∀ m e H, I m e H → GO X lim (.loop c) K e H Q := by
  intro m
  induction m using Nat.strongRecOn with
  | _ m ih =>
    intro e H hI
    rw [GO, EX, ex_loop, bindP_bind]
    have := step m e H hI
    rw [GO, EX] at this
    refine bindP_mono this ?_
    rintro ⟨x, e', H'⟩ h
    cases x
    · obtain ⟨m', hm, h⟩ := h
      exact ih m' hm e' H' h
    all_goals exact h
end

theorem GO_unroll {lim : Nat} {e : Env} {H : Heap} {Q : Post} {K : List Frm} {c : ACode} : GO X lim (.loop c) K e H Q = GO X lim c (.seq (.loop c) :: K) e H Q := by
  rw [GO, EX, ex_loop, bindP_bind, GO, EX]
  congr 1
  funext r
  obtain ⟨x, e', H'⟩ := r
  cases x <;> rfl

/-- The value of a call: what its body left. -/
def FIN (o : Option AV) (m : RetMode) (n0 : Nat) (H : Heap) (Q : AV → Heap → Prop) : Prop := bindP o fun v => bindP (finish m n0 v H) fun r => Q r.1 r.2
def FIN2 (o : Option (AV × Heap)) (Q : AV → Heap → Prop) : Prop := bindP o fun r => Q r.1 r.2
theorem FIN_some (v : AV) (m : RetMode) (n0 : Nat) (H : Heap) (Q : AV → Heap → Prop) : FIN (some v) m n0 H Q = FIN2 (finish m n0 v H) Q := rfl
theorem FIN2_some (v : AV) (H : Heap) (Q : AV → Heap → Prop) : FIN2 (some (v, H)) Q = Q v H := rfl
/-- Where a body ends, the call ends. -/
def endX (res : List ARes) (mode : RetMode) (n0 : Nat) (Q : AV → Heap → Prop) : Post
  | .norm => fun e H => FIN (resOf e H res) mode n0 H Q
  | .ret => fun e H => FIN (resOf e H res) mode n0 H Q
  | _ => fun _ _ => False
theorem endX_norm (res : List ARes) (mode : RetMode) (n0 : Nat) (Q : AV → Heap → Prop) (e : Env) (H : Heap) : endX res mode n0 Q .norm e H = FIN (resOf e H res) mode n0 H Q := rfl
theorem endX_ret (res : List ARes) (mode : RetMode) (n0 : Nat) (Q : AV → Heap → Prop) (e : Env) (H : Heap) : endX res mode n0 Q .ret e H = FIN (resOf e H res) mode n0 H Q := rfl

theorem EV_raw {lim f : Nat} {af : AFunc} (hf : X.F f = some af) {args : List AV} {H : Heap} {Q : AV → Heap → Prop} (hl : args.length = af.np) (hm : af.mode = .raw) :
    EV X lim f args H Q = GO X lim af.body [] (Env.ofList args) H (endX af.res .raw H.length Q) := by
  rw [EV, ev_eq (X := X) (lim := lim) (H := H) hf args hl, bindP_bind, GO, EX, hm, if_pos rfl]
  congr 1
  funext r
  obtain ⟨x, e', H'⟩ := r
  cases x <;> simp only [callFin, endX, bindP_bind, bindP_none, FIN, cont, hm]
theorem EV_own {lim f : Nat} {af : AFunc} (hf : X.F f = some af) {args : List AV} {H : Heap} {Q : AV → Heap → Prop} (hl : args.length = af.np) (hm : af.mode ≠ .raw) :
    EV X lim f args H Q = GO X H.length af.body [] (Env.ofList args) H (endX af.res af.mode H.length Q) := by
  rw [EV, ev_eq (X := X) (lim := lim) (H := H) hf args hl, bindP_bind, GO, EX, if_neg hm]
  congr 1
  funext r
  obtain ⟨x, e', H'⟩ := r
  cases x <;> simp only [callFin, endX, bindP_bind, bindP_none, FIN, cont]
/-- A call's answer, where its body ends so. -/
theorem ev_own {lim f : Nat} {af : AFunc} (hf : X.F f = some af) {args : List AV} {H H1 : Heap} {v : AV} (hl : args.length = af.np) (hm : af.mode ≠ .raw)
    (h : GO X H.length af.body [] (Env.ofList args) H (endX af.res af.mode H.length fun r H' => r = v ∧ H' = H1)) : ev X lim f args H = some (v, H1) :=
  EV_eq X (by rw [EV_own X hf hl hm]; exact h)
theorem ev_raw {lim f : Nat} {af : AFunc} (hf : X.F f = some af) {args : List AV} {H H1 : Heap} {v : AV} (hl : args.length = af.np) (hm : af.mode = .raw)
    (h : GO X lim af.body [] (Env.ofList args) H (endX af.res .raw H.length fun r H' => r = v ∧ H' = H1)) : ev X lim f args H = some (v, H1) :=
  EV_eq X (by rw [EV_raw X hf hl hm]; exact h)

/- ENVIRONMENTS -/
theorem Env.put_some (e : Env) (k : Nat) (v : AV) : Env.put e (some k) v = Env.set e k v := rfl
theorem Env.put_none (e : Env) (v : AV) : Env.put e none v = e := rfl
theorem Env.set_same (e : Env) (k : Nat) (v : AV) : Env.set e k v k = v := by simp [Env.set]
theorem Env.set_other (e : Env) {k j : Nat} (v : AV) (h : (j == k) = false) : Env.set e k v j = e j := by simp [Env.set, by simpa using h]
theorem Env.ofList_zero (a : AV) (l : List AV) : Env.ofList (a :: l) 0 = a := rfl
theorem Env.ofList_one (a b : AV) (l : List AV) : Env.ofList (a :: b :: l) 1 = b := rfl
theorem Env.ofList_two (a b c : AV) (l : List AV) : Env.ofList (a :: b :: c :: l) 2 = c := rfl
theorem Env.ofList_three (a b c d : AV) (l : List AV) : Env.ofList (a :: b :: c :: d :: l) 3 = d := rfl
theorem AArg.ev_t (e : Env) (n : Nat) : AArg.ev e (.t n) = e n := rfl
theorem AArg.ev_c (e : Env) (v : AV) : AArg.ev e (.c v) = v := rfl

/- THE HEAP'S END -/
theorem Heap.cells_tl (H L : Heap) (k v : Nat) : Heap.cells (H ++ L) (H.length + k) v = Heap.cells L k v := by
  unfold Heap.cells
  rw [List.getElem?_append_right (by omega), Nat.add_sub_cancel_left]
theorem Heap.cells_tl0 (H L : Heap) (v : Nat) : Heap.cells (H ++ L) H.length v = Heap.cells L 0 v := Heap.cells_tl H L 0 v
theorem Heap.cells_old {H L : Heap} {k v : Nat} {cs : List AV} (h : Heap.cells H k v = some cs) : Heap.cells (H ++ L) k v = some cs := by
  unfold Heap.cells at h ⊢
  cases hk : H[k]? with
  | none => rw [hk] at h; cases h
  | some b =>
    have hlt : k < H.length := (List.getElem?_eq_some_iff.1 hk).1
    rw [List.getElem?_append_left hlt, hk]
    rw [hk] at h
    exact h
theorem Heap.cells_zero_rw (v s : Nat) (c : List AV) (L : Heap) : Heap.cells (.rw v s c :: L) 0 v = some c := by simp [Heap.cells, Blk.ver, Blk.cells]
theorem Heap.cells_succ (b : Blk) (L : Heap) (k v : Nat) : Heap.cells (b :: L) (k + 1) v = Heap.cells L k v := by simp [Heap.cells]
theorem Heap.cells_1 (a b : Blk) (L : Heap) (v : Nat) : Heap.cells (a :: b :: L) 1 v = Heap.cells (b :: L) 0 v := Heap.cells_succ _ _ _ _
theorem Heap.cells_2 (a b c : Blk) (L : Heap) (v : Nat) : Heap.cells (a :: b :: c :: L) 2 v = Heap.cells (c :: L) 0 v := by rw [show 2 = 1 + 1 from rfl, Heap.cells_succ, Heap.cells_1]
theorem Heap.cells_3 (a b c d : Blk) (L : Heap) (v : Nat) : Heap.cells (a :: b :: c :: d :: L) 3 v = Heap.cells (d :: L) 0 v := by rw [show 3 = 2 + 1 from rfl, Heap.cells_succ, Heap.cells_2]
theorem Heap.cells_4 (a b c d f : Blk) (L : Heap) (v : Nat) : Heap.cells (a :: b :: c :: d :: f :: L) 4 v = Heap.cells (f :: L) 0 v := by rw [show 4 = 3 + 1 from rfl, Heap.cells_succ, Heap.cells_3]
theorem Heap.cells_5 (a b c d f g : Blk) (L : Heap) (v : Nat) : Heap.cells (a :: b :: c :: d :: f :: g :: L) 5 v = Heap.cells (g :: L) 0 v := by rw [show 5 = 4 + 1 from rfl, Heap.cells_succ, Heap.cells_4]
theorem Heap.cells_6 (a b c d f g h : Blk) (L : Heap) (v : Nat) : Heap.cells (a :: b :: c :: d :: f :: g :: h :: L) 6 v = Heap.cells (h :: L) 0 v := by rw [show 6 = 5 + 1 from rfl, Heap.cells_succ, Heap.cells_5]

theorem Heap.write_tl {H L : Heap} {lim k v o : Nat} {vs : List AV} (h : lim ≤ H.length) : Heap.write (H ++ L) lim (H.length + k) v o vs = (Heap.write L 0 k v o vs).map fun L' => H ++ L' := by
  unfold Heap.write
  rw [List.getElem?_append_right (by omega), Nat.add_sub_cancel_left]
  cases hk : L[k]? with
  | none => rfl
  | some b =>
    cases b with
    | ro c => rfl
    | rw v' s c =>
      simp only
      by_cases h1 : v' = v ∧ o + vs.length ≤ c.length
      · rw [if_pos ⟨h1.1, h1.2, fun h => by omega⟩, if_pos ⟨h1.1, h1.2, fun h => by omega⟩]
        simp only [Option.map_some, Option.some.injEq]
        rw [List.set_append_right _ _ (by omega), Nat.add_sub_cancel_left]
      · rw [if_neg fun h => h1 ⟨h.1, h.2.1⟩, if_neg fun h => h1 ⟨h.1, h.2.1⟩]
        rfl
theorem Heap.write_tl0 {H L : Heap} {lim v o : Nat} {vs : List AV} (h : lim ≤ H.length) : Heap.write (H ++ L) lim H.length v o vs = (Heap.write L 0 0 v o vs).map fun L' => H ++ L' := Heap.write_tl (k := 0) h
theorem Heap.write_zero (v s o : Nat) (c vs : List AV) (L : Heap) : Heap.write (.rw v s c :: L) 0 0 v o vs = if o + vs.length ≤ c.length then some (.rw v s (putCells c o vs) :: L) else none := by
  unfold Heap.write
  by_cases h : o + vs.length ≤ c.length
  · simp [h]
  · simp [h]
theorem Heap.write_succ (b : Blk) (L : Heap) (k v o : Nat) (vs : List AV) : Heap.write (b :: L) 0 (k + 1) v o vs = (Heap.write L 0 k v o vs).map fun L' => b :: L' := by
  unfold Heap.write
  simp only [List.getElem?_cons_succ, List.set_cons_succ, Nat.not_lt_zero, false_implies, and_true]
  cases L[k]? with
  | none => rfl
  | some b =>
    cases b with
    | ro c => rfl
    | rw v' s c => simp only; split <;> rfl
theorem Heap.write_1 (a b : Blk) (L : Heap) (v o : Nat) (vs : List AV) : Heap.write (a :: b :: L) 0 1 v o vs = (Heap.write (b :: L) 0 0 v o vs).map fun L' => a :: L' := Heap.write_succ _ _ _ _ _ _
theorem Heap.write_2 (a b c : Blk) (L : Heap) (v o : Nat) (vs : List AV) : Heap.write (a :: b :: c :: L) 0 2 v o vs = (Heap.write (b :: c :: L) 0 1 v o vs).map fun L' => a :: L' := Heap.write_succ _ _ _ _ _ _
theorem Heap.write_3 (a b c d : Blk) (L : Heap) (v o : Nat) (vs : List AV) : Heap.write (a :: b :: c :: d :: L) 0 3 v o vs = (Heap.write (b :: c :: d :: L) 0 2 v o vs).map fun L' => a :: L' := Heap.write_succ _ _ _ _ _ _
theorem Heap.write_4 (a b c d f : Blk) (L : Heap) (v o : Nat) (vs : List AV) : Heap.write (a :: b :: c :: d :: f :: L) 0 4 v o vs = (Heap.write (b :: c :: d :: f :: L) 0 3 v o vs).map fun L' => a :: L' := Heap.write_succ _ _ _ _ _ _

theorem finish_flat {n0 : Nat} {r : AV} {H : Heap} (h : r.flat = true) : finish .flat n0 r H = some (r, H.take n0) := by simp [finish, h]
theorem take_tl (H L : Heap) : List.take H.length (H ++ L) = H := List.take_left
theorem take_all (H : Heap) : List.take H.length H = H := List.take_length
theorem finish_raw {n0 : Nat} {r : AV} {H : Heap} : finish .raw n0 r H = some (r, H) := rfl
theorem quietly_false (H : Heap) (r : Option (AV × Heap)) : quietly false H r = r := by cases r <;> simp [quietly]
theorem quietly_same (q : Bool) (H : Heap) (v : AV) : quietly q H (some (v, H)) = some (v, H) := by cases q <;> simp [quietly]

/- WORDS -/
/-- A word of 64 bits. -/
def u64 (x : BitVec 64) : AV := .int .u64 x.toNat

end Go.AM
