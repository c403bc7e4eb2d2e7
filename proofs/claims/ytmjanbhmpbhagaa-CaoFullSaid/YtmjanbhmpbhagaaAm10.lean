/- A REGION WHOSE ORDER IS OPEN COMES TO THE SAME IN EACH ORDER THAT ITS EDGES ALLOW. Conditions: those of each theorem. -/
import Derived.Test.YtmjanbhmpbhagaaAm2
import Derived.Orders
set_option linter.unusedVariables false
set_option linter.unusedSimpArgs false
namespace Go.AM

section
variable {C : Oracle} {lim : Nat}

theorem ev_congr {x : AArg} {e e' : Env} (h : ∀ t ∈ x.tmps, e t = e' t) : x.ev e = x.ev e' := by
  cases x <;> simp_all [AArg.ev, AArg.tmps]
theorem evs_congr {l : List AArg} {e e' : Env} (h : ∀ t ∈ l.flatMap AArg.tmps, e t = e' t) : l.map (·.ev e) = l.map (·.ev e') := by
  apply List.map_congr_left
  intro x hx
  exact ev_congr fun t ht => h t (List.mem_flatMap.2 ⟨x, hx, ht⟩)
theorem opt_congr {x : Option AArg} {e e' : Env} (h : ∀ t ∈ optTmps x, e t = e' t) : x.map (·.ev e) = x.map (·.ev e') := by
  cases x
  · rfl
  · simp only [Option.map_some]
    rw [ev_congr h]
theorem fill_congr {e e' : Env} : ∀ {ps : List (Nat × Nat × AArg)} {cs : List AV}, (∀ t ∈ ps.flatMap (fun p => p.2.2.tmps), e t = e' t) → fillCells e cs ps = fillCells e' cs ps
  | [], cs, _ => rfl
  | (o, n, x) :: ps, cs, h => by
    simp only [fillCells]
    rw [ev_congr (x := x) (e := e) (e' := e') fun t ht => h t (by simp [ht])]
    split
    · split
      · exact fill_congr fun t ht => h t (by simp at ht ⊢; exact .inr ht)
      · rfl
    · rfl

/-- What an operation does hangs on the slots that it names alone. -/
theorem step_congr {o : AOp} {e e' : Env} (H : Heap) (h : ∀ t ∈ o.tmps, e t = e' t) : stepOp C lim o e H = stepOp C lim o e' H := by
  have one : ∀ x : AArg, (∀ t ∈ x.tmps, t ∈ o.tmps) → x.ev e = x.ev e' := fun x hx => ev_congr fun t ht => h t (hx t ht)
  have many : ∀ l : List AArg, (∀ t ∈ l.flatMap AArg.tmps, t ∈ o.tmps) → l.map (·.ev e) = l.map (·.ev e') := fun l hl => evs_congr fun t ht => h t (hl t ht)
  have opt : ∀ x : Option AArg, (∀ t ∈ optTmps x, t ∈ o.tmps) → x.map (·.ev e) = x.map (·.ev e') := fun x hx => opt_congr fun t ht => h t (hx t ht)
  cases o <;> simp only [stepOp, AOp.tmps, List.mem_append] at * <;> (try rfl)
  case mov x => rw [one x fun t ht => ht]
  case pick c a b => rw [one c fun t ht => .inl ht, one a fun t ht => .inr (.inl ht), one b fun t ht => .inr (.inr ht)]
  case box x => rw [one x fun t ht => ht]
  case build zs ps => rw [fill_congr h]
  case bslice sz n zs ps => rw [fill_congr h]
  case load agg n x => rw [one x fun t ht => ht]
  case store n x y => rw [one x fun t ht => .inl ht, one y fun t ht => .inr ht]
  case nilchk x => rw [one x fun t ht => ht]
  case bin op x y => rw [one x fun t ht => .inl ht, one y fun t ht => .inr ht]
  case eqs neg agg plan x y => rw [one x fun t ht => .inl ht, one y fun t ht => .inr ht]
  case nileq neg k x y => rw [one x fun t ht => .inl ht, one y fun t ht => .inr ht]
  case un op x => rw [one x fun t ht => ht]
  case conv k x => rw [one x fun t ht => ht]
  case mkfn f l => rw [many l fun t ht => ht]
  case mkslice sz bytes zs x y => rw [one x fun t ht => .inl ht, one y fun t ht => .inr ht]
  case slice sz x lo hi mx => rw [one x fun t ht => .inl ht, opt lo fun t ht => .inr (.inl ht), opt hi fun t ht => .inr (.inr (.inl ht)), opt mx fun t ht => .inr (.inr (.inr ht))]
  case padd off x => rw [one x fun t ht => ht]
  case iaddrA len sz x y => rw [one x fun t ht => .inl ht, one y fun t ht => .inr ht]
  case iaddrS sz x y => rw [one x fun t ht => .inl ht, one y fun t ht => .inr ht]
  case index len sz agg x y => rw [one x fun t ht => .inl ht, one y fun t ht => .inr ht]
  case sidx x y => rw [one x fun t ht => .inl ht, one y fun t ht => .inr ht]
  case extract x i => rw [one x fun t ht => ht]
  case fld off n agg x => rw [one x fun t ht => ht]
  case call f l q => rw [many l fun t ht => ht]
  case callv f l q => rw [one f fun t ht => .inl ht, many l fun t ht => .inr ht]
  case callA f l => rw [many l fun t ht => ht]
  case append sz bytes x y => rw [one x fun t ht => .inl ht, one y fun t ht => .inr ht]
  case len x => rw [one x fun t ht => ht]
  case copy sz x y => rw [one x fun t ht => .inl ht, one y fun t ht => .inr ht]
  case minmax mx l => rw [many l fun t ht => ht]

theorem quietly_heap {H : Heap} {r : Option (AV × Heap)} {x : AV × Heap} (h : quietly true H r = some x) : x.2 = H := by
  unfold quietly at h
  cases r with
  | none => cases h
  | some y =>
    simp only [Option.bind_some, if_true] at h
    split at h
    · rename_i hh
      simp only [Option.some.injEq] at h
      rw [← h]; exact hh
    · cases h

/-- Two memories alike but for what stands in the cells. -/
def Meta (H H' : Heap) : Prop := ∀ id : Nat, (H[id]? = none ∧ H'[id]? = none) ∨ (∃ c c', H[id]? = some (.ro c) ∧ H'[id]? = some (.ro c')) ∨ ∃ v s c c', H[id]? = some (.rw v s c) ∧ H'[id]? = some (.rw v s c')
theorem Meta.cells {H H' : Heap} (h : Meta H H') (id ver : Nat) : (H.cells id ver).isSome = (H'.cells id ver).isSome := by
  unfold Heap.cells
  rcases h id with ⟨h1, h2⟩ | ⟨c, c', h1, h2⟩ | ⟨v, s, c, c', h1, h2⟩
  · rw [h1, h2]
  · rw [h1, h2]; simp only [Blk.ver]; by_cases hv : 0 = ver <;> simp [hv]
  · rw [h1, h2]; simp only [Blk.ver]; by_cases hv : v = ver <;> simp [hv]
theorem Meta.slOk {H H' : Heap} (h : Meta H H') (id ver sz : Nat) : H.slOk id ver sz = H'.slOk id ver sz := by
  unfold Heap.slOk
  rcases h id with ⟨h1, h2⟩ | ⟨c, c', h1, h2⟩ | ⟨v, s, c, c', h1, h2⟩ <;> rw [h1, h2]

/-- More memory than another. -/
def More (H H' : Heap) : Prop := ∀ (id : Nat) (B : Blk), H[id]? = some B → H'[id]? = some B
theorem More.cells {H H' : Heap} (h : More H H') {id ver : Nat} {c : List AV} (hc : H.cells id ver = some c) : H'.cells id ver = some c := by
  unfold Heap.cells at hc ⊢
  cases hB : H[id]? with
  | none => simp [hB] at hc
  | some B => rw [h id B hB]; rw [hB] at hc; exact hc
theorem More.isSome {H H' : Heap} (h : More H H') {id ver : Nat} (hc : (H.cells id ver).isSome = true) : (H'.cells id ver).isSome = true := by
  obtain ⟨c, hc⟩ := Option.isSome_iff_exists.1 hc
  rw [h.cells hc]; rfl
theorem More.slOk {H H' : Heap} (h : More H H') {id ver sz : Nat} (hc : H.slOk id ver sz = true) : H'.slOk id ver sz = true := by
  unfold Heap.slOk at hc ⊢
  cases hB : H[id]? with
  | none => simp [hB] at hc
  | some B => rw [h id B hB]; rw [hB] at hc; exact hc
theorem More.append (H : Heap) (B : Blk) : More H (H ++ [B]) := fun id C h => by
  rw [List.getElem?_append_left (List.getElem?_eq_some_iff.1 h).1]; exact h

theorem map_pair {α β : Type} {o : Option α} {f : α → β} {x : β} (h : o.map f = some x) : ∃ a, o = some a ∧ f a = x := Option.map_eq_some_iff.1 h

/-- Does nothing with memory. -/
theorem step_pure {o : AOp} {e : Env} {H : Heap} {x : AV × Heap} (hc : o.cls = .pure) (h : stepOp C lim o e H = some x) : x.2 = H ∧ ∀ H2, stepOp C lim o e H2 = some (x.1, H2) := by
  cases o <;> simp only [AOp.cls, reduceCtorEq] at hc <;> simp only [stepOp] at h ⊢
  case mov => simp only [Option.some.injEq] at h; rw [← h]; exact ⟨rfl, fun _ => rfl⟩
  case pick =>
    split at h
    · simp only [Option.some.injEq] at h; rw [← h]; exact ⟨rfl, fun _ => rfl⟩
    · cases h
  case build => obtain ⟨_, h1, h⟩ := map_pair h; rw [← h]; exact ⟨rfl, fun _ => by rw [h1]; rfl⟩
  case bin => obtain ⟨_, h1, h⟩ := map_pair h; rw [← h]; exact ⟨rfl, fun _ => by rw [h1]; rfl⟩
  case eqs => obtain ⟨_, h1, h⟩ := map_pair h; rw [← h]; exact ⟨rfl, fun _ => by rw [h1]; rfl⟩
  case un => obtain ⟨_, h1, h⟩ := map_pair h; rw [← h]; exact ⟨rfl, fun _ => by rw [h1]; rfl⟩
  case conv =>
    split at h
    · simp only [Option.some.injEq] at h; rw [← h]; exact ⟨rfl, fun _ => rfl⟩
    · cases h
  case mkfn => simp only [Option.some.injEq] at h; rw [← h]; exact ⟨rfl, fun _ => rfl⟩
  case index =>
    split at h
    · split at h
      · rename_i hb
        obtain ⟨_, h1, h⟩ := map_pair h; rw [← h]; exact ⟨rfl, fun _ => by rw [if_pos hb, h1]; rfl⟩
      · cases h
    · cases h
  case sidx =>
    split at h
    · split at h
      · rename_i hb
        obtain ⟨_, h1, h⟩ := map_pair h; rw [← h]; exact ⟨rfl, fun _ => by rw [if_pos hb, h1]; rfl⟩
      · cases h
    · cases h
  case fld =>
    split at h
    · obtain ⟨_, h1, h⟩ := map_pair h; rw [← h]; exact ⟨rfl, fun _ => by rw [h1]; rfl⟩
    · cases h
  case extract =>
    split at h
    · obtain ⟨_, h1, h⟩ := map_pair h; rw [← h]; exact ⟨rfl, fun _ => by rw [h1]; rfl⟩
    · cases h
  case call f l q => split at hc <;> cases hc
  case callv f l q => split at hc <;> cases hc
  case minmax => obtain ⟨_, h1, h⟩ := map_pair h; rw [← h]; exact ⟨rfl, fun _ => by rw [h1]; rfl⟩

/-- Asks only what lives. -/
theorem step_val {o : AOp} {e : Env} {H : Heap} {x : AV × Heap} (hc : o.cls = .val) (h : stepOp C lim o e H = some x) : x.2 = H ∧ (∀ H2, Meta H H2 → stepOp C lim o e H2 = some (x.1, H2)) ∧ ∀ H2, More H H2 → stepOp C lim o e H2 = some (x.1, H2) := by
  cases o <;> simp only [AOp.cls, reduceCtorEq] at hc <;> simp only [stepOp] at h ⊢
  case nilchk =>
    split at h
    · split at h
      · rename_i hl
        simp only [Option.some.injEq] at h; rw [← h]
        exact ⟨rfl, fun H2 hm => by rw [← hm.cells, if_pos hl], fun H2 hm => by rw [if_pos (hm.isSome hl)]⟩
      · cases h
    · simp only [Option.some.injEq] at h; rw [← h]; exact ⟨rfl, fun _ _ => rfl, fun _ _ => rfl⟩
    · cases h
  case nileq n k a b =>
    obtain ⟨r, h1, h⟩ := map_pair h
    rw [← h]
    have key : ∀ H2, (∀ id ver, (H.cells id ver).isSome = true → (H2.cells id ver).isSome = true) → nileqV H2 k (a.ev e) (b.ev e) = some r := by
      intro H2 hs
      unfold nileqV at h1 ⊢
      split at h1 <;> (try exact h1) <;> (split at h1 <;> first | (rename_i hl; rw [if_pos (hs _ _ hl)]; exact h1) | cases h1)
    exact ⟨rfl, fun H2 hm => by rw [key H2 (fun id ver hl => by rw [← hm.cells]; exact hl)]; rfl, fun H2 hm => by rw [key H2 (fun id ver hl => hm.isSome hl)]; rfl⟩
  case slice sz a lo hi mx =>
    obtain ⟨r, h1, h⟩ := map_pair h
    rw [← h]
    have key : ∀ H2, (∀ id ver, H.slOk id ver sz = true → H2.slOk id ver sz = true) → sliceV H2 sz (a.ev e) (lo.map (·.ev e)) (hi.map (·.ev e)) (mx.map (·.ev e)) = some r := by
      intro H2 hs
      unfold sliceV at h1 ⊢
      split at h1
      · exact h1
      · split at h1
        · rename_i hl; rw [if_pos (hs _ _ hl)]; exact h1
        · cases h1
      · cases h1
    exact ⟨rfl, fun H2 hm => by rw [key H2 (fun id ver hl => by rw [← hm.slOk]; exact hl)]; rfl, fun H2 hm => by rw [key H2 (fun id ver hl => hm.slOk hl)]; rfl⟩
  case padd =>
    split at h
    · split at h
      · rename_i hl
        simp only [Option.some.injEq] at h; rw [← h]
        exact ⟨rfl, fun H2 hm => by rw [← hm.cells, if_pos hl], fun H2 hm => by rw [if_pos (hm.isSome hl)]⟩
      · cases h
    · cases h
  case iaddrA =>
    split at h
    · split at h
      · rename_i hl
        simp only [Option.some.injEq] at h; rw [← h]
        exact ⟨rfl, fun H2 hm => by rw [← hm.cells, if_pos hl], fun H2 hm => by rw [if_pos ⟨hm.isSome hl.1, hl.2⟩]⟩
      · cases h
    · cases h
  case iaddrS =>
    split at h
    · split at h
      · rename_i hl
        simp only [Option.some.injEq] at h; rw [← h]
        exact ⟨rfl, fun H2 hm => by rw [← hm.cells, if_pos hl], fun H2 hm => by rw [if_pos ⟨hm.isSome hl.1, hl.2⟩]⟩
      · cases h
    · cases h
  case call f l q => split at hc <;> cases hc
  case callv f l q => split at hc <;> cases hc
  case len a =>
    obtain ⟨r, h1, h⟩ := map_pair h
    rw [← h]
    have key : ∀ H2, (∀ id ver, (H.cells id ver).isSome = true → (H2.cells id ver).isSome = true) → lenV H2 (a.ev e) = some r := by
      intro H2 hs
      unfold lenV at h1 ⊢
      split at h1
      · exact h1
      · split at h1
        · rename_i hl; rw [if_pos (hs _ _ hl)]; exact h1
        · cases h1
      · cases h1
    exact ⟨rfl, fun H2 hm => by rw [key H2 (fun id ver hl => by rw [← hm.cells]; exact hl)]; rfl, fun H2 hm => by rw [key H2 (fun id ver hl => hm.isSome hl)]; rfl⟩

theorem step_load {o : AOp} {e : Env} {H : Heap} {x : AV × Heap} (hc : o.cls = .load) (h : stepOp C lim o e H = some x) : x.2 = H ∧ (∀ H2, More H H2 → stepOp C lim o e H2 = some (x.1, H2)) ∧
    ∀ t, o.addr = some t → ∃ id ver off, e t = .ptr id ver off ∧ ∀ H2 : Heap, H2[id]? = H[id]? → stepOp C lim o e H2 = some (x.1, H2) := by
  cases o <;> simp only [AOp.cls, reduceCtorEq] at hc <;> simp only [stepOp] at h ⊢
  case load agg n a =>
    obtain ⟨v, h1, h⟩ := map_pair h
    rw [← h]
    refine ⟨rfl, fun H2 hm => ?_, fun t ht => ?_⟩
    · unfold loadV at h1 ⊢
      split at h1
      · split at h1
        · rename_i hcs
          simp only [hm.cells hcs, h1, Option.map_some]
        · cases h1
      · cases h1
    · cases a with
      | c v => simp [AOp.addr] at ht
      | t q =>
        simp only [AOp.addr, Option.some.injEq] at ht
        subst ht
        simp only [AArg.ev] at h1 ⊢
        unfold loadV at h1
        split at h1
        · rename_i id ver off hp
          refine ⟨id, ver, off, hp, fun H2 hH => ?_⟩
          unfold loadV
          have : H2.cells id ver = H.cells id ver := by unfold Heap.cells; rw [hH]
          rw [hp]
          simp only [this, h1, Option.map_some]
        · cases h1
  case call f l q => split at hc <;> cases hc
  case callv f l q => split at hc <;> cases hc

theorem write_at {H H' : Heap} {lim' id ver off : Nat} {vs : List AV} (h : H.write lim' id ver off vs = some H') : Meta H H' ∧ ∀ j, j ≠ id → H'[j]? = H[j]? := by
  unfold Heap.write at h
  cases hB : H[id]? with
  | none => simp [hB] at h
  | some B =>
    cases B with
    | ro c => simp [hB] at h
    | rw v s cs =>
      simp only [hB] at h
      split at h
      · simp only [Option.some.injEq] at h
        subst h
        have hlt := (List.getElem?_eq_some_iff.1 hB).1
        refine ⟨fun j => ?_, fun j hj => List.getElem?_set_ne (Ne.symm hj)⟩
        by_cases hj : j = id
        · subst hj
          exact .inr (.inr ⟨v, s, cs, _, hB, by rw [List.getElem?_set_self hlt]⟩)
        · rw [List.getElem?_set_ne (Ne.symm hj)]
          cases hD : H[j]? with
          | none => exact .inl ⟨rfl, rfl⟩
          | some D =>
            cases D with
            | ro c => exact .inr (.inl ⟨c, c, rfl, rfl⟩)
            | rw v s c => exact .inr (.inr ⟨v, s, c, c, rfl, rfl⟩)
      · cases h

theorem step_store {o : AOp} {e : Env} {H : Heap} {x : AV × Heap} (hc : o.cls = .store) (h : stepOp C lim o e H = some x) : Meta H x.2 ∧ ∀ t, o.addr = some t → ∃ id ver off, e t = .ptr id ver off ∧ ∀ j, j ≠ id → x.2[j]? = H[j]? := by
  cases o <;> simp only [AOp.cls, reduceCtorEq] at hc <;> simp only [stepOp] at h ⊢
  case store n a b =>
    obtain ⟨H', h1, h⟩ := map_pair h
    rw [← h]
    unfold storeV at h1
    split at h1
    · rename_i id ver off vs hp hcs
      split at h1
      · obtain ⟨g1, g2⟩ := write_at h1
        refine ⟨g1, fun t ht => ?_⟩
        cases a with
        | c v => simp [AOp.addr] at ht
        | t q =>
          simp only [AOp.addr, Option.some.injEq] at ht
          subst ht
          exact ⟨id, ver, off, hp, g2⟩
      · cases h1
    · cases h1
  case call f l q => split at hc <;> cases hc
  case callv f l q => split at hc <;> cases hc

theorem step_make {o : AOp} {e : Env} {H : Heap} {x : AV × Heap} (hc : o.cls = .make) (h : stepOp C lim o e H = some x) : More H x.2 := by
  cases o <;> simp only [AOp.cls, reduceCtorEq] at hc <;> simp only [stepOp] at h
  case alloc => simp only [Option.some.injEq] at h; rw [← h]; exact More.append _ _
  case box => obtain ⟨_, _, h⟩ := map_pair h; rw [← h]; exact More.append _ _
  case bslice => obtain ⟨_, _, h⟩ := map_pair h; rw [← h]; exact More.append _ _
  case mkslice =>
    unfold mkSliceV at h
    split at h
    · split at h
      · simp only [Option.some.injEq] at h; rw [← h]; exact More.append _ _
      · cases h
    · cases h
  case call f l q => split at hc <;> cases hc
  case callv f l q => split at hc <;> cases hc

theorem step_quiet {o : AOp} {e : Env} {H : Heap} {x : AV × Heap} (hc : o.cls = .quiet) (h : stepOp C lim o e H = some x) : x.2 = H := by
  cases o <;> simp only [AOp.cls, reduceCtorEq] at hc <;> simp only [stepOp] at h
  case call f l q =>
    cases q
    · simp at hc
    · exact quietly_heap h
  case callv f l q =>
    cases q
    · simp at hc
    · split at h
      · exact quietly_heap h
      · cases h

theorem growing_spec {H : Heap} {r : Option (AV × Heap)} {x : AV × Heap} (h : growing H r = some x) : r = some x ∧ ∃ L, x.2 = H ++ L := by
  unfold growing at h
  cases r with
  | none => cases h
  | some y =>
    simp only [Option.bind_some] at h
    split at h
    · rename_i hL
      simp only [Option.some.injEq] at h
      rw [← h]; exact ⟨rfl, hL⟩
    · cases h
theorem More.appendL (H L : Heap) : More H (H ++ L) := fun id C h => by
  rw [List.getElem?_append_left (List.getElem?_eq_some_iff.1 h).1]; exact h
theorem step_adds {o : AOp} {e : Env} {H : Heap} {x : AV × Heap} (hc : o.cls = .adds) (h : stepOp C lim o e H = some x) : More H x.2 := by
  cases o <;> simp only [AOp.cls, reduceCtorEq] at hc <;> simp only [stepOp] at h
  case call f l q => split at hc <;> cases hc
  case callv f l q => split at hc <;> cases hc
  case callA f l =>
    obtain ⟨_, L, hL⟩ := growing_spec h
    rw [hL]; exact More.appendL H L

theorem put_ne {e : Env} {d : Option Nat} {v : AV} {t : Nat} (h : d ≠ some t) : e.put d v t = e t := by
  cases d with
  | none => rfl
  | some k =>
    simp only [Env.put, Env.set]
    rw [if_neg]
    rintro rfl
    exact h rfl
theorem put_comm {e : Env} {d d' : Option Nat} {v u : AV} (h : ∀ k, d = some k → d' ≠ some k) : (e.put d v).put d' u = (e.put d' u).put d v := by
  cases d with
  | none => rfl
  | some k =>
    cases d' with
    | none => rfl
    | some k' =>
      have hne : k ≠ k' := fun hh => h k rfl (by rw [hh])
      funext t
      simp only [Env.put, Env.set]
      by_cases h1 : t = k
      · subst h1; simp [hne]
      · by_cases h2 : t = k'
        · subst h2; simp [h1]
        · simp [h1, h2]

theorem dsep_spec {x y : GOp} (h : x.dsep y = true) : (∀ d, x.d = some d → d ∉ y.tmps ∧ y.d ≠ some d) ∧ (∀ d, y.d = some d → d ∉ x.tmps) := by
  unfold GOp.dsep at h
  simp only [Bool.and_eq_true] at h
  obtain ⟨h1, h2⟩ := h
  refine ⟨fun d hd => ?_, fun d hd => ?_⟩
  · rw [hd] at h1
    simpa using h1
  · rw [hd] at h2
    simpa using h2

theorem wanted_congr {g : Option (Nat × Bool)} {e e' : Env} (h : ∀ t b, g = some (t, b) → e t = e' t) : wantedA g e = wantedA g e' := by
  unfold wantedA
  cases g with
  | none => rfl
  | some p => obtain ⟨t, b⟩ := p; simp only [h t b rfl]

/-- Memory: the second done ahead of the first. -/
theorem mem_swap {x y : AOp} {e : Env} {H : Heap} {r r' : AV × Heap} (hr : stepOp C lim x e H = some r) (hr' : stepOp C lim y e r.2 = some r')
    (hk : x.cls.ok y.cls = true ∨ (∃ a b, x.addr = some a ∧ y.addr = some b ∧ ((x.cls = .load ∧ y.cls = .store) ∨ (x.cls = .store ∧ y.cls = .load)) ∧ (e a).differ (e b) = true)) :
    ∃ q q', stepOp C lim y e H = some q ∧ q.1 = r'.1 ∧ stepOp C lim x e q.2 = some q' ∧ q'.1 = r.1 ∧ q'.2 = r'.2 := by
  have same : r.2 = H → ∀ {o2 : AOp}, stepOp C lim y e H = some r' := fun h _ => by rw [← h]; exact hr'
  rcases hk with hk | ⟨a, b, ha, hb, hcl, hdf⟩
  · by_cases hx0 : x.cls = .pure
    · obtain ⟨h1, h2⟩ := step_pure hx0 hr
      rw [h1] at hr'
      exact ⟨r', (r.1, r'.2), hr', rfl, h2 r'.2, rfl, rfl⟩
    · by_cases hy0 : y.cls = .pure
      · obtain ⟨h1, h2⟩ := step_pure hy0 hr'
        exact ⟨(r'.1, H), r, h2 H, rfl, hr, rfl, h1.symm⟩
      · cases hcx : x.cls <;> cases hcy : y.cls <;> (try exact absurd hcx hx0) <;> (try exact absurd hcy hy0) <;> (try (simp [hcx, hcy, Cls.ok] at hk; done))
        · -- val, val
          obtain ⟨h1, _⟩ := step_val hcx hr
          rw [h1] at hr'
          obtain ⟨h2, _⟩ := step_val hcy hr'
          exact ⟨r', r, hr', rfl, by rw [h2]; exact hr, rfl, by rw [h1, h2]⟩
        · -- val, load
          obtain ⟨h1, _⟩ := step_val hcx hr
          rw [h1] at hr'
          obtain ⟨h2, _⟩ := step_load hcy hr'
          exact ⟨r', r, hr', rfl, by rw [h2]; exact hr, rfl, by rw [h1, h2]⟩
        · -- val, store
          obtain ⟨h1, h3, _⟩ := step_val hcx hr
          rw [h1] at hr'
          obtain ⟨h2, _⟩ := step_store hcy hr'
          exact ⟨r', (r.1, r'.2), hr', rfl, h3 _ h2, rfl, rfl⟩
        · -- val, make
          obtain ⟨h1, _, h3⟩ := step_val hcx hr
          rw [h1] at hr'
          exact ⟨r', (r.1, r'.2), hr', rfl, h3 _ (step_make hcy hr'), rfl, rfl⟩
        · -- val, quiet
          obtain ⟨h1, _⟩ := step_val hcx hr
          rw [h1] at hr'
          have h2 := step_quiet hcy hr'
          exact ⟨r', r, hr', rfl, by rw [h2]; exact hr, rfl, by rw [h1, h2]⟩
        · -- val, adds
          obtain ⟨h1, _, h3⟩ := step_val hcx hr
          rw [h1] at hr'
          exact ⟨r', (r.1, r'.2), hr', rfl, h3 _ (step_adds hcy hr'), rfl, rfl⟩
        · -- load, val
          obtain ⟨h1, _⟩ := step_load hcx hr
          rw [h1] at hr'
          obtain ⟨h2, _⟩ := step_val hcy hr'
          exact ⟨r', r, hr', rfl, by rw [h2]; exact hr, rfl, by rw [h1, h2]⟩
        · -- load, load
          obtain ⟨h1, _⟩ := step_load hcx hr
          rw [h1] at hr'
          obtain ⟨h2, _⟩ := step_load hcy hr'
          exact ⟨r', r, hr', rfl, by rw [h2]; exact hr, rfl, by rw [h1, h2]⟩
        · -- load, make
          obtain ⟨h1, h3, _⟩ := step_load hcx hr
          rw [h1] at hr'
          exact ⟨r', (r.1, r'.2), hr', rfl, h3 _ (step_make hcy hr'), rfl, rfl⟩
        · -- load, quiet
          obtain ⟨h1, _⟩ := step_load hcx hr
          rw [h1] at hr'
          have h2 := step_quiet hcy hr'
          exact ⟨r', r, hr', rfl, by rw [h2]; exact hr, rfl, by rw [h1, h2]⟩
        · -- load, adds
          obtain ⟨h1, h3, _⟩ := step_load hcx hr
          rw [h1] at hr'
          exact ⟨r', (r.1, r'.2), hr', rfl, h3 _ (step_adds hcy hr'), rfl, rfl⟩
        · -- store, val
          obtain ⟨h1, _⟩ := step_store hcx hr
          obtain ⟨h2, h3, _⟩ := step_val hcy hr'
          have hm : Meta r.2 H := fun id => by
            rcases h1 id with ⟨a, b⟩ | ⟨c, c', a, b⟩ | ⟨v, s, c, c', a, b⟩
            · exact .inl ⟨b, a⟩
            · exact .inr (.inl ⟨c', c, b, a⟩)
            · exact .inr (.inr ⟨v, s, c', c, b, a⟩)
          exact ⟨(r'.1, H), r, h3 H hm, rfl, hr, rfl, h2.symm⟩
        · -- quiet, val
          have h1 := step_quiet hcx hr
          rw [h1] at hr'
          obtain ⟨h2, _⟩ := step_val hcy hr'
          exact ⟨r', r, hr', rfl, by rw [h2]; exact hr, rfl, by rw [h1, h2]⟩
        · -- quiet, load
          have h1 := step_quiet hcx hr
          rw [h1] at hr'
          obtain ⟨h2, _⟩ := step_load hcy hr'
          exact ⟨r', r, hr', rfl, by rw [h2]; exact hr, rfl, by rw [h1, h2]⟩
        · -- quiet, quiet
          have h1 := step_quiet hcx hr
          rw [h1] at hr'
          have h2 := step_quiet hcy hr'
          exact ⟨r', r, hr', rfl, by rw [h2]; exact hr, rfl, by rw [h1, h2]⟩
  · rcases hcl with ⟨hcx, hcy⟩ | ⟨hcx, hcy⟩
    · obtain ⟨h1, _, h3⟩ := step_load hcx hr
      rw [h1] at hr'
      obtain ⟨_, h4⟩ := step_store hcy hr'
      obtain ⟨i1, v1, o1, p1, l1⟩ := h3 a ha
      obtain ⟨i2, v2, o2, p2, l2⟩ := h4 b hb
      rw [p1, p2] at hdf
      simp only [AV.differ, bne_iff_ne, ne_eq] at hdf
      exact ⟨r', (r.1, r'.2), hr', rfl, l1 _ (l2 i1 hdf), rfl, rfl⟩
    · obtain ⟨_, h4⟩ := step_store hcx hr
      obtain ⟨h1, _, h3⟩ := step_load hcy hr'
      obtain ⟨i1, v1, o1, p1, l1⟩ := h4 a ha
      obtain ⟨i2, v2, o2, p2, l2⟩ := h3 b hb
      rw [p1, p2] at hdf
      simp only [AV.differ, bne_iff_ne, ne_eq] at hdf
      exact ⟨(r'.1, H), r, l2 _ (l1 i2 (fun h => hdf h.symm)).symm, rfl, hr, rfl, h1.symm⟩

def SwapOk (ap : List (Nat × Nat)) (x y : GOp) : Prop := x.op.cls.ok y.op.cls = true ∨ ∃ a b, x.op.addr = some a ∧ y.op.addr = some b ∧ ((x.op.cls = .load ∧ y.op.cls = .store) ∨ (x.op.cls = .store ∧ y.op.cls = .load)) ∧ (a, b) ∈ ap

theorem indep_spec {ap : List (Nat × Nat)} {x y : GOp} (h : x.indep ap y = true) : x.dsep y = true ∧ SwapOk ap x y := by
  unfold GOp.indep at h
  simp only [Bool.and_eq_true, Bool.or_eq_true] at h
  obtain ⟨h1, h2⟩ := h
  refine ⟨h1, h2.imp id fun h2 => ?_⟩
  split at h2
  · rename_i p hp
    rw [List.any_eq_true] at h2
    obtain ⟨q, hq, hqp⟩ := h2
    simp only [Bool.and_eq_true, beq_iff_eq] at hqp
    unfold GOp.needs at hp
    split at hp
    · rename_i c1 c2
      split at hp
      · rename_i a b ha hb
        simp only [Option.some.injEq] at hp
        refine ⟨a, b, ha, hb, .inl ⟨c1, c2⟩, ?_⟩
        rw [← hp] at hqp
        have : q = (a, b) := Prod.ext hqp.1 hqp.2
        rw [← this]; exact hq
      · cases hp
    · rename_i c1 c2
      split at hp
      · rename_i a b ha hb
        simp only [Option.some.injEq] at hp
        refine ⟨a, b, ha, hb, .inr ⟨c1, c2⟩, ?_⟩
        rw [← hp] at hqp
        have : q = (a, b) := Prod.ext hqp.1 hqp.2
        rw [← this]; exact hq
      · cases hp
    · cases hp
  · cases h2

/-- One step after another, the two changing places. -/
theorem step_swap {x y : GOp} (hi : x.dsep y = true) {e : Env} {H : Heap} {s s' : Env × Heap} (h1 : stepG C lim x e H = some s) (h2 : stepG C lim y s.1 s.2 = some s')
    (hk : x.op.cls.ok y.op.cls = true ∨ (∃ a b, x.op.addr = some a ∧ y.op.addr = some b ∧ ((x.op.cls = .load ∧ y.op.cls = .store) ∨ (x.op.cls = .store ∧ y.op.cls = .load)) ∧ (e a).differ (e b) = true)) :
    ∃ u, stepG C lim y e H = some u ∧ stepG C lim x u.1 u.2 = some s' := by
  obtain ⟨ha, hb⟩ := dsep_spec hi
  -- what each does, in whichever place
  have ygx : ∀ (v : AV) (e0 : Env), wantedA y.g (e0.put x.d v) = wantedA y.g e0 := fun v e0 => wanted_congr fun t b hg => put_ne fun hx => (ha t hx).1 (by simp [GOp.tmps, hg])
  have xgy : ∀ (v : AV) (e0 : Env), wantedA x.g (e0.put y.d v) = wantedA x.g e0 := fun v e0 => wanted_congr fun t b hg => put_ne fun hy => (hb t hy) (by simp [GOp.tmps, hg])
  have yop : ∀ (v : AV) (e0 : Env) (H0 : Heap), stepOp C lim y.op (e0.put x.d v) H0 = stepOp C lim y.op e0 H0 := fun v e0 H0 => step_congr H0 fun t ht => put_ne fun hx => (ha t hx).1 (by simp [GOp.tmps, ht])
  have xop : ∀ (v : AV) (e0 : Env) (H0 : Heap), stepOp C lim x.op (e0.put y.d v) H0 = stepOp C lim x.op e0 H0 := fun v e0 H0 => step_congr H0 fun t ht => put_ne fun hy => (hb t hy) (by simp [GOp.tmps, ht])
  have comm : ∀ (v u : AV), (e.put x.d v).put y.d u = (e.put y.d u).put x.d v := fun v u => put_comm fun k hk => (ha k hk).2
  unfold stepG at h1 h2 ⊢
  cases hwx : wantedA x.g e with
  | none => simp [hwx] at h1
  | some bx =>
    cases bx
    · simp only [hwx, Option.some.injEq] at h1
      subst h1
      simp only [ygx, yop] at h2
      cases hwy : wantedA y.g e with
      | none => simp [hwy] at h2
      | some by' =>
        cases by'
        · simp only [hwy, Option.some.injEq] at h2
          subst h2
          exact ⟨_, rfl, by simp only [xgy, hwx, comm]⟩
        · simp only [hwy, Option.map_eq_some_iff] at h2
          obtain ⟨r, hr, h2⟩ := h2
          subst h2
          exact ⟨_, by simp only [hr, Option.map_some]; rfl, by simp only [xgy, hwx, comm]⟩
    · simp only [hwx, Option.map_eq_some_iff] at h1
      obtain ⟨r, hr, h1⟩ := h1
      subst h1
      simp only [ygx, yop] at h2
      cases hwy : wantedA y.g e with
      | none => simp [hwy] at h2
      | some by' =>
        cases by'
        · simp only [hwy, Option.some.injEq] at h2
          subst h2
          exact ⟨_, rfl, by simp only [xgy, xop, hwx, hr, Option.map_some, comm]⟩
        · simp only [hwy, Option.map_eq_some_iff] at h2
          obtain ⟨r', hr', h2⟩ := h2
          subst h2
          obtain ⟨q, q', k1, k2, k3, k4, k5⟩ := mem_swap hr hr' hk
          refine ⟨_, by simp only [k1, Option.map_some]; rfl, ?_⟩
          simp only [xgy, xop, hwx, k3, Option.map_some, k2, k4, k5, comm]

/-- A slot that nobody writes holds in the end what it held. -/
theorem step_slot {x : GOp} {e : Env} {H : Heap} {s : Env × Heap} (h : stepG C lim x e H = some s) {t : Nat} (ht : x.d ≠ some t) : s.1 t = e t := by
  unfold stepG at h
  split at h
  · obtain ⟨r, _, h⟩ := map_pair h; rw [← h]; exact put_ne ht
  · simp only [Option.some.injEq] at h; rw [← h]; exact put_ne ht
  · cases h
theorem run_slot : ∀ {l : List GOp} {e : Env} {H : Heap} {s : Env × Heap}, runOps C lim l e H = some s → ∀ t, (∀ y ∈ l, y.d ≠ some t) → s.1 t = e t
  | [], e, H, s, h, t, _ => by simp only [runOps, Option.some.injEq] at h; rw [← h]
  | x :: l, e, H, s, h, t, ht => by
    simp only [runOps, Option.bind_eq_some_iff] at h
    obtain ⟨s1, h1, h2⟩ := h
    rw [run_slot h2 t (fun y hy => ht y (by simp [hy])), step_slot h1 (ht x (by simp))]

def Late : List GOp → Prop
  | [] => True
  | k :: r => (∀ a, k.op.addr = some a → ∀ y ∈ k :: r, y.d ≠ some a) ∧ Late r

theorem addr_tmps {o : AOp} {a : Nat} (h : o.addr = some a) : a ∈ o.tmps := by
  cases o <;> simp only [AOp.addr, reduceCtorEq] at h
  case load agg n x => cases x <;> simp only [Option.some.injEq, reduceCtorEq] at h; subst h; simp [AOp.tmps, AArg.tmps]
  case store n x y => cases x <;> simp only [Option.some.injEq, reduceCtorEq] at h; subst h; simp [AOp.tmps, AArg.tmps]

theorem run_move {ap : List (Nat × Nat)} {x : GOp} : ∀ {L1 L2 : List GOp} {e : Env} {H : Heap} {s : Env × Heap}, (∀ k ∈ L1, k.dsep x = true ∧ SwapOk ap k x) → (ap ≠ [] → Late (L1 ++ x :: L2)) → runOps C lim (L1 ++ x :: L2) e H = some s → apartAll s.1 ap = true → runOps C lim (x :: (L1 ++ L2)) e H = some s
  | [], L2, e, H, s, _, _, h, _ => h
  | k :: L1, L2, e, H, s, hk, hl, h, hap => by
    have hfull := h
    simp only [List.cons_append, runOps, Option.bind_eq_some_iff] at h
    obtain ⟨s1, h1, h⟩ := h
    have ih := run_move (fun j hj => hk j (by simp [hj])) (fun hne => (hl hne).2) h hap
    simp only [runOps, Option.bind_eq_some_iff] at ih
    obtain ⟨s2, h2, h3⟩ := ih
    obtain ⟨hsep, hok⟩ := hk k (by simp)
    have hcond : k.op.cls.ok x.op.cls = true ∨ (∃ a b, k.op.addr = some a ∧ x.op.addr = some b ∧ ((k.op.cls = .load ∧ x.op.cls = .store) ∨ (k.op.cls = .store ∧ x.op.cls = .load)) ∧ (e a).differ (e b) = true) := by
      refine hok.imp id ?_
      rintro ⟨a, b, ha, hb, hcl, hmem⟩
      refine ⟨a, b, ha, hb, hcl, ?_⟩
      have hne : ap ≠ [] := by intro h0; rw [h0] at hmem; cases hmem
      have hL := hl hne
      have e1 : s.1 a = e a := run_slot hfull a (fun y hy => hL.1 a ha y hy)
      have lx : ∀ (M : List GOp), Late (M ++ x :: L2) → ∀ y ∈ x :: L2, y.d ≠ some b := by
        intro M
        induction M with
        | nil => intro hM y hy; exact hM.1 b hb y hy
        | cons m M ihM => intro hM; exact ihM hM.2
      have e2 : s.1 b = e b := run_slot hfull b (fun y hy => by
        rcases List.mem_append.1 hy with hy | hy
        · intro hyb
          obtain ⟨hs, _⟩ := hk y hy
          exact ((dsep_spec hs).1 b hyb).1 (by simp [GOp.tmps, addr_tmps hb])
        · exact lx (k :: L1) hL y hy)
      rw [← e1, ← e2]
      unfold apartAll at hap
      rw [List.all_eq_true] at hap
      exact hap (a, b) hmem
    obtain ⟨u, hu1, hu2⟩ := step_swap hsep h1 h2 hcond
    simp only [List.cons_append, runOps, Option.bind_eq_some_iff]
    exact ⟨u, hu1, s2, hu2, h3⟩

/-! ### the orders that the edges allow -/
theorem mask_bit {o : Oper} {acc : List Nat} {k : Nat} (h : (beforeMask o acc).testBit k = true) : ∃ e ∈ o.after.toList, Region.binds .any e = true ∧ (e.on = k ∨ (acc.getD e.on 0).testBit k = true) := by
  unfold beforeMask at h
  have gen : ∀ (l : List Edge) (s : Nat), (l.foldl (fun s e => if Region.binds .any e then s ||| 2 ^ e.on ||| acc.getD e.on 0 else s) s).testBit k = true →
      s.testBit k = true ∨ ∃ e ∈ l, Region.binds .any e = true ∧ (e.on = k ∨ (acc.getD e.on 0).testBit k = true) := by
    intro l
    induction l with
    | nil => intro s hs; exact .inl hs
    | cons e l ih =>
      intro s hs
      rw [List.foldl_cons] at hs
      rcases ih _ hs with h1 | ⟨e', he', h2⟩
      · split at h1
        · rename_i hb
          simp only [Nat.testBit_or, Bool.or_eq_true, Nat.testBit_two_pow, decide_eq_true_eq] at h1
          rcases h1 with (h1 | h1) | h1
          · exact .inl h1
          · exact .inr ⟨e, by simp, hb, .inl h1⟩
          · exact .inr ⟨e, by simp, hb, .inr h1⟩
        · exact .inl h1
      · exact .inr ⟨e', by simp [he'], h2⟩
  rcases gen _ _ h with h | h
  · simp at h
  · exact h

theorem beforeL_spec : ∀ (ops : List Oper) (acc : List Nat), (beforeL acc ops).length = acc.length + ops.length ∧ (∀ j, j < acc.length → (beforeL acc ops)[j]? = acc[j]?) ∧
    ∀ j o, ops[j]? = some o → (beforeL acc ops)[acc.length + j]? = some (beforeMask o ((beforeL acc ops).take (acc.length + j)))
  | [], acc => ⟨by simp [beforeL], fun j hj => rfl, fun j o h => by simp at h⟩
  | o :: r, acc => by
    obtain ⟨h1, h2, h3⟩ := beforeL_spec r (acc ++ [beforeMask o acc])
    simp only [List.length_append, List.length_cons, List.length_nil] at h1 h2 h3
    refine ⟨by simp only [beforeL, List.length_cons]; omega, fun j hj => ?_, fun j o' ho => ?_⟩
    · simp only [beforeL]
      rw [h2 j (by omega), List.getElem?_append_left hj]
    · cases j with
      | zero =>
        simp at ho
        subst ho
        simp only [beforeL, Nat.add_zero]
        rw [h2 acc.length (by omega)]
        simp only [List.getElem?_concat_length, Option.some.injEq]
        congr 1
        apply List.ext_getElem?
        intro j
        rw [List.getElem?_take]
        split
        · rw [h2 j (by omega), List.getElem?_append_left (by omega)]
        · rw [List.getElem?_eq_none (by omega)]
      | succ j =>
        have := h3 j o' (by simpa using ho)
        simp only [beforeL]
        rw [show acc.length + (j + 1) = acc.length + (0 + 1) + j from by omega]
        exact this

def Down (ops : List Oper) (listed : Nat → Bool) : Prop := ∀ j o, ops[j]? = some o → listed j = true → ∀ e ∈ o.after.toList, Region.binds .any e = true → listed e.on = true

theorem before_listed {ops : List Oper} {listed : Nat → Bool} (hd : Down ops listed) : ∀ (j : Nat) (o : Oper), ops[j]? = some o → (∀ e ∈ o.after.toList, Region.binds .any e = true → listed e.on = true) → ∀ k, ((beforeL [] ops).getD j 0).testBit k = true → listed k = true := by
  intro j
  induction j using Nat.strongRecOn with
  | _ j ih =>
    intro o ho hpre k hk
    obtain ⟨h1, _, h3⟩ := beforeL_spec ops []
    have hb := h3 j o ho
    simp only [List.length_nil, Nat.zero_add] at hb
    rw [List.getD_eq_getElem?_getD, hb, Option.getD_some] at hk
    obtain ⟨e, he, hbd, hor⟩ := mask_bit hk
    rcases hor with rfl | hor
    · exact hpre e he hbd
    · rw [List.getD_eq_getElem?_getD, List.getElem?_take] at hor
      split at hor
      · rename_i hlt
        have hon : ∃ o', ops[e.on]? = some o' := by
          have hjl := (List.getElem?_eq_some_iff.1 ho).1
          exact ⟨ops[e.on], List.getElem?_eq_getElem (by omega)⟩
        obtain ⟨o', ho'⟩ := hon
        exact ih e.on hlt o' ho' (hd e.on o' ho' (hpre e he hbd)) k (by rw [List.getD_eq_getElem?_getD]; exact hor)
      · simp at hor

theorem drawOk_spec {ops : List Oper} {g : List GOp} {ap : List (Nat × Nat)} (h : drawOk ops g ap = true) : ∀ j o, ops[j]? = some o → (∀ e ∈ o.after.toList, Region.binds .any e = true → e.on < j) ∧
    (ap ≠ [] → ∀ i, i ≤ j → ∀ a, (g.getD i default).op.addr = some a → (g.getD j default).d ≠ some a) ∧
    ∀ i, i < j → ((beforeL [] ops).getD j 0).testBit i = true ∨ (g.getD i default).indep ap (g.getD j default) = true := by
  intro j o ho
  unfold drawOk at h
  simp only [List.all_eq_true, List.mem_range, Bool.and_eq_true, Bool.or_eq_true, Bool.not_eq_true', decide_eq_true_eq, List.isEmpty_iff] at h
  have hj := (List.getElem?_eq_some_iff.1 ho).1
  obtain ⟨⟨h1, h3⟩, h2⟩ := h j hj
  refine ⟨fun e he hb => ?_, fun hne i hi a ha => ?_, fun i hi => h2 i hi⟩
  · rw [List.getD_eq_getElem?_getD, ho, Option.getD_some] at h1
    rcases h1 e he with h | h
    · rw [hb] at h; cases h
    · exact h
  · rcases h3 with h3 | h3
    · exact absurd h3 hne
    · have := h3 i (by omega)
      rw [ha] at this
      simpa using this

theorem late_of {g : List GOp} : ∀ (l : List Nat), l.Pairwise (· < ·) → (∀ j ∈ l, ∀ i, i ≤ j → ∀ a, (g.getD i default).op.addr = some a → (g.getD j default).d ≠ some a) → Late (l.map fun i => g.getD i default)
  | [], _, _ => trivial
  | i :: l, hp, h => by
    obtain ⟨h1, h2⟩ := List.pairwise_cons.1 hp
    simp only [List.map_cons, Late]
    refine ⟨fun a ha y hy => ?_, late_of l h2 (fun j hj => h j (by simp [hj]))⟩
    rcases List.mem_cons.1 hy with rfl | hy
    · exact h i (by simp) i (Nat.le_refl _) a ha
    · simp only [List.mem_map] at hy
      obtain ⟨j, hj, rfl⟩ := hy
      exact h j (by simp [hj]) i (Nat.le_of_lt (h1 j hj)) a ha

/-- The places that are not listed yet, in the text's order. -/
def unlisted (n : Nat) (listed : Array Bool) : List Nat := (List.range n).filter fun i => !listed.getD i true

theorem unlisted_split {n i : Nat} {listed : Array Bool} (hi : i < n) (hs : listed.size = n) (h : listed.getD i true = false) :
    ∃ L1 L2, unlisted n listed = L1 ++ i :: L2 ∧ unlisted n (listed.setIfInBounds i true) = L1 ++ L2 ∧ ∀ k ∈ L1, k < i ∧ listed.getD k true = false := by
  refine ⟨((List.range i).filter fun k => !listed.getD k true), ((List.range' (i + 1) (n - (i + 1))).filter fun k => !listed.getD k true), ?_, ?_, ?_⟩
  · have e : List.range n = List.range i ++ i :: List.range' (i + 1) (n - (i + 1)) := by
      rw [List.range_eq_range', List.range_eq_range', ← List.range'_succ, show n - (i + 1) + 1 = n - i from by omega]
      have hh : List.range' 0 i ++ List.range' (0 + i) (n - i) = List.range' 0 (i + (n - i)) := List.range'_append_1
      rw [show i + (n - i) = n from by omega, Nat.zero_add] at hh
      exact hh.symm
    unfold unlisted
    rw [e, List.filter_append, List.filter_cons, if_pos (by simp [h])]
  · have e : List.range n = List.range i ++ i :: List.range' (i + 1) (n - (i + 1)) := by
      rw [List.range_eq_range', List.range_eq_range', ← List.range'_succ, show n - (i + 1) + 1 = n - i from by omega]
      have hh : List.range' 0 i ++ List.range' (0 + i) (n - i) = List.range' 0 (i + (n - i)) := List.range'_append_1
      rw [show i + (n - i) = n from by omega, Nat.zero_add] at hh
      exact hh.symm
    unfold unlisted
    have hself : (listed.setIfInBounds i true).getD i true = true := by simp [Array.getD]
    rw [e, List.filter_append, List.filter_cons, if_neg (by simp [hself])]
    congr 1
    · apply List.filter_congr
      intro k hk
      rw [getD_set_ne true (by simp at hk; omega)]
    · apply List.filter_congr
      intro k hk
      rw [getD_set_ne true (by simp [List.mem_range'_1] at hk; omega)]
  · intro k hk
    simp at hk
    exact ⟨hk.1, by simpa using hk.2⟩

theorem lin_sound {ops : Array Oper} {g : List GOp} {ap : List (Nat × Nat)} (hg : g.length = ops.size) (hok : drawOk ops.toList g ap = true) {s : Env × Heap} (hap : apartAll s.1 ap = true) : ∀ (fuel t : Nat) (listed : Array Bool) (e : Env) (H : Heap), listed.size = ops.size → Down ops.toList (fun k => listed.getD k false) → (unlisted ops.size listed).length ≤ fuel →
    runOps C lim ((unlisted ops.size listed).map fun i => g.getD i default) e H = some s → runOps C lim ((Region.linearise.go .any ops fuel t listed []).map fun i => g.getD i default) e H = some s
  | 0, t, listed, e, H, hs, hd, hl, h => by
    have : unlisted ops.size listed = [] := List.eq_nil_of_length_eq_zero (by omega)
    rw [this] at h
    simpa [Region.linearise.go] using h
  | fuel + 1, t, listed, e, H, hs, hd, hl, h => by
    have hdef : Region.linearise.go .any ops (fuel + 1) t listed [] = (match (Region.ready .any ops listed)[t % (Region.ready .any ops listed).length]? with
      | some i => Region.linearise.go .any ops fuel (t / (Region.ready .any ops listed).length) (listed.setIfInBounds i true) [i]
      | none => [].reverse) := rfl
    rw [hdef]
    cases hr : (Region.ready .any ops listed)[t % (Region.ready .any ops listed).length]? with
    | none =>
      -- nothing is ready: all is listed
      have hnil : Region.ready .any ops listed = [] := by
        rw [List.getElem?_eq_none_iff] at hr
        rcases Nat.eq_zero_or_pos (Region.ready .any ops listed).length with h0 | h0
        · exact List.eq_nil_of_length_eq_zero h0
        · have := Nat.mod_lt t h0
          omega
      have hall : unlisted ops.size listed = [] := by
        cases hu : unlisted ops.size listed with
        | nil => rfl
        | cons j r =>
          exfalso
          -- the least that is not listed is ready
          have hj : j ∈ unlisted ops.size listed := by rw [hu]; simp
          unfold unlisted at hj
          simp only [List.mem_filter, List.mem_range, Bool.not_eq_true'] at hj
          have hmin : ∀ k, k < j → listed.getD k true = true := by
            intro k hk
            apply Classical.byContradiction
            intro hne
            have hkf : listed.getD k true = false := by simpa using hne
            obtain ⟨L1, L2, e1, _, e3⟩ := unlisted_split (n := ops.size) hj.1 hs hj.2
            have hkm : k ∈ unlisted ops.size listed := by unfold unlisted; simp only [List.mem_filter, List.mem_range, Bool.not_eq_true']; exact ⟨by omega, hkf⟩
            rw [hu] at e1 hkm
            cases L1 with
            | nil =>
              simp only [List.nil_append, List.cons.injEq, true_and] at e1
              have hpw : (j :: r).Pairwise (· < ·) := by
                rw [← hu]
                exact List.Pairwise.filter _ List.pairwise_lt_range
              rcases List.mem_cons.1 hkm with rfl | hkr
              · omega
              · have := (List.pairwise_cons.1 hpw).1 k hkr
                omega
            | cons a L1 =>
              simp only [List.cons_append, List.cons.injEq] at e1
              have := (e3 a (by simp)).1
              omega
          have ho : ∃ o, ops[j]? = some o := ⟨ops[j]'hj.1, Array.getElem?_eq_getElem _⟩
          obtain ⟨o, ho⟩ := ho
          have hready : j ∈ Region.ready .any ops listed := by
            rw [mem_ready]
            refine ⟨hj.2, o, ho, fun e he hb => ?_⟩
            have hlt := (drawOk_spec hok j o (by simpa using ho)).1 e (by simpa using he) hb
            have h1 := hmin e.on hlt
            have hsz : e.on < listed.size := by omega
            simp only [Array.getD, hsz, dite_true] at h1 ⊢
            exact h1
          rw [hnil] at hready
          cases hready
      rw [hall] at h
      simpa using h
    | some i =>
      have hi : i ∈ Region.ready .any ops listed := List.mem_of_getElem? hr
      rw [mem_ready] at hi
      obtain ⟨hun, o, ho, hpre⟩ := hi
      have hin : i < ops.size := (Array.getElem?_eq_some_iff.1 ho).1
      obtain ⟨L1, L2, e1, e2, e3⟩ := unlisted_split hin hs hun
      have ho' : ops.toList[i]? = some o := by simpa using ho
      have hind : ∀ k ∈ L1, (g.getD k default).indep ap (g.getD i default) = true := by
        intro k hk
        obtain ⟨hlt, hku⟩ := e3 k hk
        rcases (drawOk_spec hok i o ho').2.2 k hlt with hb | hb
        · exfalso
          have := before_listed hd i o ho' (fun e he hbd => hpre e (by simpa using he) hbd) k hb
          have hsz : k < listed.size := by omega
          simp only [Array.getD, hsz, dite_true] at this hku
          rw [this] at hku
          cases hku
        · exact hb
      rw [e1, List.map_append, List.map_cons] at h
      have hmv := run_move (ap := ap) (x := g.getD i default) (fun k hk => by
        simp only [List.mem_map] at hk
        obtain ⟨k', hk', rfl⟩ := hk
        exact indep_spec (hind k' hk')) (fun hne => by
        have hpw : (unlisted ops.size listed).Pairwise (· < ·) := List.Pairwise.filter _ List.pairwise_lt_range
        have := late_of (g := g) _ hpw (fun j hj i' hi' a ha => by
          have hjl : j < ops.size := by unfold unlisted at hj; simp only [List.mem_filter, List.mem_range] at hj; exact hj.1
          exact (drawOk_spec hok j (ops[j]) (by simp [hjl])).2.1 hne i' hi' a ha)
        rw [e1, List.map_append, List.map_cons] at this
        exact this) h hap
      simp only [runOps, Option.bind_eq_some_iff] at hmv
      obtain ⟨s1, hs1, hmv⟩ := hmv
      simp only []
      rw [linearise_go_acc]
      simp only [List.reverse_cons, List.reverse_nil, List.nil_append, List.map_append, List.map_cons, List.map_nil, List.singleton_append, runOps, Option.bind_eq_some_iff]
      refine ⟨s1, hs1, lin_sound hg hok hap fuel _ (listed.setIfInBounds i true) s1.1 s1.2 (by simp [hs]) ?_ ?_ ?_⟩
      · intro j oj hoj hj e he hb
        by_cases hij : j = i
        · subst hij
          rw [ho'] at hoj
          simp only [Option.some.injEq] at hoj
          subst hoj
          exact getD_set_true (hpre e (by simpa using he) hb)
        · have hj2 : (listed.setIfInBounds i true).getD j false = true := hj
          have hj' : listed.getD j false = true := by rw [getD_set_ne false (Ne.symm hij)] at hj2; exact hj2
          exact getD_set_true (hd j oj hoj hj' e he hb)
      · rw [e2]
        rw [e1] at hl
        simp only [List.length_append, List.length_cons] at hl ⊢
        omega
      · rw [e2, List.map_append]
        exact hmv

/-! ### an order of the operations' own -/
def unl (ord : List Nat) (listed : Array Bool) : List Nat := ord.filter fun i => !listed.getD i true

theorem unl_split {ord : List Nat} {i : Nat} {listed : Array Bool} (hi : i ∈ ord) (hn : ord.Nodup) (hs : i < listed.size) (h : listed.getD i true = false) :
    ∃ L1 L2, unl ord listed = L1 ++ i :: L2 ∧ unl ord (listed.setIfInBounds i true) = L1 ++ L2 ∧ ∀ k ∈ L1 ++ L2, k ≠ i ∧ listed.getD k true = false := by
  obtain ⟨A, B, rfl⟩ := List.append_of_mem hi
  have hnd := hn
  rw [List.nodup_append, List.nodup_cons] at hnd
  have hA : ∀ k ∈ A, k ≠ i := fun k hk => hnd.2.2 k hk i (by simp)
  have hB : ∀ k ∈ B, k ≠ i := fun k hk hki => hnd.2.1.1 (hki ▸ hk)
  have hself : (listed.setIfInBounds i true).getD i true = true := by simp [Array.getD]
  refine ⟨A.filter fun k => !listed.getD k true, B.filter fun k => !listed.getD k true, ?_, ?_, ?_⟩
  · unfold unl
    rw [List.filter_append, List.filter_cons, if_pos (by simp [h])]
  · unfold unl
    rw [List.filter_append, List.filter_cons, if_neg (by simp [hself])]
    congr 1
    · exact List.filter_congr fun k hk => by rw [getD_set_ne true (Ne.symm (hA k hk))]
    · exact List.filter_congr fun k hk => by rw [getD_set_ne true (Ne.symm (hB k hk))]
  · intro k hk
    simp only [List.mem_append, List.mem_filter, Bool.not_eq_true'] at hk
    rcases hk with ⟨h1, h2⟩ | ⟨h1, h2⟩
    · exact ⟨hA k h1, h2⟩
    · exact ⟨hB k h1, h2⟩

/-- What may stand behind what in an order. -/
def May (ops : Array Oper) (g : List GOp) (k i : Nat) : Prop := ((beforeL [] ops.toList).getD i 0).testBit k = true ∨ (g.getD k default).indep [] (g.getD i default) = true
structure OrdOk (ops : Array Oper) (ord : List Nat) : Prop where
  lt : ∀ i ∈ ord, i < ops.size
  all : ∀ i, i < ops.size → i ∈ ord
  nodup : ord.Nodup
  back : ∀ (j : Nat) (o : Oper), ops[j]? = some o → ∀ e ∈ o.after, Region.binds .any e = true → e.on < j

theorem pairsOk_iff {f : Nat → Nat → Bool} : ∀ {l : List Nat}, pairsOk f l = true → l.Pairwise fun k i => f k i = true
  | [], _ => List.Pairwise.nil
  | k :: r, h => by
    simp only [pairsOk, Bool.and_eq_true, List.all_eq_true] at h
    exact List.Pairwise.cons h.1 (pairsOk_iff h.2)

theorem drawOkO_spec {ops : Array Oper} {g : List GOp} {ord : List Nat} {sp : Option (Nat × Nat)} (h : drawOkO ops.toList g ord sp = true) : OrdOk ops ord ∧ ord.Pairwise fun k i => May ops g k i ∨ sp = some (k, i) := by
  unfold drawOkO at h
  simp only [Bool.and_eq_true, List.all_eq_true, decide_eq_true_eq, List.mem_range, List.contains_iff_mem] at h
  obtain ⟨⟨⟨⟨h1, h2⟩, h3⟩, h4⟩, h5⟩ := h
  refine ⟨⟨fun i hi => by simpa using h1 i hi, fun i hi => h2 i (by simpa using hi), h3, fun j o ho e he hb => ?_⟩, (pairsOk_iff h5).imp fun {k i} hki => ?_⟩
  · have hm : (o, j) ∈ ops.toList.zipIdx := by rw [List.mem_zipIdx_iff_getElem?]; simpa using ho
    have := h4 (o, j) hm e (by simpa using he)
    simp only [Bool.or_eq_true, Bool.not_eq_true', decide_eq_true_eq] at this
    rcases this with h | h
    · rw [hb] at h; cases h
    · exact h
  · unfold pairOk at hki
    simp only [Bool.or_eq_true, beq_iff_eq] at hki
    rcases hki with (h | h) | h
    · exact .inl (.inl h)
    · exact .inl (.inr h)
    · exact .inr h

/-- Where nothing is ready, all is listed. -/
theorem all_listed {ops : Array Oper} {listed : Array Bool} (hs : listed.size = ops.size) (hback : ∀ (j : Nat) (o : Oper), ops[j]? = some o → ∀ e ∈ o.after, Region.binds .any e = true → e.on < j) (hnil : Region.ready .any ops listed = []) : ∀ j, j < ops.size → listed.getD j true = true := by
  intro j
  induction j using Nat.strongRecOn with
  | _ j ih =>
    intro hj
    apply Classical.byContradiction
    intro hne
    have hf : listed.getD j true = false := by simpa using hne
    have hready : j ∈ Region.ready .any ops listed := by
      rw [mem_ready]
      refine ⟨hf, ops[j], Array.getElem?_eq_getElem hj, fun e he hb => ?_⟩
      have hlt := hback j ops[j] (Array.getElem?_eq_getElem hj) e he hb
      have h1 := ih e.on hlt (by omega)
      have hsz : e.on < listed.size := by omega
      simp only [Array.getD, hsz, dite_true] at h1 ⊢
      exact h1
    rw [hnil] at hready
    cases hready

theorem go_succ {ops : Array Oper} {fuel t : Nat} {listed : Array Bool} : Region.linearise.go .any ops (fuel + 1) t listed [] = (match (Region.ready .any ops listed)[t % (Region.ready .any ops listed).length]? with
      | some i => Region.linearise.go .any ops fuel (t / (Region.ready .any ops listed).length) (listed.setIfInBounds i true) [i]
      | none => [].reverse) := rfl
theorem ready_nil {ops : Array Oper} {t : Nat} {listed : Array Bool} (hr : (Region.ready .any ops listed)[t % (Region.ready .any ops listed).length]? = none) : Region.ready .any ops listed = [] := by
  rw [List.getElem?_eq_none_iff] at hr
  rcases Nat.eq_zero_or_pos (Region.ready .any ops listed).length with h0 | h0
  · exact List.eq_nil_of_length_eq_zero h0
  · have := Nat.mod_lt t h0
    omega
theorem down_set {ops : Array Oper} {listed : Array Bool} (hd : Down ops.toList (fun k => listed.getD k false)) {i : Nat} {o : Oper} (ho : ops[i]? = some o) (hpre : ∀ e ∈ o.after, Region.binds .any e = true → listed.getD e.on false = true) : Down ops.toList (fun k => (listed.setIfInBounds i true).getD k false) := by
  intro j oj hoj hj e he hb
  have ho' : ops.toList[i]? = some o := by simpa using ho
  by_cases hij : j = i
  · subst hij
    rw [ho'] at hoj
    simp only [Option.some.injEq] at hoj
    subst hoj
    exact getD_set_true (hpre e (by simpa using he) hb)
  · have hj2 : (listed.setIfInBounds i true).getD j false = true := hj
    have hj' : listed.getD j false = true := by rw [getD_set_ne false (Ne.symm hij)] at hj2; exact hj2
    exact getD_set_true (hd j oj hoj hj' e he hb)
theorem unl_nil {ops : Array Oper} {ord : List Nat} (ho : OrdOk ops ord) {listed : Array Bool} (hall : ∀ j, j < ops.size → listed.getD j true = true) : unl ord listed = [] := by
  unfold unl
  rw [List.filter_eq_nil_iff]
  intro i hi
  rw [hall i (ho.lt i hi)]; simp

/-- A ready operation is taken out of an order. -/
theorem take_out {ops : Array Oper} {g : List GOp} {ord : List Nat} (ho : OrdOk ops ord) {listed : Array Bool} (hs : listed.size = ops.size) (hd : Down ops.toList (fun k => listed.getD k false)) {i : Nat} {o : Oper} (hun : listed.getD i true = false) (hoi : ops[i]? = some o)
    (hpre : ∀ e ∈ o.after, Region.binds .any e = true → listed.getD e.on false = true) {sp : Nat → Nat → Prop} (hp : (unl ord listed).Pairwise fun k i => May ops g k i ∨ sp k i) (hsp : ∀ k, listed.getD k true = false → ¬ sp k i) {e : Env} {H : Heap} {s : Env × Heap}
    (h : runOps C lim ((unl ord listed).map fun i => g.getD i default) e H = some s) :
    ∃ s1, stepG C lim (g.getD i default) e H = some s1 ∧ runOps C lim ((unl ord (listed.setIfInBounds i true)).map fun i => g.getD i default) s1.1 s1.2 = some s ∧ (unl ord (listed.setIfInBounds i true)).Pairwise (fun k i => May ops g k i ∨ sp k i) ∧ (unl ord (listed.setIfInBounds i true)).length + 1 = (unl ord listed).length := by
  have hin : i < ops.size := (Array.getElem?_eq_some_iff.1 hoi).1
  obtain ⟨L1, L2, e1, e2, e3⟩ := unl_split (ho.all i hin) ho.nodup (by omega) hun
  have ho' : ops.toList[i]? = some o := by simpa using hoi
  rw [e1] at hp h
  have hind : ∀ k ∈ L1, (g.getD k default).indep [] (g.getD i default) = true := by
    intro k hk
    obtain ⟨hne, hku⟩ := e3 k (List.mem_append_left _ hk)
    rw [List.pairwise_append] at hp
    rcases hp.2.2 k hk i (by simp) with (hb | hb) | hb
    · exfalso
      have := before_listed hd i o ho' (fun e he hbd => hpre e (by simpa using he) hbd) k hb
      have hsz : k < listed.size := by
        apply Classical.byContradiction
        intro hge
        simp [Array.getD, hge] at hku
      simp only [Array.getD, hsz, dite_true] at this hku
      rw [this] at hku
      cases hku
    · exact hb
    · exact absurd hb (hsp k hku)
  rw [List.map_append, List.map_cons] at h
  have hmv := run_move (ap := []) (x := g.getD i default) (fun k hk => by
    simp only [List.mem_map] at hk
    obtain ⟨k', hk', rfl⟩ := hk
    exact indep_spec (hind k' hk')) (fun hne => absurd rfl hne) h rfl
  simp only [runOps, Option.bind_eq_some_iff] at hmv
  obtain ⟨s1, hs1, hmv⟩ := hmv
  refine ⟨s1, hs1, ?_, ?_, ?_⟩
  · rw [e2, List.map_append]; exact hmv
  · rw [e2]
    exact hp.sublist (List.Sublist.append_left (List.sublist_cons_self i L2) L1)
  · rw [e1, e2]; simp [Nat.add_assoc]

theorem lin_soundO {ops : Array Oper} {g : List GOp} {ord : List Nat} (ho : OrdOk ops ord) {s : Env × Heap} : ∀ (fuel t : Nat) (listed : Array Bool) (e : Env) (H : Heap), listed.size = ops.size → Down ops.toList (fun k => listed.getD k false) → (unl ord listed).length ≤ fuel →
    (unl ord listed).Pairwise (May ops g) → runOps C lim ((unl ord listed).map fun i => g.getD i default) e H = some s → runOps C lim ((Region.linearise.go .any ops fuel t listed []).map fun i => g.getD i default) e H = some s
  | 0, t, listed, e, H, hs, hd, hl, hp, h => by
    have : unl ord listed = [] := List.eq_nil_of_length_eq_zero (by omega)
    rw [this] at h
    simpa [Region.linearise.go] using h
  | fuel + 1, t, listed, e, H, hs, hd, hl, hp, h => by
    rw [go_succ]
    cases hr : (Region.ready .any ops listed)[t % (Region.ready .any ops listed).length]? with
    | none =>
      rw [unl_nil ho (all_listed hs ho.back (ready_nil hr))] at h
      simpa using h
    | some i =>
      have hi : i ∈ Region.ready .any ops listed := List.mem_of_getElem? hr
      rw [mem_ready] at hi
      obtain ⟨hun, o, hoi, hpre⟩ := hi
      obtain ⟨s1, hs1, h1, h2, h3⟩ := take_out (sp := fun _ _ => False) ho hs hd hun hoi hpre (hp.imp fun hm => .inl hm) (fun _ _ => id) h
      simp only []
      rw [linearise_go_acc]
      simp only [List.reverse_cons, List.reverse_nil, List.nil_append, List.map_append, List.map_cons, List.map_nil, List.singleton_append, runOps, Option.bind_eq_some_iff]
      exact ⟨s1, hs1, lin_soundO ho fuel _ _ s1.1 s1.2 (by simp [hs]) (down_set hd hoi hpre) (by omega) (h2.imp fun hm => hm.elim id False.elim) h1⟩

/-- Two orders, alike but for two operations: what is done comes to what one of them comes to. -/
theorem lin_soundS {ops : Array Oper} {g : List GOp} {oA oB : List Nat} {a b : Nat} (hA : OrdOk ops oA) (hB : OrdOk ops oB) {sA sB : Env × Heap} (hab : a ≠ b) : ∀ (fuel t : Nat) (listed : Array Bool) (e : Env) (H : Heap), listed.size = ops.size → Down ops.toList (fun k => listed.getD k false) → (unl oA listed).length ≤ fuel → (unl oB listed).length ≤ fuel →
    listed.getD a true = false → listed.getD b true = false → a ∈ oA →
    (unl oA listed).Pairwise (fun k i => May ops g k i ∨ (k = a ∧ i = b)) → (unl oB listed).Pairwise (fun k i => May ops g k i ∨ (k = b ∧ i = a)) →
    runOps C lim ((unl oA listed).map fun i => g.getD i default) e H = some sA → runOps C lim ((unl oB listed).map fun i => g.getD i default) e H = some sB →
    ∃ s, (s = sA ∨ s = sB) ∧ runOps C lim ((Region.linearise.go .any ops fuel t listed []).map fun i => g.getD i default) e H = some s
  | 0, t, listed, e, H, hs, hd, hlA, hlB, hua, hub, hmA, hpA, hpB, h, h' => by
    have : unl oA listed = [] := List.eq_nil_of_length_eq_zero (by omega)
    rw [this] at h
    exact ⟨sA, .inl rfl, by simpa [Region.linearise.go] using h⟩
  | fuel + 1, t, listed, e, H, hs, hd, hlA, hlB, hua, hub, hmA, hpA, hpB, h, h' => by
    rw [go_succ]
    cases hr : (Region.ready .any ops listed)[t % (Region.ready .any ops listed).length]? with
    | none =>
      rw [unl_nil hA (all_listed hs hA.back (ready_nil hr))] at h
      exact ⟨sA, .inl rfl, by simpa using h⟩
    | some i =>
      have hi : i ∈ Region.ready .any ops listed := List.mem_of_getElem? hr
      rw [mem_ready] at hi
      obtain ⟨hun, o, hoi, hpre⟩ := hi
      simp only []
      rw [linearise_go_acc]
      simp only [List.reverse_cons, List.reverse_nil, List.nil_append, List.map_append, List.map_cons, List.map_nil, List.singleton_append, runOps, Option.bind_eq_some_iff]
      by_cases hib : i = b
      · subst hib
        obtain ⟨s1, hs1, h1, h2, h3⟩ := take_out hB hs hd hun hoi hpre hpB (fun k _ hh => hab hh.2.symm) h'
        refine ⟨sB, .inr rfl, s1, hs1, lin_soundO hB fuel _ _ s1.1 s1.2 (by simp [hs]) (down_set hd hoi hpre) (by omega) ?_ h1⟩
        have hnot : ∀ k ∈ unl oB (listed.setIfInBounds i true), k ≠ i := by
          intro k hk hki
          subst hki
          unfold unl at hk
          have hsz : k < listed.size := by rw [hs]; exact (Array.getElem?_eq_some_iff.1 hoi).1
          simp [Array.getD, hsz] at hk
        exact (List.Pairwise.and_mem.1 h2).imp fun {k j} hm => hm.2.2.elim id fun hh => absurd hh.1 (hnot k hm.1)
      · by_cases hia : i = a
        · subst hia
          obtain ⟨s1, hs1, h1, h2, h3⟩ := take_out hA hs hd hun hoi hpre hpA (fun k _ hh => hab hh.2) h
          refine ⟨sA, .inl rfl, s1, hs1, lin_soundO hA fuel _ _ s1.1 s1.2 (by simp [hs]) (down_set hd hoi hpre) (by omega) ?_ h1⟩
          have hnot : ∀ k ∈ unl oA (listed.setIfInBounds i true), k ≠ i := by
            intro k hk hki
            subst hki
            unfold unl at hk
            have hsz : k < listed.size := by rw [hs]; exact (Array.getElem?_eq_some_iff.1 hoi).1
            simp [Array.getD, hsz] at hk
          exact (List.Pairwise.and_mem.1 h2).imp fun {k j} hm => hm.2.2.elim id fun hh => absurd hh.1 (hnot k hm.1)
        · obtain ⟨s1, hs1, h1, h2, h3⟩ := take_out hA hs hd hun hoi hpre hpA (fun k _ hh => hib hh.2) h
          obtain ⟨s1', hs1', h1', h2', h3'⟩ := take_out hB hs hd hun hoi hpre hpB (fun k _ hh => hia hh.2) h'
          rw [hs1] at hs1'
          simp only [Option.some.injEq] at hs1'
          subst hs1'
          obtain ⟨s, hor, hrun⟩ := lin_soundS hA hB hab fuel (t / (Region.ready .any ops listed).length) (listed.setIfInBounds i true) s1.1 s1.2 (by simp [hs]) (down_set hd hoi hpre) (by omega) (by omega)
            (by rw [getD_set_ne true hia]; exact hua) (by rw [getD_set_ne true hib]; exact hub) hmA h2 h2' h1 h1'
          exact ⟨s, hor, s1, hs1, hrun⟩
end
end Go.AM
