/- HOW THE ABSTRACT MACHINE'S MEMORY STANDS TO THE MODEL'S: values, blocks, worlds. Conditions: none; definitions and plain lemmas. -/
import Derived.Test.YtmjanbhmpbhagaaAm2
import Derived.Below
import Derived.WalkKit
import Derived.Laws.AppendOwn
set_option linter.unusedVariables false
set_option linter.unusedSimpArgs false
namespace Go.AM
open Go.RowKit

structure Loc where
  b : Nat
  o : Nat
  n : Nat
  sz : Nat
  ver : Nat
  rw : Bool

abbrev Map := List Loc

def AV.one : AV → Bool
  | .agg _ | .tup _ | .undef | .yld _ => false
  | _ => true

mutual
def VRel (φ : Map) : AV → Value → Prop
  | .int k n, v => v = .int k n
  | .bool b, v => v = .bool b
  | .str s, v => v = .string s
  | .nilp, v => v = .pointer none
  | .nils, v => v = .slice none 0 0
  | .niln, v => v = .nilFunc
  | .undef, v => v = undef
  | .ptr id ver o, v => ∃ L, φ[id]? = some L ∧ ver ≤ L.ver ∧ (∃ a, v = .pointer a) ∧ (ver = L.ver → v = .pointer (some ⟨L.b, L.o + o, none⟩))
  | .sl id ver off len lim, v => ∃ L, φ[id]? = some L ∧ ver ≤ L.ver ∧ (∃ a n c, v = .slice a n c) ∧
      (ver = L.ver → ∃ cap p, v = .slice (some ⟨L.b, p, none⟩) len cap ∧ len ≤ cap ∧ (0 < cap → p = L.o + off) ∧ (L.rw = true → off + cap * L.sz ≤ L.n) ∧ (lim = true → cap = len))
  | .yld _, _ => False
  | .fn f cs, v => ∃ vs : List Value, v = .func (.func f) #[] vs.toArray ∧ VRels φ cs vs
  | .agg cs, v => cs.all AV.one = true ∧ ∃ vs : List Value, v = .agg vs.toArray ∧ VRels φ cs vs
  | .tup cs, v => ∃ vs : List Value, v = .tuple vs.toArray ∧ VRels φ cs vs
def VRels (φ : Map) : List AV → List Value → Prop
  | [], vs => vs = []
  | c :: cs, vs => ∃ v r, vs = v :: r ∧ VRel φ c v ∧ VRels φ cs r
end

structure Ext (φ φ' : Map) : Prop where
  len : φ.length ≤ φ'.length
  at_ : ∀ (id : Nat) (L : Loc), φ[id]? = some L → ∃ L', φ'[id]? = some L' ∧ L.ver ≤ L'.ver ∧ (L.ver = L'.ver → L' = L) ∧ L'.rw = L.rw

theorem Ext.refl (φ : Map) : Ext φ φ := ⟨Nat.le_refl _, fun id L h => ⟨L, h, Nat.le_refl _, fun _ => rfl, rfl⟩⟩
theorem Ext.trans {a b c : Map} (h : Ext a b) (k : Ext b c) : Ext a c := by
  refine ⟨Nat.le_trans h.len k.len, fun id L hL => ?_⟩
  obtain ⟨L1, h1, hv1, he1, hr1⟩ := h.at_ id L hL
  obtain ⟨L2, h2, hv2, he2, hr2⟩ := k.at_ id L1 h1
  refine ⟨L2, h2, Nat.le_trans hv1 hv2, fun e => ?_, hr2.trans hr1⟩
  have e1 : L.ver = L1.ver := by omega
  have := he1 e1
  subst this
  exact he2 e
theorem Ext.append (φ : Map) (L : Loc) : Ext φ (φ ++ [L]) :=
  ⟨by simp, fun id M h => ⟨M, by rw [List.getElem?_append_left (List.getElem?_eq_some_iff.1 h).1]; exact h, Nat.le_refl _, fun _ => rfl, rfl⟩⟩

mutual
theorem VRel.ext {φ φ' : Map} (h : Ext φ φ') : ∀ (c : AV) (v : Value), VRel φ c v → VRel φ' c v
  | .int .., _, hc | .bool _, _, hc | .str _, _, hc | .nilp, _, hc | .nils, _, hc | .niln, _, hc | .undef, _, hc => by simpa only [VRel] using hc
  | .ptr id ver o, v, hc => by
    simp only [VRel] at hc ⊢
    obtain ⟨L, hL, hv, ha, he⟩ := hc
    obtain ⟨L', hL', hv', he', _⟩ := h.at_ id L hL
    refine ⟨L', hL', Nat.le_trans hv hv', ha, fun e => ?_⟩
    have := he' (by omega)
    subst this
    exact he e
  | .sl id ver off len lim, v, hc => by
    simp only [VRel] at hc ⊢
    obtain ⟨L, hL, hv, ha, he⟩ := hc
    obtain ⟨L', hL', hv', he', _⟩ := h.at_ id L hL
    refine ⟨L', hL', Nat.le_trans hv hv', ha, fun e => ?_⟩
    have := he' (by omega)
    subst this
    exact he e
  | .yld _, _, hc => by simp only [VRel] at hc
  | .fn f cs, v, hc => by
    simp only [VRel] at hc ⊢
    obtain ⟨vs, rfl, hvs⟩ := hc
    exact ⟨vs, rfl, VRels.ext h cs vs hvs⟩
  | .agg cs, v, hc => by
    simp only [VRel] at hc ⊢
    obtain ⟨h1, vs, rfl, hvs⟩ := hc
    exact ⟨h1, vs, rfl, VRels.ext h cs vs hvs⟩
  | .tup cs, v, hc => by
    simp only [VRel] at hc ⊢
    obtain ⟨vs, rfl, hvs⟩ := hc
    exact ⟨vs, rfl, VRels.ext h cs vs hvs⟩
theorem VRels.ext {φ φ' : Map} (h : Ext φ φ') : ∀ (cs : List AV) (vs : List Value), VRels φ cs vs → VRels φ' cs vs
  | [], _, hc => by simpa only [VRels] using hc
  | c :: cs, vs, hc => by
    simp only [VRels] at hc ⊢
    obtain ⟨v, r, rfl, hv, hr⟩ := hc
    exact ⟨v, r, rfl, VRel.ext h c v hv, VRels.ext h cs r hr⟩
end

theorem VRels_iff {φ : Map} : ∀ {cs : List AV} {vs : List Value}, VRels φ cs vs ↔ cs.length = vs.length ∧ ∀ (i : Nat) (c : AV) (v : Value), cs[i]? = some c → vs[i]? = some v → VRel φ c v
  | [], vs => by
    simp only [VRels]
    constructor
    · rintro rfl; simp
    · rintro ⟨h, _⟩; exact List.eq_nil_of_length_eq_zero (by simpa using h.symm)
  | c :: cs, vs => by
    simp only [VRels]
    constructor
    · rintro ⟨v, r, rfl, hv, hr⟩
      obtain ⟨hl, hi⟩ := VRels_iff.1 hr
      refine ⟨by simp [hl], fun i c' v' h1 h2 => ?_⟩
      cases i with
      | zero => simp at h1 h2; subst h1; subst h2; exact hv
      | succ i => exact hi i c' v' (by simpa using h1) (by simpa using h2)
    · rintro ⟨hl, hi⟩
      cases vs with
      | nil => simp at hl
      | cons v r => exact ⟨v, r, rfl, hi 0 c v rfl rfl, VRels_iff.2 ⟨by simpa using hl, fun i c' v' h1 h2 => hi (i + 1) c' v' (by simpa using h1) (by simpa using h2)⟩⟩

theorem VRels.length {φ : Map} {cs : List AV} {vs : List Value} (h : VRels φ cs vs) : cs.length = vs.length := (VRels_iff.1 h).1
theorem VRels.get {φ : Map} {cs : List AV} {vs : List Value} (h : VRels φ cs vs) {i : Nat} {c : AV} (hc : cs[i]? = some c) : ∃ v, vs[i]? = some v ∧ VRel φ c v := by
  have hl := h.length
  have hi := (List.getElem?_eq_some_iff.1 hc).1
  exact ⟨vs[i]'(by omega), List.getElem?_eq_getElem _, (VRels_iff.1 h).2 i c _ hc (List.getElem?_eq_getElem _)⟩
theorem VRels.nil {φ : Map} : VRels φ [] [] := rfl
theorem VRels.cons {φ : Map} {c : AV} {cs : List AV} {v : Value} {vs : List Value} (h : VRel φ c v) (hs : VRels φ cs vs) : VRels φ (c :: cs) (v :: vs) := ⟨v, vs, rfl, h, hs⟩
theorem VRels.append {φ : Map} {cs ds : List AV} {vs us : List Value} (h : VRels φ cs vs) (k : VRels φ ds us) : VRels φ (cs ++ ds) (vs ++ us) := by
  induction cs generalizing vs with
  | nil => simp only [VRels] at h; subst h; simpa using k
  | cons c cs ih =>
    simp only [VRels] at h
    obtain ⟨v, r, rfl, hv, hr⟩ := h
    exact ⟨v, r ++ us, rfl, hv, ih hr⟩
theorem VRels.take {φ : Map} {cs : List AV} {vs : List Value} (h : VRels φ cs vs) (n : Nat) : VRels φ (cs.take n) (vs.take n) := by
  induction cs generalizing vs n with
  | nil => simp only [VRels] at h; subst h; simp [VRels]
  | cons c cs ih =>
    simp only [VRels] at h
    obtain ⟨v, r, rfl, hv, hr⟩ := h
    cases n with
    | zero => simp [VRels]
    | succ n => exact ⟨v, r.take n, rfl, hv, ih hr n⟩
theorem VRels.drop {φ : Map} {cs : List AV} {vs : List Value} (h : VRels φ cs vs) (n : Nat) : VRels φ (cs.drop n) (vs.drop n) := by
  induction cs generalizing vs n with
  | nil => simp only [VRels] at h; subst h; simp [VRels]
  | cons c cs ih =>
    simp only [VRels] at h
    obtain ⟨v, r, rfl, hv, hr⟩ := h
    cases n with
    | zero => exact ⟨v, r, rfl, hv, hr⟩
    | succ n => exact ih hr n
theorem VRels.set {φ : Map} {cs : List AV} {vs : List Value} (h : VRels φ cs vs) (n : Nat) {c : AV} {v : Value} (hc : VRel φ c v) : VRels φ (cs.set n c) (vs.set n v) := by
  induction cs generalizing vs n with
  | nil => simp only [VRels] at h; subst h; simp [VRels]
  | cons d cs ih =>
    simp only [VRels] at h
    obtain ⟨u, r, rfl, hv, hr⟩ := h
    cases n with
    | zero => exact ⟨v, r, rfl, hc, hr⟩
    | succ n => exact ⟨u, r.set n v, rfl, hv, ih hr n⟩

def putVals : List Value → Nat → List Value → List Value
  | cs, _, [] => cs
  | cs, o, v :: vs => putVals (cs.set o v) (o + 1) vs
theorem VRels.put {φ : Map} : ∀ {ds : List AV} {us : List Value} {cs : List AV} {vs : List Value} (o : Nat), VRels φ cs vs → VRels φ ds us → VRels φ (putCells cs o ds) (putVals vs o us)
  | [], us, cs, vs, o, h, k => by simp only [VRels] at k; subst k; exact h
  | d :: ds, us, cs, vs, o, h, k => by
    simp only [VRels] at k
    obtain ⟨u, r, rfl, hu, hr⟩ := k
    exact VRels.put (o + 1) (h.set o hu) hr
theorem putCells_length : ∀ (ds cs : List AV) (o : Nat), (putCells cs o ds).length = cs.length
  | [], _, _ => rfl
  | d :: ds, cs, o => by rw [putCells, putCells_length ds]; simp
theorem putVals_length : ∀ (ds cs : List Value) (o : Nat), (putVals cs o ds).length = cs.length
  | [], _, _ => rfl
  | d :: ds, cs, o => by rw [putVals, putVals_length ds]; simp
theorem putVals_eq : ∀ (us vs : List Value) (o : Nat), o + us.length ≤ vs.length → putVals vs o us = vs.take o ++ us ++ vs.drop (o + us.length)
  | [], vs, o, _ => by simp [putVals]
  | u :: us, vs, o, h => by
    rw [putVals, putVals_eq us (vs.set o u) (o + 1) (by simp at h ⊢; omega)]
    have e := list_seg_step vs o u us (by simpa using h)
    simpa [Nat.add_assoc, Nat.add_comm 1] using e
theorem putCells_all {p : AV → Bool} : ∀ (ds cs : List AV) (o : Nat), cs.all p = true → ds.all p = true → (putCells cs o ds).all p = true
  | [], _, _, h, _ => h
  | d :: ds, cs, o, h, k => by
    rw [putCells]
    simp only [List.all_cons, Bool.and_eq_true] at k
    refine putCells_all ds _ _ ?_ k.2
    rw [List.all_eq_true] at h ⊢
    intro x hx
    rcases List.mem_or_eq_of_mem_set hx with hx | rfl
    · exact h x hx
    · exact k.1

theorem VRel.one {φ : Map} {c : AV} {v : Value} (h : VRel φ c v) (h1 : c.one = true) : v.oneCell' = true := by
  cases c <;> simp only [AV.one, VRel, Bool.false_eq_true] at h h1
  case int => subst h; rfl
  case bool => subst h; rfl
  case str => subst h; rfl
  case ptr => obtain ⟨L, _, _, ⟨a, rfl⟩, _⟩ := h; rfl
  case nilp => subst h; rfl
  case sl => obtain ⟨L, _, _, ⟨a, n, c, rfl⟩, _⟩ := h; rfl
  case nils => subst h; rfl
  case fn => obtain ⟨vs, rfl, _⟩ := h; rfl
  case niln => subst h; rfl
theorem VRels.ones {φ : Map} {cs : List AV} {vs : List Value} (h : VRels φ cs vs) (h1 : cs.all AV.one = true) : ∀ v ∈ vs, v.oneCell' = true := by
  induction cs generalizing vs with
  | nil => simp only [VRels] at h; subst h; simp
  | cons c cs ih =>
    simp only [VRels] at h
    obtain ⟨v, r, rfl, hv, hr⟩ := h
    simp only [List.all_cons, Bool.and_eq_true] at h1
    intro x hx
    rcases List.mem_cons.1 hx with rfl | hx
    · exact hv.one h1.1
    · exact ih hr h1.2 x hx

/-- A block of the abstract machine, and where it lies. -/
def BRel (w0 : World) (φ : Map) (B : Blk) (L : Loc) (w : World) : Prop :=
  match B with
  | .rw ver sz cells => L.rw = true ∧ L.ver = ver ∧ L.sz = sz ∧ L.o = 0 ∧ w0.heap.size ≤ L.b ∧ cells.all AV.one = true ∧
      ∃ (c : Array Value) (t : TypeId), w.heap[L.b]? = some (.cells c t (0, 0)) ∧ c.size = L.n ∧ cells.length ≤ c.size ∧ VRels φ cells (c.toList.take cells.length)
  | .ro cells => L.rw = false ∧ L.ver = 0 ∧ L.b < w0.heap.size ∧ cells.all AV.one = true ∧
      ∃ vs : List Value, VRels φ cells vs ∧ ∀ (j : Nat) (u : Value), vs[j]? = some u → w0.cell? ⟨L.b, L.o + j, none⟩ = some u

structure Rel (w0 : World) (φ : Map) (H : Heap) (w : World) : Prop where
  len : φ.length = H.length
  below : Below w0.heap.size w0 w
  blk : ∀ (id : Nat) (B : Blk), H[id]? = some B → ∃ L, φ[id]? = some L ∧ BRel w0 φ B L w
  inj : ∀ (i j : Nat) (L M : Loc), φ[i]? = some L → φ[j]? = some M → L.rw = true → M.rw = true → L.b = M.b → i = j

def ERel (φ : Map) (e : Env) (tmps : Array Value) : Prop := ∀ t, VRel φ (e t) (tmps.getD t undef)

theorem ERel.ext {φ φ' : Map} (h : Ext φ φ') {e : Env} {tmps : Array Value} (he : ERel φ e tmps) : ERel φ' e tmps := fun t => (he t).ext h _ _

theorem ERel.put {φ : Map} {e : Env} {a : Act} (he : ERel φ e a.tmps) {d : Option Nat} (hd : ∀ t, d = some t → t < a.tmps.size) {v : AV} {u : Value} (hv : VRel φ v u) : ERel φ (e.put d v) (a.put d u).tmps := by
  cases d with
  | none => exact he
  | some k =>
    intro t
    have hk := hd k rfl
    simp only [Env.put, Env.set, Act.put]
    by_cases ht : t = k
    · subst ht; simp [hk, Array.getD]; exact hv
    · simp only [if_neg ht]
      have : (a.tmps.setIfInBounds k u).getD t undef = a.tmps.getD t undef := by
        simp only [Array.getD, Array.size_setIfInBounds]
        split
        · rename_i hlt
          simp only [Array.getInternal_eq_getElem]
          rw [Array.getElem_setIfInBounds]
          simp [Ne.symm ht]
          exact hlt
        · rfl
      rw [this]
      exact he t

/-- A live reference's cells can be read. -/
theorem Rel.read {w0 w : World} {φ : Map} {H : Heap} (R : Rel w0 φ H w) {id ver : Nat} {cs : List AV} (h : H.cells id ver = some cs) :
    ∃ L vs, φ[id]? = some L ∧ ver = L.ver ∧ cs.all AV.one = true ∧ VRels φ cs vs ∧ ∀ (j : Nat) (u : Value), vs[j]? = some u → w.cell? ⟨L.b, L.o + j, none⟩ = some u := by
  unfold Heap.cells at h
  cases hB : H[id]? with
  | none => simp [hB] at h
  | some B =>
    simp only [hB] at h
    split at h
    · rename_i hver
      obtain ⟨L, hL, hr⟩ := R.blk id B hB
      cases B with
      | rw v sz cells =>
        simp only [BRel, Blk.ver, Blk.cells, Option.some.injEq] at hr h hver
        obtain ⟨_, hv, _, ho, _, h1, c, t, hw, hs, hl, hrel⟩ := hr
        subst h
        refine ⟨L, _, hL, by omega, h1, hrel, fun j u hu => ?_⟩
        rw [List.getElem?_take] at hu
        split at hu
        · rw [ho, Nat.zero_add]
          simpa [World.cell?, hw] using hu
        · cases hu
      | ro cells =>
        simp only [BRel, Blk.ver, Blk.cells, Option.some.injEq] at hr h hver
        obtain ⟨_, hv, hb, h1, vs, hrel, hc⟩ := hr
        subst h
        refine ⟨L, vs, hL, by omega, h1, hrel, fun j u hu => ?_⟩
        rw [R.below.cell (p := ⟨L.b, L.o + j, none⟩) hb]
        exact hc j u hu
    · cases h

theorem Heap.cells_isSome {H : Heap} {id ver : Nat} (h : (H.cells id ver).isSome = true) : ∃ cs, H.cells id ver = some cs := Option.isSome_iff_exists.1 h

end Go.AM
