/- The frame of our walks: a heap owned in chunks, beside a frame that is only read. Conditions: none.
   The frame of our walks: code, slots, calls. Conditions: none.
   The frame of our walks: a region that draws its order. What only reads is taken first, then what is ordered. Conditions: none.
   The frame of our walks: the plain operations. Conditions: none.
   The frame of our walks: numbers, comparisons, strings. Conditions: none.
   The frame of our walks: slices. Conditions: none.
   The frame of our walks: append, rows that are made, texts of bytes. Conditions: none. -/
import Derived.Calls
import Derived.Tactics
import Derived.Laws.World
import Derived.Scope
import Derived.OrdersHeld
import Derived.OrdersIn
import Derived.TacticsIn
import Derived.RangeFuncRecord
import Derived.Laws.Cells
import Derived.Laws.Pointers
import Derived.Laws.StructEq
import Derived.Laws.Small
import Derived.WalkSpells
import Derived.Laws.Cover3
namespace Go.Proofs.YtonnncdolofccaaGreat

/-- a part of the heap -/
abbrev Hp := Nat → Option Obj
def emp : Hp := fun _ => none
def one (b : Nat) (o : Obj) : Hp := fun b' => if b' = b then some o else none
def Hp.dis (h g : Hp) : Prop := ∀ b, h b = none ∨ g b = none
def Hp.sub (h : Hp) (w : World) : Prop := ∀ b o, h b = some o → w.heap[b]? = some o
/-- what some parts hold -/
def Rdb (M : List Hp) (b : Nat) (o : Obj) : Prop := ∃ h, h ∈ M ∧ h b = some o
def KIn (K : List Hp) (F : Hp) : Prop := ∀ h, h ∈ K → ∀ b o, h b = some o → F b = some o

theorem Hp.dis.symm {h g : Hp} (d : Hp.dis h g) : Hp.dis g h := fun b => (d b).symm
theorem one_self (b : Nat) (o : Obj) : one b o b = some o := by simp [one]
theorem one_some {b b' : Nat} {o o' : Obj} (h : one b o b' = some o') : b' = b ∧ o' = o := by
  unfold one at h; split at h
  · exact ⟨by assumption, by simpa using h.symm⟩
  · cases h
theorem one_dom (b : Nat) (o o' : Obj) (b' : Nat) : one b o b' = none ↔ one b o' b' = none := by unfold one; split <;> simp

structure Owned (F : Hp) (hs : List Hp) (w : World) : Prop where
  disF : ∀ h, h ∈ hs → Hp.dis F h
  dis : hs.Pairwise Hp.dis
  subF : F.sub w
  sub : ∀ h, h ∈ hs → h.sub w

structure Keeps (w w' : World) : Prop where
  os : w'.os = w.os
  tape : w'.tape = w.tape
  output : w'.output = w.output
  size : w.heap.size ≤ w'.heap.size

theorem Keeps.refl (w : World) : Keeps w w := ⟨rfl, rfl, rfl, Nat.le_refl _⟩
theorem Keeps.trans {a b c : World} (h : Keeps a b) (k : Keeps b c) : Keeps a c :=
  ⟨k.os.trans h.os, k.tape.trans h.tape, k.output.trans h.output, Nat.le_trans h.size k.size⟩

theorem Owned.read {F : Hp} {K hs : List Hp} {w : World} (hK : KIn K F) (ho : Owned F hs w) {b : Nat} {o : Obj} (h : Rdb (K ++ hs) b o) : w.heap[b]? = some o := by
  obtain ⟨g, hg, e⟩ := h
  rcases List.mem_append.1 hg with hg | hg
  · exact ho.subF _ _ (hK g hg _ _ e)
  · exact ho.sub g hg _ _ e

/-- what these parts hold is there -/
def MOk (M : List Hp) (w : World) : Prop := ∀ b o, Rdb M b o → w.heap[b]? = some o
theorem Owned.mok {F : Hp} {K hs : List Hp} {w : World} (hK : KIn K F) (ho : Owned F hs w) : MOk (K ++ hs) w := fun _ _ h => ho.read hK h

theorem Owned.lt {F : Hp} {hs : List Hp} {w : World} (ho : Owned F hs w) {h : Hp} (hh : h ∈ hs) {b : Nat} {o : Obj} (e : h b = some o) : b < w.heap.size := by
  have := ho.sub h hh b o e
  exact (Array.getElem?_eq_some_iff.1 this).1

theorem Owned.perm {F : Hp} {hs hs' : List Hp} {w : World} (ho : Owned F hs w) (p : hs.Perm hs') : Owned F hs' w :=
  ⟨fun h hh => ho.disF h (p.mem_iff.2 hh), (p.pairwise_iff (fun {_ _} d => d.symm)).1 ho.dis, ho.subF, fun h hh => ho.sub h (p.mem_iff.2 hh)⟩

theorem Owned.tail {F : Hp} {h : Hp} {hs : List Hp} {w : World} (ho : Owned F (h :: hs) w) : Owned F hs w :=
  ⟨fun g m => ho.disF g (List.mem_cons_of_mem _ m), (List.pairwise_cons.1 ho.dis).2, ho.subF, fun g m => ho.sub g (List.mem_cons_of_mem _ m)⟩
theorem perm_set {α : Type} : ∀ (l : List α) (j : Nat) (x y : α), l[j]? = some y → (x :: l).Perm (y :: l.set j x)
  | [], j, x, y, h => by simp at h
  | a :: l, 0, x, y, h => by
    simp only [List.getElem?_cons_zero, Option.some.injEq] at h
    subst h; exact List.Perm.swap _ _ _
  | a :: l, j + 1, x, y, h => by
    have := perm_set l j x y (by simpa using h)
    exact (List.Perm.swap _ _ _).trans ((this.cons a).trans (List.Perm.swap _ _ _))
/-- a part of one's own is let go, a new one takes its place -/
theorem Owned.replace {F : Hp} {h g : Hp} {hs : List Hp} {w : World} {j : Nat} (ho : Owned F (h :: hs) w) (hj : hs[j]? = some g) : Owned F (hs.set j h) w := (ho.perm (perm_set hs j h g hj)).tail

/-- nothing of what is known has turned -/
theorem Owned.same {F : Hp} {hs : List Hp} {w w' : World} (ho : Owned F hs w) (h : ∀ b : Nat, b < w.heap.size → w'.heap[b]? = w.heap[b]?) : Owned F hs w' := by
  have key : ∀ g : Hp, g.sub w → g.sub w' := fun g hg b o e => by
    have e' := hg b o e
    rw [h b (Array.getElem?_eq_some_iff.1 e').1]; exact e'
  exact ⟨ho.disF, ho.dis, key _ ho.subF, fun g hg => key g (ho.sub g hg)⟩

theorem Owned.alloc {F : Hp} {hs : List Hp} {w : World} (ho : Owned F hs w) (o : Obj) : Owned F (one w.heap.size o :: hs) (w.alloc o) := by
  have hsame : ∀ b : Nat, b < w.heap.size → (w.alloc o).heap[b]? = w.heap[b]? := fun b hb => by
    show (w.heap.push o)[b]? = _
    rw [Array.getElem?_push, if_neg (by omega)]
  have ho' := ho.same hsame
  have fresh : ∀ g : Hp, g.sub w → g.dis (one w.heap.size o) := fun g hg b => by
    unfold one
    by_cases e : b = w.heap.size
    · left
      cases hgb : g b with
      | none => rfl
      | some o' =>
        have := hg b o' hgb
        have := (Array.getElem?_eq_some_iff.1 this).1
        omega
    · right; simp [e]
  refine ⟨fun h hh => ?_, ?_, ho'.subF, fun h hh => ?_⟩
  · rcases List.mem_cons.1 hh with rfl | hh
    · exact fresh _ ho.subF
    · exact ho.disF h hh
  · exact List.pairwise_cons.2 ⟨fun g hg => (fresh g (ho.sub g hg)).symm, ho.dis⟩
  · rcases List.mem_cons.1 hh with rfl | hh
    · intro b o' e
      obtain ⟨rfl, rfl⟩ := one_some e
      show (w.heap.push _)[w.heap.size]? = _
      simp
    · exact ho'.sub h hh

/-- one block's content turns -/
def World.upd (w : World) (b : Nat) (o : Obj) : World := { w with heap := w.heap.setIfInBounds b o }

theorem Owned.upd {F : Hp} {hs : List Hp} {w w' : World} {i b : Nat} {o o' : Obj} (ho : Owned F hs w) (hi : hs[i]? = some (one b o))
    (hb : w'.heap[b]? = some o') (hother : ∀ k : Nat, k ≠ b → w'.heap[k]? = w.heap[k]?) : Owned F (hs.set i (one b o')) w' := by
  have hmem : one b o ∈ hs := List.mem_of_getElem? hi
  have hF : F b = none := by
    rcases ho.disF _ hmem b with h | h
    · exact h
    · rw [one_self] at h; cases h
  have hlt : i < hs.length := (List.getElem?_eq_some_iff.1 hi).1
  have hiv : hs[i] = one b o := (List.getElem?_eq_some_iff.1 hi).2
  have oth : ∀ j (hj : j < hs.length), j ≠ i → hs[j] b = none := fun j hj hne => by
    have hd : Hp.dis hs[j] hs[i] := by
      have hp := List.pairwise_iff_getElem.1 ho.dis
      rcases Nat.lt_or_gt_of_ne hne with h | h
      · exact hp j i hj hlt h
      · exact (hp i j hlt hj h).symm
    rcases hd b with h | h
    · exact h
    · rw [hiv, one_self] at h; cases h
  have dd : ∀ g : Hp, g.dis (one b o) → g.dis (one b o') := fun g hg k => by
    rcases hg k with h | h
    · exact .inl h
    · exact .inr ((one_dom b o o' k).1 h)
  refine ⟨fun h hh => ?_, ?_, ?_, fun h hh => ?_⟩
  · rcases List.mem_or_eq_of_mem_set hh with hh | rfl
    · exact ho.disF h hh
    · exact dd _ (ho.disF _ hmem)
  · refine List.pairwise_iff_getElem.2 fun j k hj hk hjk => ?_
    have hp := List.pairwise_iff_getElem.1 ho.dis
    simp only [List.length_set] at hj hk
    rw [List.getElem_set, List.getElem_set]
    by_cases e1 : i = j
    · subst e1
      rw [if_pos rfl, if_neg (by omega)]
      have := hp i k hj hk hjk
      rw [hiv] at this
      exact (dd _ this.symm).symm
    · rw [if_neg e1]
      by_cases e2 : i = k
      · subst e2
        rw [if_pos rfl]
        have := hp j i hj hk hjk
        rw [hiv] at this
        exact dd _ this
      · rw [if_neg e2]; exact hp j k hj hk hjk
  · intro k ok e
    rw [hother k (fun e' => by subst e'; rw [hF] at e; cases e)]; exact ho.subF k ok e
  · intro k ok e
    rcases List.mem_or_eq_of_mem_set hh with hh' | rfl
    · obtain ⟨j, hj⟩ := List.mem_iff_getElem?.1 hh
      rw [List.getElem?_set] at hj
      by_cases e1 : i = j
      · subst e1
        rw [if_pos rfl, if_pos hlt] at hj
        cases hj
        obtain ⟨rfl, rfl⟩ := one_some e
        exact hb
      · rw [if_neg e1] at hj
        obtain ⟨hjl, hjv⟩ := List.getElem?_eq_some_iff.1 hj
        have hn := oth j hjl (fun h => e1 h.symm)
        rw [hjv] at hn
        rw [hother k (fun e' => by subst e'; rw [hn] at e; cases e)]
        exact ho.sub h hh' k ok e
    · obtain ⟨rfl, rfl⟩ := one_some e
      exact hb

attribute [irreducible] one

/-! ### what a computation of the model does -/
def SemT (P : Program) (K hs : List Hp) {α : Type} (s : Sem α) (R : α → List Hp → Prop) : Prop :=
  ∀ w F, KIn K F → Owned F hs w → ∃ v w' hs', s.run P w = .ok v w' ∧ Owned F hs' w' ∧ Keeps w w' ∧ R v hs'

section
variable {P : Program} {K hs : List Hp} {α β : Type}

theorem SemT.pure {a : α} {R : α → List Hp → Prop} (h : R a hs) : SemT P K hs (Pure.pure a) R :=
  fun w _ _ ho => ⟨a, w, hs, rfl, ho, Keeps.refl w, h⟩
theorem SemT.pure' {a : α} {R : α → List Hp → Prop} (h : R a hs) : SemT P K hs (Sem.pure a) R := SemT.pure h

theorem SemT.replace {h g : Hp} {j : Nat} {a : α} {R : α → List Hp → Prop} (hj : hs[j]? = some g) (r : R a (hs.set j h)) : SemT P K (h :: hs) (Pure.pure a) R :=
  fun w _ _ ho => ⟨a, w, _, rfl, ho.replace hj, Keeps.refl w, r⟩
theorem SemT.bind {x : Sem α} {f : α → Sem β} {R : β → List Hp → Prop} (h : SemT P K hs x fun v hs' => SemT P K hs' (f v) R) : SemT P K hs (x >>= f) R := by
  intro w F hK ho
  obtain ⟨v, w1, hs1, e1, ho1, k1, h1⟩ := h w F hK ho
  obtain ⟨u, w2, hs2, e2, ho2, k2, h2⟩ := h1 w1 F hK ho1
  exact ⟨u, w2, hs2, by rw [Sem.run_bind, e1, Result.andThen_ok, e2], ho2, k1.trans k2, h2⟩

theorem SemT.mono {x : Sem α} {R R' : α → List Hp → Prop} (h : SemT P K hs x R) (hr : ∀ v hs', R v hs' → R' v hs') : SemT P K hs x R' :=
  fun w F hK ho => let ⟨v, w', hs', e, o, k, r⟩ := h w F hK ho; ⟨v, w', hs', e, o, k, hr _ _ r⟩

/-- a computation that asks nothing of the memory -/
theorem SemT.known {x : Sem α} {a : α} {R : α → List Hp → Prop} (e : ∀ w, x.run P w = .ok a w) (h : R a hs) : SemT P K hs x R :=
  fun w _ _ ho => ⟨a, w, hs, e w, ho, Keeps.refl w, h⟩

theorem SemT.program {R : Program → List Hp → Prop} (h : R P hs) : SemT P K hs program R := SemT.known (fun _ => rfl) h

theorem SemT.choose {q : Question} {R : Nat → List Hp → Prop} (h : ∀ n, (q.forced = false → ∃ t, n = q.cut t) → R n hs) : SemT P K hs (choose q) R := by
  intro w F _ ho
  by_cases hf : q.forced = true
  · exact ⟨0, w, hs, by rw [run_choose, if_pos hf], ho, Keeps.refl w, h 0 (fun h' => by rw [hf] at h'; cases h')⟩
  · exact ⟨_, w.drew, hs, by rw [run_choose, if_neg hf]; rfl, ho.same (fun _ _ => rfl), ⟨rfl, rfl, rfl, Nat.le_refl _⟩, h _ (fun _ => ⟨_, rfl⟩)⟩

theorem SemT.newObj {o : Obj} {R : Nat → List Hp → Prop} (h : ∀ b, R b (one b o :: hs)) : SemT P K hs (newObj o) R :=
  fun w _ _ ho => ⟨w.heap.size, w.alloc o, _, rfl, ho.alloc o, ⟨rfl, rfl, rfl, by simp⟩, h _⟩

/-- a cell that is read -/
def CellIn (M : List Hp) (a : Addr) (v : Value) : Prop := a.spot = none ∧ ∃ c T fz, Rdb M a.block (.cells c T fz) ∧ c[a.off]? = some v
def Sub (M M' : List Hp) : Prop := ∀ g, g ∈ M → g ∈ M'
theorem Rdb.sub {M M' : List Hp} (s : Sub M M') {b : Nat} {o : Obj} (h : Rdb M b o) : Rdb M' b o := let ⟨g, m, e⟩ := h; ⟨g, s g m, e⟩
theorem CellIn.sub {M M' : List Hp} (s : Sub M M') {a : Addr} {v : Value} (h : CellIn M a v) : CellIn M' a v := let ⟨x, c, T, fz, r, e⟩ := h; ⟨x, c, T, fz, r.sub s, e⟩
theorem Sub.refl (M : List Hp) : Sub M M := fun _ h => h
theorem Sub.left (M N : List Hp) : Sub M (M ++ N) := fun _ h => List.mem_append_left _ h
theorem Sub.right (M N : List Hp) : Sub N (M ++ N) := fun _ h => List.mem_append_right _ h
theorem Sub.trans {A B C : List Hp} (h : Sub A B) (k : Sub B C) : Sub A C := fun g m => k g (h g m)
theorem Sub.nil (M : List Hp) : Sub [] M := fun _ h => by cases h
theorem Sub.cons {M N : List Hp} {g : Hp} (h : g ∈ N) (k : Sub M N) : Sub (g :: M) N := fun x m => by
  rcases List.mem_cons.1 m with rfl | m
  · exact h
  · exact k x m
theorem Sub.append {A B C : List Hp} (h : Sub A C) (k : Sub B C) : Sub (A ++ B) C := fun x m => by
  rcases List.mem_append.1 m with m | m
  · exact h x m
  · exact k x m

theorem CellIn.cell {M : List Hp} {w : World} (hm : MOk M w) {a : Addr} {v : Value} (h : CellIn M a v) : w.cell? a = some v := by
  obtain ⟨hsp, c, T, fz, hr, hv⟩ := h
  have := hm _ _ hr
  simp [World.cell?, this, hsp, hv]

theorem SemT.load {a : Addr} {v : Value} {R : Value → List Hp → Prop} (hc : CellIn (K ++ hs) a v) (h : R v hs) : SemT P K hs (load a) R :=
  fun w _ hK ho => ⟨v, w, hs, by rw [run_load, hc.cell (ho.mok hK)], ho, Keeps.refl w, h⟩

theorem SemT.getObj {b : Nat} {o : Obj} {R : Obj → List Hp → Prop} (hr : Rdb (K ++ hs) b o) (hno : ∀ c T fz, o ≠ .cells c T fz) (h : R o hs) : SemT P K hs (getObj b) R := by
  intro w F hK ho
  have e := ho.read hK hr
  refine ⟨o, w, hs, ?_, ho, Keeps.refl w, h⟩
  cases o <;> first | exact absurd rfl (hno _ _ _) | simp only [Go.getObj, Sem.run, e]

theorem SemT.shape {b : Nat} {c : Array Value} {T : TypeId} {fz : Nat × Nat} {R : Option (TypeId × Nat) → List Hp → Prop} (hr : Rdb (K ++ hs) b (.cells c T fz)) (h : R (some (T, c.size)) hs) : SemT P K hs (shape b) R := by
  intro w F hK ho
  have e := ho.read hK hr
  refine ⟨_, w, hs, rfl, ho, Keeps.refl w, ?_⟩
  simp only [World.shape?, e]; exact h

theorem SemT.frozen {a : Addr} {c : Array Value} {T : TypeId} {lo hi : Nat} {R : Bool → List Hp → Prop} (hr : Rdb (K ++ hs) a.block (.cells c T (lo, hi))) (h : R (lo ≤ a.off && a.off < hi) hs) : SemT P K hs (frozen a) R := by
  intro w F hK ho
  have e := ho.read hK hr
  refine ⟨_, w, hs, rfl, ho, Keeps.refl w, ?_⟩
  simp only [World.frozen?, e]; exact h

theorem SemT.setObj {i b : Nat} {o o' : Obj} {R : Unit → List Hp → Prop} (hi : hs[i]? = some (one b o)) (hno : ∀ c T fz, o ≠ .cells c T fz) (h : R () (hs.set i (one b o'))) : SemT P K hs (setObj b o') R := by
  intro w F hK ho
  have e := ho.sub _ (List.mem_of_getElem? hi) b o (one_self b o)
  refine ⟨(), { w with heap := w.heap.setIfInBounds b o' }, _, ?_, ho.upd hi ?_ ?_, ⟨rfl, rfl, rfl, by simp⟩, h⟩
  · cases o <;> first | exact absurd rfl (hno _ _ _) | simp only [Go.setObj, Sem.run, e]
  · have := (Array.getElem?_eq_some_iff.1 e).1
    simp [this]
  · intro k hk
    show (w.heap.setIfInBounds b o')[k]? = _
    rw [Array.getElem?_setIfInBounds_ne (fun h => hk h.symm)]

theorem SemT.store {i b off : Nat} {c : Array Value} {T : TypeId} {l r : Nat} {v : Value} {R : Unit → List Hp → Prop} (hi : hs[i]? = some (one b (.cells c T (l, r)))) (hv : v.oneCell' = true) (hoff : off < c.size) (hfz : r ≤ l ∨ off < l ∨ r ≤ off)
    (h : R () (hs.set i (one b (.cells (c.setIfInBounds off v) T (l, r))))) : SemT P K hs (store ⟨b, off, none⟩ v) R := by
  intro w F hK ho
  have e := ho.sub _ (List.mem_of_getElem? hi) b _ (one_self b _)
  have hlt := (Array.getElem?_eq_some_iff.1 e).1
  refine ⟨(), w.setCell ⟨b, off, none⟩ v, _, ?_, ho.upd hi ?_ ?_, ⟨rfl, rfl, rfl, by simp [World.setCell]⟩, h⟩
  · rw [run_store P w _ v _ hv]
    have hc : w.cell? ⟨b, off, none⟩ = some c[off] := by simp [World.cell?, e, hoff]
    have hf : w.frozen? ⟨b, off, none⟩ = false := by
      simp only [World.frozen?, e, Bool.and_eq_false_iff, decide_eq_false_iff_not]; omega
    rw [hc]; simp [hf]
  · simp [World.setCell, Array.getElem?_modify, e]
  · intro k hk
    simp only [World.setCell, Array.getElem?_modify]
    rw [if_neg (fun h => hk h.symm)]

theorem SemT.freeze {i b off m : Nat} {c : Array Value} {T : TypeId} {l r : Nat} {R : Unit → List Hp → Prop} (hi : hs[i]? = some (one b (.cells c T (l, r)))) (hm : m ≠ 0)
    (h : R () (hs.set i (one b (.cells c T (if l == r then (off, off + m) else (min l off, max r (off + m))))))) : SemT P K hs (freeze ⟨b, off, none⟩ m) R := by
  intro w F hK ho
  have e := ho.sub _ (List.mem_of_getElem? hi) b _ (one_self b _)
  refine ⟨(), w.freeze ⟨b, off, none⟩ m, _, rfl, ho.upd hi ?_ ?_, ⟨by simp [World.freeze, hm], by simp [World.freeze, hm], by simp [World.freeze, hm], by simp [World.freeze, hm]⟩, h⟩
  · simp [World.freeze, hm, Array.getElem?_modify, e]
  · intro k hk
    simp only [World.freeze, hm, if_false, Array.getElem?_modify]
    rw [if_neg (fun h => hk h.symm)]

end

end Go.Proofs.YtonnncdolofccaaGreat

namespace Go.Proofs.YtonnncdolofccaaGreat

abbrev Env := List (Nat × Value)
def lk : Env → Nat → Option Value
  | [], _ => none
  | (t, v) :: ρ, u => match Nat.beq t u with
    | true => some v
    | false => lk ρ u

theorem beq_no {a b : Nat} (h : a ≠ b) : Nat.beq a b = false := by
  cases e : Nat.beq a b with
  | false => rfl
  | true => exact absurd (Nat.eq_of_beq_eq_true e) h
theorem lk_cons (t : Nat) (v : Value) (ρ : Env) (u : Nat) : lk ((t, v) :: ρ) u = if t = u then some v else lk ρ u := by
  simp only [lk]
  by_cases h : t = u
  · subst h; simp
  · rw [beq_no h, if_neg h]

def evalO (ρ : Env) : Operand → Option Value
  | .tmp t => lk ρ t
  | .const v => some v
  | .global g => some (.pointer (some ⟨g, 0, none⟩))
  | .func f => some (.func (.func f) #[] #[])

def evalL (ρ : Env) : List Operand → Option (List Value)
  | [] => some []
  | x :: xs => match evalO ρ x, evalL ρ xs with
    | some v, some vs => some (v :: vs)
    | _, _ => none

structure EnvOk (n : Nat) (ρ : Env) (a : Act) : Prop where
  size : a.tmps.size = n
  get : ∀ t v, lk ρ t = some v → a.tmps.getD t undef = v

theorem EnvOk.eval {n : Nat} {ρ : Env} {a : Act} (h : EnvOk n ρ a) {x : Operand} {v : Value} (e : evalO ρ x = some v) : a.eval x = v := by
  cases x with
  | tmp t => exact h.get t v e
  | const c => simp only [evalO, Option.some.injEq] at e; exact e
  | global g => simp only [evalO, Option.some.injEq] at e; exact e
  | func f => simp only [evalO, Option.some.injEq] at e; exact e

theorem EnvOk.evals {n : Nat} {ρ : Env} {a : Act} (h : EnvOk n ρ a) : ∀ {xs : List Operand} {vs : List Value}, evalL ρ xs = some vs → xs.map a.eval = vs := by
  intro xs
  induction xs with
  | nil => intro vs e; simp only [evalL, Option.some.injEq] at e; subst e; rfl
  | cons x xs ih =>
    intro vs e
    simp only [evalL] at e
    split at e
    · rename_i v vs' h1 h2
      cases e
      simp only [List.map_cons, h.eval h1, ih h2]
    · cases e

theorem EnvOk.put {n : Nat} {ρ : Env} {a : Act} (h : EnvOk n ρ a) {d : Nat} (hd : Nat.blt d n = true) (v : Value) : EnvOk n ((d, v) :: ρ) (a.put (some d) v) := by
  have hd' : d < n := by simpa [Nat.blt_eq] using hd
  refine ⟨by simp [Act.put, h.size], fun t u e => ?_⟩
  rw [lk_cons] at e
  simp only [Act.put, Array.getD_eq_getD_getElem?]
  by_cases ht : d = t
  · subst ht
    rw [if_pos rfl] at e
    cases e
    rw [Array.getElem?_setIfInBounds_self, if_pos (by rw [h.size]; exact hd')]
    rfl
  · rw [if_neg ht] at e
    rw [Array.getElem?_setIfInBounds_ne ht]
    have := h.get t u e
    rwa [Array.getD_eq_getD_getElem?] at this

/-- the second names no more than the first -/
def EnvLe (ρ' ρ : Env) : Prop := ∀ t v, lk ρ' t = some v → lk ρ t = some v
theorem EnvLe.nil (ρ : Env) : EnvLe [] ρ := fun _ _ h => by cases h
theorem EnvLe.cons {ρ' ρ : Env} {t : Nat} {v : Value} (h : lk ρ t = some v) (r : EnvLe ρ' ρ) : EnvLe ((t, v) :: ρ') ρ := by
  intro u x e
  rw [lk_cons] at e
  split at e
  · rename_i h'; subst h'; cases e; exact h
  · exact r u x e
theorem EnvLe.refl (ρ : Env) : EnvLe ρ ρ := fun _ _ h => h
theorem EnvOk.le {n : Nat} {ρ ρ' : Env} {a : Act} (h : EnvOk n ρ a) (l : EnvLe ρ' ρ) : EnvOk n ρ' a := ⟨h.size, fun t v e => h.get t v (l t v e)⟩

/-! ### functions -/
/-- called so, with these parts of the heap its own, it returns, and R holds; the parts K are read at most -/
def Fn (P : Program) (f : FuncId) (args : List Value) (K hs : List Hp) (R : Value → List Hp → Prop) : Prop :=
  ∀ w F, KIn K F → Owned F hs w → Calls P f args.toArray w fun e w' => ∃ v hs', e = .returned v ∧ Owned F hs' w' ∧ Keeps w w' ∧ R v hs'

theorem Fn.mono {P : Program} {f : FuncId} {args : List Value} {K hs : List Hp} {R R' : Value → List Hp → Prop} (h : Fn P f args K hs R) (hr : ∀ v hs', R v hs' → R' v hs') : Fn P f args K hs R' :=
  fun w F hK ho => (h w F hK ho).mono fun _ _ ⟨v, hs', e, o, k, r⟩ => ⟨v, hs', e, o, k, hr _ _ r⟩

/-- a union of parts -/
def uni : List Hp → Hp
  | [] => emp
  | h :: hs => fun b => match h b with
    | some o => some o
    | none => uni hs b

theorem uni_some {hs : List Hp} {b : Nat} {o : Obj} (h : uni hs b = some o) : ∃ g, g ∈ hs ∧ g b = some o := by
  induction hs with
  | nil => cases h
  | cons g hs ih =>
    simp only [uni] at h
    split at h
    · rename_i o' e
      exact ⟨g, List.mem_cons_self, by rw [e]; exact h⟩
    · obtain ⟨g', m, e⟩ := ih h
      exact ⟨g', List.mem_cons_of_mem _ m, e⟩

theorem uni_none {hs : List Hp} {b : Nat} : uni hs b = none ↔ ∀ g, g ∈ hs → g b = none := by
  induction hs with
  | nil => simp [uni, emp]
  | cons g hs ih =>
    simp only [uni]
    split
    · rename_i o e
      simp only [reduceCtorEq, false_iff]
      intro h
      have := h g List.mem_cons_self
      rw [e] at this; cases this
    · rename_i e
      rw [ih]
      constructor
      · intro h g' m
        rcases List.mem_cons.1 m with rfl | m
        · exact e
        · exact h g' m
      · intro h g' m
        exact h g' (List.mem_cons_of_mem _ m)

theorem uni_mem {hs : List Hp} (d : hs.Pairwise Hp.dis) {g : Hp} (m : g ∈ hs) {b : Nat} {o : Obj} (e : g b = some o) : uni hs b = some o := by
  induction hs with
  | nil => cases m
  | cons h hs ih =>
    rw [List.pairwise_cons] at d
    simp only [uni]
    rcases List.mem_cons.1 m with rfl | m
    · rw [e]
    · have : h b = none := by
        rcases d.1 g m b with x | x
        · exact x
        · rw [e] at x; cases x
      rw [this]
      exact ih d.2 m

/-- the parts hs2 are lent: they go to the frame -/
theorem Owned.lend {F : Hp} {K hs1 hs2 : List Hp} {w : World} (hK : KIn K F) (ho : Owned F (hs1 ++ hs2) w) : Owned (uni (F :: hs2)) hs1 w ∧ KIn (K ++ hs2) (uni (F :: hs2)) := by
  obtain ⟨d1, d2, d12⟩ := List.pairwise_append.1 ho.dis
  have hF' : ∀ b o, uni (F :: hs2) b = some o → F b = some o ∨ ∃ g, g ∈ hs2 ∧ g b = some o := fun b o e => by
    obtain ⟨g, m, e2⟩ := uni_some e
    rcases List.mem_cons.1 m with rfl | m
    · exact .inl e2
    · exact .inr ⟨g, m, e2⟩
  have hpw : (F :: hs2).Pairwise Hp.dis := List.pairwise_cons.2 ⟨fun g m => ho.disF g (List.mem_append_right _ m), d2⟩
  refine ⟨⟨fun g m b => ?_, d1, fun b o e => ?_, fun g m => ho.sub g (List.mem_append_left _ m)⟩, ?_⟩
  · by_cases hg : g b = none
    · exact .inr hg
    · left
      rw [uni_none]
      intro g' m'
      rcases List.mem_cons.1 m' with rfl | m'
      · exact (ho.disF g (List.mem_append_left _ m) b).resolve_right hg
      · exact (d12 g m g' m' b).resolve_left hg
  · rcases hF' b o e with e | ⟨g, m, e⟩
    · exact ho.subF b o e
    · exact ho.sub g (List.mem_append_right _ m) b o e
  · intro g m b o e
    rcases List.mem_append.1 m with m | m
    · exact uni_mem hpw List.mem_cons_self (hK g m b o e)
    · exact uni_mem hpw (List.mem_cons_of_mem _ m) e

/-- and come back -/
theorem Owned.back {F : Hp} {hs1 hs2 hs1' : List Hp} {w w' : World} (ho : Owned F (hs1 ++ hs2) w) (o : Owned (uni (F :: hs2)) hs1' w') : Owned F (hs1' ++ hs2) w' := by
  obtain ⟨d1, d2, d12⟩ := List.pairwise_append.1 ho.dis
  have hpw : (F :: hs2).Pairwise Hp.dis := List.pairwise_cons.2 ⟨fun g m => ho.disF g (List.mem_append_right _ m), d2⟩
  refine ⟨fun g m b => ?_, List.pairwise_append.2 ⟨o.dis, d2, fun g m g' m' b => ?_⟩, fun b o' e' => o.subF b o' (uni_mem hpw List.mem_cons_self e'), fun g m => ?_⟩
  · rcases List.mem_append.1 m with m | m
    · rcases o.disF g m b with x | x
      · exact .inl (uni_none.1 x F List.mem_cons_self)
      · exact .inr x
    · exact ho.disF g (List.mem_append_right _ m) b
  · rcases o.disF g m b with x | x
    · exact .inr (uni_none.1 x g' (List.mem_cons_of_mem _ m'))
    · exact .inl x
  · rcases List.mem_append.1 m with m | m
    · exact o.sub g m
    · exact fun b o' e' => o.subF b o' (uni_mem hpw (List.mem_cons_of_mem _ m) e')

/-- THE FRAME RULE: the parts hs2 stay as they are; the call may read them -/
theorem Fn.frame {P : Program} {f : FuncId} {args : List Value} {K hs1 hs2 : List Hp} {R : Value → List Hp → Prop} (h : Fn P f args (K ++ hs2) hs1 R) :
    Fn P f args K (hs1 ++ hs2) fun v hs' => ∃ hs1', hs' = hs1' ++ hs2 ∧ R v hs1' := by
  intro w F hK ho
  obtain ⟨ho', hK'⟩ := ho.lend hK
  exact (h w _ hK' ho').mono fun e w' ⟨v, hs1', he, o, k, r⟩ => ⟨v, hs1' ++ hs2, he, ho.back o, k, hs1', rfl, r⟩

/-- some parts become one -/
theorem Owned.join {F : Hp} {w : World} {hs1 hs2 : List Hp} (ho : Owned F (hs1 ++ hs2) w) : Owned F (uni hs1 :: hs2) w := by
  obtain ⟨d1, d2, d12⟩ := List.pairwise_append.1 ho.dis
  have hn : ∀ (g : Hp) b, (∀ h, h ∈ hs1 → Hp.dis h g) → uni hs1 b = none ∨ g b = none := fun g b hd => by
    by_cases hg : g b = none
    · exact .inr hg
    · exact .inl (uni_none.2 fun h m => (hd h m b).resolve_right hg)
  refine ⟨fun g m b => ?_, List.pairwise_cons.2 ⟨fun g m b => hn g b fun h m' => d12 h m' g m, d2⟩, ho.subF, fun g m => ?_⟩
  · rcases List.mem_cons.1 m with rfl | m
    · exact (hn F b fun h m' => (ho.disF h (List.mem_append_left _ m')).symm).symm
    · exact ho.disF g (List.mem_append_right _ m) b
  · rcases List.mem_cons.1 m with rfl | m
    · intro b o e
      obtain ⟨h, m', e⟩ := uni_some e
      exact ho.sub h (List.mem_append_left _ m') b o e
    · exact ho.sub g (List.mem_append_right _ m)

/-! ### code -/
/-- the frames of a walk: a plain one, or a round of a range over a function -/
def fen (r : Option Nat) : Fence := { Fence.wide with round := r }
/-- no panic, and the deferred calls are as they were -/
structure NP (a : Act) (e : Exit) (a' : Act) : Prop where
  df : a'.defers = a.defers
  np : ∀ ch, e ≠ .panic ch
  no : e ≠ .outgrown
/-- slots that hold what the list says, and these deferred calls -/
structure EnvD (ds : List Deferred) (n : Nat) (ρ : Env) (a : Act) : Prop where
  ok : EnvOk n ρ a
  df : a.defers = ds
def RC (P : Program) (n : Nat) (c : Code) (ρ : Env) (K hs : List Hp) (Q : Exit → Env → List Hp → Prop) : Prop :=
  ∀ r a w F, EnvOk n ρ a → KIn K F → Owned F hs w → c.wpIn (fen r) 0 P (fun e a' w' => NP a e a' ∧ ∃ ρ' hs', EnvOk n ρ' a' ∧ Owned F hs' w' ∧ Keeps w w' ∧ Q e ρ' hs') a w

/-- one behind the other; S holds between them -/
def wpListS (P : Program) (ops : Array Oper) (S : World → Prop) (Z : Exit → Act → World → Prop) : List Oper → Act → World → Prop
  | [], a, w => S w ∧ Z .normal a w
  | o :: rest, a, w => S w ∧ (if Region.wanted o (yielded ops a.tmps) then o.wp P a w (wpListS P ops S Z rest) Z ∨ (o.asks P a w ∧ LetsOut Z) else wpListS P ops S Z rest (a.put o.dst undef) w)
theorem wpListS.first {P : Program} {ops : Array Oper} {S : World → Prop} {Z : Exit → Act → World → Prop} : ∀ {l : List Oper} {a : Act} {w : World}, wpListS P ops S Z l a w → S w
  | [], _, _, h => h.1
  | _ :: _, _, _, h => h.1
theorem wpListS.list {P : Program} {ops : Array Oper} {S : World → Prop} {Z : Exit → Act → World → Prop} : ∀ (l : List Oper) (a : Act) (w : World), wpListS P ops S Z l a w → wpList P ops Z l a w
  | [], _, _, h => h.2
  | o :: rest, a, w, ⟨_, h⟩ => by
    unfold wpList
    split
    · rename_i hw
      rw [if_pos hw] at h
      exact h.imp (Oper.wp_mono fun a w => wpListS.list rest a w) id
    · rename_i hw
      rw [if_neg hw] at h
      exact wpListS.list rest _ w h

/-- the operations of a region, one behind the other -/
def RO (P : Program) (n : Nat) (ops : Array Oper) (l : List Oper) (ρ : Env) (K hs : List Hp) (Q : Env → List Hp → Prop) : Prop :=
  ∀ a w F Z, EnvOk n ρ a → KIn K F → Owned F hs w → (∀ a' w' ρ' hs', EnvD a.defers n ρ' a' → Owned F hs' w' → Keeps w w' → Q ρ' hs' → Z .normal a' w') → wpListS P ops (fun w' => ∃ hs', Owned F hs' w') Z l a w

def thenQ (N : Env → List Hp → Prop) (Q : Exit → Env → List Hp → Prop) : Exit → Env → List Hp → Prop
  | .normal, ρ, hs => N ρ hs
  | e, ρ, hs => Q e ρ hs
def blockQ (id : Nat) (Q : Exit → Env → List Hp → Prop) : Exit → Env → List Hp → Prop
  | .exit i, ρ, hs => match Nat.beq i id with
    | true => Q .normal ρ hs
    | false => Q (.exit i) ρ hs
  | e, ρ, hs => Q e ρ hs

section
variable {P : Program} {n : Nat} {ρ : Env} {K hs : List Hp} {Q : Exit → Env → List Hp → Prop}

theorem NP.refl {a : Act} {e : Exit} (h1 : ∀ ch, e ≠ .panic ch) (h2 : e ≠ .outgrown) : NP a e a := ⟨rfl, h1, h2⟩
theorem NP.trans {a a' a'' : Act} {e e' : Exit} (h : NP a e a') (k : NP a' e' a'') : NP a e' a'' := ⟨k.df.trans h.df, k.np, k.no⟩
theorem NP.as {a a' : Act} {e e' : Exit} (h : NP a e a') (h1 : ∀ ch, e' ≠ .panic ch) (h2 : e' ≠ .outgrown) : NP a e' a' := ⟨h.df, h1, h2⟩
theorem RC.mono {c : Code} {Q' : Exit → Env → List Hp → Prop} (h : RC P n c ρ K hs Q) (hq : ∀ e ρ' hs', Q e ρ' hs' → Q' e ρ' hs') : RC P n c ρ K hs Q' :=
  fun r a w F ha hK ho => wpIn_mono (h r a w F ha hK ho) fun _ _ _ ⟨np, ρ', hs', x, y, z, q⟩ => ⟨np, ρ', hs', x, y, z, hq _ _ _ q⟩

theorem RC.skip (h : Q .normal ρ hs) : RC P n .skip ρ K hs Q := fun _ _ w _ ha _ ho => wpIn_skip ⟨.refl (fun _ e => by cases e) (fun e => by cases e), ρ, hs, ha, ho, Keeps.refl w, h⟩
theorem RC.label {l : Nat} (h : Q .normal ρ hs) : RC P n (.label l) ρ K hs Q := fun _ _ w _ ha _ ho => wpIn_label ⟨.refl (fun _ e => by cases e) (fun e => by cases e), ρ, hs, ha, ho, Keeps.refl w, h⟩
theorem RC.exit {id : Nat} (h : Q (.exit id) ρ hs) : RC P n (.exit id) ρ K hs Q := fun _ _ w _ ha _ ho => wpIn_exit ⟨.refl (fun _ e => by cases e) (fun e => by cases e), ρ, hs, ha, ho, Keeps.refl w, h⟩
theorem RC.ret (h : Q .ret ρ hs) : RC P n .ret ρ K hs Q := fun _ _ w _ ha _ ho => wpIn_ret ⟨.refl (fun _ e => by cases e) (fun e => by cases e), ρ, hs, ha, ho, Keeps.refl w, h⟩

theorem RC.seq {x y : Code} (h : RC P n x ρ K hs (thenQ (fun ρ' hs' => RC P n y ρ' K hs' Q) Q)) : RC P n (.seq x y) ρ K hs Q := by
  intro r a w F ha hK ho
  refine wpIn_seq (wpIn_mono (h r a w F ha hK ho) fun e a' w' ⟨np, ρ', hs', ha', ho', hk, q⟩ => ?_)
  cases e with
  | normal => exact wpIn_mono (q r a' w' F ha' hK ho') fun _ _ _ ⟨np2, ρ2, hs2, x, y, z, q⟩ => ⟨np.trans np2, ρ2, hs2, x, y, hk.trans z, q⟩
  | exit id => exact ⟨np, ρ', hs', ha', ho', hk, q⟩
  | goto l => exact ⟨np, ρ', hs', ha', ho', hk, q⟩
  | ret => exact ⟨np, ρ', hs', ha', ho', hk, q⟩
  | panic c => exact absurd rfl (np.np c)
  | outgrown => exact absurd rfl np.no

theorem RC.block {id : Nat} {c : Code} (h : RC P n c ρ K hs (blockQ id Q)) : RC P n (.block id c) ρ K hs Q := by
  intro r a w F ha hK ho
  refine wpIn_block (wpIn_mono (h r a w F ha hK ho) fun e a' w' ⟨np, ρ', hs', ha', ho', hk, q⟩ => ?_)
  cases e with
  | exit i =>
    simp only [blockQ] at q
    simp only [Exit.inBlock]
    by_cases e : i = id
    · subst e
      rw [Nat.beq_refl] at q
      rw [if_pos rfl]; exact ⟨np.as (fun _ e => by cases e) (fun e => by cases e), ρ', hs', ha', ho', hk, q⟩
    · rw [beq_no e] at q
      rw [if_neg e]; exact ⟨np, ρ', hs', ha', ho', hk, q⟩
  | normal => exact ⟨np, ρ', hs', ha', ho', hk, q⟩
  | goto l => exact ⟨np, ρ', hs', ha', ho', hk, q⟩
  | ret => exact ⟨np, ρ', hs', ha', ho', hk, q⟩
  | panic c => exact absurd rfl (np.np c)
  | outgrown => exact absurd rfl np.no

theorem RC.cond {c : Operand} {x y : Code} {t : Bool} (hc : evalO ρ c = some (.bool t)) (ht : t = true → RC P n x ρ K hs Q) (hf : t = false → RC P n y ρ K hs Q) : RC P n (.cond c x y) ρ K hs Q := by
  intro r a w F ha hK ho
  exact wpIn_cond_split (ha.eval hc) (fun e => ht e r a w F ha hK ho) (fun e => hf e r a w F ha hK ho)
theorem RC.condT {c : Operand} {x y : Code} (hc : evalO ρ c = some (.bool true)) (h : RC P n x ρ K hs Q) : RC P n (.cond c x y) ρ K hs Q := RC.cond hc (fun _ => h) (fun e => by cases e)
theorem RC.condF {c : Operand} {x y : Code} (hc : evalO ρ c = some (.bool false)) (h : RC P n y ρ K hs Q) : RC P n (.cond c x y) ρ K hs Q := RC.cond hc (fun e => by cases e) (fun _ => h)

theorem thenQ_normal {N : Env → List Hp → Prop} (h : N ρ hs) : thenQ N Q .normal ρ hs := h

/-- a loop: I x ρ hs is what holds at its head -/
theorem RC.loop {c : Code} {σ : Type} (I : σ → Env → List Hp → Prop) (μ : σ → Nat) (x : σ) (h0 : I x ρ hs)
    (round : ∀ x ρ hs, I x ρ hs → RC P n c ρ K hs (thenQ (fun ρ' hs' => ∃ y, I y ρ' hs' ∧ μ y < μ x) Q)) : RC P n (.loop c) ρ K hs Q := by
  intro r a w F ha hK ho b k cs hro hb hr
  have key : ∀ m x a1 w' ρ hs, μ x = m → I x ρ hs → EnvOk n ρ a1 → a1.defers = a.defers → Owned F hs w' → Keeps w w' →
      ∃ e a' w'', (NP a e a' ∧ ∃ ρ' hs', EnvOk n ρ' a' ∧ Owned F hs' w'' ∧ Keeps w w'' ∧ Q e ρ' hs') ∧ ArrivesIn (Machine.fenced P (fen r)) P (lone (b.atR a1 (.code c :: .inLoop c :: k)) cs w') b k cs e a' w'' := by
    intro m
    induction m using Nat.strongRecOn with
    | _ m ih =>
      intro x a1 w' ρ hs hm hI ha hd ho hkp
      obtain ⟨e, a₁, w₁, ⟨np, ρ', hs', ha', ho', hk, q⟩, harr⟩ := round x ρ hs hI r a1 w' F ha hK ho b (.inLoop c :: k) cs hro hb hr
      have np' : NP a e a₁ := ⟨np.df.trans hd, np.np, np.no⟩
      cases e with
      | normal =>
        obtain ⟨y, hI', hlt⟩ := q
        obtain ⟨e₂, a₂, w₂, hq₂, harr₂⟩ := ih (μ y) (hm ▸ hlt) y a₁ w₁ ρ' hs' rfl hI' ha' np'.df ho' (hkp.trans hk)
        exact ⟨e₂, a₂, w₂, hq₂, .of_steps (StepsIn.trans harr (.one (fenced_calm hb hr rfl) stepR_inLoop)) harr₂⟩
      | exit id => exact ⟨_, a₁, w₁, ⟨np', ρ', hs', ha', ho', hkp.trans hk, q⟩, .pass (x := .inLoop c) rfl (fun _ _ => .inl (by simp)) harr⟩
      | goto l => exact ⟨_, a₁, w₁, ⟨np', ρ', hs', ha', ho', hkp.trans hk, q⟩, .pass (x := .inLoop c) rfl (fun _ _ => .inl (by simp)) harr⟩
      | ret => exact ⟨_, a₁, w₁, ⟨np', ρ', hs', ha', ho', hkp.trans hk, q⟩, .pass (x := .inLoop c) rfl (fun _ _ => .inl (by simp)) harr⟩
      | panic ch => exact absurd rfl (np.np ch)
      | outgrown => exact absurd rfl np.no
  obtain ⟨e, a', w', hq, harr⟩ := key _ x a w ρ hs rfl h0 ha rfl ho (Keeps.refl w)
  exact ⟨e, a', w', hq, .of_steps (.one (fenced_calm hb hr rfl) stepR_loop) harr⟩

/-- no defer statement among them -/
def noDf (l : List Oper) : Bool := l.all fun o => match o.op with
  | .defer _ => false
  | _ => true
theorem noDf_spec {l : List Oper} (h : noDf l = true) {o : Oper} (m : o ∈ l) : ∀ c, o.op ≠ .defer c := by
  intro c e
  have := List.all_eq_true.1 h o m
  rw [e] at this; cases this
theorem fen_room (r : Option Nat) (k : Nat) : (fen r).room k := fun _ h => by cases h
theorem wp_toIn {r : Option Nat} {o : Oper} {a : Act} {w : World} {N N' : Act → World → Prop} {Z : Exit → Act → World → Prop} (hd : ∀ c, o.op ≠ .defer c) (hl : ¬ LetsOut Z) (hN : ∀ a w, N a w → N' a w) (h : o.wp P a w N Z) : o.wpIn (fen r) 0 P a w N' Z := by
  refine ⟨fun _ _ => trivial, ?_⟩
  rw [Oper.semAt_eq _ _ _ hd]
  unfold Oper.wp at h
  generalize (execOp a.eval o).run P w = x at *
  cases x with
  | ok nx w' =>
    cases nx <;> simp only [Oper.upon, Oper.uponIn] at h ⊢ <;> try exact hN _ _ h
    · refine ⟨(fun e => by cases e), callsIn_wide.2 (Calls.mono h fun e w'' he => ?_)⟩
      cases e with
      | returned v => exact hN _ _ he
      | panicked c => exact he
      | outgrown => exact absurd he hl
    · refine ⟨(fun e => by cases e), fun c cs _ => ?_⟩
      obtain ⟨v, w3, h1, h2⟩ := h c cs
      exact ⟨v, w3, hN _ _ h1, stepsIn_wide.2 h2⟩
  | halt y w' => cases y <;> simp only [Oper.upon, Oper.uponIn] at h ⊢ <;> exact h
theorem wpList_toIn {r : Option Nat} {ops : Array Oper} {Z : Exit → Act → World → Prop} (hl : ¬ LetsOut Z) : ∀ (l : List Oper) (a : Act) (w : World), noDf l = true → wpList P ops Z l a w → wpListIn (fen r) 0 P ops Z l a w
  | [], _, _, _, h => h
  | o :: rest, a, w, hd, h => by
    have hd2 : noDf rest = true := by
      simp only [noDf, List.all_cons, Bool.and_eq_true] at hd; exact hd.2
    unfold wpList at h
    unfold wpListIn
    split
    · rename_i hw
      rw [if_pos hw] at h
      rcases h with h | h
      · exact wp_toIn (noDf_spec hd List.mem_cons_self) hl (fun a w h => wpList_toIn hl rest a w hd2 h) h
      · exact absurd h.2 hl
    · rename_i hw
      rw [if_neg hw] at h
      exact ⟨fun _ _ => trivial, wpList_toIn hl rest _ w hd2 h⟩
theorem wpOps_toIn {r : Option Nat} {l : List Oper} {Z : Exit → Act → World → Prop} (hl : ¬ LetsOut Z) (hd : noDf l = true) : ∀ (is : List Nat) (a : Act) (w : World), wpOps P l.toArray Z is a w → wpOpsIn (fen r) 0 P l.toArray Z is a w
  | [], _, _, h => h
  | i :: rest, a, w, h => by
    unfold wpOps at h
    unfold wpOpsIn
    cases ho : l.toArray[i]? with
    | none =>
      simp only [ho] at h ⊢
      exact wpOps_toIn hl hd rest a w h
    | some o =>
      simp only [ho] at h ⊢
      have hm : o ∈ l := by
        have : l[i]? = some o := by simpa using ho
        exact List.mem_of_getElem? this
      split
      · rename_i hw
        rw [if_pos hw] at h
        rcases h with h | h
        · exact wp_toIn (noDf_spec hd hm) hl (fun a w h => wpOps_toIn hl hd rest a w h) h
        · exact absurd h.2 hl
      · rename_i hw
        rw [if_neg hw] at h
        exact ⟨fun _ _ => trivial, wpOps_toIn hl hd rest _ w h⟩

theorem RC.region {id : Nat} {l : List Oper} (hd : noDf l = true) (h : RO P n l.toArray l ρ K hs fun ρ' hs' => Q .normal ρ' hs') : RC P n (.region id l.toArray false) ρ K hs Q := by
  intro r a w F ha hK ho
  refine wpIn_region_lit (wpList_toIn ?_ l a w hd (wpListS.list _ _ _ (h a w F _ ha hK ho fun a' w' ρ' hs' x y z q => ⟨⟨x.df, (fun _ e => by cases e), (fun e => by cases e)⟩, ρ', hs', x.ok, y, z, q⟩)))
  exact fun ⟨_, _, x, _⟩ => x.no rfl

/-- fewer slots are named; the parts in another order -/
theorem RC.weaken {c : Code} {ρ' : Env} {hs' : List Hp} (l : EnvLe ρ' ρ) (p : hs.Perm hs') (h : RC P n c ρ' K hs' Q) : RC P n c ρ K hs Q :=
  fun r a w F ha hK ho => h r a w F (ha.le l) hK (ho.perm p)
theorem RC.joins {c : Code} {hs1 hs2 : List Hp} (h : RC P n c ρ K (uni hs1 :: hs2) Q) : RC P n c ρ K (hs1 ++ hs2) Q :=
  fun r a w F ha hK ho => h r a w F ha hK ho.join
end

/-! ### operations -/
section
variable {P : Program} {n : Nat} {ops : Array Oper} {rest : List Oper} {ρ : Env} {K hs : List Hp} {Q : Env → List Hp → Prop}

theorem RO.nil (h : Q ρ hs) : RO P n ops [] ρ K hs Q := fun a w _ _ ha _ ho hz => ⟨⟨hs, ho⟩, hz a w ρ hs ⟨ha, rfl⟩ ho (Keeps.refl w) h⟩

theorem RO.weaken {l : List Oper} {ρ' : Env} {hs' : List Hp} (le : EnvLe ρ' ρ) (p : hs.Perm hs') (h : RO P n ops l ρ' K hs' Q) : RO P n ops l ρ K hs Q :=
  fun a w F Z ha hK ho hz => h a w F Z (ha.le le) hK (ho.perm p) hz
theorem RO.mono {l : List Oper} {Q' : Env → List Hp → Prop} (h : RO P n ops l ρ K hs Q) (hq : ∀ ρ' hs', Q ρ' hs' → Q' ρ' hs') : RO P n ops l ρ K hs Q' :=
  fun a w F Z ha hK ho hz => h a w F Z ha hK ho fun a' w' ρ' hs' x y z q => hz a' w' ρ' hs' x y z (hq _ _ q)

/-- an operation that reads at most -/
def OpV (P : Program) (n : Nat) (ρ : Env) (M : List Hp) (o : Oper) (v : Value) : Prop :=
  ∀ a w, EnvOk n ρ a → MOk M w → (execOp a.eval o).run P w = .ok (.value v) w

theorem OpV.p {P : Program} {n : Nat} {ρ : Env} {M : List Hp} {o : Oper} {v : Value} (he : ∀ a, EnvOk n ρ a → execOp a.eval o = pure (.value v)) : OpV P n ρ M o v := fun a w ha _ => by rw [he a ha]; rfl
theorem OpV.r {P : Program} {n : Nat} {ρ : Env} {M : List Hp} {o : Oper} {v : Value} {s : Sem Value} (he : ∀ a, EnvOk n ρ a → execOp a.eval o = (do pure (.value (← s)))) (hr : ∀ w, MOk M w → s.run P w = .ok v w) : OpV P n ρ M o v := fun a w ha hm => by
  rw [he a ha, Sem.run_bind, hr w hm]; rfl

/-- an operation with a value -/
theorem RO.val {d : Nat} {op : Op} {ty : TypeId} {pos : String} {after : Array Edge} {s : Sem Value} (hd : Nat.blt d n = true)
    (he : ∀ a, EnvOk n ρ a → execOp a.eval ⟨some d, op, ty, pos, after, none⟩ = (do pure (.value (← s))))
    (h : SemT P K hs s fun v hs' => RO P n ops rest ((d, v) :: ρ) K hs' Q) : RO P n ops (⟨some d, op, ty, pos, after, none⟩ :: rest) ρ K hs Q := by
  intro a w F Z ha hK ho hz
  refine ⟨⟨hs, ho⟩, ?_⟩
  rw [if_pos (by simp [Region.wanted])]
  left
  obtain ⟨v, w', hs', e, ho', hk, hr⟩ := h w F hK ho
  simp only [Oper.wp, he a ha, Sem.run_bind, e, Result.andThen_ok, Sem.run_pure, Oper.upon]
  exact (hr _ w' F Z (ha.put hd v) hK ho' fun a' w'' ρ' hs'' x y z q => hz a' w'' ρ' hs'' x y (hk.trans z) q)

/-- an operation without -/
theorem RO.act {op : Op} {ty : TypeId} {pos : String} {after : Array Edge} {s : Sem Unit}
    (he : ∀ a, EnvOk n ρ a → execOp a.eval ⟨none, op, ty, pos, after, none⟩ = (do s; pure .skip))
    (h : SemT P K hs s fun _ hs' => RO P n ops rest ρ K hs' Q) : RO P n ops (⟨none, op, ty, pos, after, none⟩ :: rest) ρ K hs Q := by
  intro a w F Z ha hK ho hz
  refine ⟨⟨hs, ho⟩, ?_⟩
  rw [if_pos (by simp [Region.wanted])]
  left
  obtain ⟨v, w', hs', e, ho', hk, hr⟩ := h w F hK ho
  simp only [Oper.wp, he a ha, Sem.run_bind, e, Result.andThen_ok, Sem.run_pure, Oper.upon, Act.put]
  exact (hr _ w' F Z ha hK ho' fun a' w'' ρ' hs'' x y z q => hz a' w'' ρ' hs'' x y (hk.trans z) q)

/-- a guarded operation that is wanted, and one that is not -/
theorem RO.take {o : Oper} {g d : Nat} {b : Bool} (hg : o.guard = some (g, b)) (ho : (ops[g]?).bind (·.dst) = some d) (hv : lk ρ d = some (.bool b)) (hdn : Nat.blt d n = true)
    (h : RO P n ops ({ o with guard := none } :: rest) ρ K hs Q) : RO P n ops (o :: rest) ρ K hs Q := by
  intro a w F Z ha hK hown hz
  have h2 := h a w F Z ha hK hown hz
  have hd' : d < a.tmps.size := by rw [ha.size]; simpa [Nat.blt_eq] using hdn
  have hw : Region.wanted o (yielded ops a.tmps) = true := by
    have e := ha.get d _ hv
    rw [Array.getD_eq_getD_getElem?] at e
    have e2 : a.tmps[d]? = some a.tmps[d] := Array.getElem?_eq_getElem hd'
    rw [e2] at e
    simp only [Option.getD_some] at e
    simp only [Region.wanted, hg, yielded, ho, Option.bind_some, e2, e, beq_self_eq_true]
  refine ⟨h2.1, ?_⟩
  have h3 := h2.2
  rw [if_pos hw]
  rw [if_pos (by simp [Region.wanted])] at h3
  exact h3

theorem RO.leave {o : Oper} {g d d' : Nat} {b : Bool} (hg : o.guard = some (g, b)) (hdst : o.dst = some d') (hd' : Nat.blt d' n = true) (ho : (ops[g]?).bind (·.dst) = some d) (hv : lk ρ d = some (.bool (!b))) (hdn : Nat.blt d n = true)
    (h : RO P n ops rest ((d', undef) :: ρ) K hs Q) : RO P n ops (o :: rest) ρ K hs Q := by
  intro a w F Z ha hK hown hz
  have h2 := h _ w F Z (ha.put hd' undef) hK hown hz
  have hlt : d < a.tmps.size := by rw [ha.size]; simpa [Nat.blt_eq] using hdn
  have hw : Region.wanted o (yielded ops a.tmps) = false := by
    have e := ha.get d _ hv
    rw [Array.getD_eq_getD_getElem?] at e
    have e2 : a.tmps[d]? = some a.tmps[d] := Array.getElem?_eq_getElem hlt
    rw [e2] at e
    simp only [Option.getD_some] at e
    simp only [Region.wanted, hg, yielded, ho, Option.bind_some, e2, e]
    cases b <;> rfl
  refine ⟨⟨hs, hown⟩, ?_⟩
  rw [if_neg (by simp [hw]), hdst]
  exact h2

theorem RO.ofV {d : Nat} {op : Op} {ty : TypeId} {pos : String} {after : Array Edge} {v : Value} (hv : OpV P n ρ (K ++ hs) ⟨some d, op, ty, pos, after, none⟩ v) (hd : Nat.blt d n = true)
    (h : RO P n ops rest ((d, v) :: ρ) K hs Q) : RO P n ops (⟨some d, op, ty, pos, after, none⟩ :: rest) ρ K hs Q := by
  intro a w F Z ha hK ho hz
  refine ⟨⟨hs, ho⟩, ?_⟩
  rw [if_pos (by simp [Region.wanted])]
  left
  simp only [Oper.wp, hv a w ha (fun b obj hr => ho.read hK hr), Oper.upon]
  exact h _ w F Z (ha.put hd v) hK ho hz

theorem RO.leaveU {o : Oper} {g d d' : Nat} {b : Bool} (hg : o.guard = some (g, b)) (hdst : o.dst = some d') (hd' : Nat.blt d' n = true) (ho : (ops[g]?).bind (·.dst) = some d) (hv : lk ρ d = some (.tuple #[])) (hdn : Nat.blt d n = true)
    (h : RO P n ops rest ((d', undef) :: ρ) K hs Q) : RO P n ops (o :: rest) ρ K hs Q := by
  intro a w F Z ha hK hown hz
  have h2 := h _ w F Z (ha.put hd' undef) hK hown hz
  have hlt : d < a.tmps.size := by rw [ha.size]; simpa [Nat.blt_eq] using hdn
  have hw : Region.wanted o (yielded ops a.tmps) = false := by
    have e := ha.get d _ hv
    rw [Array.getD_eq_getD_getElem?] at e
    have e2 : a.tmps[d]? = some a.tmps[d] := Array.getElem?_eq_getElem hlt
    rw [e2] at e
    simp only [Option.getD_some] at e
    simp only [Region.wanted, hg, yielded, ho, Option.bind_some, e2, e]
    cases b <;> rfl
  refine ⟨⟨hs, hown⟩, ?_⟩
  rw [if_neg (by simp [hw]), hdst]
  exact h2

theorem execOp_call {a : Act} {d : Option Nat} {ty : TypeId} {pos : String} {after : Array Edge} {g : Option (Nat × Bool)} (x : Operand) (args : Array Operand) (ats : Array TypeId) :
    execOp a.eval ⟨d, .call ⟨.value x, args, ats⟩, ty, pos, after, g⟩ = (do let r ← Deferred.ofValue (a.eval x) (args.map a.eval); invoke r.target r.args) := rfl

/-- a call of a function that has a body -/
theorem RO.call {d f : Nat} {args : List Operand} {vs : List Value} {ats : Array TypeId} {ty : TypeId} {pos : String} {after : Array Edge} {fn : Func} {c : Code} {R : Value → List Hp → Prop} {x : Operand} {cap : Array Value}
    (hx : evalO ρ x = some (.func (.func f) #[] cap)) (hd : Nat.blt d n = true) (hvs : evalL ρ args = some vs) (hf : P.funcs[f]? = some fn) (hb : fn.body = some c) (hng : (fn.name == "runtime.NumGoroutine") = false)
    (h : Fn P f (vs ++ cap.toList) K hs R) (k : ∀ v hs', R v hs' → RO P n ops rest ((d, v) :: ρ) K hs' Q) :
    RO P n ops (⟨some d, .call ⟨.value x, args.toArray, ats⟩, ty, pos, after, none⟩ :: rest) ρ K hs Q := by
  intro a w F Z ha hK ho hz
  refine ⟨⟨hs, ho⟩, ?_⟩
  rw [if_pos (by simp [Region.wanted])]
  left
  have hargs : args.toArray.map a.eval = vs.toArray := by rw [List.map_toArray, ha.evals hvs]
  have hrun : (execOp a.eval ⟨some d, .call ⟨.value x, args.toArray, ats⟩, ty, pos, after, none⟩).run P w = .ok (.enter f (vs ++ cap.toList).toArray) w := by
    rw [execOp_call, ha.eval hx, hargs]
    have hng' : ¬ fn.name = "runtime.NumGoroutine" := by simpa using hng
    simp [Deferred.ofValue, invoke, callFunc, hf, hb, hng']
  simp only [Oper.wp, hrun, Oper.upon]
  refine (h w F hK ho).mono fun e w' ⟨v, hs', he, ho', hk, hr⟩ => ?_
  subst he
  exact (k v hs' hr _ w' F Z (ha.put hd v) hK ho' fun a' w'' ρ' hs'' x y z q => hz a' w'' ρ' hs'' x y (hk.trans z) q)
end

/-! ### a function from its body -/
def argEnv : Nat → List Value → Env
  | _, [] => []
  | i, v :: vs => (i, v) :: argEnv (i + 1) vs

theorem argEnv_lk : ∀ (vs : List Value) (i t : Nat) (v : Value), lk (argEnv i vs) t = some v → i ≤ t ∧ vs[t - i]? = some v := by
  intro vs
  induction vs with
  | nil => intro i t v h; cases h
  | cons x vs ih =>
    intro i t v h
    simp only [argEnv] at h
    rw [lk_cons] at h
    split at h
    · rename_i e; subst e; exact ⟨Nat.le_refl _, by simpa using h⟩
    · obtain ⟨h1, h2⟩ := ih _ _ _ h
      refine ⟨by omega, ?_⟩
      have : t - i = (t - (i + 1)) + 1 := by omega
      rw [this]; simpa using h2

/-- a computation that reads at most -/
def Reads (P : Program) (M : List Hp) {α : Type} (s : Sem α) (v : α) : Prop := ∀ w, MOk M w → s.run P w = .ok v w
theorem SemT.reads {P : Program} {K hs : List Hp} {α : Type} {s : Sem α} {v : α} {R : α → List Hp → Prop} (h : Reads P (K ++ hs) s v) (r : R v hs) : SemT P K hs s R :=
  fun w F hK ho => ⟨v, w, hs, h w (ho.mok hK), ho, Keeps.refl w, r⟩

/-- what is handed back -/
def resS (P : Program) (K hs : List Hp) (ρ : Env) : List ResultVar → List Value → Prop
  | [], vs => vs = []
  | _ :: _, [] => False
  | .tmp t :: rs, v :: vs => lk ρ t = some v ∧ resS P K hs ρ rs vs
  | .cell t T :: rs, v :: vs => (∃ a, lk ρ t = some (.pointer (some a)) ∧ Reads P (K ++ hs) (loadVar T a) v) ∧ resS P K hs ρ rs vs

def pack : List Value → Value
  | [v] => v
  | vs => .tuple vs.toArray

def postQ (P : Program) (K : List Hp) (fn : Func) (R : Value → List Hp → Prop) : Exit → Env → List Hp → Prop := fun e ρ hs =>
  match e with
  | .normal | .ret => ∀ w F a, EnvOk fn.ntmps ρ a → KIn K F → Owned F hs w → ∃ v hs', (results fn a.tmps).run P w = .ok v w ∧ Owned F hs' w ∧ R v hs'
  | _ => False

theorem Fn.enter {P : Program} {f : FuncId} {fn : Func} {c : Code} {args : List Value} {K hs : List Hp} {R : Value → List Hp → Prop} (hf : P.funcs[f]? = some fn) (hb : fn.body = some c)
    (hn : Nat.ble args.length fn.ntmps = true) (h : RC P fn.ntmps c (argEnv 0 args) K hs (postQ P K fn R)) : Fn P f args K hs R := by
  intro w F hK ho
  have hn' : args.length ≤ fn.ntmps := by simpa [Nat.ble_eq] using hn
  refine callsIn_wide.1 (callsIn_of_wp (n := 0) hf hb trivial (wpIn_mono (h none _ w F ⟨?_, ?_⟩ hK ho) fun e a' w' ⟨np, ρ', hs', ha', ho', hk, q⟩ => ?_))
  · simp; omega
  · intro t v e
    obtain ⟨_, e⟩ := argEnv_lk _ _ _ _ e
    simp only [Nat.sub_zero] at e
    have hlt := (List.getElem?_eq_some_iff.1 e).1
    rw [Array.getD_eq_getD_getElem?, Array.getElem?_append_left (by simpa using hlt)]
    simp [e]
  · cases e with
    | normal => obtain ⟨v, hs2, hr, ho2, hR⟩ := q w' F a' ha' hK ho'; exact ⟨np.df, v, hr, v, hs2, rfl, ho2, hk, hR⟩
    | ret => obtain ⟨v, hs2, hr, ho2, hR⟩ := q w' F a' ha' hK ho'; exact ⟨np.df, v, hr, v, hs2, rfl, ho2, hk, hR⟩
    | exit _ => exact q.elim
    | goto _ => exact q.elim
    | panic _ => exact q.elim
    | outgrown => exact q.elim

theorem mapM_res (P : Program) (K hs : List Hp) (w : World) (_F : Hp) (hK : KIn K _F) (ho : Owned _F hs w) (tmps : Array Value) (ρ : Env) (hρ : ∀ t v, lk ρ t = some v → tmps.getD t undef = v)
    (f : ResultVar → Sem Value) (hf : ∀ t, f (.tmp t) = pure (tmps.getD t undef)) (hf2 : ∀ x T, f (.cell x T) = (do loadVar T (← asAddr (tmps.getD x undef)))) : ∀ (rs : List ResultVar) (vs : List Value), resS P K hs ρ rs vs →
    (rs.mapM f).run P w = .ok vs w := by
  intro rs
  induction rs with
  | nil => intro vs h; simp only [resS] at h; subst h; rfl
  | cons r rs ih =>
    intro vs h
    cases vs with
    | nil => cases r <;> cases h
    | cons v vs =>
      cases r with
      | tmp t =>
        obtain ⟨h1, h2⟩ := h
        simp only [List.mapM_cons, Sem.run_bind, hf, hρ t v h1, Sem.run_pure, Result.andThen_ok, ih vs h2]
      | cell t T =>
        obtain ⟨⟨a, h1, h3⟩, h2⟩ := h
        simp only [List.mapM_cons, Sem.run_bind, hf2, hρ t _ h1, asAddr, Sem.run_pure, Result.andThen_ok, h3 w (ho.mok hK), ih vs h2]

theorem pack_eq (vs : List Value) : (if h : vs.toArray.size = 1 then vs.toArray[0] else Value.tuple vs.toArray) = pack vs := by
  match vs with
  | [] => rfl
  | [v] => rfl
  | a :: b :: r => simp [pack]

theorem Owned.sublist {F : Hp} {hs hs' : List Hp} {w : World} (s : hs'.Sublist hs) (ho : Owned F hs w) : Owned F hs' w :=
  ⟨fun h m => ho.disF h (s.subset m), ho.dis.sublist s, ho.subF, fun h m => ho.sub h (s.subset m)⟩

theorem post_vals {P : Program} {K hs hs' : List Hp} {fn : Func} {R : Value → List Hp → Prop} {ρ : Env} {e : Exit} {rs : List ResultVar} {vs : List Value} (he : e = .normal ∨ e = .ret) (hr : fn.results = rs.toArray) (hv : resS P K hs ρ rs vs) (s : hs'.Sublist hs)
    (h : R (pack vs) hs') : postQ P K fn R e ρ hs := by
  have key : ∀ w F a, EnvOk fn.ntmps ρ a → KIn K F → Owned F hs w → ∃ v hs', (results fn a.tmps).run P w = .ok v w ∧ Owned F hs' w ∧ R v hs' := by
    intro w F a ha hK ho
    refine ⟨pack vs, hs', ?_, ho.sublist s, h⟩
    simp only [results, hr, List.mapM_toArray, Sem.run_bind, Sem.run_map]
    rw [mapM_res P K hs w F hK ho a.tmps ρ ha.get _ (fun _ => rfl) (fun _ _ => rfl) rs vs hv]
    simp only [Result.andThen_ok, Sem.run_pure, pack_eq]
  rcases he with rfl | rfl <;> exact key
theorem post_ret {P : Program} {K hs hs' : List Hp} {fn : Func} {R : Value → List Hp → Prop} {ρ : Env} {rs : List ResultVar} (vs : List Value) (hr : fn.results = rs.toArray) (hv : resS P K hs ρ rs vs) (s : hs'.Sublist hs)
    (h : R (pack vs) hs') : postQ P K fn R .ret ρ hs := post_vals (.inr rfl) hr hv s h
theorem post_end {P : Program} {K hs hs' : List Hp} {fn : Func} {R : Value → List Hp → Prop} {ρ : Env} {rs : List ResultVar} (vs : List Value) (hr : fn.results = rs.toArray) (hv : resS P K hs ρ rs vs) (s : hs'.Sublist hs)
    (h : R (pack vs) hs') : postQ P K fn R .normal ρ hs := post_vals (.inl rfl) hr hv s h

section
variable {P : Program} {n : Nat} {ops : Array Oper} {rest : List Oper} {ρ : Env} {K hs : List Hp} {Q : Env → List Hp → Prop}
/-- a call that has the parts hs1 for its own; it may read the others -/
theorem RO.callF {d f : Nat} {args : List Operand} {vs : List Value} {ats : Array TypeId} {ty : TypeId} {pos : String} {after : Array Edge} {fn : Func} {c : Code} {R : Value → List Hp → Prop} {x : Operand} {cap : Array Value} {hs1 hs2 : List Hp}
    (hx : evalO ρ x = some (.func (.func f) #[] cap)) (hd : Nat.blt d n = true) (hvs : evalL ρ args = some vs) (hf : P.funcs[f]? = some fn) (hb : fn.body = some c) (hng : (fn.name == "runtime.NumGoroutine") = false)
    (p : hs.Perm (hs1 ++ hs2)) (h : Fn P f (vs ++ cap.toList) (K ++ hs2) hs1 R) (k : ∀ v hs', R v hs' → RO P n ops rest ((d, v) :: ρ) K (hs' ++ hs2) Q) :
    RO P n ops (⟨some d, .call ⟨.value x, args.toArray, ats⟩, ty, pos, after, none⟩ :: rest) ρ K hs Q :=
  RO.weaken (EnvLe.refl _) p (RO.call hx hd hvs hf hb hng h.frame (fun v _ ⟨hs1', e, r⟩ => by rw [e]; exact k v hs1' r))
theorem RO.call0 {d f : Nat} {args : List Operand} {vs : List Value} {ats : Array TypeId} {ty : TypeId} {pos : String} {after : Array Edge} {fn : Func} {c : Code} {R : Value → List Hp → Prop} {x : Operand} {cap : Array Value}
    (hx : evalO ρ x = some (.func (.func f) #[] cap)) (hd : Nat.blt d n = true) (hvs : evalL ρ args = some vs) (hf : P.funcs[f]? = some fn) (hb : fn.body = some c) (hng : (fn.name == "runtime.NumGoroutine") = false)
    (h : Fn P f (vs ++ cap.toList) (K ++ hs) [] R) (k : ∀ v hs', R v hs' → RO P n ops rest ((d, v) :: ρ) K (hs' ++ hs) Q) :
    RO P n ops (⟨some d, .call ⟨.value x, args.toArray, ats⟩, ty, pos, after, none⟩ :: rest) ρ K hs Q :=
  RO.callF (hs1 := []) (hs2 := hs) hx hd hvs hf hb hng (List.Perm.refl _) h k
theorem perm_erase {α : Type} : ∀ (l : List α) (j : Nat) (y : α), l[j]? = some y → l.Perm ([y] ++ l.eraseIdx j)
  | [], j, y, h => by simp at h
  | a :: l, 0, y, h => by
    simp only [List.getElem?_cons_zero, Option.some.injEq] at h
    subst h; exact List.Perm.refl _
  | a :: l, j + 1, y, h => ((perm_erase l j y (by simpa using h)).cons a).trans (List.Perm.swap _ _ _)
/-- a call that has part number j for its own -/
theorem RO.call1 {d f : Nat} {args : List Operand} {vs : List Value} {ats : Array TypeId} {ty : TypeId} {pos : String} {after : Array Edge} {fn : Func} {c : Code} {R : Value → List Hp → Prop} {x : Operand} {cap : Array Value} (j : Nat) {h1 : Hp} {hs2 : List Hp}
    (hx : evalO ρ x = some (.func (.func f) #[] cap)) (hd : Nat.blt d n = true) (hvs : evalL ρ args = some vs) (hf : P.funcs[f]? = some fn) (hb : fn.body = some c) (hng : (fn.name == "runtime.NumGoroutine") = false)
    (hj : hs[j]? = some h1) (he : hs.eraseIdx j = hs2) (h : Fn P f (vs ++ cap.toList) (K ++ hs2) [h1] R) (k : ∀ v hs', R v hs' → RO P n ops rest ((d, v) :: ρ) K (hs' ++ hs2) Q) :
    RO P n ops (⟨some d, .call ⟨.value x, args.toArray, ats⟩, ty, pos, after, none⟩ :: rest) ρ K hs Q :=
  RO.callF (hs1 := [h1]) (hs2 := hs2) hx hd hvs hf hb hng (by rw [← he]; exact perm_erase hs j h1 hj) h k
end

end Go.Proofs.YtonnncdolofccaaGreat

namespace Go.Proofs.YtonnncdolofccaaGreat

section
variable {P : Program} {ops : Array Oper} {Z : Exit → Act → World → Prop} {S : World → Prop}

/-- S is to hold as long as number q has not come up -/
def SQ (S : World → Prop) (q : Nat) (listed : Array Bool) (w : World) : Prop := listed.getD q false = false → S w

def wpAnyG (P : Program) (ops : Array Oper) (Z : Exit → Act → World → Prop) (S : World → Prop) (q : Nat) : Nat → Array Bool → Act → World → Prop
  | 0, listed, a, w => Region.ready .any ops listed = [] ∧ Z .normal a w
  | fuel + 1, listed, a, w =>
    (Region.ready .any ops listed = [] → Z .normal a w) ∧
    ∀ i ∈ Region.ready .any ops listed, wpOp P ops Z i (fun a' w' => SQ S q (listed.setIfInBounds i true) w' ∧ wpAnyG P ops Z S q fuel (listed.setIfInBounds i true) a' w') a w

theorem wpAny_of_G {q : Nat} : ∀ (fuel : Nat) (listed : Array Bool) (a : Act) (w : World), wpAnyG P ops Z S q fuel listed a w → wpAny P .any ops Z fuel listed a w
  | 0, _, _, _, h => h
  | fuel + 1, _, _, _, h => ⟨h.1, fun i hi => wpOp_mono (fun a' w' h' => wpAny_of_G fuel _ a' w' h'.2) (h.2 i hi)⟩

/-- number i first -/
theorem wpAnyG_first {q i : Nat} {oi : Oper} {v : Value} (hi : ops[i]? = some oi) (hsel : ∀ (j : Nat) (o : Oper) cs b, ops[j]? = some o → o.op ≠ .select cs b)
    (hZ : ∀ c a w, ¬ Z (.panic c) a w) (hq : ∀ oq, ops[q]? = some oq → ∃ e ∈ oq.after, Region.binds .any e = true ∧ e.on = i) (hiq : i ≠ q) :
    ∀ (fuel : Nat) (listed : Array Bool) (a : Act) (w : World), listed.getD q false = false →
      (∀ j oj, ops[j]? = some oj → j ≠ i → listed.getD j true = false → (∀ e ∈ oj.after, Region.binds .any e = true → e.on ≠ i) → oi.apart ops oj = true) →
      i ∈ Region.ready .any ops listed → YieldsIf P ops S oi v a → S w →
      wpAnyG P ops Z S q fuel (listed.setIfInBounds i true) (a.put oi.dst v) w → wpAnyG P ops Z S q (fuel + 1) listed a w := by
  intro fuel
  induction fuel with
  | zero =>
    intro listed a w _ _ hr hy hS H
    refine ⟨fun h => (by rw [h] at hr; cases hr), fun j hj => ?_⟩
    by_cases hji : j = i
    · subst hji; exact hy.wpOp hi hS ⟨fun _ => hS, H⟩
    · have := ready_mono hj hji
      rw [H.1] at this
      cases this
  | succ fuel ih =>
    intro listed a w hqun hfree hr hy hS H
    refine ⟨fun h => (by rw [h] at hr; cases hr), fun j hj => ?_⟩
    by_cases hji : j = i
    · subst hji; exact hy.wpOp hi hS ⟨fun _ => hS, H⟩
    · have h1 := H.2 j (ready_mono hj hji)
      obtain ⟨hjun, oj, hoj, hall⟩ := mem_ready.1 hj
      have hnot : ∀ e ∈ oj.after, Region.binds .any e = true → e.on ≠ i := fun e he hb heq => by
        have h1 := hall e he hb
        have h0 := (mem_ready.1 hr).1
        rw [heq] at h1
        rcases Nat.lt_or_ge i listed.size with h' | h'
        · simp [h'] at h0 h1; rw [h0] at h1; cases h1
        · simp [Array.getElem?_eq_none h'] at h1
      have hjq : j ≠ q := fun e => by
        subst e
        obtain ⟨e, he, hb, heq⟩ := hq oj hoj
        exact hnot e he hb heq
      have hqj : (listed.setIfInBounds j true).getD q false = false := by rw [getD_set_ne false hjq]; exact hqun
      have h2 := wpOp_putIf hoj (hfree j oj hoj hji hjun hnot) (fun cs b => hsel i oi cs b hi) (fun cs b => hsel j oj cs b hoj) (fun c a w h => absurd h (hZ c _ w)) hy h1
      have hfree' : ∀ k ok, ops[k]? = some ok → k ≠ i → (listed.setIfInBounds j true).getD k true = false →
          (∀ e ∈ ok.after, Region.binds .any e = true → e.on ≠ i) → oi.apart ops ok = true := fun k ok hk hki hun hno => by
        refine hfree k ok hk hki ?_ hno
        by_cases hjk : j = k
        · subst hjk; exact hjun
        · rw [getD_set_ne true hjk] at hun; exact hun
      have hSq : ∀ w', SQ S q ((listed.setIfInBounds i true).setIfInBounds j true) w' → S w' := fun w' h => h (by
        rw [getD_set_ne false hjq, getD_set_ne false hiq]; exact hqun)
      refine wpOp_mono (fun a' w' h3 => ⟨fun _ => hSq w' h3.2.1, ih (listed.setIfInBounds j true) a' w' hqj hfree' (ready_mono hr (Ne.symm hji)) h3.1 (hSq w' h3.2.1) ?_⟩) h2
      rw [Array.setIfInBounds_comm _ _ hji]
      exact h3.2.2

/-- number i first, whose answer hangs on no part of the heap -/
theorem wpAnyG_firstT {q i : Nat} {oi : Oper} {v : Value} (hi : ops[i]? = some oi) (hsel : ∀ (j : Nat) (o : Oper) cs b, ops[j]? = some o → o.op ≠ .select cs b)
    (hZ : ∀ c a w, ¬ Z (.panic c) a w) (hiq : i ≠ q) :
    ∀ (fuel : Nat) (listed : Array Bool) (a : Act) (w : World),
      (∀ j oj, ops[j]? = some oj → j ≠ i → listed.getD j true = false → (∀ e ∈ oj.after, Region.binds .any e = true → e.on ≠ i) → oi.apart ops oj = true) →
      i ∈ Region.ready .any ops listed → YieldsIf P ops (fun _ => True) oi v a → SQ S q listed w →
      wpAnyG P ops Z S q fuel (listed.setIfInBounds i true) (a.put oi.dst v) w → wpAnyG P ops Z S q (fuel + 1) listed a w := by
  have hset : ∀ (listed : Array Bool) w, SQ S q listed w → SQ S q (listed.setIfInBounds i true) w := fun listed w h e => h (by rw [getD_set_ne false hiq] at e; exact e)
  intro fuel
  induction fuel with
  | zero =>
    intro listed a w _ hr hy hS H
    refine ⟨fun h => (by rw [h] at hr; cases hr), fun j hj => ?_⟩
    by_cases hji : j = i
    · subst hji; exact hy.wpOp hi trivial ⟨hset _ _ hS, H⟩
    · have := ready_mono hj hji
      rw [H.1] at this
      cases this
  | succ fuel ih =>
    intro listed a w hfree hr hy hS H
    refine ⟨fun h => (by rw [h] at hr; cases hr), fun j hj => ?_⟩
    by_cases hji : j = i
    · subst hji; exact hy.wpOp hi trivial ⟨hset _ _ hS, H⟩
    · have h1 := H.2 j (ready_mono hj hji)
      obtain ⟨hjun, oj, hoj, hall⟩ := mem_ready.1 hj
      have hnot : ∀ e ∈ oj.after, Region.binds .any e = true → e.on ≠ i := fun e he hb heq => by
        have h1 := hall e he hb
        have h0 := (mem_ready.1 hr).1
        rw [heq] at h1
        rcases Nat.lt_or_ge i listed.size with h' | h'
        · simp [h'] at h0 h1; rw [h0] at h1; cases h1
        · simp [Array.getElem?_eq_none h'] at h1
      have h2 := wpOp_putIf hoj (hfree j oj hoj hji hjun hnot) (fun cs b => hsel i oi cs b hi) (fun cs b => hsel j oj cs b hoj) (fun c a w h => absurd h (hZ c _ w)) hy h1
      have hfree' : ∀ k ok, ops[k]? = some ok → k ≠ i → (listed.setIfInBounds j true).getD k true = false →
          (∀ e ∈ ok.after, Region.binds .any e = true → e.on ≠ i) → oi.apart ops ok = true := fun k ok hk hki hun hno => by
        refine hfree k ok hk hki ?_ hno
        by_cases hjk : j = k
        · subst hjk; exact hjun
        · rw [getD_set_ne true hjk] at hun; exact hun
      have hSq : ∀ w', SQ S q ((listed.setIfInBounds i true).setIfInBounds j true) w' → SQ S q (listed.setIfInBounds j true) w' := fun w' h e => h (by
        rw [Array.setIfInBounds_comm _ _ (Ne.symm hji), getD_set_ne false hiq]; exact e)
      refine wpOp_mono (fun a' w' h3 => ⟨hSq w' h3.2.1, ih (listed.setIfInBounds j true) a' w' hfree' (ready_mono hr (Ne.symm hji)) h3.1 (hSq w' h3.2.1) ?_⟩) h2
      rw [Array.setIfInBounds_comm _ _ hji]
      exact h3.2.2

def stillB (o : Oper) : Bool := match o.op with
  | .move _ => true
  | _ => false

/-! ### the plan of a region -/
def chkE (ops : Array Oper) (q : Nat) : Array Bool → List Nat → Bool
  | _, [] => true
  | listed, i :: is => (Region.ready .any ops listed).contains i && Region.free .any ops listed i && (match ops[q]? with
      | none => true
      | some oq => (oq.after.any fun e => Region.binds .any e && e.on == i) || (match ops[i]? with
        | some oi => stillB oi
        | none => false)) && !(i == q) && chkE ops q (listed.setIfInBounds i true) is
def lst (l : List Nat) (listed : Array Bool) : Array Bool := l.foldl (fun a i => a.setIfInBounds i true) listed
def chkC (ops : Array Oper) : Array Bool → List Nat → Bool
  | listed, [] => Region.ready .any ops listed == []
  | listed, i :: is => Region.ready .any ops listed == [i] && chkC ops (listed.setIfInBounds i true) is
def chkO (ops : Array Oper) : Array Bool → List Nat → Bool
  | _, [] => true
  | listed, i :: is => Region.ready .any ops listed == [i] && chkO ops (listed.setIfInBounds i true) is
def firstQ (ops : Array Oper) : List Nat → Nat
  | [] => ops.size
  | i :: _ => i
def chkP (ops : Array Oper) (q : Nat) : Array Bool → List (List Nat × List Nat) → Bool
  | _, [] => true
  | listed, (E, c) :: ps => chkE ops q listed E && chkO ops (lst E listed) c && !(c.contains q) && chkP ops q (lst c (lst E listed)) ps
def lstP : List (List Nat × List Nat) → Array Bool → Array Bool
  | [], listed => listed
  | (E, c) :: ps, listed => lstP ps (lst c (lst E listed))
def cntP : List (List Nat × List Nat) → Nat
  | [] => 0
  | (E, c) :: ps => E.length + (c.length + cntP ps)
def planOk (ops : Array Oper) (ps : List (List Nat × List Nat)) (c2 : List Nat) : Bool :=
  noDf ops.toList && Region.noSelect ops && chkP ops (firstQ ops c2) (Array.replicate ops.size false) ps && chkC ops (lstP ps (Array.replicate ops.size false)) c2 && Nat.beq (cntP ps + c2.length) ops.size

def pick (l : List Oper) : List Nat → List Oper
  | [] => []
  | i :: is => match l[i]? with
    | some o => o :: pick l is
    | none => pick l is

/-- what reads at most, one behind the other -/
def EvE (P : Program) (n : Nat) (ops : Array Oper) (M : List Hp) : Env → List Oper → (Env → Prop) → Prop
  | ρ, [], N => N ρ
  | ρ, o :: rest, N => ∃ d v, o.dst = some d ∧ Nat.blt d n = true ∧
      (((∀ a, EnvOk n ρ a → Region.wanted o (yielded ops a.tmps) = true) ∧ OpV P n ρ M o v) ∨ ((∀ a, EnvOk n ρ a → Region.wanted o (yielded ops a.tmps) = false) ∧ v = undef)) ∧ EvE P n ops M ((d, v) :: ρ) rest N

theorem EvE.ofV {n : Nat} {M : List Hp} {ρ : Env} {rest : List Oper} {N : Env → Prop} {d : Nat} {op : Op} {ty : TypeId} {pos : String} {after : Array Edge} {v : Value} (hv : OpV P n ρ M ⟨some d, op, ty, pos, after, none⟩ v) (hd : Nat.blt d n = true) (h : EvE P n ops M ((d, v) :: ρ) rest N) :
    EvE P n ops M ρ (⟨some d, op, ty, pos, after, none⟩ :: rest) N := ⟨d, v, rfl, hd, .inl ⟨fun _ _ => by simp [Region.wanted], hv⟩, h⟩
theorem wanted_of {n : Nat} {ρ : Env} {o : Oper} {g d : Nat} {b c : Bool} (hg : o.guard = some (g, b)) (ho : (ops[g]?).bind (·.dst) = some d) (hv : lk ρ d = some (.bool c)) (hdn : Nat.blt d n = true) : ∀ a, EnvOk n ρ a → Region.wanted o (yielded ops a.tmps) = (c == b) := by
  intro a ha
  have hd' : d < a.tmps.size := by rw [ha.size]; simpa [Nat.blt_eq] using hdn
  have e := ha.get d _ hv
  rw [Array.getD_eq_getD_getElem?] at e
  have e2 : a.tmps[d]? = some a.tmps[d] := Array.getElem?_eq_getElem hd'
  rw [e2] at e
  simp only [Option.getD_some] at e
  simp only [Region.wanted, hg, yielded, ho, Option.bind_some, e2, e]
  cases b <;> cases c <;> rfl
theorem EvE.take {n : Nat} {M : List Hp} {ρ : Env} {rest : List Oper} {N : Env → Prop} {dd : Nat} {op : Op} {ty : TypeId} {pos : String} {after : Array Edge} {v : Value} {g d : Nat} {b : Bool} (ho : (ops[g]?).bind (·.dst) = some d) (hvg : lk ρ d = some (.bool b)) (hdn : Nat.blt d n = true)
    (hv : OpV P n ρ M ⟨some dd, op, ty, pos, after, none⟩ v) (hd : Nat.blt dd n = true) (h : EvE P n ops M ((dd, v) :: ρ) rest N) :
    EvE P n ops M ρ (⟨some dd, op, ty, pos, after, some (g, b)⟩ :: rest) N := ⟨dd, v, rfl, hd, .inl ⟨fun a ha => by rw [wanted_of (o := ⟨some dd, op, ty, pos, after, some (g, b)⟩) rfl ho hvg hdn a ha]; simp, hv⟩, h⟩
theorem EvE.leave {n : Nat} {M : List Hp} {ρ : Env} {rest : List Oper} {N : Env → Prop} {dd : Nat} {op : Op} {ty : TypeId} {pos : String} {after : Array Edge} {g d : Nat} {b : Bool} (ho : (ops[g]?).bind (·.dst) = some d) (hvg : lk ρ d = some (.bool (!b))) (hdn : Nat.blt d n = true)
    (hd : Nat.blt dd n = true) (h : EvE P n ops M ((dd, undef) :: ρ) rest N) :
    EvE P n ops M ρ (⟨some dd, op, ty, pos, after, some (g, b)⟩ :: rest) N := ⟨dd, undef, rfl, hd, .inr ⟨fun a ha => by rw [wanted_of (o := ⟨some dd, op, ty, pos, after, some (g, b)⟩) rfl ho hvg hdn a ha]; cases b <;> rfl, rfl⟩, h⟩

theorem EvE.leaveU {n : Nat} {M : List Hp} {ρ : Env} {rest : List Oper} {N : Env → Prop} {dd : Nat} {op : Op} {ty : TypeId} {pos : String} {after : Array Edge} {g d : Nat} {b : Bool} (ho : (ops[g]?).bind (·.dst) = some d) (hvg : lk ρ d = some (.tuple #[])) (hdn : Nat.blt d n = true)
    (hd : Nat.blt dd n = true) (h : EvE P n ops M ((dd, undef) :: ρ) rest N) :
    EvE P n ops M ρ (⟨some dd, op, ty, pos, after, some (g, b)⟩ :: rest) N := ⟨dd, undef, rfl, hd, .inr ⟨fun a ha => by
      have hd' : d < a.tmps.size := by rw [ha.size]; simpa [Nat.blt_eq] using hdn
      have e := ha.get d _ hvg
      rw [Array.getD_eq_getD_getElem?] at e
      have e2 : a.tmps[d]? = some a.tmps[d] := Array.getElem?_eq_getElem hd'
      rw [e2] at e
      simp only [Option.getD_some] at e
      simp only [Region.wanted, yielded, ho, Option.bind_some, e2, e]
      cases b <;> rfl, rfl⟩, h⟩

theorem phaseE {ds : List Deferred} {n q : Nat} {M : List Hp} (hS : ∀ w, S w → MOk M w) (hsel : Region.noSelect ops = true) (hZ : ∀ c a w, ¬ Z (.panic c) a w) {w : World} (hw : S w) :
    ∀ (E : List Nat) (listed : Array Bool) (ρ : Env) (a : Act) (m : Nat) (N : Env → Prop), chkE ops q listed E = true → listed.getD q false = false → EnvD ds n ρ a → EvE P n ops M ρ (pick ops.toList E) N →
      (∀ ρ' a', N ρ' → EnvD ds n ρ' a' → wpAnyG P ops Z S q m (lst E listed) a' w) → wpAnyG P ops Z S q (E.length + m) listed a w := by
  intro E
  induction E with
  | nil => intro listed ρ a m N _ _ ha hE h; rw [List.length_nil, Nat.zero_add]; exact h ρ a hE ha
  | cons i is ih =>
    intro listed ρ a m N hc hqun ha hE h
    simp only [chkE, Bool.and_eq_true, Bool.not_eq_true', beq_eq_false_iff_ne] at hc
    obtain ⟨⟨⟨⟨h1, h2⟩, h3⟩, h4⟩, h5⟩ := hc
    have h1' : i ∈ Region.ready .any ops listed := by simpa using h1
    obtain ⟨_, oi, hoi, _⟩ := mem_ready.1 h1'
    have hpick : pick ops.toList (i :: is) = oi :: pick ops.toList is := by simp only [pick, Array.getElem?_toList, hoi]
    rw [hpick] at hE
    obtain ⟨d, v, hd1, hd2, hy, hrest⟩ := hE
    have hyi : YieldsIf P ops S oi v a := by
      rcases hy with ⟨hwn, hv⟩ | ⟨hwn, hv⟩
      · exact .inl ⟨hwn a ha.ok, fun w' hw' => hv a w' ha.ok (hS w' hw')⟩
      · exact .inr ⟨hwn a ha.ok, hv⟩
    have hput : EnvD ds n ((d, v) :: ρ) (a.put oi.dst v) := by rw [hd1]; exact ⟨ha.ok.put hd2 v, ha.df⟩
    rw [List.length_cons, show is.length + 1 + m = (is.length + m) + 1 by omega]
    have hlast := ih (listed.setIfInBounds i true) ((d, v) :: ρ) (a.put oi.dst v) m N h5 (by rw [getD_set_ne false h4]; exact hqun) hput hrest h
    cases hoq : ops[q]? with
    | none => exact wpAnyG_first hoi (Region.noSelect_spec hsel) hZ (fun oq e => by rw [hoq] at e; cases e) h4 _ _ _ _ hqun (Region.free_spec hoi h2) h1' hyi hw hlast
    | some oq =>
      rw [hoq] at h3
      simp only [hoi, Bool.or_eq_true] at h3
      rcases h3 with h3 | h3
      · refine wpAnyG_first hoi (Region.noSelect_spec hsel) hZ (fun oq' e' => ?_) h4 _ _ _ _ hqun (Region.free_spec hoi h2) h1' hyi hw hlast
        rw [hoq] at e'
        cases e'
        obtain ⟨e, he, hb⟩ := Array.any_eq_true'.1 h3
        simp only [Bool.and_eq_true, beq_iff_eq] at hb
        exact ⟨e, he, hb⟩
      · have hyT : YieldsIf P ops (fun _ => True) oi v a := by
          rcases hyi with ⟨hwn, hv⟩ | ⟨hwn, hv⟩
          · refine .inl ⟨hwn, fun w' _ => ?_⟩
            have h6 := hv w hw
            obtain ⟨dst, op, ty, pos, after, guard⟩ := oi
            cases op <;> simp only [stillB, Bool.false_eq_true] at h3
            simp only [execOp] at h6 ⊢
            have h7 : ∀ (x : Next) w, (pure x : Sem Next).run P w = .ok x w := fun _ _ => rfl
            rw [h7] at h6 ⊢
            injection h6 with h8
            rw [h8]
          · exact .inr ⟨hwn, hv⟩
        exact wpAnyG_firstT hoi (Region.noSelect_spec hsel) hZ h4 _ _ _ _ (Region.free_spec hoi h2) h1' hyT (fun _ => hw) hlast

theorem wp_monoQ {o : Oper} {a : Act} {w : World} {Kt : Act → World → Prop} {Q Q' : Exit → Act → World → Prop} (hp : ∀ c a w, Q (.panic c) a w → Q' (.panic c) a w) (hl : LetsOut Q → LetsOut Q') (h : o.wp P a w Kt Q) : o.wp P a w Kt Q' := by
  unfold Oper.wp at *
  generalize (execOp a.eval o).run P w = r at *
  cases r with
  | ok n w' =>
    cases n <;> simp only [Oper.upon] at h ⊢ <;> try exact h
    exact Calls.mono h fun e w'' he => by
      cases e with
      | returned u => exact he
      | panicked c => exact hp _ _ _ he
      | outgrown => exact hl he
  | halt x w' =>
    cases x <;> simp only [Oper.upon] at h ⊢ <;> try exact h
    exact hp _ _ _ h

theorem getD_set_self {listed : Array Bool} {i : Nat} (h : i < listed.size) : (listed.setIfInBounds i true).getD i false = true := by
  simp [h]

theorem phase2 {q : Nat} : ∀ (c : List Nat) (listed : Array Bool) (a : Act) (w : World), chkC ops listed c = true → listed.size = ops.size → (listed.getD q false = true ∨ firstQ ops c = q) → wpList P ops Z (pick ops.toList c) a w → wpAnyG P ops Z S q c.length listed a w := by
  intro c
  induction c with
  | nil =>
    intro listed a w hc _ _ h
    simp only [chkC, beq_iff_eq] at hc
    exact ⟨hc, h⟩
  | cons i is ih =>
    intro listed a w hc hsz hq h
    simp only [chkC, Bool.and_eq_true, beq_iff_eq] at hc
    have hi : i ∈ Region.ready .any ops listed := by rw [hc.1]; exact List.mem_cons_self
    obtain ⟨_, oi, hoi, _⟩ := mem_ready.1 hi
    have hpick : pick ops.toList (i :: is) = oi :: pick ops.toList is := by simp only [pick, Array.getElem?_toList, hoi]
    rw [hpick] at h
    have hilt : i < listed.size := by rw [hsz]; exact (Array.getElem?_eq_some_iff.1 hoi).1
    have hql : (listed.setIfInBounds i true).getD q false = true := by
      rcases hq with hq | hq
      · exact getD_set_true hq
      · simp only [firstQ] at hq; subst hq; exact getD_set_self hilt
    refine ⟨(fun e => by rw [e] at hi; cases hi), fun j hj => ?_⟩
    rw [hc.1] at hj
    obtain rfl := List.mem_singleton.1 hj
    have nx : ∀ a' w', wpList P ops Z (pick ops.toList is) a' w' → SQ S q (listed.setIfInBounds j true) w' ∧ wpAnyG P ops Z S q is.length (listed.setIfInBounds j true) a' w' := fun a' w' h' =>
      ⟨(fun e => by rw [hql] at e; cases e), ih _ a' w' hc.2 (by simpa using hsz) (.inl hql) h'⟩
    unfold wpOp
    simp only [hoi]
    unfold wpList at h
    split
    · rename_i hw
      rw [if_pos hw] at h
      exact h.imp (Oper.wp_mono nx) id
    · rename_i hw
      rw [if_neg hw] at h
      exact nx _ _ h

def midZ (M : Act → World → Prop) (Z : Exit → Act → World → Prop) : Exit → Act → World → Prop
  | .normal, a, w => M a w
  | e, a, w => Z e a w

theorem phase1 {q m : Nat} {M : Act → World → Prop} : ∀ (c1 : List Nat) (listed : Array Bool) (a : Act) (w : World), chkO ops listed c1 = true → c1.contains q = false → listed.getD q false = false →
    (∀ a' w', S w' → M a' w' → wpAnyG P ops Z S q m (lst c1 listed) a' w') → wpListS P ops S (midZ M Z) (pick ops.toList c1) a w → wpAnyG P ops Z S q (c1.length + m) listed a w := by
  intro c1
  induction c1 with
  | nil =>
    intro listed a w _ _ _ hM h
    rw [List.length_nil, Nat.zero_add]
    exact hM a w h.1 h.2
  | cons i is ih =>
    intro listed a w hc hnot hqun hM h
    simp only [chkO, Bool.and_eq_true, beq_iff_eq] at hc
    have hi : i ∈ Region.ready .any ops listed := by rw [hc.1]; exact List.mem_cons_self
    obtain ⟨_, oi, hoi, _⟩ := mem_ready.1 hi
    have hpick : pick ops.toList (i :: is) = oi :: pick ops.toList is := by simp only [pick, Array.getElem?_toList, hoi]
    rw [hpick] at h
    have hiq : i ≠ q := fun e => by subst e; simp at hnot
    have hnot' : is.contains q = false := by
      rw [List.contains_cons, Bool.or_eq_false_iff] at hnot; exact hnot.2
    have hql : (listed.setIfInBounds i true).getD q false = false := by rw [getD_set_ne false hiq]; exact hqun
    rw [List.length_cons, show is.length + 1 + m = (is.length + m) + 1 by omega]
    refine ⟨(fun e => by rw [e] at hi; cases hi), fun j hj => ?_⟩
    rw [hc.1] at hj
    obtain rfl := List.mem_singleton.1 hj
    have nx : ∀ a' w', wpListS P ops S (midZ M Z) (pick ops.toList is) a' w' → SQ S q (listed.setIfInBounds j true) w' ∧ wpAnyG P ops Z S q (is.length + m) (listed.setIfInBounds j true) a' w' := fun a' w' h' =>
      ⟨fun _ => h'.first, ih _ a' w' hc.2 hnot' hql hM h'⟩
    have hl : LetsOut (midZ M Z) → LetsOut Z := fun ⟨a, w, h⟩ => ⟨a, w, h⟩
    unfold wpOp
    simp only [hoi]
    have h2 := h.2
    split
    · rename_i hw
      rw [if_pos hw] at h2
      exact h2.imp (fun h3 => wp_monoQ (fun _ _ _ h => h) hl (Oper.wp_mono nx h3)) (fun ⟨x, y⟩ => ⟨x, hl y⟩)
    · rename_i hw
      rw [if_neg hw] at h2
      exact nx _ _ h2
end

theorem lst_size (l : List Nat) : ∀ listed : Array Bool, (lst l listed).size = listed.size := by
  induction l with
  | nil => intro _; rfl
  | cons i is ih => intro listed; simp only [lst, List.foldl_cons] at ih ⊢; rw [ih]; simp
theorem lst_getD (q : Nat) (l : List Nat) : ∀ listed : Array Bool, (∀ i, i ∈ l → i ≠ q) → (lst l listed).getD q false = listed.getD q false := by
  induction l with
  | nil => intro _ _; rfl
  | cons i is ih =>
    intro listed h
    simp only [lst, List.foldl_cons] at ih ⊢
    rw [ih _ (fun j hj => h j (List.mem_cons_of_mem _ hj)), getD_set_ne false (h i List.mem_cons_self)]
theorem chkE_ne {ops : Array Oper} {q : Nat} : ∀ (E : List Nat) (listed : Array Bool), chkE ops q listed E = true → ∀ i, i ∈ E → i ≠ q := by
  intro E
  induction E with
  | nil => intro _ _ i h; cases h
  | cons j js ih =>
    intro listed h i hi
    simp only [chkE, Bool.and_eq_true, Bool.not_eq_true', beq_eq_false_iff_ne] at h
    rcases List.mem_cons.1 hi with rfl | hi
    · exact h.1.2
    · exact ih _ h.2 i hi

theorem chkO_ne {q : Nat} {c : List Nat} (h : c.contains q = false) : ∀ i, i ∈ c → i ≠ q := fun i hi e => by
  subst e
  have : c.contains i = true := by simpa using hi
  rw [h] at this; cases this

/-- phase by phase: what only reads, then what is ordered -/
def DR (P : Program) (n : Nat) (l : List Oper) (K : List Hp) : List (List Nat × List Nat) → Env → List Hp → (Env → List Hp → Prop) → Prop
  | [], ρ, hs, N => N ρ hs
  | (E, c) :: ps, ρ, hs, N => EvE P n l.toArray K ρ (pick l E) fun ρ1 => RO P n l.toArray (pick l c) ρ1 K hs fun ρ2 hs2 => DR P n l K ps ρ2 hs2 N
theorem DR.nil {P : Program} {n : Nat} {l : List Oper} {K : List Hp} {ρ : Env} {hs : List Hp} {N : Env → List Hp → Prop} (h : N ρ hs) : DR P n l K [] ρ hs N := h
theorem DR.cons {P : Program} {n : Nat} {l : List Oper} {K : List Hp} {ρ : Env} {hs : List Hp} {N : Env → List Hp → Prop} {E c : List Nat} {ps : List (List Nat × List Nat)} (h : EvE P n l.toArray K ρ (pick l E) fun ρ1 => RO P n l.toArray (pick l c) ρ1 K hs fun ρ2 hs2 => DR P n l K ps ρ2 hs2 N) : DR P n l K ((E, c) :: ps) ρ hs N := h

theorem phases {ds : List Deferred} {P : Program} {n q m : Nat} {l : List Oper} {K : List Hp} {F : Hp} {Z : Exit → Act → World → Prop} (hK : KIn K F) (hsel : Region.noSelect l.toArray = true) (hZ : ∀ c a w, ¬ Z (.panic c) a w) (w0 : World) :
    ∀ (ps : List (List Nat × List Nat)) (listed : Array Bool) (ρ : Env) (hs : List Hp) (N : Env → List Hp → Prop) (a : Act) (w : World), chkP l.toArray q listed ps = true → listed.getD q false = false → EnvD ds n ρ a → Owned F hs w → Keeps w0 w → DR P n l K ps ρ hs N →
      (∀ ρ' hs' a' w', N ρ' hs' → EnvD ds n ρ' a' → Owned F hs' w' → Keeps w0 w' → wpAnyG P l.toArray Z (fun w' => ∃ hs', Owned F hs' w') q m (lstP ps listed) a' w') → wpAnyG P l.toArray Z (fun w' => ∃ hs', Owned F hs' w') q (cntP ps + m) listed a w := by
  intro ps
  induction ps with
  | nil => intro listed ρ hs N a w _ _ ha ho hk h hN; rw [cntP, Nat.zero_add]; exact hN ρ hs a w h ha ho hk
  | cons p ps ih =>
    obtain ⟨E, c⟩ := p
    intro listed ρ hs N a w hc hqun ha ho hk h hN
    simp only [chkP, Bool.and_eq_true, Bool.not_eq_true'] at hc
    obtain ⟨⟨⟨h1, h2⟩, h3⟩, h4⟩ := hc
    rw [cntP, show E.length + (c.length + cntP ps) + m = E.length + (c.length + (cntP ps + m)) by omega]
    refine phaseE (n := n) (M := K) (fun w' ⟨hs', o'⟩ b obj hr => o'.read hK (hr.sub (Sub.left _ _))) hsel hZ (w := w) ⟨hs, ho⟩ E listed ρ a _ _ h1 hqun ha h ?_
    intro ρ1 a1 hr1 ha1
    have hq2 : (lst E listed).getD q false = false := by rw [lst_getD _ _ _ (chkE_ne E _ h1)]; exact hqun
    refine phase1 (M := fun a' w' => ∃ ρ2 hs2, EnvD ds n ρ2 a' ∧ Owned F hs2 w' ∧ Keeps w0 w' ∧ DR P n l K ps ρ2 hs2 N) c (lst E listed) a1 w h2 h3 hq2 ?_ ?_
    · rintro a' w' _ ⟨ρ2, hs2, ha2, ho2, hk2, hd⟩
      exact ih _ ρ2 hs2 N a' w' h4 (by rw [lst_getD _ _ _ (chkO_ne h3)]; exact hq2) ha2 ho2 hk2 hd hN
    · exact hr1 a1 w F _ ha1.ok hK ho fun a' w' ρ' hs' x y z q => ⟨ρ', hs', ⟨x.ok, x.df.trans ha1.df⟩, y, hk.trans z, q⟩

theorem lstP_size : ∀ (ps : List (List Nat × List Nat)) (listed : Array Bool), (lstP ps listed).size = listed.size
  | [], _ => rfl
  | (E, c) :: ps, listed => by simp only [lstP]; rw [lstP_size ps, lst_size, lst_size]

/-- A REGION THAT DRAWS ITS ORDER: phase by phase (they read K and hsL at most, of their own: hs1), then c2 (of its own: all) -/
theorem RC.draw {P : Program} {n : Nat} {ρ : Env} {K hs hs1 hsL : List Hp} {Q : Exit → Env → List Hp → Prop} {id : Nat} {l : List Oper} {ps : List (List Nat × List Nat)} {c2 : List Nat} (hm : P.follows .mixedOrders = true) (hplan : planOk l.toArray ps c2 = true) (p : hs.Perm (hs1 ++ hsL))
    (h : DR P n l (K ++ hsL) ps ρ hs1 fun ρ2 hs2 => RO P n l.toArray (pick l c2) ρ2 K (hs2 ++ hsL) fun ρ3 hs3 => Q .normal ρ3 hs3) :
    RC P n (.region id l.toArray true) ρ K hs Q := by
  intro r a w F ha hK ho0
  have ho := ho0.perm p
  obtain ⟨ho', hK'⟩ := ho.lend hK
  simp only [planOk, Bool.and_eq_true] at hplan
  obtain ⟨⟨⟨⟨p0, p1⟩, p2⟩, p3⟩, p4⟩ := hplan
  have p4' := Nat.eq_of_beq_eq_true p4
  obtain ⟨Z, hZ⟩ : ∃ Z : Exit → Act → World → Prop, Z = fun e a' w' => NP a e a' ∧ ∃ ρ' hs', EnvOk n ρ' a' ∧ Owned F hs' w' ∧ Keeps w w' ∧ Q e ρ' hs' := ⟨_, rfl⟩
  rw [← hZ]
  have hnl : ¬ LetsOut Z := by rw [hZ]; exact fun ⟨_, _, x, _⟩ => x.no rfl
  refine wpIn_region_draw fun t => wpOps_toIn hnl p0 _ _ _ ?_
  simp only [Region.schedule, hm, Bool.true_or, if_true]
  refine wpAny_sound _ t _ a _ ?_
  refine wpAny_of_G (S := fun w' => ∃ hs', Owned (uni (F :: hsL)) hs' w') (q := firstQ l.toArray c2) _ _ _ _ ?_
  suffices key : wpAnyG P l.toArray Z (fun w' => ∃ hs', Owned (uni (F :: hsL)) hs' w') (firstQ l.toArray c2) (cntP ps + c2.length) (Array.replicate l.toArray.size false) a w.drew by
    rw [p4'] at key; exact key
  have hrep : (Array.replicate l.toArray.size false).getD (firstQ l.toArray c2) false = false := by
    rw [Array.getD_eq_getD_getElem?, Array.getElem?_replicate]; split <;> rfl
  have how : Owned (uni (F :: hsL)) hs1 w.drew := ho'.same (fun _ _ => rfl)
  refine phases (ds := a.defers) hK' p1 (fun c a' w' h' => by rw [hZ] at h'; exact h'.1.np c rfl) w ps _ ρ hs1 _ a w.drew p2 hrep ⟨ha, rfl⟩ how ⟨rfl, rfl, rfl, Nat.le_refl _⟩ h ?_
  intro ρ2 hs2 a2 w2 h2 ha2 ho2 k2
  refine phase2 c2 _ a2 w2 p3 (by rw [lstP_size]; simp) (.inr rfl) ?_
  refine wpListS.list _ _ _ (h2 a2 w2 F _ ha2.ok hK (ho.back ho2) fun a3 w3 ρ3 hs3 ha3 ho3 k3 h3 => ?_)
  rw [hZ]
  exact ⟨⟨ha3.df.trans ha2.df, (fun _ e => by cases e), (fun e => by cases e)⟩, ρ3, hs3, ha3.ok, ho3, k2.trans k3, h3⟩
end Go.Proofs.YtonnncdolofccaaGreat

namespace Go.Proofs.YtonnncdolofccaaGreat

/-! ### the types that are used -/
structure TI where
  und : TypeDesc
  size : Nat
  bytes : Nat
  zero : Value
  flds : List (Nat × TypeId)
abbrev Tab := List (Nat × TI)
def lkT : Tab → Nat → Option TI
  | [], _ => none
  | (t, i) :: r, u => match Nat.beq t u with
    | true => some i
    | false => lkT r u

/-! ### the cells of a value -/
def cellsL : Value → List Value
  | .agg cs => cs.toList
  | v => [v]
theorem cells_eq (v : Value) : v.cells = (cellsL v).toArray := by cases v <;> simp [Value.cells, cellsL]

structure TyOk (P : Program) (T : TypeId) (i : TI) : Prop where
  und : P.underlying T = some i.und
  info : ∃ inf, P.info? T = some inf ∧ inf.size = i.size ∧ inf.bytes = i.bytes ∧ inf.zero = some i.zero
  zlen : (cellsL i.zero).length = i.size
  flds : ∀ fs, i.und = .struct fs → i.flds = fs.toList.map fun f => (f.offset, f.type)

def TabOk (P : Program) (tab : Tab) : Prop := ∀ T i, lkT tab T = some i → TyOk P T i
theorem TabOk.nil (P : Program) : TabOk P [] := fun _ _ h => by cases h
theorem TabOk.cons {P : Program} {tab : Tab} {T : TypeId} {i : TI} (hu : P.underlying T = some i.und) (hi : (P.info? T).map (fun i => (i.size, i.bytes, i.zero)) = some (i.size, i.bytes, some i.zero)) (hz : Nat.beq (cellsL i.zero).length i.size = true) (hf : ∀ fs, i.und = .struct fs → i.flds = fs.toList.map fun f => (f.offset, f.type)) (r : TabOk P tab) : TabOk P ((T, i) :: tab) := by
  intro U j h
  simp only [lkT] at h
  by_cases e : T = U
  · subst e
    simp only [Nat.beq_refl, Option.some.injEq] at h
    subst h
    refine ⟨hu, ?_, Nat.eq_of_beq_eq_true hz, hf⟩
    cases hh : P.info? T with
    | none => rw [hh] at hi; cases hi
    | some inf =>
      rw [hh] at hi
      simp only [Option.map_some, Option.some.injEq, Prod.mk.injEq] at hi
      exact ⟨inf, rfl, hi.1, hi.2.1, hi.2.2⟩
  · rw [beq_no e] at h; exact r U j h

section
variable {P : Program} {T : TypeId} {i : TI} (w : World)
theorem TyOk.run_und (h : TyOk P T i) : (underlying T).run P w = .ok i.und w := by simp [underlying, h.und]
theorem TyOk.run_info (h : TyOk P T i) : ∃ inf, (typeInfo T).run P w = .ok inf w ∧ inf.size = i.size ∧ inf.bytes = i.bytes ∧ inf.zero = some i.zero := by
  obtain ⟨inf, h1, h2⟩ := h.info
  exact ⟨inf, by simp [typeInfo, h1], h2⟩
theorem TyOk.run_size (h : TyOk P T i) : (sizeOf T).run P w = .ok i.size w := by
  obtain ⟨inf, h1, h2⟩ := h.info
  simp [sizeOf, typeInfo, h1, h2.1]
theorem TyOk.run_zero (h : TyOk P T i) : (zeroValue T).run P w = .ok i.zero w := by
  obtain ⟨inf, h1, _, _, h2⟩ := h.info
  simp [zeroValue, typeInfo, h1, h2]
def TypeDesc.agg : TypeDesc → Bool
  | .struct _ | .array _ _ => true
  | _ => false
theorem TyOk.run_isAgg (h : TyOk P T i) : (isAgg T).run P w = .ok (TypeDesc.agg i.und) w := by
  simp only [isAgg, Sem.run_bind, h.run_und, Result.andThen_ok]
  cases i.und <;> rfl
end

/-- so many cells from a place on -/
def takeRow : List Value → Nat → Nat → Option (List Value)
  | _, 0, 0 => some []
  | [], _, _ => none
  | v :: l, 0, n + 1 => match takeRow l 0 n with
    | some vs => some (v :: vs)
    | none => none
  | _ :: l, k + 1, n => takeRow l k n

theorem takeRow_spec : ∀ (l : List Value) (k n : Nat) (vs : List Value), takeRow l k n = some vs → vs.length = n ∧ ∀ j v, vs[j]? = some v → l[k + j]? = some v := by
  intro l
  induction l with
  | nil =>
    intro k n vs h
    cases k <;> cases n <;> simp only [takeRow, Option.some.injEq, reduceCtorEq] at h
    subst h; exact ⟨rfl, by simp⟩
  | cons x l ih =>
    intro k n vs h
    cases k with
    | zero =>
      cases n with
      | zero => simp only [takeRow, Option.some.injEq] at h; subst h; exact ⟨rfl, by simp⟩
      | succ n =>
        simp only [takeRow] at h
        split at h
        · rename_i vs' e
          cases h
          obtain ⟨h1, h2⟩ := ih 0 n vs' e
          refine ⟨by simp [h1], fun j v hj => ?_⟩
          cases j with
          | zero => simpa using hj
          | succ j =>
            have := h2 j v (by simpa using hj)
            rw [Nat.zero_add] at this ⊢
            simpa using this
        · cases h
    | succ k =>
      simp only [takeRow] at h
      obtain ⟨h1, h2⟩ := ih k n vs h
      refine ⟨h1, fun j v hj => ?_⟩
      have := h2 j v hj
      rw [show k + 1 + j = (k + j) + 1 by omega]
      simpa using this

/-- cells one behind the other, that are read -/
def CellsAt (M : List Hp) (a : Addr) (vs : List Value) : Prop := a.spot = none ∧ ∀ j v, vs[j]? = some v → CellIn M ⟨a.block, a.off + j, none⟩ v

theorem CellsAt.cell {M : List Hp} {w : World} (hm : MOk M w) {a : Addr} {vs : List Value} (h : CellsAt M a vs) : ∀ j v, vs[j]? = some v → w.cell? (a.add j) = some v := by
  obtain ⟨hsp, hc⟩ := h
  intro j v e
  have h3 := (hc j v e).cell hm
  unfold Addr.add
  split
  · rename_i hj; subst hj; obtain ⟨b, o, s⟩ := a; simp only at hsp; subst hsp; simpa using h3
  · exact h3

theorem CellsAt.sub {M M' : List Hp} (s : Sub M M') {a : Addr} {vs : List Value} (h : CellsAt M a vs) : CellsAt M' a vs := ⟨h.1, fun j v e => (h.2 j v e).sub s⟩

/-- what a variable of a type holds, of its cells -/
def ofCells (d : TypeDesc) (vs : List Value) : Option Value :=
  match TypeDesc.agg d with
  | true => some (.agg vs.toArray)
  | false => match vs with
    | v :: _ => some v
    | [] => none

theorem reads_loadVar {P : Program} {M : List Hp} {T : TypeId} {i : TI} (hT : TyOk P T i) {a : Addr} {vs : List Value} {v : Value} (hn : vs.length = i.size) (hv : ofCells i.und vs = some v) (h : CellsAt M a vs) : Reads P M (loadVar T a) v := by
  intro w hm
  have hc := h.cell hm
  simp only [loadVar, Sem.run_bind, hT.run_isAgg, Result.andThen_ok]
  unfold ofCells at hv
  cases e : TypeDesc.agg i.und with
  | true =>
    rw [e] at hv
    simp only [Option.some.injEq] at hv
    subst hv
    simp only [if_true, Sem.run_bind, hT.run_size, Result.andThen_ok]
    have := run_loadCells_list (P := P) (w := w) a vs hc
    rw [hn] at this
    simp [this]
  | false =>
    rw [e] at hv
    cases vs with
    | nil => cases hv
    | cons x vs =>
      simp only [Option.some.injEq] at hv
      subst hv
      have := hc 0 x rfl
      have e0 : a.add 0 = a := by simp [Addr.add]
      rw [e0] at this
      simp [this]

theorem CellsAt.of {M : List Hp} {b off n : Nat} {l : List Value} {T : TypeId} {fz : Nat × Nat} {vs : List Value} (hm : Rdb M b (.cells l.toArray T fz)) (h : takeRow l off n = some vs) : CellsAt M ⟨b, off, none⟩ vs :=
  ⟨rfl, fun j v e => ⟨rfl, l.toArray, T, fz, hm, by simpa using (takeRow_spec l off n vs h).2 j v e⟩⟩
theorem rdb_own {K hs : List Hp} {i b : Nat} {o : Obj} (hi : hs[i]? = some (one b o)) : Rdb (K ++ hs) b o := ⟨_, List.mem_append_right _ (List.mem_of_getElem? hi), one_self _ _⟩
theorem CellsAt.own {K hs : List Hp} {i b off n : Nat} {l : List Value} {T : TypeId} {fz : Nat × Nat} {vs : List Value} (hi : hs[i]? = some (one b (.cells l.toArray T fz))) (h : takeRow l off n = some vs) : CellsAt (K ++ hs) ⟨b, off, none⟩ vs :=
  CellsAt.of (rdb_own hi) h

/-! ### rules -/
section
variable {P : Program} {tab : Tab} {n : Nat} {ops : Array Oper} {rest : List Oper} {ρ : Env} {K hs M : List Hp} {Q : Env → List Hp → Prop} {d : Nat} {ty : TypeId} {pos : String} {after : Array Edge}

theorem v_move {x : Operand} {v : Value} (hx : evalO ρ x = some v) :
    OpV P n ρ M ⟨some d, .move x, ty, pos, after, none⟩ (v) :=
  OpV.p (fun a ha => by simp only [execOp, ha.eval hx])
theorem v_assign {x : Operand} {v : Value} (hx : evalO ρ x = some v) :
    OpV P n ρ M ⟨some d, .assign x, ty, pos, after, none⟩ (v) :=
  OpV.p (fun a ha => by simp only [execOp, ha.eval hx])
theorem v_pickT {c x y : Operand} {v : Value} (hc : evalO ρ c = some (.bool true)) (hx : evalO ρ x = some v) :
    OpV P n ρ M ⟨some d, .pick c x y, ty, pos, after, none⟩ (v) :=
  OpV.p (fun a ha => by simp only [execOp, ha.eval hx, ha.eval hc, asBool, pure_bind, if_true])
theorem v_pickF {c x y : Operand} {v : Value} (hc : evalO ρ c = some (.bool false)) (hx : evalO ρ y = some v) :
    OpV P n ρ M ⟨some d, .pick c x y, ty, pos, after, none⟩ (v) :=
  OpV.p (fun a ha => by simp only [execOp, ha.eval hx, ha.eval hc, asBool, pure_bind, Bool.false_eq_true, if_false])
theorem v_nilCheck {x : Operand} {a : Addr} (hx : evalO ρ x = some (.pointer (some a))) :
    OpV P n ρ M ⟨some d, .nilCheck x, ty, pos, after, none⟩ (.pointer (some a)) :=
  OpV.p (fun a ha => by simp only [execOp, ha.eval hx])
theorem v_extract {x : Operand} {vs : List Value} {v : Value} {j : Nat} (hx : evalO ρ x = some (.tuple vs.toArray)) (hv : vs[j]? = some v) :
    OpV P n ρ M ⟨some d, .extract x j, ty, pos, after, none⟩ (v) :=
  OpV.r (s := Instr.extract (.tuple vs.toArray) j) (fun a ha => by simp only [execOp, ha.eval hx]) (fun w _ => by simp [Instr.extract, hv])
theorem o_box {x : Operand} {T : TypeId} {v : Value} {l : List Value} (hx : evalO ρ x = some v) (hl : cellsL v = l) (hd : Nat.blt d n = true) (h : ∀ b, RO P n ops rest ((d, .pointer (some ⟨b, 0, none⟩)) :: ρ) K (one b (.cells l.toArray T (0, 0)) :: hs) Q) :
    RO P n ops (⟨some d, .box T x, ty, pos, after, none⟩ :: rest) ρ K hs Q :=
  RO.val (s := Instr.box T v) hd (fun a ha => by simp only [execOp, ha.eval hx]) (by
    unfold Instr.box newVar newRow
    rw [cells_eq, hl]
    exact .bind (.bind (.newObj fun b => .pure (.pure (h b)))))

theorem o_alloc (ht : TabOk P tab) {T : TypeId} {i : TI} {l : List Value} (hT : lkT tab T = some i) (hl : cellsL i.zero = l) (hd : Nat.blt d n = true) (h : ∀ b, RO P n ops rest ((d, .pointer (some ⟨b, 0, none⟩)) :: ρ) K (one b (.cells l.toArray T (0, 0)) :: hs) Q) :
    RO P n ops (⟨some d, .alloc T, ty, pos, after, none⟩ :: rest) ρ K hs Q :=
  RO.val (s := Instr.alloc T true (.tuple #[])) hd (fun a ha => rfl) (by
    unfold Instr.alloc newVar newRow
    refine .bind (.known (fun w => (ht T i hT).run_zero w) ?_)
    rw [cells_eq, hl]
    exact .bind (.bind (.newObj fun b => .pure (.pure (h b)))))

/-- a load out of a part of one's own -/
theorem v_load (j : Nat) (ht : TabOk P tab) {x : Operand} {T T' : TypeId} {i : TI} {b off : Nat} {l vs : List Value} {fz : Nat × Nat} {v : Value} (hx : evalO ρ x = some (.pointer (some ⟨b, off, none⟩))) (hj : hs[j]? = some (one b (.cells l.toArray T' fz)))
    (hT : lkT tab T = some i) (hr : takeRow l off i.size = some vs) (hv : ofCells i.und vs = some v) :
    OpV P n ρ (K ++ hs) ⟨some d, .load T x, ty, pos, after, none⟩ (v) :=
  OpV.r (s := loadVar T ⟨b, off, none⟩) (fun a ha => by simp only [execOp, ha.eval hx, Instr.loadAt, Instr.sureAddr, pure_bind]) (reads_loadVar (ht T i hT) (takeRow_spec l off _ vs hr).1 hv (CellsAt.own hj hr))
/-- a load out of what is known to be read -/
theorem v_loadk (ht : TabOk P tab) {M' : List Hp} {x : Operand} {T : TypeId} {i : TI} {a : Addr} {vs : List Value} {v : Value} (hx : evalO ρ x = some (.pointer (some a))) (hc : CellsAt M' a vs) (hs' : Sub M' M)
    (hT : lkT tab T = some i) (hn : vs.length = i.size) (hv : ofCells i.und vs = some v) :
    OpV P n ρ M ⟨some d, .load T x, ty, pos, after, none⟩ (v) :=
  OpV.r (s := loadVar T a) (fun e ha => by simp only [execOp, ha.eval hx, Instr.loadAt, Instr.sureAddr, pure_bind]) (reads_loadVar (ht T i hT) hn hv (hc.sub hs'))
/-! a store -/
def putRow : List Value → Nat → List Value → Option (List Value)
  | l, 0, [] => some l
  | [], _, _ => none
  | _ :: l, 0, v :: vs => match putRow l 0 vs with
    | some l' => some (v :: l')
    | none => none
  | x :: l, k + 1, vs => match putRow l k vs with
    | some l' => some (x :: l')
    | none => none

theorem putRow_eq : ∀ (l : List Value) (k : Nat) (vs l' : List Value), putRow l k vs = some l' → k + vs.length ≤ l.length ∧ l' = l.take k ++ vs ++ l.drop (k + vs.length) := by
  intro l
  induction l with
  | nil =>
    intro k vs l' h
    cases k <;> cases vs <;> simp only [putRow, Option.some.injEq, reduceCtorEq] at h
    subst h; simp
  | cons x l ih =>
    intro k vs l' h
    cases k with
    | zero =>
      cases vs with
      | nil => simp only [putRow, Option.some.injEq] at h; subst h; simp
      | cons v vs =>
        simp only [putRow] at h
        split at h
        · rename_i l2 e
          cases h
          obtain ⟨h1, h2⟩ := ih 0 vs l2 e
          simp only [Nat.zero_add, List.length_cons, List.take_zero, List.nil_append] at h1 h2 ⊢
          exact ⟨by omega, by rw [h2]; simp⟩
        · cases h
    | succ k =>
      simp only [putRow] at h
      split at h
      · rename_i l2 e
        cases h
        obtain ⟨h1, h2⟩ := ih k vs l2 e
        refine ⟨by simp only [List.length_cons]; omega, ?_⟩
        rw [h2, show k + 1 + vs.length = (k + vs.length) + 1 by omega]
        simp
      · cases h

theorem set_self {α : Type} {l : List α} {j : Nat} {x : α} (h : l[j]? = some x) : l.set j x = l := by
  obtain ⟨h1, h2⟩ := List.getElem?_eq_some_iff.1 h
  rw [← h2, List.set_getElem_self]

/-- a row of cells is written -/
theorem SemT.storeCells {j b : Nat} {T : TypeId} {fz : Nat × Nat} : ∀ (vs : List Value) (hs : List Hp) (l : List Value) (off k : Nat) {R : Unit → List Hp → Prop}, hs[j]? = some (one b (.cells l.toArray T fz)) → (∀ v, v ∈ vs → v.oneCell' = true) →
    off + k + vs.length ≤ l.length → (fz.2 ≤ fz.1 ∨ l.length ≤ fz.1) → R () (hs.set j (one b (.cells (l.take (off + k) ++ vs ++ l.drop (off + k + vs.length)).toArray T fz))) → SemT P K hs (storeCells ⟨b, off, none⟩ vs k) R := by
  intro vs
  induction vs with
  | nil =>
    intro hs l off k R hj _ _ _ h
    simp only [List.length_nil, Nat.add_zero, List.append_nil, List.take_append_drop] at h
    rw [set_self hj] at h
    exact SemT.pure h
  | cons v vs ih =>
    intro hs l off k R hj h1 hlen hfz h
    unfold Go.storeCells
    have ea : (⟨b, off, none⟩ : Addr).add k = ⟨b, off + k, none⟩ := by
      unfold Addr.add; split
      · rename_i e; subst e; rfl
      · rfl
    rw [ea]
    simp only [List.length_cons] at hlen
    obtain ⟨lo, hi⟩ := fz
    refine .bind (.store hj (h1 v List.mem_cons_self) (by simp; omega) (by simp at hfz; omega) ?_)
    have hlt : j < hs.length := (List.getElem?_eq_some_iff.1 hj).1
    have e2 : (hs.set j (one b (.cells (l.toArray.setIfInBounds (off + k) v) T (lo, hi))))[j]? = some (one b (.cells (l.set (off + k) v).toArray T (lo, hi))) := by
      rw [List.getElem?_set_self hlt]; simp
    refine ih _ (l.set (off + k) v) off (k + 1) e2 (fun u hu => h1 u (List.mem_cons_of_mem _ hu)) (by simp; omega) (by simpa using hfz) ?_
    rw [List.set_set]
    have e3 : (l.set (off + k) v).take (off + (k + 1)) ++ vs ++ (l.set (off + k) v).drop (off + (k + 1) + vs.length) = l.take (off + k) ++ v :: vs ++ l.drop (off + k + (v :: vs).length) := by
      have a1 : (l.set (off + k) v).take (off + (k + 1)) = l.take (off + k) ++ [v] := by
        rw [show off + (k + 1) = off + k + 1 by omega, List.take_add_one, List.take_set_of_le (by omega), List.getElem?_set_self (by omega)]; rfl
      have a2 : (l.set (off + k) v).drop (off + (k + 1) + vs.length) = l.drop (off + k + (v :: vs).length) := by
        rw [List.drop_set_of_lt (by omega)]; congr 1; simp; omega
      rw [a1, a2]; simp
    rw [e3]; exact h

theorem o_store (j : Nat) (ht : TabOk P tab) {x y : Operand} {T T' : TypeId} {i : TI} {b off : Nat} {l l' vs : List Value} {v : Value} (hx : evalO ρ x = some (.pointer (some ⟨b, off, none⟩))) (hy : evalO ρ y = some v) (hj : hs[j]? = some (one b (.cells l.toArray T' (0, 0))))
    (hT : lkT tab T = some i) (hl : cellsL v = vs) (h1 : vs.all Value.oneCell' = true) (hn : vs.length = i.size) (hp : putRow l off vs = some l') (h : RO P n ops rest ρ K (hs.set j (one b (.cells l'.toArray T' (0, 0)))) Q) :
    RO P n ops (⟨none, .store T x y, ty, pos, after, none⟩ :: rest) ρ K hs Q :=
  RO.act (s := storeVar T ⟨b, off, none⟩ v) (fun a ha => by simp only [execOp, ha.eval hx, ha.eval hy, Instr.storeAt, Instr.sureAddr, pure_bind]) (by
    unfold storeVar
    refine .bind (.known (fun w => (ht T i hT).run_size w) ?_)
    have hsz : ¬ v.cells.size ≠ i.size := by rw [cells_eq, hl]; simp [hn]
    rw [if_neg hsz]
    obtain ⟨p1, p2⟩ := putRow_eq l off vs l' hp
    have : v.cells.toList = vs := by rw [cells_eq, hl]
    rw [this]
    refine .bind (.pure ?_)
    refine SemT.storeCells vs hs l off 0 hj (List.all_eq_true.1 h1) (by omega) (.inl (Nat.le_refl _)) ?_
    rw [Nat.add_zero, ← p2]; exact h)

theorem add_off (b off k : Nat) : (⟨b, off, none⟩ : Addr).add k = ⟨b, off + k, none⟩ := by
  unfold Addr.add; split
  · rename_i e; subst e; rfl
  · rfl

/-- the place and the type of a field -/
def fieldAt (tab : Tab) (S : TypeId) (f : Nat) : Option (Nat × TypeId) :=
  match lkT tab S with
  | some i => match i.und with
    | .struct _ => i.flds[f]?
    | _ => none
  | none => none
theorem fieldAt_spec (ht : TabOk P tab) {S f off : Nat} {T : TypeId} (h : fieldAt tab S f = some (off, T)) : ∃ fs fl, P.underlying S = some (.struct fs) ∧ fs[f]? = some fl ∧ fl.offset = off ∧ fl.type = T ∧ ∃ i, lkT tab S = some i ∧ i.und = .struct fs := by
  unfold fieldAt at h
  split at h
  · rename_i i hi
    split at h
    · rename_i fs hu
      have h1 := (ht S i hi).flds fs hu
      rw [h1, List.getElem?_map] at h
      cases hfl : fs.toList[f]? with
      | none => rw [hfl] at h; cases h
      | some fl =>
        rw [hfl] at h
        simp only [Option.map_some, Option.some.injEq, Prod.mk.injEq] at h
        exact ⟨fs, fl, by rw [(ht S i hi).und, hu], by simpa using hfl, h.1, h.2, i, hi, hu⟩
    · cases h
  · cases h

theorem v_fieldAddr (ht : TabOk P tab) {x : Operand} {S T f o b off : Nat} {i : TI} (hx : evalO ρ x = some (.pointer (some ⟨b, off, none⟩))) (hf : fieldAt tab S f = some (o, T)) (hT : lkT tab T = some i) (hsz : Nat.ble 1 i.size = true) :
    OpV P n ρ M ⟨some d, .fieldAddr S x f, ty, pos, after, none⟩ (.pointer (some ⟨b, off + o, none⟩)) :=
  OpV.r (s := Instr.fieldAt S (.pointer (some ⟨b, off, none⟩)) f) (fun a ha => by simp only [execOp, ha.eval hx]) (by
    intro w _
    obtain ⟨fs, fl, hu, hfl, rfl, rfl, _⟩ := fieldAt_spec ht hf
    have h1 : (underlying S).run P w = .ok (.struct fs) w := by simp [underlying, hu]
    have h2 := (ht _ i hT).run_size w
    have hk : ¬ i.size = 0 := by have := Nat.le_of_ble_eq_true hsz; omega
    simp only [Instr.fieldAt, Sem.run_bind, h1, Result.andThen_ok, hfl, Instr.sureAddr, Sem.run_pure, fieldPlace, h2, hk, if_false, Sem.run_ite, add_off])

end
end Go.Proofs.YtonnncdolofccaaGreat

namespace Go.Proofs.YtonnncdolofccaaGreat

theorem wrap_i64_eq (n : Int) : IntKind.wrap .i64 n = if n % 18446744073709551616 ≥ 9223372036854775808 then n % 18446744073709551616 - 18446744073709551616 else n % 18446744073709551616 := by
  simp [IntKind.wrap, IntKind.bits, IntKind.signed]
theorem wrap_i64 {n : Int} (h1 : -9223372036854775808 ≤ n) (h2 : n ≤ 9223372036854775807) : IntKind.wrap .i64 n = n := by
  rw [wrap_i64_eq]
  split <;> omega
theorem wrap_u {k : IntKind} {n : Int} (hk : k.signed = false) (h1 : 0 ≤ n) (h2 : n < 2 ^ k.bits) : k.wrap n = n := by
  simp only [IntKind.wrap, hk, Bool.false_and, Bool.false_eq_true, if_false]
  exact Int.emod_eq_of_lt h1 h2
theorem wrap_u8 {n : Int} (h1 : 0 ≤ n) (h2 : n ≤ 255) : IntKind.wrap .u8 n = n := wrap_u rfl h1 (by show n < 256; omega)
theorem wrap_u32 {n : Int} (h1 : 0 ≤ n) (h2 : n ≤ 4294967295) : IntKind.wrap .u32 n = n := wrap_u rfl h1 (by show n < 4294967296; omega)
theorem wrap_u64 {n : Int} (h1 : 0 ≤ n) (h2 : n ≤ 18446744073709551615) : IntKind.wrap .u64 n = n := wrap_u rfl h1 (by show n < 18446744073709551616; omega)

/-- & | ^ &^ -/
def ibits (op : BinOp) (k : IntKind) (x y : Int) : Int :=
  let a := BitVec.ofInt k.bits x
  let b := BitVec.ofInt k.bits y
  k.wrap (match op with
    | .and => (a &&& b).toNat
    | .or => (a ||| b).toNat
    | .xor => (a ^^^ b).toNat
    | _ => (a &&& ~~~b).toNat)

/-- what an operator makes of two integers of one kind -/
def intBin (op : BinOp) (k : IntKind) (a b : Int) : Option Value :=
  match op with
  | .add => some (.int k (k.wrap (a + b)))
  | .sub => some (.int k (k.wrap (a - b)))
  | .mul => some (.int k (k.wrap (a * b)))
  | .and => some (.int k (ibits .and k a b))
  | .or => some (.int k (ibits .or k a b))
  | .xor => some (.int k (ibits .xor k a b))
  | .andNot => some (.int k (ibits .andNot k a b))
  | .eql => some (.bool (decide (a = b)))
  | .neq => some (.bool (!decide (a = b)))
  | .lss => some (.bool (decide (a < b)))
  | .leq => some (.bool (decide (a ≤ b)))
  | .gtr => some (.bool (decide (b < a)))
  | .geq => some (.bool (decide (b ≤ a)))
  | _ => none

/-- and of two strings -/
def slt (s t : ByteArray) : Bool := Op.bytesLess s.data.toList t.data.toList
def strBin (op : BinOp) (s t : ByteArray) : Option Value :=
  match op with
  | .eql => some (.bool (decide (s = t)))
  | .neq => some (.bool (!decide (s = t)))
  | .lss => some (.bool (slt s t))
  | .leq => some (.bool (slt s t || decide (s = t)))
  | .gtr => some (.bool (!(slt s t || decide (s = t))))
  | .geq => some (.bool (!slt s t))
  | _ => none

theorem beqS (s t : ByteArray) : (s.toList == t.toList) = decide (s = t) := by
  rw [ByteArray.toList_eq, ByteArray.toList_eq, Bool.eq_iff_iff, beq_iff_eq, decide_eq_true_iff]
  obtain ⟨⟨x⟩⟩ := s
  obtain ⟨⟨y⟩⟩ := t
  simp

section
variable {P : Program} {tab : Tab} {n : Nat} {ops : Array Oper} {rest : List Oper} {ρ : Env} {K hs M : List Hp} {Q : Env → List Hp → Prop} {d : Nat} {ty : TypeId} {pos : String} {after : Array Edge}

theorem run_intBin (op : BinOp) (t : TypeId) (k : IntKind) (a b : Int) (r : Value) (h : intBin op k a b = some r) (w : World) : (binOp op t (.int k a) (.int k b)).run P w = .ok r w := by
  cases op <;> simp only [intBin, Option.some.injEq, reduceCtorEq] at h <;> subst h <;> simp only [binOp, ne_eq, not_true_eq_false, if_false]
  all_goals first
    | rfl
    | (simp only [Op.intCmp, Sem.run_pure]; congr 2; first | rfl | (exact Bool.beq_eq_decide_eq _ _) | skip)
    | skip
  all_goals simp [bne]

theorem run_strBin (op : BinOp) (t : TypeId) (a b : ByteArray) (r : Value) (h : strBin op a b = some r) (w : World) : (binOp op t (.string a) (.string b)).run P w = .ok r w := by
  have e1 := beqS a b
  have e2 : Op.bytesLess a.toList b.toList = slt a b := by simp [slt, ByteArray.toList_eq]
  cases op <;> simp only [strBin, Option.some.injEq, reduceCtorEq] at h <;> subst h <;> simp only [binOp, Op.stringOp, e1, e2, Sem.run_pure]

theorem guard_int (op : BinOp) (t : TypeId) (x y : Operand) (k : IntKind) (a b : Int) : eqGuard op t x y (.int k a) (.int k b) = pure () := by cases op <;> rfl
theorem guard_str (op : BinOp) (t : TypeId) (x y : Operand) (a b : ByteArray) : eqGuard op t x y (.string a) (.string b) = pure () := by cases op <;> rfl
theorem guard_bool (op : BinOp) (t : TypeId) (x y : Operand) (a b : Bool) : eqGuard op t x y (.bool a) (.bool b) = pure () := by cases op <;> rfl
theorem guard_ptr (op : BinOp) (t : TypeId) (x y : Operand) (a b : Option Addr) : eqGuard op t x y (.pointer a) (.pointer b) = pure () := by cases op <;> rfl

theorem v_int {op : BinOp} {t u : TypeId} {x y : Operand} {k : IntKind} {a b : Int} {r : Value} (hx : evalO ρ x = some (.int k a)) (hy : evalO ρ y = some (.int k b)) (hr : intBin op k a b = some r) :
    OpV P n ρ M ⟨some d, .binOp op t x y u, ty, pos, after, none⟩ (r) :=
  OpV.r (s := (do eqGuard op t x y (.int k a) (.int k b); binOp op t (.int k a) (.int k b))) (fun e he => by simp only [execOp, he.eval hx, he.eval hy]) (fun w _ => by rw [guard_int]; exact run_intBin op t k a b r hr w)
theorem v_add {t u : TypeId} {x y : Operand} {a b : Int} (hx : evalO ρ x = some (.int .i64 a)) (hy : evalO ρ y = some (.int .i64 b)) (h1 : -9223372036854775808 ≤ a + b) (h2 : a + b ≤ 9223372036854775807) :
    OpV P n ρ M ⟨some d, .binOp .add t x y u, ty, pos, after, none⟩ (.int .i64 (a + b)) :=
  v_int hx hy (by simp only [intBin, wrap_i64 h1 h2])
theorem v_sub {t u : TypeId} {x y : Operand} {a b : Int} (hx : evalO ρ x = some (.int .i64 a)) (hy : evalO ρ y = some (.int .i64 b)) (h1 : -9223372036854775808 ≤ a - b) (h2 : a - b ≤ 9223372036854775807) :
    OpV P n ρ M ⟨some d, .binOp .sub t x y u, ty, pos, after, none⟩ (.int .i64 (a - b)) :=
  v_int hx hy (by simp only [intBin, wrap_i64 h1 h2])
theorem v_mul {t u : TypeId} {x y : Operand} {a b : Int} (hx : evalO ρ x = some (.int .i64 a)) (hy : evalO ρ y = some (.int .i64 b)) (h1 : -9223372036854775808 ≤ a * b) (h2 : a * b ≤ 9223372036854775807) :
    OpV P n ρ M ⟨some d, .binOp .mul t x y u, ty, pos, after, none⟩ (.int .i64 (a * b)) :=
  v_int hx hy (by simp only [intBin, wrap_i64 h1 h2])
theorem wrap_small {k : IntKind} {a c : Int} (h0 : 0 ≤ c) (h1 : c ≤ a) (h2 : a ≤ k.max) : k.wrap c = c := by
  have hc : c ≤ k.max := Int.le_trans h1 h2
  clear h1 h2
  cases k <;> simp [IntKind.max, IntKind.signed, IntKind.bits] at hc <;> simp [IntKind.wrap, IntKind.bits, IntKind.signed] <;> omega

/-- / and % of numbers that are not below 0 -/
theorem v_quo {t u : TypeId} {x y : Operand} {k : IntKind} {a b : Int} (hx : evalO ρ x = some (.int k a)) (hy : evalO ρ y = some (.int k b)) (h0 : 0 ≤ a) (h1 : a ≤ k.max) (h2 : 0 < b) :
    OpV P n ρ M ⟨some d, .binOp .quo t x y u, ty, pos, after, none⟩ (.int k (a / b)) :=
  OpV.r (s := (do eqGuard .quo t x y (.int k a) (.int k b); binOp .quo t (.int k a) (.int k b))) (fun e he => by simp only [execOp, he.eval hx, he.eval hy]) (fun w _ => by
    rw [guard_int]
    have hb : ¬ b = 0 := by omega
    have e : a.tdiv b = a / b := by rw [Int.tdiv_eq_ediv_of_nonneg h0]
    have hq : 0 ≤ a / b := Int.ediv_nonneg h0 (by omega)
    have hq2 : a / b ≤ a := Int.ediv_le_self _ h0
    simp [binOp, Op.intDiv, hb, e, wrap_small hq hq2 h1])
theorem v_rem {t u : TypeId} {x y : Operand} {k : IntKind} {a b : Int} (hx : evalO ρ x = some (.int k a)) (hy : evalO ρ y = some (.int k b)) (h0 : 0 ≤ a) (h2 : 0 < b) :
    OpV P n ρ M ⟨some d, .binOp .rem t x y u, ty, pos, after, none⟩ (.int k (a % b)) :=
  OpV.r (s := (do eqGuard .rem t x y (.int k a) (.int k b); binOp .rem t (.int k a) (.int k b))) (fun e he => by simp only [execOp, he.eval hx, he.eval hy]) (fun w _ => by
    rw [guard_int]
    have hb : ¬ b = 0 := by omega
    have e : a.tmod b = a % b := by rw [Int.tmod_eq_emod_of_nonneg h0]
    simp [binOp, Op.intDiv, hb, e])
theorem v_shl {t u : TypeId} {x y : Operand} {k yk : IntKind} {a b : Int} (hx : evalO ρ x = some (.int k a)) (hy : evalO ρ y = some (.int yk b)) (h0 : 0 ≤ b) :
    OpV P n ρ M ⟨some d, .binOp .shl t x y u, ty, pos, after, none⟩ (.int k (k.wrap (a * 2 ^ (min b.toNat k.bits)))) :=
  OpV.r (s := (do eqGuard .shl t x y (.int k a) (.int yk b); binOp .shl t (.int k a) (.int yk b))) (fun e he => by simp only [execOp, he.eval hx, he.eval hy]) (fun w _ => by
    have hb : ¬ b < 0 := by omega
    simp [eqGuard, binOp, Op.shift, hb])
theorem v_shr {t u : TypeId} {x y : Operand} {k yk : IntKind} {a b : Int} (hx : evalO ρ x = some (.int k a)) (hy : evalO ρ y = some (.int yk b)) (h0 : 0 ≤ b) :
    OpV P n ρ M ⟨some d, .binOp .shr t x y u, ty, pos, after, none⟩ (.int k (a / 2 ^ (min b.toNat k.bits))) :=
  OpV.r (s := (do eqGuard .shr t x y (.int k a) (.int yk b); binOp .shr t (.int k a) (.int yk b))) (fun e he => by simp only [execOp, he.eval hx, he.eval hy]) (fun w _ => by
    have hb : ¬ b < 0 := by omega
    have e : a.fdiv (2 ^ (min b.toNat k.bits)) = a / 2 ^ (min b.toNat k.bits) := Int.fdiv_eq_ediv_of_nonneg _ (Int.le_of_lt (Int.pow_pos (by omega)))
    simp [eqGuard, binOp, Op.shift, hb, e])
theorem v_str {op : BinOp} {t u : TypeId} {x y : Operand} {a b : ByteArray} {r : Value} (hx : evalO ρ x = some (.string a)) (hy : evalO ρ y = some (.string b)) (hr : strBin op a b = some r) :
    OpV P n ρ M ⟨some d, .binOp op t x y u, ty, pos, after, none⟩ (r) :=
  OpV.r (s := (do eqGuard op t x y (.string a) (.string b); binOp op t (.string a) (.string b))) (fun e he => by simp only [execOp, he.eval hx, he.eval hy]) (fun w _ => by rw [guard_str]; exact run_strBin op t a b r hr w)
/-- what lies behind a type -/
def undOf (tab : Tab) (T : TypeId) : Option TypeDesc := match lkT tab T with
  | some i => some i.und
  | none => none
theorem undOf_run {P : Program} (ht : TabOk P tab) {T : TypeId} {u : TypeDesc} (h : undOf tab T = some u) : P.underlying T = some u := by
  unfold undOf at h
  split at h
  · rename_i i hi; cases h; exact (ht T i hi).und
  · cases h

theorem v_eqB (ht : TabOk P tab) {t u : TypeId} {x y : Operand} {a b : Bool} (hx : evalO ρ x = some (.bool a)) (hy : evalO ρ y = some (.bool b)) (hu : undOf tab t = some .bool) :
    OpV P n ρ M ⟨some d, .binOp .eql t x y u, ty, pos, after, none⟩ (.bool (a == b)) :=
  OpV.r (s := (do eqGuard .eql t x y (.bool a) (.bool b); binOp .eql t (.bool a) (.bool b))) (fun e he => by simp only [execOp, he.eval hx, he.eval hy]) (fun w _ => by rw [guard_bool]; exact run_eql_bool w t a b (undOf_run ht hu))
theorem v_neB (ht : TabOk P tab) {t u : TypeId} {x y : Operand} {a b : Bool} (hx : evalO ρ x = some (.bool a)) (hy : evalO ρ y = some (.bool b)) (hu : undOf tab t = some .bool) :
    OpV P n ρ M ⟨some d, .binOp .neq t x y u, ty, pos, after, none⟩ (.bool (!(a == b))) :=
  OpV.r (s := (do eqGuard .neq t x y (.bool a) (.bool b); binOp .neq t (.bool a) (.bool b))) (fun e he => by simp only [execOp, he.eval hx, he.eval hy]) (fun w _ => by
    rw [guard_bool]
    simp [binOp, Op.equal, Op.maxDepth, run_equalIn_bool w 9999 t a b (undOf_run ht hu)])
theorem pt_of {t e : TypeId} (h : P.underlying t = some (.pointer e)) : P.underlying t = some (.pointer (P.pointee t)) := by simp [Program.pointee, h]
/-- a pointer against nil -/
theorem v_eqP (ht : TabOk P tab) {t u e : TypeId} {x y : Operand} {a : Option Addr} (hx : evalO ρ x = some (.pointer a)) (hy : evalO ρ y = some (.pointer none)) (hu : undOf tab t = some (.pointer e)) :
    OpV P n ρ M ⟨some d, .binOp .eql t x y u, ty, pos, after, none⟩ (.bool a.isNone) :=
  OpV.r (s := (do eqGuard .eql t x y (.pointer a) (.pointer none); binOp .eql t (.pointer a) (.pointer none))) (fun e he => by simp only [execOp, he.eval hx, he.eval hy]) (fun w _ => by
    rw [guard_ptr]
    exact run_eql_pointer_nil w t a (pt_of (undOf_run ht hu)))
theorem v_neP (ht : TabOk P tab) {t u e : TypeId} {x y : Operand} {a : Option Addr} (hx : evalO ρ x = some (.pointer a)) (hy : evalO ρ y = some (.pointer none)) (hu : undOf tab t = some (.pointer e)) :
    OpV P n ρ M ⟨some d, .binOp .neq t x y u, ty, pos, after, none⟩ (.bool (!a.isNone)) :=
  OpV.r (s := (do eqGuard .neq t x y (.pointer a) (.pointer none); binOp .neq t (.pointer a) (.pointer none))) (fun e he => by simp only [execOp, he.eval hx, he.eval hy]) (fun w _ => by
    rw [guard_ptr]
    have e := run_equalIn_pointer_nil w 9999 t a (pt_of (undOf_run ht hu))
    show (binOp .neq t (.pointer a) (.pointer none)).run P w = _
    simp only [binOp, Op.equal, Op.maxDepth, Sem.run_bind, e, Result.andThen_ok, Sem.run_pure])
theorem v_not {t : TypeId} {x : Operand} {a : Bool} (hx : evalO ρ x = some (.bool a)) :
    OpV P n ρ M ⟨some d, .unOp .not t x, ty, pos, after, none⟩ (.bool (!a)) :=
  OpV.r (s := Op.unary .not (.bool a)) (fun e he => by simp only [execOp, he.eval hx]) (fun _ _ => rfl)
/-- a number of another kind -/
theorem v_conv (ht : TabOk P tab) {s t : TypeId} {us : TypeDesc} {x : Operand} {k k' : IntKind} {a : Int} (hx : evalO ρ x = some (.int k a)) (hs' : undOf tab s = some us) (hu : undOf tab t = some (.int k')) :
    OpV P n ρ M ⟨some d, .convert s t x, ty, pos, after, none⟩ (.int k' (k'.wrap a)) :=
  OpV.r (s := convert s t (.int k a)) (fun e he => by simp only [execOp, he.eval hx]) (fun w _ => by
    simp [convert, underlying, undOf_run ht hs', undOf_run ht hu, Conv.intToInt])
theorem v_conv64 (ht : TabOk P tab) {s t : TypeId} {us : TypeDesc} {x : Operand} {k : IntKind} {a : Int} (hx : evalO ρ x = some (.int k a)) (hs' : undOf tab s = some us) (hu : undOf tab t = some (.int .i64)) (h1 : -9223372036854775808 ≤ a) (h2 : a ≤ 9223372036854775807) :
    OpV P n ρ M ⟨some d, .convert s t x, ty, pos, after, none⟩ (.int .i64 a) :=
  by rw [← wrap_i64 h1 h2]; exact v_conv ht hx hs' hu
/-! len -/
theorem v_lenS (ht : TabOk P tab) {t : TypeId} {x : Operand} {s : ByteArray} (hx : evalO ρ x = some (.string s)) (hu : undOf tab t = some .string) :
    OpV P n ρ M ⟨some d, .call ⟨.builtin .len, #[x], #[t]⟩, ty, pos, after, none⟩ (.int .i64 (s.size : Int)) :=
  OpV.r (s := Builtin.len_ #[t] ty #[.string s]) (fun e he => by simp [execOp, resolve, invoke, builtin, he.eval hx]) (fun w _ => by
    simp [Builtin.len_, underlying, undOf_run ht hu, goInt])
theorem v_lenA (ht : TabOk P tab) {t e : TypeId} {x : Operand} {a : Option Addr} {l c : Nat} (hx : evalO ρ x = some (.slice a l c)) (hu : undOf tab t = some (.slice e)) :
    OpV P n ρ M ⟨some d, .call ⟨.builtin .len, #[x], #[t]⟩, ty, pos, after, none⟩ (.int .i64 (l : Int)) :=
  OpV.r (s := Builtin.len_ #[t] ty #[.slice a l c]) (fun e he => by simp [execOp, resolve, invoke, builtin, he.eval hx]) (fun w _ => by
    simp [Builtin.len_, underlying, undOf_run ht hu, goInt])
theorem v_min2 {x y : Operand} {ts : Array TypeId} {k : IntKind} {a b : Int} (hx : evalO ρ x = some (.int k a)) (hy : evalO ρ y = some (.int k b)) :
    OpV P n ρ M ⟨some d, .call ⟨.builtin .min, #[x, y], ts⟩, ty, pos, after, none⟩ (.int k (min a b)) :=
  OpV.r (s := Builtin.min_ ts ty #[.int k a, .int k b]) (fun e he => by simp [execOp, resolve, invoke, builtin, he.eval hx, he.eval hy]) (fun w _ => by
    simp only [Builtin.min_, List.foldlM, Builtin.min2]
    have : (if b < a then b else a) = min a b := by omega
    simp [this])
/-- an element of a string -/
theorem v_indexS (ht : TabOk P tab) {t : TypeId} {x y : Operand} {s : ByteArray} {k : IntKind} {j : Int} {c : UInt8} (hx : evalO ρ x = some (.string s)) (hy : evalO ρ y = some (.int k j)) (hu : undOf tab t = some .string) (h0 : 0 ≤ j) (hc : s.data.toList[j.toNat]? = some c) :
    OpV P n ρ M ⟨some d, .index t x y, ty, pos, after, none⟩ (.int .u8 (c.toNat : Int)) :=
  OpV.r (s := Instr.index t (.string s) (.int k j)) (fun e he => by simp only [execOp, he.eval hx, he.eval hy]) (fun w _ => by
    have e : s[j.toNat]? = some c := by
      obtain ⟨⟨l⟩⟩ := s
      obtain ⟨h1, h2⟩ := List.getElem?_eq_some_iff.1 hc
      have h1' : j.toNat < (ByteArray.mk ⟨l⟩).size := h1
      exact (getElem?_pos (ByteArray.mk ⟨l⟩) j.toNat h1').trans (congrArg some h2)
    simp [Instr.index, asIntOf, underlying, undOf_run ht hu, h0, e])
end
end Go.Proofs.YtonnncdolofccaaGreat

namespace Go.Proofs.YtonnncdolofccaaGreat

/-! ### rows of elements -/
/-- the elements xs lie in the cells cs, so many each -/
def Rows {α : Type} (R : α → List Value → Prop) (sz : Nat) : List α → List Value → Prop
  | [], cs => cs = []
  | x :: xs, cs => ∃ vs cs', cs = vs ++ cs' ∧ vs.length = sz ∧ R x vs ∧ Rows R sz xs cs'

section
variable {α : Type} {R : α → List Value → Prop} {sz : Nat}

theorem Rows.length : ∀ {xs : List α} {cs : List Value}, Rows R sz xs cs → cs.length = xs.length * sz
  | [], cs, h => by simp only [Rows] at h; subst h; simp
  | x :: xs, cs, h => by
    obtain ⟨vs, cs', rfl, h1, _, h2⟩ := h
    simp only [List.length_append, h1, h2.length, List.length_cons, Nat.succ_mul]; omega

theorem Rows.append : ∀ {xs ys : List α} {cs ds : List Value}, Rows R sz xs cs → Rows R sz ys ds → Rows R sz (xs ++ ys) (cs ++ ds)
  | [], ys, cs, ds, h, k => by simp only [Rows] at h; subst h; exact k
  | x :: xs, ys, cs, ds, h, k => by
    obtain ⟨vs, cs', rfl, h1, hr, h2⟩ := h
    exact ⟨vs, cs' ++ ds, by simp, h1, hr, h2.append k⟩

theorem Rows.one {x : α} {vs : List Value} (h : R x vs) (hl : vs.length = sz) : Rows R sz [x] vs := ⟨vs, [], by simp, hl, h, rfl⟩

theorem Rows.get : ∀ {xs : List α} {cs : List Value}, Rows R sz xs cs → ∀ {i : Nat} {x : α}, xs[i]? = some x → ∃ vs, R x vs ∧ vs.length = sz ∧ ∀ j v, vs[j]? = some v → cs[i * sz + j]? = some v
  | [], _, _, i, x, hx => by simp at hx
  | y :: xs, cs, h, i, x, hx => by
    obtain ⟨vs, cs', rfl, h1, hr, h2⟩ := h
    cases i with
    | zero =>
      simp only [List.getElem?_cons_zero, Option.some.injEq] at hx; subst hx
      refine ⟨vs, hr, h1, fun j v e => ?_⟩
      have := (List.getElem?_eq_some_iff.1 e).1
      rw [Nat.zero_mul, Nat.zero_add, List.getElem?_append_left this]; exact e
    | succ i =>
      obtain ⟨ws, hw, hl, hg⟩ := h2.get (i := i) (x := x) (by simpa using hx)
      refine ⟨ws, hw, hl, fun j v e => ?_⟩
      rw [List.getElem?_append_right (by rw [h1, Nat.succ_mul]; omega)]
      have := hg j v e
      rw [show (i + 1) * sz + j - vs.length = i * sz + j by rw [h1, Nat.succ_mul]; omega]; exact this

theorem Rows.take : ∀ {xs : List α} {cs : List Value}, Rows R sz xs cs → ∀ k, Rows R sz (xs.take k) (cs.take (k * sz))
  | [], cs, h, k => by simp only [Rows] at h; subst h; simp [Rows]
  | x :: xs, cs, h, k => by
    obtain ⟨vs, cs', rfl, h1, hr, h2⟩ := h
    cases k with
    | zero => simp [Rows]
    | succ k =>
      refine ⟨vs, cs'.take (k * sz), ?_, h1, hr, h2.take k⟩
      rw [List.take_append, h1, List.take_of_length_le (by rw [h1, Nat.succ_mul]; omega)]
      rw [show (k + 1) * sz - sz = k * sz by rw [Nat.succ_mul]; omega]

theorem Rows.drop : ∀ {xs : List α} {cs : List Value}, Rows R sz xs cs → ∀ k, Rows R sz (xs.drop k) (cs.drop (k * sz))
  | [], cs, h, k => by simp only [Rows] at h; subst h; simp [Rows]
  | x :: xs, cs, h, k => by
    cases k with
    | zero => simpa using h
    | succ k =>
      obtain ⟨vs, cs', rfl, h1, hr, h2⟩ := h
      have := h2.drop k
      have e : (vs ++ cs').drop ((k + 1) * sz) = cs'.drop (k * sz) := by
        have : (k + 1) * sz = vs.length + k * sz := by rw [h1, Nat.succ_mul]; omega
        rw [this, ← List.drop_drop, List.drop_left]
      rw [e]; exact this

theorem Rows.mono {R' : α → List Value → Prop} (hr : ∀ x vs, R x vs → R' x vs) : ∀ {xs : List α} {cs : List Value}, Rows R sz xs cs → Rows R' sz xs cs
  | [], _, h => h
  | _ :: _, _, ⟨vs, cs', e, h1, h2, h3⟩ => ⟨vs, cs', e, h1, hr _ _ h2, h3.mono hr⟩
end

/-! ### slices that are read -/
def SlOf (M : List Hp) {α : Type} (R : α → List Value → Prop) (sz : Nat) (a : Option Addr) (xs : List α) : Prop :=
  ∃ ds, Rows R sz xs ds ∧ (xs = [] ∨ ∃ b off, a = some ⟨b, off, none⟩ ∧ CellsAt M ⟨b, off, none⟩ ds)
def SlV (M : List Hp) {α : Type} (R : α → List Value → Prop) (sz : Nat) (v : Value) (xs : List α) : Prop :=
  ∃ a c, v = .slice a xs.length c ∧ xs.length ≤ c ∧ SlOf M R sz a xs

/-- a byte -/
def byteV (c : UInt8) : Value := .int .u8 (c.toNat : Int)
def ByteR (c : UInt8) (vs : List Value) : Prop := vs = [byteV c]
def IntR (n : Int) (vs : List Value) : Prop := vs = [.int .i64 n]
abbrev BytesV (M : List Hp) (v : Value) (bs : List UInt8) : Prop := SlV M ByteR 1 v bs
theorem rows_bytes : ∀ {bs : List UInt8} {cs : List Value}, Rows ByteR 1 bs cs ↔ cs = bs.map byteV
  | [], cs => by simp [Rows]
  | b :: bs, cs => by
    constructor
    · rintro ⟨vs, cs', rfl, _, h, h2⟩
      rw [rows_bytes] at h2
      unfold ByteR at h
      rw [h, h2]; simp
    · intro h
      exact ⟨[byteV b], bs.map byteV, by rw [h]; rfl, rfl, rfl, rows_bytes.2 rfl⟩

section
variable {α : Type} {R : α → List Value → Prop} {sz : Nat} {M : List Hp}

theorem SlOf.nil (a : Option Addr) : SlOf M R sz a [] := ⟨[], rfl, .inl rfl⟩
theorem SlV.nil : SlV M R sz (.slice none 0 0) [] := ⟨none, 0, rfl, Nat.le_refl _, SlOf.nil _⟩
theorem SlOf.sub {M' : List Hp} (s : Sub M M') {a : Option Addr} {xs : List α} (h : SlOf M R sz a xs) : SlOf M' R sz a xs := by
  obtain ⟨ds, hr, h⟩ := h
  refine ⟨ds, hr, h.imp id ?_⟩
  rintro ⟨b, off, e, hc⟩
  exact ⟨b, off, e, hc.sub s⟩
theorem SlV.sub {M' : List Hp} (s : Sub M M') {v : Value} {xs : List α} (h : SlV M R sz v xs) : SlV M' R sz v xs := let ⟨a, c, e, l, h⟩ := h; ⟨a, c, e, l, h.sub s⟩
theorem SlOf.mono {R' : α → List Value → Prop} (hr : ∀ x vs, R x vs → R' x vs) {a : Option Addr} {xs : List α} (h : SlOf M R sz a xs) : SlOf M R' sz a xs :=
  let ⟨ds, h1, h2⟩ := h; ⟨ds, h1.mono hr, h2⟩
theorem SlV.mono {R' : α → List Value → Prop} (hr : ∀ x vs, R x vs → R' x vs) {v : Value} {xs : List α} (h : SlV M R sz v xs) : SlV M R' sz v xs := let ⟨a, c, e, l, h⟩ := h; ⟨a, c, e, l, h.mono hr⟩

theorem SlOf.get {a : Option Addr} {xs : List α} (h : SlOf M R sz a xs) {i : Nat} {x : α} (hx : xs[i]? = some x) : ∃ b off vs, a = some ⟨b, off, none⟩ ∧ R x vs ∧ vs.length = sz ∧ CellsAt M ⟨b, off + i * sz, none⟩ vs := by
  obtain ⟨ds, hr, h⟩ := h
  rcases h with rfl | ⟨b, off, rfl, _, hc⟩
  · simp at hx
  · obtain ⟨vs, hv, hl, hg⟩ := hr.get hx
    refine ⟨b, off, vs, rfl, hv, hl, rfl, fun j v e => ?_⟩
    have := hc _ _ (hg j v e)
    rw [Nat.add_assoc]; exact this

theorem SlOf.part {a : Option Addr} {xs : List α} (h : SlOf M R sz a xs) (l k : Nat) : SlOf M R sz (a.map (·.add (l * sz))) ((xs.take k).drop l) := by
  obtain ⟨ds, hr, h⟩ := h
  refine ⟨(ds.take (k * sz)).drop (l * sz), (hr.take k).drop l, ?_⟩
  rcases h with rfl | ⟨b, off, rfl, _, hc⟩
  · left; simp
  · right
    refine ⟨b, off + l * sz, by simp [add_off], rfl, fun j v e => ?_⟩
    rw [List.getElem?_drop] at e
    have e2 : ds[l * sz + j]? = some v := by
      rw [List.getElem?_take] at e
      split at e
      · exact e
      · cases e
    have := hc _ _ e2
    simp only at this ⊢
    rw [Nat.add_assoc]; exact this

theorem SlOf.part0 {a : Option Addr} {xs : List α} (h : SlOf M R sz a xs) (k : Nat) : SlOf M R sz a (xs.take k) := by
  obtain ⟨ds, hr, h⟩ := h
  refine ⟨ds.take (k * sz), hr.take k, ?_⟩
  rcases h with rfl | ⟨b, off, rfl, _, hc⟩
  · left; simp
  · right
    refine ⟨b, off, rfl, rfl, fun j v e => hc j v ?_⟩
    rw [List.getElem?_take] at e
    split at e
    · exact e
    · cases e
end

/-! ### a slice of one's own -/
def okfz (fz : Nat × Nat) (n : Nat) : Prop := fz.2 ≤ fz.1 ∨ n ≤ fz.1
/-- v is a slice of n elements of the type E, in a part h of one's own: nil, or at the begin of a row -/
def OwnSl (E : TypeId) (sz : Nat) (v : Value) (n : Nat) (cs : List Value) (h : Hp) : Prop :=
  cs.length = n * sz ∧ ((v = .slice none 0 0 ∧ n = 0 ∧ h = emp) ∨
    ∃ b cap rest fz, v = .slice (some ⟨b, 0, none⟩) n cap ∧ n ≤ cap ∧ h = one b (.cells (cs ++ rest).toArray E fz) ∧ (cs ++ rest).length = cap * sz ∧ okfz fz (cap * sz))
def OwnOf {α : Type} (R : α → List Value → Prop) (E : TypeId) (sz : Nat) (v : Value) (xs : List α) (h : Hp) : Prop := ∃ cs, Rows R sz xs cs ∧ OwnSl E sz v xs.length cs h
abbrev OwnB (E : TypeId) (v : Value) (bs : List UInt8) (h : Hp) : Prop := OwnOf ByteR E 1 v bs h

theorem OwnSl.nil (E : TypeId) (sz : Nat) : OwnSl E sz (.slice none 0 0) 0 [] emp := ⟨by simp, .inl ⟨rfl, rfl, rfl⟩⟩
theorem OwnOf.nil {α : Type} {R : α → List Value → Prop} (E : TypeId) (sz : Nat) : OwnOf R E sz (.slice none 0 0) [] emp := ⟨[], rfl, OwnSl.nil E sz⟩
theorem OwnSl.slice {E : TypeId} {sz : Nat} {v : Value} {n : Nat} {cs : List Value} {h : Hp} (o : OwnSl E sz v n cs h) : ∃ a c, v = .slice a n c ∧ n ≤ c := by
  rcases o.2 with ⟨rfl, rfl, _⟩ | ⟨b, cap, _, _, rfl, hc, _⟩
  · exact ⟨none, 0, rfl, Nat.le_refl _⟩
  · exact ⟨_, cap, rfl, hc⟩
theorem OwnSl.cells {E : TypeId} {sz : Nat} {a : Option Addr} {c n : Nat} {cs : List Value} {h : Hp} (o : OwnSl E sz (.slice a n c) n cs h) : cs = [] ∨ ∃ b off, a = some ⟨b, off, none⟩ ∧ CellsAt [h] ⟨b, off, none⟩ cs := by
  obtain ⟨hl, o⟩ := o
  rcases o with ⟨e, hn, _⟩ | ⟨b, cap, rest, fz, e, hc, rfl, hr, hf⟩
  · left; subst hn; exact List.eq_nil_of_length_eq_zero (by omega)
  · right
    cases e
    refine ⟨b, 0, rfl, rfl, fun j v e => ⟨rfl, _, _, _, ⟨_, List.mem_cons_self, one_self _ _⟩, ?_⟩⟩
    have := (List.getElem?_eq_some_iff.1 e).1
    simp only [Nat.zero_add]
    rw [List.getElem?_toArray, List.getElem?_append_left this]; exact e
theorem OwnOf.slV {α : Type} {R : α → List Value → Prop} {E : TypeId} {sz : Nat} {v : Value} {xs : List α} {h : Hp} (o : OwnOf R E sz v xs h) : SlV [h] R sz v xs := by
  obtain ⟨cs, hr, o⟩ := o
  obtain ⟨a, c, rfl, hc⟩ := o.slice
  refine ⟨a, c, rfl, hc, cs, hr, ?_⟩
  rcases o.cells with rfl | ⟨b, off, rfl, hx⟩
  · by_cases hsz : sz = 0
    · cases xs with
      | nil => exact .inl rfl
      | cons x xs =>
        right
        rcases o.2 with ⟨e, hn, _⟩ | ⟨b, cap, rest, fz, e, hc, _⟩
        · simp at hn
        · cases e; exact ⟨b, 0, rfl, rfl, by simp⟩
    · left
      have := hr.length
      simp only [List.length_nil] at this
      cases xs with
      | nil => rfl
      | cons x xs =>
        rw [List.length_cons, Nat.succ_mul] at this; omega
  · exact .inr ⟨b, off, rfl, hx⟩

/-! ### operations -/
section
variable {P : Program} {tab : Tab} {n : Nat} {ops : Array Oper} {rest : List Oper} {ρ : Env} {K hs M : List Hp} {Q : Env → List Hp → Prop} {d : Nat} {ty : TypeId} {pos : String} {after : Array Edge}

/-- the address of an element -/
theorem v_indexAddr (ht : TabOk P tab) {x y : Operand} {T E : TypeId} {ie : TI} {b off len c : Nat} {kk : IntKind} {i : Int} (hx : evalO ρ x = some (.slice (some ⟨b, off, none⟩) len c)) (hy : evalO ρ y = some (.int kk i)) (hu : undOf tab T = some (.slice E)) (hE : lkT tab E = some ie) (h0 : 0 ≤ i) (hl : i < len) :
    OpV P n ρ M ⟨some d, .indexAddr T x y, ty, pos, after, none⟩ (.pointer (some ⟨b, off + i.toNat * ie.size, none⟩)) :=
  OpV.r (s := Instr.indexAt T (.slice (some ⟨b, off, none⟩) len c) (.int kk i)) (fun e he => by simp only [execOp, he.eval hx, he.eval hy]) (fun w _ => by
    have e1 : (underlying T).run P w = .ok (.slice E) w := by simp [underlying, undOf_run ht hu]
    have e2 := (ht E ie hE).run_size w
    simp [Instr.indexAt, asIntOf, e1, e2, h0, hl, add_off])

theorem o_indexAddr (ht : TabOk P tab) {α : Type} {R : α → List Value → Prop} {sz : Nat} {M : List Hp} {xs : List α} {x y : Operand} {T E : TypeId} {ie : TI} {a : Option Addr} {len c : Nat} {k : IntKind} {i : Int} {el : α}
    (hx : evalO ρ x = some (.slice a len c)) (hy : evalO ρ y = some (.int k i)) (hu : undOf tab T = some (.slice E)) (hE : lkT tab E = some ie) (hsz : Nat.beq ie.size sz = true) (hS : SlOf M R sz a xs) (h0 : 0 ≤ i) (hl : i < len) (hi : xs[i.toNat]? = some el) (hd : Nat.blt d n = true)
    (h : ∀ b off vs, R el vs → vs.length = sz → CellsAt M ⟨b, off, none⟩ vs → RO P n ops rest ((d, .pointer (some ⟨b, off, none⟩)) :: ρ) K hs Q) : RO P n ops (⟨some d, .indexAddr T x y, ty, pos, after, none⟩ :: rest) ρ K hs Q := by
  obtain ⟨b, off, vs, rfl, hr, hvl, hc⟩ := hS.get hi
  have hsz' := Nat.eq_of_beq_eq_true hsz
  refine RO.ofV (v_indexAddr ht hx hy hu hE h0 hl) hd ?_
  rw [hsz']
  exact h b _ vs hr hvl hc

theorem v_slice {x : Operand} {lo hi : Option Operand} {lov hiv : Option Value} {T : TypeId} {v u : Value} (hx : evalO ρ x = some v) (elo : ∀ a, EnvOk n ρ a → lo.map a.eval = lov) (ehi : ∀ a, EnvOk n ρ a → hi.map a.eval = hiv) (hrun : ∀ w, (Instr.sliceAt T v lov hiv none).run P w = .ok u w) :
    OpV P n ρ M ⟨some d, .slice T x lo hi none, ty, pos, after, none⟩ u :=
  OpV.r (s := Instr.sliceAt T v lov hiv none) (fun e he => by simp only [execOp, he.eval hx, elo e he, ehi e he, Option.map_none]) (fun w _ => hrun w)
theorem run_sliceAt (ht : TabOk P tab) {T E : TypeId} {ie : TI} {sz : Nat} (hu : undOf tab T = some (.slice E)) (hE : lkT tab E = some ie) (hsz' : ie.size = sz) (a : Option Addr) (len c l k : Nat) (lo hi : Option Value)
    (hlo : lo = none ∧ l = 0 ∨ ∃ kk, lo = some (.int kk l)) (hhi : hi = none ∧ k = len ∨ ∃ kk, hi = some (.int kk k)) (hlk : l ≤ k) (hkc : k ≤ c) (w : World) :
    (Instr.sliceAt T (.slice a len c) lo hi none).run P w = .ok (.slice (if c = l then a else a.map (·.add (l * sz))) (k - l) (c - l)) w := by
  have e1 : (underlying T).run P w = .ok (.slice E) w := by simp [underlying, undOf_run ht hu]
  have e2 := (ht E ie hE).run_size w
  have n1 : ¬ k < l := by omega
  have n2 : ¬ c < k := by omega
  rcases hlo with ⟨rfl, rfl⟩ | ⟨kk, rfl⟩ <;> rcases hhi with ⟨rfl, rfl⟩ | ⟨kk2, rfl⟩ <;>
    simp [Instr.sliceAt, Instr.slice, Instr.sliceBounds, Instr.sliceBound, asIntOf, e1, e2, hsz', hlk, hkc]

/-- s[l:h] of a slice that is read -/
theorem o_slice (ht : TabOk P tab) {α : Type} {R : α → List Value → Prop} {sz : Nat} {M : List Hp} {xs : List α} {x : Operand} {lo hi : Option Operand} {lov hiv : Option Value} {T E : TypeId} {ie : TI} {a : Option Addr} {len c l k : Nat}
    (hx : evalO ρ x = some (.slice a len c)) (hu : undOf tab T = some (.slice E)) (hE : lkT tab E = some ie) (hsz : Nat.beq ie.size sz = true) (hS : SlOf M R sz a xs) (_hlen : len = xs.length) (hc : xs.length ≤ c)
    (elo : ∀ a, EnvOk n ρ a → lo.map a.eval = lov) (ehi : ∀ a, EnvOk n ρ a → hi.map a.eval = hiv)
    (hlo : lov = none ∧ l = 0 ∨ ∃ kk, lov = some (.int kk l)) (hhi : hiv = none ∧ k = len ∨ ∃ kk, hiv = some (.int kk k)) (hlk : l ≤ k) (hk : k ≤ xs.length) (hd : Nat.blt d n = true)
    (h : ∀ a' c', k - l ≤ c' → SlOf M R sz a' ((xs.take k).drop l) → RO P n ops rest ((d, .slice a' (k - l) c') :: ρ) K hs Q) : RO P n ops (⟨some d, .slice T x lo hi none, ty, pos, after, none⟩ :: rest) ρ K hs Q := by
  have hsz' := Nat.eq_of_beq_eq_true hsz
  refine RO.ofV (v_slice (u := .slice (if c = l then a else a.map (·.add (l * sz))) (k - l) (c - l)) hx elo ehi (fun w => run_sliceAt ht hu hE hsz' a len c l k lov hiv hlo hhi hlk (by omega) w)) hd ?_
  · refine h _ _ (by omega) ?_
    split
    · rename_i e
      have : (xs.take k).drop l = [] := List.drop_eq_nil_of_le (by rw [List.length_take]; omega)
      rw [this]; exact SlOf.nil _
    · exact hS.part l k
/-- s[l:] -/
theorem o_sliceL (ht : TabOk P tab) {α : Type} {R : α → List Value → Prop} {sz : Nat} {M : List Hp} {xs : List α} {x y : Operand} {T E : TypeId} {ie : TI} {a : Option Addr} {len c : Nat} {kk : IntKind} {l : Int}
    (hx : evalO ρ x = some (.slice a len c)) (hy : evalO ρ y = some (.int kk l)) (hu : undOf tab T = some (.slice E)) (hE : lkT tab E = some ie) (hsz : Nat.beq ie.size sz = true) (hS : SlOf M R sz a xs) (hlen : len = xs.length) (hc : xs.length ≤ c)
    (h0 : 0 ≤ l) (hlk : l.toNat ≤ xs.length) (hd : Nat.blt d n = true)
    (h : ∀ a' c', (xs.drop l.toNat).length ≤ c' → SlOf M R sz a' (xs.drop l.toNat) → RO P n ops rest ((d, .slice a' (xs.drop l.toNat).length c') :: ρ) K hs Q) : RO P n ops (⟨some d, .slice T x (some y) none none, ty, pos, after, none⟩ :: rest) ρ K hs Q :=
  o_slice ht (lov := some (.int kk l)) (hiv := none) (l := l.toNat) (k := len) hx hu hE hsz hS hlen hc (fun e he => by simp [he.eval hy]) (fun _ _ => rfl) (.inr ⟨kk, by rw [Int.toNat_of_nonneg h0]⟩) (.inl ⟨rfl, rfl⟩) (by omega) (by omega) hd (by
    intro a' c' h1 h2
    rw [hlen, List.take_length] at h2
    have e : len - l.toNat = (xs.drop l.toNat).length := by rw [List.length_drop]; omega
    rw [e] at h1 ⊢
    exact h a' c' h1 h2)
/-- s[:k] -/
theorem o_sliceH (ht : TabOk P tab) {α : Type} {R : α → List Value → Prop} {sz : Nat} {M : List Hp} {xs : List α} {x y : Operand} {T E : TypeId} {ie : TI} {a : Option Addr} {len c : Nat} {kk : IntKind} {k : Int}
    (hx : evalO ρ x = some (.slice a len c)) (hy : evalO ρ y = some (.int kk k)) (hu : undOf tab T = some (.slice E)) (hE : lkT tab E = some ie) (hsz : Nat.beq ie.size sz = true) (hS : SlOf M R sz a xs) (hlen : len = xs.length) (hc : xs.length ≤ c)
    (h0 : 0 ≤ k) (hlk : k.toNat ≤ xs.length) (hd : Nat.blt d n = true)
    (h : ∀ a' c', (xs.take k.toNat).length ≤ c' → SlOf M R sz a' (xs.take k.toNat) → RO P n ops rest ((d, .slice a' (xs.take k.toNat).length c') :: ρ) K hs Q) : RO P n ops (⟨some d, .slice T x none (some y) none, ty, pos, after, none⟩ :: rest) ρ K hs Q :=
  o_slice ht (hiv := some (.int kk k)) (lov := none) (k := k.toNat) (l := 0) hx hu hE hsz hS hlen hc (fun _ _ => rfl) (fun e he => by simp [he.eval hy]) (.inl ⟨rfl, rfl⟩) (.inr ⟨kk, by rw [Int.toNat_of_nonneg h0]⟩) (by omega) (by omega) hd (by
    intro a' c' h1 h2
    rw [List.drop_zero] at h2
    have e : k.toNat - 0 = (xs.take k.toNat).length := by rw [List.length_take]; omega
    rw [e] at h1 ⊢
    exact h a' c' h1 h2)
/-- s[l:k] -/
theorem o_sliceLH (ht : TabOk P tab) {α : Type} {R : α → List Value → Prop} {sz : Nat} {M : List Hp} {xs : List α} {x y z : Operand} {T E : TypeId} {ie : TI} {a : Option Addr} {len c : Nat} {kk kk2 : IntKind} {l k : Int}
    (hx : evalO ρ x = some (.slice a len c)) (hy : evalO ρ y = some (.int kk l)) (hz : evalO ρ z = some (.int kk2 k)) (hu : undOf tab T = some (.slice E)) (hE : lkT tab E = some ie) (hsz : Nat.beq ie.size sz = true) (hS : SlOf M R sz a xs) (hlen : len = xs.length) (hc : xs.length ≤ c)
    (h0 : 0 ≤ l) (hlk : l ≤ k) (hk : k.toNat ≤ xs.length) (hd : Nat.blt d n = true)
    (h : ∀ a' c', ((xs.take k.toNat).drop l.toNat).length ≤ c' → SlOf M R sz a' ((xs.take k.toNat).drop l.toNat) → RO P n ops rest ((d, .slice a' ((xs.take k.toNat).drop l.toNat).length c') :: ρ) K hs Q) : RO P n ops (⟨some d, .slice T x (some y) (some z) none, ty, pos, after, none⟩ :: rest) ρ K hs Q :=
  o_slice ht (lov := some (.int kk l)) (hiv := some (.int kk2 k)) (l := l.toNat) (k := k.toNat) hx hu hE hsz hS hlen hc (fun e he => by simp [he.eval hy]) (fun e he => by simp [he.eval hz]) (.inr ⟨kk, by rw [Int.toNat_of_nonneg h0]⟩) (.inr ⟨kk2, by rw [Int.toNat_of_nonneg (by omega)]⟩) (by omega) (by omega) hd (by
    intro a' c' h1 h2
    have e : k.toNat - l.toNat = ((xs.take k.toNat).drop l.toNat).length := by rw [List.length_drop, List.length_take]; omega
    rw [e] at h1 ⊢
    exact h a' c' h1 h2)
end
end Go.Proofs.YtonnncdolofccaaGreat

namespace Go.Proofs.YtonnncdolofccaaGreat

/-- so many elements, their cells ds, that may be appended -/
def Src (M : List Hp) (sz : Nat) (v : Value) (k : Nat) (ds : List Value) : Prop :=
  (∃ a c, v = .slice a k c ∧ ds.length = k * sz ∧ (ds = [] ∨ ∃ b off, a = some ⟨b, off, none⟩ ∧ CellsAt M ⟨b, off, none⟩ ds)) ∨
  (∃ s : ByteArray, v = .string s ∧ sz = 1 ∧ k = s.size ∧ ds = s.data.toList.map byteV)

theorem SlV.src {M : List Hp} {α : Type} {R : α → List Value → Prop} {sz : Nat} {v : Value} {xs : List α} (h : SlV M R sz v xs) : ∃ ds, Rows R sz xs ds ∧ Src M sz v xs.length ds := by
  obtain ⟨a, c, rfl, _, ds, hr, h⟩ := h
  refine ⟨ds, hr, .inl ⟨a, c, rfl, hr.length, ?_⟩⟩
  rcases h with rfl | ⟨b, off, rfl, hc⟩
  · left; simpa [Rows] using hr
  · exact .inr ⟨b, off, rfl, hc⟩

theorem Src.sub {M M' : List Hp} (s : Sub M M') {sz : Nat} {v : Value} {k : Nat} {ds : List Value} (h : Src M sz v k ds) : Src M' sz v k ds := by
  rcases h with ⟨a, c, e, l, h⟩ | h
  · refine .inl ⟨a, c, e, l, h.imp id ?_⟩
    rintro ⟨b, off, e, hc⟩
    exact ⟨b, off, e, hc.sub s⟩
  · exact .inr h

section
variable {P : Program} {tab : Tab} {K hs : List Hp}

theorem run_lenOf {M : List Hp} {sz : Nat} {v : Value} {k : Nat} {ds : List Value} (h : Src M sz v k ds) (w : World) : (Builtin.lenOf v).run P w = .ok k w := by
  rcases h with ⟨a, c, rfl, _⟩ | ⟨s, rfl, _, rfl, _⟩ <;> rfl

theorem reads_firstCells {M : List Hp} {sz : Nat} {v : Value} {k : Nat} {ds : List Value} (h : Src M sz v k ds) : Reads P M (Builtin.firstCells sz k v) ds.toArray := by
  intro w hm
  rcases h with ⟨a, c, rfl, hl, h⟩ | ⟨s, rfl, rfl, rfl, rfl⟩
  · rcases h with rfl | ⟨b, off, rfl, hc⟩
    · cases a with
      | none => rfl
      | some a =>
        simp only [List.length_nil] at hl
        simp only [Builtin.firstCells, ← hl]
        have := run_loadCells_list (P := P) (w := w) a [] (by simp)
        simpa using this
    · have := run_loadCells_list (P := P) (w := w) ⟨b, off, none⟩ ds (hc.cell hm)
      rw [hl] at this
      simpa [Builtin.firstCells] using this
  · simp only [Builtin.firstCells, Sem.run_pure, Result.ok.injEq, and_true]
    have e : s.extract 0 s.size = s := by
      obtain ⟨⟨l⟩⟩ := s
      exact ByteArray.extract_zero_size
    rw [e]
    apply Array.ext'
    simp [byteV]
end

theorem growBy_le (newLen : Nat) : ∀ r c, c < newLen ∨ c ≤ newLen + newLen / 4 + 192 → Builtin.growBy newLen r c ≤ newLen + newLen / 4 + 192 := by
  intro r
  induction r with
  | zero => intro c h; simp only [Builtin.growBy]; omega
  | succ r ih =>
    intro c h
    simp only [Builtin.growBy]
    split
    · omega
    · exact ih _ (by omega)
theorem next_le (need cap : Nat) (h : cap < need) : Builtin.nextslicecap need cap ≤ 2 * need + 192 := by
  unfold Builtin.nextslicecap
  split
  · omega
  · split
    · omega
    · have := growBy_le need 4 cap (.inl h); omega

section
variable {P : Program} {tab : Tab} {K hs : List Hp}

theorem SemT.append (ht : TabOk P tab) {T U E : TypeId} {ie : TI} {uU : TypeDesc} {ty : TypeId} {sz j nn k : Nat} {v y : Value} {cs ds : List Value} {hp : Hp} {R : Value → List Hp → Prop}
    (hT : undOf tab T = some (.slice E)) (hU : undOf tab U = some uU) (hnU : uU = .string ∨ ∃ e, uU = .slice e) (hE : lkT tab E = some ie) (hsz : ie.size = sz) (hb0 : ie.bytes ≠ 0) (hj : hs[j]? = some hp) (ho : OwnSl E sz v nn cs hp) (hs' : Src (K ++ hs) sz y k ds)
    (h1 : ∀ u, u ∈ ds → u.oneCell' = true) (hroom : (2 * (nn + k) + 192) * ie.bytes ≤ 281474976710656)
    (h : ∀ v' hp', OwnSl E sz v' (nn + k) (cs ++ ds) hp' → R v' (hs.set j hp')) : SemT P K hs (Builtin.append_ #[T, U] ty #[v, y]) R := by
  have hzl := (ht E ie hE).zlen
  obtain ⟨a, c, rfl, hnc⟩ := ho.slice
  have eT : ∀ w, (underlying T).run P w = .ok (.slice E) w := fun w => by simp [underlying, undOf_run ht hT]
  have eU : ∀ w, (underlying U).run P w = .ok uU w := fun w => by simp [underlying, undOf_run ht hU]
  rcases hnU with rfl | ⟨eU', rfl⟩
  all_goals
    unfold Builtin.append_
    simp only [List.getElem?_toArray, List.getElem?_cons_zero, List.getElem?_cons_succ]
    refine .bind (.known eT ?_)
    simp only []
    refine .bind (.known (fun w => (ht E ie hE).run_size w) ?_)
    refine .bind (.known eU ?_)
    refine .bind (.pure ?_)
    simp only [Bool.false_eq_true, if_false]
    refine .bind (.known (fun w => run_lenOf hs' w) ?_)
    have hds : ds.length = k * sz := by
      rcases hs' with ⟨_, _, _, hl, _⟩ | ⟨s, _, rfl, rfl, rfl⟩
      · exact hl
      · rw [List.length_map, Nat.mul_one]; rfl
    simp only [Bool.not_false, if_true, hsz]
    have hcl := ho.1
    by_cases hc : nn + k ≤ c
    · rw [if_pos hc]
      refine .bind (.reads (reads_firstCells hs') ?_)
      rcases ho.2 with ⟨e, rfl, rfl⟩ | ⟨b, cap, rest, fz, e, hcap, rfl, hlen, hfz⟩
      · cases e
        simp only [Nat.le_zero_eq, Nat.add_eq_zero_iff] at hc
        obtain ⟨_, rfl⟩ := hc
        have e1 : ds = [] := List.eq_nil_of_length_eq_zero (by omega)
        subst e1
        refine .bind (.pure ?_)
        refine .pure ?_
        have := h (.slice none 0 0) emp
        rw [set_self hj] at this
        refine this ⟨by simp [hcl], .inl ⟨rfl, rfl, rfl⟩⟩
      · cases e
        simp only []
        have hle : cs.length + ds.length ≤ (cs ++ rest).length := by
          have : (nn + k) * sz ≤ c * sz := Nat.mul_le_mul_right _ hc
          rw [hlen, hcl, hds, ← Nat.add_mul]; exact this
        have ea : (⟨b, 0, none⟩ : Addr).add (nn * sz) = ⟨b, nn * sz, none⟩ := by rw [add_off, Nat.zero_add]
        rw [ea]
        refine .bind (SemT.storeCells ds hs (cs ++ rest) (nn * sz) 0 hj h1 (by rw [← hcl]; omega) (by unfold okfz at hfz; omega) ?_)
        refine .pure (h _ _ ⟨by simp [hcl, hds, Nat.add_mul], .inr ⟨b, c, rest.drop ds.length, fz, rfl, hc, ?_, ?_, hfz⟩⟩)
        · rw [Nat.add_zero, ← hcl, List.take_left, ← List.drop_drop, List.drop_left]
        · simp only [List.length_append, List.length_drop] at hle hlen ⊢; omega
    · rw [if_neg hc]
      have hn1 : ¬ (((nn + k : Nat) : Int) > IntKind.i64.max ∧ (false = true ∨ ie.bytes = 0)) := by simp [hb0]
      obtain ⟨inf, hi0, hi1, hi2, hi3⟩ := (ht E ie hE).info
      have ei : ∀ w, (typeInfo E).run P w = .ok inf w := fun w => by simp [typeInfo, hi0]
      refine .bind (.known ei ?_)
      rw [hi2, if_neg (by simp [hb0])]
      refine .bind (.known ei ?_)
      rw [hi2]
      have hcap : ¬ Builtin.nextslicecap (nn + k) c * ie.bytes > 2 ^ 48 := by
        have := Nat.mul_le_mul_right ie.bytes (next_le (nn + k) c (by omega))
        omega
      rw [if_neg hcap]
      refine .bind (.choose fun q hq => ?_)
      have hq2 : nn + k ≤ q := by
        obtain ⟨t, rfl⟩ := hq rfl
        simp only [Question.cut]; omega
      refine .bind (.known ei ?_)
      refine .bind (.known (fun w => run_askRoom P w _) ?_)
      have hold : Src (K ++ hs) sz (.slice a nn c) nn cs := .inl ⟨a, c, rfl, hcl, (ho.cells).imp id (by
        rintro ⟨b, off, e, hx⟩
        exact ⟨b, off, e, hx.sub (Sub.cons (List.mem_append_right _ (List.mem_of_getElem? hj)) (Sub.nil _))⟩)⟩
      refine .bind (.reads (reads_firstCells hold) ?_)
      refine .bind (.reads (reads_firstCells hs') ?_)
      refine .bind (.known (fun w => (ht E ie hE).run_zero w) ?_)
      refine .bind ?_
      unfold newRow
      refine .bind (.newObj fun b => ?_)
      refine .pure ?_
      refine SemT.replace hj (h _ _ ⟨by simp [hcl, hds, Nat.add_mul], .inr ⟨b, q, (Builtin.zeroCells ie.zero.cells (q - (nn + k))).toList, (0, 0), rfl, hq2, ?_, ?_, .inl (Nat.le_refl _)⟩⟩)
      · congr 2
        apply Array.ext'
        simp
      · have hz : ie.zero.cells.size = sz := by rw [cells_eq]; simpa [hsz] using hzl
        simp only [List.length_append, hcl, hds, Array.length_toList, Builtin.zeroCells, Array.size_map, Array.size_range, hz, ← Nat.add_mul]
        congr 1; omega
end

theorem Owned.emp {F : Hp} {hs : List Hp} {w : World} (ho : Owned F hs w) : Owned F (emp :: hs) w :=
  ⟨fun h m => by
    rcases List.mem_cons.1 m with rfl | m
    · exact fun _ => .inr rfl
    · exact ho.disF h m, List.pairwise_cons.2 ⟨fun _ _ _ => .inl rfl, ho.dis⟩, ho.subF, fun h m => by
    rcases List.mem_cons.1 m with rfl | m
    · intro b o e; cases e
    · exact ho.sub h m⟩
theorem SemT.emp {P : Program} {K hs : List Hp} {α : Type} {s : Sem α} {R : α → List Hp → Prop} (h : SemT P K (emp :: hs) s R) : SemT P K hs s R := fun w F hK ho => h w F hK ho.emp

section
variable {P : Program} {tab : Tab} {n : Nat} {ops : Array Oper} {rest : List Oper} {ρ : Env} {K hs M : List Hp} {Q : Env → List Hp → Prop} {d : Nat} {ty : TypeId} {pos : String} {after : Array Edge}

theorem RO.emp {l : List Oper} (h : RO P n ops l ρ K (emp :: hs) Q) : RO P n ops l ρ K hs Q := fun a w F Z ha hK ho hz => h a w F Z ha hK ho.emp hz

def strOrSl (tab : Tab) (U : TypeId) : Bool := match undOf tab U with
  | some .string | some (.slice _) => true
  | _ => false
theorem strOrSl_spec {U : TypeId} (h : strOrSl tab U = true) : ∃ u, undOf tab U = some u ∧ (u = .string ∨ ∃ e, u = .slice e) := by
  unfold strOrSl at h
  split at h
  · exact ⟨_, by assumption, .inl rfl⟩
  · rename_i e he; exact ⟨_, he, .inr ⟨e, rfl⟩⟩
  · cases h

theorem o_append (j : Nat) (ht : TabOk P tab) {x y : Operand} {T U E : TypeId} {ie : TI} {sz nn k : Nat} {v u : Value} {cs ds : List Value} {hp : Hp} {M : List Hp} (hx : evalO ρ x = some v) (hy : evalO ρ y = some u)
    (ho : OwnSl E sz v nn cs hp) (hj : hs[j]? = some hp) (hT : undOf tab T = some (.slice E)) (hU : strOrSl tab U = true) (hE : lkT tab E = some ie) (hsz : Nat.beq ie.size sz = true) (hb0 : Nat.ble 1 ie.bytes = true)
    (hsrc : Src M sz u k ds) (hM : Sub M (K ++ hs)) (h1 : ∀ u, u ∈ ds → u.oneCell' = true) (hroom : (2 * (nn + k) + 192) * ie.bytes ≤ 281474976710656) (hd : Nat.blt d n = true)
    (h : ∀ v' hp', OwnSl E sz v' (nn + k) (cs ++ ds) hp' → RO P n ops rest ((d, v') :: ρ) K (hs.set j hp') Q) :
    RO P n ops (⟨some d, .call ⟨.builtin .append, #[x, y], #[T, U]⟩, ty, pos, after, none⟩ :: rest) ρ K hs Q := by
  obtain ⟨uU, hU1, hU2⟩ := strOrSl_spec hU
  refine RO.val (s := Builtin.append_ #[T, U] ty #[v, u]) hd (fun e he => by simp [execOp, resolve, invoke, builtin, he.eval hx, he.eval hy]) ?_
  exact SemT.append ht hT hU1 hU2 hE (Nat.eq_of_beq_eq_true hsz) (by have := Nat.le_of_ble_eq_true hb0; omega) hj ho (hsrc.sub hM) h1 hroom h

/-- append to nil: a part more -/
theorem o_appendN (ht : TabOk P tab) {y : Operand} {x : Operand} {T U E : TypeId} {ie : TI} {sz k : Nat} {u : Value} {ds : List Value} {M : List Hp} (hx : evalO ρ x = some (.slice none 0 0)) (hy : evalO ρ y = some u)
    (hT : undOf tab T = some (.slice E)) (hU : strOrSl tab U = true) (hE : lkT tab E = some ie) (hsz : Nat.beq ie.size sz = true) (hb0 : Nat.ble 1 ie.bytes = true)
    (hsrc : Src M sz u k ds) (hM : Sub M (K ++ hs)) (h1 : ∀ u, u ∈ ds → u.oneCell' = true) (hroom : (2 * k + 192) * ie.bytes ≤ 281474976710656) (hd : Nat.blt d n = true)
    (h : ∀ v' hp', OwnSl E sz v' k ds hp' → RO P n ops rest ((d, v') :: ρ) K (hp' :: hs) Q) :
    RO P n ops (⟨some d, .call ⟨.builtin .append, #[x, y], #[T, U]⟩, ty, pos, after, none⟩ :: rest) ρ K hs Q :=
  RO.emp (o_append 0 ht hx hy (OwnSl.nil E sz) rfl hT hU hE hsz hb0 hsrc (fun g m => by
    rcases List.mem_append.1 (hM g m) with m | m
    · exact List.mem_append_left _ m
    · exact List.mem_append_right _ (List.mem_cons_of_mem _ m)) h1 (by rw [Nat.zero_add]; exact hroom) hd (fun v' hp' o => h v' hp' (by simpa using o)))

theorem byte_one (bs : List UInt8) : ∀ u, u ∈ bs.map byteV → u.oneCell' = true := by
  intro u h
  obtain ⟨c, _, rfl⟩ := List.mem_map.1 h
  rfl

/-- append of bytes to bytes of one's own -/
theorem o_appendB (j : Nat) (ht : TabOk P tab) {x y : Operand} {T U E : TypeId} {ie : TI} {v u : Value} {as bs : List UInt8} {hp : Hp} {M : List Hp} (hx : evalO ρ x = some v) (hy : evalO ρ y = some u)
    (ho : OwnB E v as hp) (hj : hs[j]? = some hp) (hT : undOf tab T = some (.slice E)) (hU : strOrSl tab U = true) (hE : lkT tab E = some ie) (hsz : Nat.beq ie.size 1 = true) (hb0 : Nat.beq ie.bytes 1 = true)
    (hsrc : BytesV M u bs) (hM : Sub M (K ++ hs)) (hroom : as.length + bs.length ≤ 140000000000000) (hd : Nat.blt d n = true)
    (h : ∀ v' hp', OwnB E v' (as ++ bs) hp' → RO P n ops rest ((d, v') :: ρ) K (hs.set j hp') Q) :
    RO P n ops (⟨some d, .call ⟨.builtin .append, #[x, y], #[T, U]⟩, ty, pos, after, none⟩ :: rest) ρ K hs Q := by
  obtain ⟨cs, hr, ho⟩ := ho
  obtain ⟨ds, hr2, hs2⟩ := hsrc.src
  have e1 := rows_bytes.1 hr
  have e2 := rows_bytes.1 hr2
  subst e1; subst e2
  have hb := Nat.eq_of_beq_eq_true hb0
  refine o_append j ht hx hy ho hj hT hU hE hsz (by rw [hb]; rfl) hs2 hM (byte_one bs) (by rw [hb]; omega) hd (fun v' hp' o => h v' hp' ⟨_, hr.append hr2, ?_⟩)
  rw [List.length_append]; exact o
theorem o_appendBN (ht : TabOk P tab) {x y : Operand} {T U E : TypeId} {ie : TI} {u : Value} {bs : List UInt8} {M : List Hp} (hx : evalO ρ x = some (.slice none 0 0)) (hy : evalO ρ y = some u)
    (hT : undOf tab T = some (.slice E)) (hU : strOrSl tab U = true) (hE : lkT tab E = some ie) (hsz : Nat.beq ie.size 1 = true) (hb0 : Nat.beq ie.bytes 1 = true)
    (hsrc : BytesV M u bs) (hM : Sub M (K ++ hs)) (hroom : bs.length ≤ 140000000000000) (hd : Nat.blt d n = true)
    (h : ∀ v' hp', OwnB E v' bs hp' → RO P n ops rest ((d, v') :: ρ) K (hp' :: hs) Q) :
    RO P n ops (⟨some d, .call ⟨.builtin .append, #[x, y], #[T, U]⟩, ty, pos, after, none⟩ :: rest) ρ K hs Q :=
  RO.emp (o_appendB 0 ht hx hy (OwnOf.nil E 1) rfl hT hU hE hsz hb0 hsrc (fun g m => by
    rcases List.mem_append.1 (hM g m) with m | m
    · exact List.mem_append_left _ m
    · exact List.mem_append_right _ (List.mem_cons_of_mem _ m)) (by rw [List.length_nil]; omega) hd h)

/-! a row that is written out -/
def partCells (ρ : Env) (sz : Nat) : Nat → List (Nat × Operand) → Option (List Value)
  | _, [] => some []
  | i, (k, x) :: ps => match Nat.beq i k, evalO ρ x with
    | true, some v => match Nat.beq (cellsL v).length sz, partCells ρ sz (i + 1) ps with
      | true, some r => some (cellsL v ++ r)
      | _, _ => none
    | _, _ => none

theorem zip_fold (off : Nat) : ∀ (vs : List Value) (k : Nat) (cs : List Value), off + k + vs.length ≤ cs.length →
    ((vs.zipIdx k).foldl (fun (c : Array Value) (p : Value × Nat) => c.setIfInBounds (off + p.2) p.1) cs.toArray) = (cs.take (off + k) ++ vs ++ cs.drop (off + k + vs.length)).toArray := by
  intro vs
  induction vs with
  | nil => intro k cs _; simp
  | cons v vs ih =>
    intro k cs h
    simp only [List.length_cons] at h
    simp only [List.zipIdx_cons, List.foldl_cons, List.setIfInBounds_toArray]
    rw [ih (k + 1) _ (by simp; omega)]
    congr 1
    have a1 : (cs.set (off + k) v).take (off + (k + 1)) = cs.take (off + k) ++ [v] := by
      rw [show off + (k + 1) = off + k + 1 by omega, List.take_add_one, List.take_set_of_le (by omega), List.getElem?_set_self (by omega)]; rfl
    have a2 : (cs.set (off + k) v).drop (off + (k + 1) + vs.length) = cs.drop (off + k + (v :: vs).length) := by
      rw [List.drop_set_of_lt (by omega)]; congr 1; simp; omega
    rw [a1, a2]; simp

theorem fill_parts {a : Act} (he : EnvOk n ρ a) (sz : Nat) : ∀ (ps : List (Nat × Operand)) (i : Nat) (cs zs l : List Value), partCells ρ sz i ps = some l → cs.length = i * sz → zs.length = ps.length * sz →
    Instr.fill (fun i => some (i * sz, sz)) (cs ++ zs).toArray (ps.map fun p => (p.1, a.eval p.2)) = some (cs ++ l).toArray := by
  intro ps
  induction ps with
  | nil =>
    intro i cs zs l h hc hz
    simp only [partCells, Option.some.injEq] at h
    simp only [List.length_nil, Nat.zero_mul] at hz
    rw [List.eq_nil_of_length_eq_zero hz, ← h]; rfl
  | cons p ps ih =>
    obtain ⟨k, x⟩ := p
    intro i cs zs l h hc hz
    simp only [partCells] at h
    split at h
    · rename_i v hk hx
      split at h
      · rename_i r hl hr
        cases h
        have ek := Nat.eq_of_beq_eq_true hk
        have el := Nat.eq_of_beq_eq_true hl
        subst ek
        simp only [List.length_cons, Nat.succ_mul] at hz
        simp only [List.map_cons, Instr.fill, he.eval hx, cells_eq]
        have hb : ¬ ((cellsL v).toArray.size ≠ sz || decide (i * sz + (cellsL v).toArray.size > (cs ++ zs).toArray.size)) = true := by
          simp [el, hc]; omega
        rw [if_neg (by simpa using hb)]
        have hf : (cellsL v).toArray.zipIdx.foldl (fun cs (x : Value × Nat) => cs.setIfInBounds (i * sz + x.2) x.1) (cs ++ zs).toArray = (cs ++ cellsL v ++ zs.drop sz).toArray := by
          rw [← Array.foldl_toList, Array.toList_zipIdx]
          rw [zip_fold (i * sz) (cellsL v) 0 (cs ++ zs) (by simp [hc, el]; omega)]
          congr 1
          rw [Nat.add_zero, ← hc, List.take_left, el, ← List.drop_drop, List.drop_left]
        have := ih (i + 1) (cs ++ cellsL v) (zs.drop sz) r hr (by simp [hc, el, Nat.succ_mul]) (by simp; omega)
        rw [← List.append_assoc, ← this, ← hf]
      · cases h
    · cases h

theorem o_buildSlice (ht : TabOk P tab) {T E : TypeId} {ie : TI} {sz len : Nat} {ps : List (Nat × Operand)} {l : List Value} (hT : undOf tab T = some (.slice E)) (hE : lkT tab E = some ie) (hsz : Nat.beq ie.size sz = true) (hl : partCells ρ sz 0 ps = some l) (hlen : Nat.beq ps.length len = true) (hsm : Nat.ble (len * sz) 1000 = true) (hd : Nat.blt d n = true)
    (h : ∀ b, RO P n ops rest ((d, .slice (some ⟨b, 0, none⟩) len len) :: ρ) K (one b (.cells l.toArray E (0, 0)) :: hs) Q) :
    RO P n ops (⟨some d, .buildSlice T len ps.toArray, ty, pos, after, none⟩ :: rest) ρ K hs Q := by
  have hsz' := Nat.eq_of_beq_eq_true hsz
  have hlen' := Nat.eq_of_beq_eq_true hlen
  have hsm' := Nat.le_of_ble_eq_true hsm
  intro a w F Z ha hK ho hz
  have hzl := (ht E ie hE).zlen
  refine RO.val (s := Instr.buildSlice T len (ps.map fun p => (p.1, a.eval p.2)).toArray) (ρ := ρ) hd ?_ ?_ a w F Z ha hK ho hz
  · intro e he
    have : (ps.map fun p => (p.1, e.eval p.2)) = (ps.map fun p => (p.1, a.eval p.2)) := by
      have key : ∀ (ps : List (Nat × Operand)) (i : Nat) (l : List Value), partCells ρ sz i ps = some l → (ps.map fun p => (p.1, e.eval p.2)) = (ps.map fun p => (p.1, a.eval p.2)) := by
        intro ps
        induction ps with
        | nil => intros; rfl
        | cons p ps ih =>
          intro i l h
          simp only [partCells] at h
          split at h
          · rename_i v hk hx
            split at h
            · rename_i r hl hr
              rw [List.map_cons, List.map_cons, ih _ _ hr, he.eval hx, ha.eval hx]
            · cases h
          · cases h
      exact key ps 0 l hl
    simp [execOp, this]
  · unfold Instr.buildSlice
    refine .bind (.known (a := .slice E) (fun w => by simp [underlying, undOf_run ht hT]) ?_)
    simp only []
    refine .bind (.known (fun w => (ht E ie hE).run_size w) ?_)
    have hbig : ¬ len * ie.size > 2 ^ 24 := by rw [hsz']; omega
    rw [if_neg hbig, hsz']
    have key : ∀ zero : Array Value, Instr.fill (fun i => some (i * sz, sz)) ((Array.range (len * sz)).map (zero[· % zero.size]!)) (ps.map fun p => (p.1, a.eval p.2)) = some l.toArray := by
      intro zero
      have := fill_parts ha sz ps 0 [] ((Array.range (len * sz)).map (zero[· % zero.size]!)).toList l hl (by simp) (by simp [hlen'])
      rw [List.nil_append, List.nil_append, Array.toArray_toList] at this
      exact this
    split
    · refine .bind (.pure ?_)
      simp only [key]
      unfold newRow
      exact .bind (.bind (.newObj fun b => .pure (.pure (h b))))
    · refine .bind (.known (fun w => (ht E ie hE).run_zero w) (.bind (.pure ?_)))
      simp only [key]
      unfold newRow
      exact .bind (.bind (.newObj fun b => .pure (.pure (h b))))

/-- a part laid by buildSlice is a slice of one's own -/
theorem own_built {E : TypeId} {sz len b : Nat} {l : List Value} (hl : l.length = len * sz) : OwnSl E sz (.slice (some ⟨b, 0, none⟩) len len) len l (one b (.cells l.toArray E (0, 0))) :=
  ⟨hl, .inr ⟨b, len, [], (0, 0), rfl, Nat.le_refl _, by simp, by simpa using hl, .inl (Nat.le_refl _)⟩⟩

/-! texts and bytes -/
def str (bs : List UInt8) : ByteArray := ⟨bs.toArray⟩
theorem str_data (bs : List UInt8) : (str bs).data.toList = bs := rfl
theorem str_of (s : ByteArray) : str s.data.toList = s := by obtain ⟨⟨l⟩⟩ := s; rfl
theorem str_size (bs : List UInt8) : (str bs).size = bs.length := rfl

theorem v_toStr (ht : TabOk P tab) {S T E : TypeId} {x : Operand} {v : Value} {bs : List UInt8} {M' : List Hp} (hx : evalO ρ x = some v) (hv : BytesV M' v bs) (hM : Sub M' M) (hS : undOf tab S = some (.slice E)) (hE : undOf tab E = some (.int .u8)) (hT : undOf tab T = some .string) :
    OpV P n ρ M ⟨some d, .convert S T x, ty, pos, after, none⟩ (.string (str bs)) := by
  obtain ⟨ds, hr, hsrc⟩ := hv.src
  have e := rows_bytes.1 hr
  subst e
  refine OpV.r (s := convert S T v) (fun e he => by simp only [execOp, he.eval hx]) (fun w hm => ?_)
  have h1 : (underlying S).run P w = .ok (.slice E) w := by simp [underlying, undOf_run ht hS]
  have h2 : (underlying T).run P w = .ok .string w := by simp [underlying, undOf_run ht hT]
  have h3 : (underlying E).run P w = .ok (.int .u8) w := by simp [underlying, undOf_run ht hE]
  obtain ⟨a, c, rfl, _⟩ := hv
  have hfc := reads_firstCells (P := P) (hsrc.sub hM) w hm
  simp only [convert, Sem.run_bind, h1, h2, Result.andThen_ok, h3]
  cases a with
  | none =>
    have : bs = [] := by
      rcases hsrc with ⟨_, _, e, _, h | ⟨_, _, h, _⟩⟩ | ⟨_, e, _⟩
      · simpa using h
      · cases e; cases h
      · cases e
    subst this; rfl
  | some ad =>
    simp only [Builtin.firstCells, Nat.mul_one] at hfc
    simp only [Conv.bytesToString, Sem.run_bind, hfc, Result.andThen_ok]
    have key : ∀ (bs : List UInt8) (s : ByteArray), (forIn (m := Sem) (bs.map byteV) s fun c s =>
        match c with
        | .int .u8 n => pure (ForInStep.yield (s.push (UInt8.ofNat n.toNat)))
        | _ => do
          stuck (α := PUnit) "bytesToString: byte expected"
          pure (ForInStep.yield s)).run P w = .ok (str (s.data.toList ++ bs)) w := by
      intro bs
      induction bs with
      | nil => intro s; simp [str_of]
      | cons b bs ih =>
        intro s
        simp only [List.map_cons, List.forIn_cons, Sem.run_bind, byteV, Sem.run_pure, Result.andThen_ok]
        rw [ih]
        simp [ByteArray.push]
    have := key bs .empty
    simp only [List.forIn_toArray]
    rw [show (ByteArray.empty.data.toList ++ bs) = bs from rfl] at this
    exact congrArg (fun r : Result ByteArray => r.andThen fun a w' => Result.ok (Value.string a) w') this
theorem o_toBytes (ht : TabOk P tab) {S T E : TypeId} {x : Operand} {s : ByteArray} (hx : evalO ρ x = some (.string s)) (hS : undOf tab S = some .string) (hT : undOf tab T = some (.slice E)) (hE : undOf tab E = some (.int .u8)) (hd : Nat.blt d n = true)
    (h : ∀ v hp, OwnB E v s.data.toList hp → RO P n ops rest ((d, v) :: ρ) K (hp :: hs) Q) : RO P n ops (⟨some d, .convert S T x, ty, pos, after, none⟩ :: rest) ρ K hs Q := by
  refine RO.val (s := convert S T (.string s)) hd (fun e he => by simp only [execOp, he.eval hx]) ?_
  unfold convert
  refine .bind (.known (a := .string) (fun w => by simp [underlying, undOf_run ht hS]) ?_)
  refine .bind (.known (a := .slice E) (fun w => by simp [underlying, undOf_run ht hT]) ?_)
  simp only []
  refine .bind (.known (a := .int .u8) (fun w => by simp [underlying, undOf_run ht hE]) ?_)
  simp only []
  unfold Conv.stringToBytes
  refine .bind (.choose fun q hq => ?_)
  have hq2 : s.size ≤ q := by
    obtain ⟨t, rfl⟩ := hq rfl
    simp only [Question.cut]; omega
  unfold newRow
  refine .bind (.bind (.newObj fun b => .pure ?_))
  unfold markStringish
  have hc : (s.data.map (fun b => Value.int .u8 b.toNat) ++ Array.replicate (q - s.size) (Value.int .u8 0)) = (s.data.toList.map byteV ++ List.replicate (q - s.size) (Value.int .u8 0)).toArray := by
    apply Array.ext'
    simp [byteV]
  have hsz : (s.data.toList.map byteV ++ List.replicate (q - s.size) (Value.int .u8 0)).length = q := by
    simp only [List.length_append, List.length_map, List.length_replicate, Array.length_toList]
    show s.size + (q - s.size) = q
    omega
  rw [hc]
  refine .bind (.bind (.shape (c := (s.data.toList.map byteV ++ List.replicate (q - s.size) (Value.int .u8 0)).toArray) (T := E) (fz := (0, 0)) ⟨_, List.mem_append_right _ List.mem_cons_self, one_self _ _⟩ ?_))
  simp only []
  refine .freeze (i := 0) (b := b) rfl (by omega) (.pure ?_)
  refine h _ _ ⟨s.data.toList.map byteV, rows_bytes.2 rfl, by simp, .inr ⟨b, q, _, _, ?_, ?_, rfl, by rw [hsz]; simp, ?_⟩⟩
  · simp
  · simpa using hq2
  · right
    simp only [beq_self_eq_true, if_true, Nat.mul_one, List.size_toArray, hsz]
    exact Nat.le_refl _
end
end Go.Proofs.YtonnncdolofccaaGreat
