/- icehouselaw08.StoreGets: what it computes. Conditions: none.
   From the readings of arguments to parts of the heap that are read. Conditions: none.
   icehouselaw08.StoreGets: WHATEVER THE INPUT (up to the bound of the second form): true. Conditions: the bound of the second form. -/
import Derived.Test.YtonnncdolofccaaGreatQf
import Derived.Test.YtonnncdolofccaaGreatRows
import Derived.Deep.Slices
import Derived.ChangeArms
import Derived.OpenShut
import Derived.JoinedCond
import Derived.Carry
import Derived.WalkKit
import Derived.ProofKit
namespace Go.Proofs.YtonnncdolofccaaGreat
attribute [local irreducible] RC RO EvE DR OpV Fn SlOf OwnSl postQ Src Rows Rdb CellsAt thenQ blockQ noGotoQ
set_option linter.unusedSimpArgs false
set_option linter.unusedVariables false

/-! ### the plain law -/
theorem cmpT_le (t u : Tg) : cmpT t u ≤ 0 ↔ t.seq < u.seq ∨ t.seq = u.seq ∧ (t.who < u.who ∨ t.who = u.who ∧ t.op ≤ u.op) := by
  unfold cmpT orI cmpI
  repeat' split
  all_goals omega
theorem cmpT_lt (t u : Tg) : 0 < cmpT t u ↔ u.seq < t.seq ∨ u.seq = t.seq ∧ (u.who < t.who ∨ u.who = t.who ∧ u.op < t.op) := by
  unfold cmpT orI cmpI
  repeat' split
  all_goals omega
theorem cmpT_self (t : Tg) : cmpT t t ≤ 0 := by rw [cmpT_le]; omega
theorem findE_cons (x : En) (xs : List En) (k : List UInt8) : findE (x :: xs) k = if x.key = k then some x else findE xs k := by
  unfold findE
  rw [List.find?_cons]
  by_cases h : x.key = k <;> simp [h]
theorem findE_updE (es : List En) (e : En) (k : List UInt8) : findE (updE es e) k = if e.key = k then some e else findE es k := by
  induction es with
  | nil => rw [updE, findE_cons]
  | cons x xs ih =>
    unfold updE
    by_cases hx : x.key = e.key
    · rw [if_pos hx, findE_cons, findE_cons, hx]
      split <;> rfl
    · rw [if_neg hx, findE_cons, findE_cons, ih]
      by_cases h1 : x.key = k
      · rw [if_pos h1, if_neg (fun h => hx (by rw [h1, h]))]
        simp [h1]
      · rw [if_neg h1, if_neg h1]
theorem ofE_updE (es : List En) (e : En) (k : List UInt8) : ofE (updE es e) k = if e.key = k then e else ofE es k := by
  unfold ofE
  rw [findE_updE]
  split <;> rfl
theorem ofE_key (es : List En) (k : List UInt8) : (ofE es k).key = k := by
  unfold ofE
  cases h : findE es k with
  | none => rfl
  | some e => exact (findE_mem h).2
theorem ofE_blen {es : List En} (h : ∀ e, e ∈ es → right e = true) (k : List UInt8) : (ofE es k).b.length ≤ 60000 := by
  unfold ofE
  cases hf : findE es k with
  | none => exact Nat.zero_le _
  | some e => exact (right_blen (h e (findE_mem hf).1)).1
/-- what lasts is no newer -/
def Ord (s : St) : Prop := ∀ k, cmpT (ofE s.lasts k).tag (ofE s.newer k).tag ≤ 0
theorem Ord.put {s : St} (h : Ord s) (e : En) (who : Int) : Ord (putF s e who).1 := by
  unfold putF
  split
  · split
    · rename_i hc
      split
      · intro k
        have h1 := h k
        show cmpT (ofE s.lasts k).tag (ofE (layE s.newer e) k).tag ≤ 0
        unfold layE
        rw [if_pos (by omega), ofE_updE]
        split
        · rename_i hk
          rw [hk] at hc
          rw [cmpT_le] at h1 ⊢
          rw [cmpT_lt] at hc
          omega
        · exact h1
      · exact h
    · exact h
  · exact h
theorem Ord.done {s : St} (h : Ord s) (d : Do) : Ord (doneF s d).1 := by
  unfold doneF
  split
  · exact h.put _ _
  · split
    · exact fun k => cmpT_self _
    · split
      · unfold compF
        split
        · exact fun k => cmpT_self _
        · exact h
      · unfold crashF
        split
        · exact h
        · split
          · exact fun k => cmpT_self _
          · exact h
theorem sameF_self (e : En) : sameF e e = true := by simp [sameF, sameValF]

/-! ### the walk -/
theorem gets_spec {l : List Do} {key : List UInt8} {x : Option Addr} {c : Nat} {K M : List Hp} (hx : SlOf K (DoR M) 9 x l) (hM : Le M K) (hc : l.length ≤ c) (hl : l.length ≤ 10000000) (hn : longF l ≤ 1000000000) :
    Fn Tryz.prog 3 [.slice x l.length c, .string (str key)] K [] fun r hs' => r = .bool true ∧ hs' = [] := by
  have hks := str_size key
  refine Fn.enter Tryz.func3 rfl rfl ?_; simp only [Tryz.ntmps3, argEnv, Nat.reduceAdd]
  repeat (first | refine goX ?_ | refine alX fun b => ?_)
  refine RO.call0 rfl rfl rfl Tryz.func6 rfl (by kernel_rfl) (long_spec (l := l) (M := M) (hx.sub (Sub.left _ _)) hc hn (by omega)) ?_
  rintro v hs' ⟨rfl, rfl⟩
  by_cases h1 : 1500 < longF l
  · repeat (first | refine goX ?_ | refine alX fun b => ?_)
    refine RO.call0 rfl rfl rfl Tryz.func7 rfl (by kernel_rfl) known_spec ?_
    rintro v hs' ⟨rfl, rfl⟩
    repeat (first | refine goX ?_ | refine alX fun b => ?_)
    refine post_ret (hs' := []) [_] rfl ⟨rfl, rfl⟩ (List.nil_sublist _) ?_
    exact ⟨rfl, rfl⟩
  have hl75 : l.length ≤ 75 := by
    have h2 : ∀ l : List Do, 20 * l.length ≤ longF l := fun l => by
      induction l with
      | nil => exact Nat.zero_le _
      | cons d l ih => unfold longF at ih ⊢; simp only [List.length_cons, List.map_cons, List.sum_cons]; omega
    have := h2 l
    omega
  by_cases h2 : 300 < key.length
  · repeat (first | refine goX ?_ | refine alX fun b => ?_)
    refine RO.call0 rfl rfl rfl Tryz.func7 rfl (by kernel_rfl) known_spec ?_
    rintro v hs' ⟨rfl, rfl⟩
    repeat (first | refine goX ?_ | refine alX fun b => ?_)
    refine post_ret (hs' := []) [_] rfl ⟨rfl, rfl⟩ (List.nil_sublist _) ?_
    exact ⟨rfl, rfl⟩
  repeat (first | refine goX ?_ | refine alX fun b => ?_)
  refine RO.call0 rfl rfl rfl Tryz.func8 rfl (by kernel_rfl) (snew_spec) ?_
  rintro v hs' ⟨h, o, rfl⟩
  have o1 := o.t
  obtain ⟨bp, rfl⟩ := o1.ptr
  repeat (first | refine goX ?_ | refine alX fun b => ?_)
  refine RC.loopI (fun s : Nat × Nat × St × Hp => [(6, .int .i64 (s.1 : Int)), (5, .pointer (some ⟨s.2.1, 0, none⟩)), (0, .slice x l.length c), (1, .string (str key))]) (fun s => [s.2.2.2])
    (fun s => s.1 ≤ l.length ∧ IsT (.pointer (some ⟨s.2.1, 0, none⟩)) s.2.2.1 s.2.2.2 ∧ SOk s.1 s.2.2.1 ∧ Ord s.2.2.1) (fun s => l.length - s.1) (0, bp, St.zero, h) ⟨Nat.zero_le _, o1, SOk.zero, fun k => by rw [cmpT_le]; exact .inr ⟨rfl, .inr ⟨rfl, Int.le_refl _⟩⟩⟩ leX (Imp.take (junk := _) pmX) ?_
  rintro ⟨i, bp, s, h⟩ ⟨hi, o1, hs, ord⟩
  simp only at hi o1 hs ord ⊢
  have hal := hs.al
  by_cases h3 : i = l.length
  · repeat (first | refine goX ?_ | refine alX fun b => ?_)
    refine RO.call1 0 rfl rfl rfl Tryz.func13 rfl (by kernel_rfl) rfl rfl (twaiting_spec o1) ?_
    rintro v hs' ⟨rfl, rfl⟩
    repeat (first | refine goX ?_ | refine alX fun b => ?_)
    refine RO.call1 0 rfl rfl rfl Tryz.func14 rfl (by kernel_rfl) rfl rfl (ttick_spec o1 hs.g) ?_
    rintro v hs' ⟨va, h4, h5, rfl, o4, oa, rfl⟩
    obtain ⟨aa, ca, rfl, hca, hSa⟩ := OwnOf.rows oa
    repeat (first | refine goX ?_ | refine alX fun b => ?_)
    refine RO.call1 0 rfl rfl rfl Tryz.func13 rfl (by kernel_rfl) rfl rfl (twaiting_spec o4) ?_
    rintro v hs' ⟨rfl, rfl⟩
    repeat (first | refine goX ?_ | refine alX fun b => ?_)
    refine RO.call1 0 rfl rfl rfl Tryz.func10 rfl (by kernel_rfl) rfl rfl (tget_spec (k := key) o4 hs.tick.lk) ?_
    rintro v hs' ⟨h6, oe6, rfl⟩
    repeat (first | refine goX ?_ | refine alX fun b => ?_)
    refine RO.call1 0 rfl rfl rfl Tryz.func11 rfl (by kernel_rfl) rfl rfl (tnewest_spec (k := key) o4 hs.tick.nk) ?_
    rintro v hs' ⟨h7, oe7, rfl⟩
    repeat (first | refine goX ?_ | refine alX fun b => ?_)
    refine RO.call0 rfl rfl rfl Tryz.func15 rfl (by kernel_rfl) (rsame_spec (oe6.enV.sub sbX) (oe7.enV.sub sbX) ?_) ?_
    · have := ofE_blen hs.tick.lk key
      omega
    rintro v hs' ⟨rfl, rfl⟩
    rw [show (tickF s).lasts = s.newer from rfl, show (tickF s).newer = s.newer from rfl, sameF_self]
    repeat (first | refine goX ?_ | refine alX fun b => ?_)
    refine RO.call0 rfl rfl rfl Tryz.func7 rfl (by kernel_rfl) known_spec ?_
    rintro v hs' ⟨rfl, rfl⟩
    repeat (first | refine goX ?_ | refine alX fun b => ?_)
    refine post_ret (hs' := []) [_] rfl ⟨rfl, rfl⟩ (List.nil_sublist _) ?_
    exact ⟨rfl, rfl⟩
  · obtain ⟨d, hd⟩ : ∃ d, l[i]? = some d := ⟨_, List.getElem?_eq_getElem (by omega)⟩
    repeat (first | refine goX ?_ | refine alX fun b => ?_)
    refine o_indexAddr tb (R := _) (sz := 9) rfl rfl rfl rfl rfl hx (by omega) (by omega) (by first | exact hd | simpa using hd) rfl ?_
    rintro b' off vs hdr _ hcell
    have hdr2 := hdr
    obtain ⟨a9, c9, rfl, _, _⟩ := hdr2
    repeat (first | refine goX ?_ | refine alX fun b => ?_)
    refine RO.call1 0 rfl rfl rfl Tryz.func9 rfl (by kernel_rfl) rfl rfl (done_spec (d := d) (M := M) o1 rfl hdr (hM.trans (Le.sub (Sub.left _ _))) hs.g (by omega) (hs.n (by omega))) ?_
    rintro v hs' ⟨u, va, h4, h5, rfl, o4, oa, rfl⟩
    have hs4 := hs.done d
    have ord4 := ord.done d
    generalize doneF s d = q at *
    obtain ⟨s2, l2, e2⟩ := q
    simp only at o4 oa hs4 ord4 ⊢
    obtain ⟨bu, rfl⟩ := o4.ptr
    obtain ⟨aa, ca, rfl, hca, hSa⟩ := OwnOf.rows oa
    repeat (first | refine goX ?_ | refine alX fun b => ?_)
    refine RO.call1 0 rfl rfl rfl Tryz.func10 rfl (by kernel_rfl) rfl rfl (tget_spec (k := key) o4 hs4.lk) ?_
    rintro v hs' ⟨h6, ⟨u6, rfl, ou6⟩, rfl⟩
    obtain ⟨a6, c6, rfl, _, _⟩ := OwnOf.rows ou6
    repeat (first | refine goX ?_ | refine alX fun b => ?_)
    refine RO.call1 1 rfl rfl rfl Tryz.func11 rfl (by kernel_rfl) rfl rfl (tnewest_spec (k := key) o4 hs4.nk) ?_
    rintro v hs' ⟨h7, ⟨u7, rfl, ou7⟩, rfl⟩
    obtain ⟨a7, c7, rfl, _, _⟩ := OwnOf.rows ou7
    have ho := ord4 key
    repeat (first | refine goX ?_ | refine alX fun b => ?_)
    simp only [ofE_key, decide_true, Bool.not_true]
    repeat (first | refine goX ?_ | refine alX fun b => ?_)
    simp only [decide_true, Bool.not_true]
    repeat (first | refine goX ?_ | refine alX fun b => ?_)
    refine RO.call0 rfl rfl rfl Tryz.func12 rfl (by kernel_rfl) (rcompare_spec (ofE s2.lasts key).tag (ofE s2.newer key).tag _) ?_
    rintro v hs' ⟨rfl, rfl⟩
    repeat (first | refine goX ?_ | refine alX fun b => ?_)
    refine ⟨(i + 1, bu, s2, h4), ⟨by simp only; omega, o4, hs4, ord4⟩, by simp only; omega, leX, Imp.take (junk := _) pmX⟩
end Go.Proofs.YtonnncdolofccaaGreat

namespace Go.Proofs.YtonnncdolofccaaGreat
open Go.ChangeShapes Go.WideShapes Go.ChangeAt Go.RowKit Go.Deep

/-- the heap of a world, as one part -/
def wH (w : World) : Hp := fun b => w.heap[b]?
theorem owned_wH (w : World) : Owned (wH w) [] w := ⟨(fun _ h => by cases h), List.Pairwise.nil, fun _ _ e => e, (fun _ h => by cases h)⟩
theorem kin_wH (w : World) : KIn [wH w] (wH w) := fun h hh b o e => by rw [List.mem_singleton.1 hh] at e; exact e
theorem cell_wH {w : World} {a : Addr} {v : Value} (h : w.cell? a = some v) : a.spot = none ∧ CellIn [wH w] ⟨a.block, a.off, none⟩ v := by
  unfold World.cell? at h
  split at h
  · rename_i c T fz hb
    split at h
    · cases h
    · rename_i hs
      have hs' : a.spot = none := by simpa using hs
      exact ⟨hs', rfl, c, T, fz, ⟨_, List.mem_singleton.2 rfl, hb⟩, h⟩
  · cases h

section
variable {H : Type} {enc : TypeId × Value → H} {P : Program} {w : World} {fuel : Nat} {t : TypeId} {cs : List Value} {x : DataW H × List MemPlace}
abbrev TR (enc : TypeId × Value → H) (P : Program) (w : World) (n : Nat) (t : TypeId) (cs : List Value) : Option (DataW H × List MemPlace) := DataW.trod enc P w 0 (fun _ => true) true n t cs

theorem bulk_pos (d : DataW H) : 1 ≤ Rows.uptoBulk d := by
  cases d with
  | lit l => cases l <;> simp [Rows.uptoBulk]
  | nil => simp [Rows.uptoBulk]
  | ptr d => simp [Rows.uptoBulk]
  | slice elems spare => simp [Rows.uptoBulk]
  | agg parts => simp [Rows.uptoBulk]
  | iface t d => simp [Rows.uptoBulk]
  | map entries => simp [Rows.uptoBulk]
  | held h => simp [Rows.uptoBulk]
theorem bulk_sum (l : List (DataW H)) : Rows.uptoBulkAll l = (l.map Rows.uptoBulk).sum := by
  induction l with
  | nil => simp [Rows.uptoBulkAll]
  | cons d l ih => simp only [Rows.uptoBulkAll, List.map_cons, List.sum_cons, ih]
theorem sum_le {α : Type} {f g : α → Nat} : ∀ l : List α, (∀ x, x ∈ l → f x ≤ g x) → (l.map f).sum ≤ (l.map g).sum
  | [], _ => Nat.le_refl _
  | x :: l, h => by
    have h1 := sum_le l fun y hy => h y (List.mem_cons_of_mem _ hy)
    have h2 := h x List.mem_cons_self
    simp only [List.map_cons, List.sum_cons]; omega
theorem len_le_sum {α : Type} {f : α → Nat} : ∀ l : List α, (∀ x, x ∈ l → 1 ≤ f x) → l.length ≤ (l.map f).sum
  | [], _ => Nat.le_refl _
  | x :: l, h => by
    have h1 := len_le_sum l fun y hy => h y (List.mem_cons_of_mem _ hy)
    have h2 := h x List.mem_cons_self
    simp only [List.map_cons, List.sum_cons, List.length_cons]; omega
theorem mem_le_sum {α : Type} {f : α → Nat} : ∀ (l : List α) (x : α), x ∈ l → f x ≤ (l.map f).sum
  | y :: l, x, h => by
    simp only [List.map_cons, List.sum_cons]
    rcases List.mem_cons.1 h with rfl | h
    · omega
    · have := mem_le_sum (f := f) l x h; omega

theorem rows_from {α : Type} {R : α → List Value → Prop} {sz len : Nat} {a : Addr} {f : Nat → α} (hf : ∀ i, i < len → ∃ cs, w.cells? 0 (a.add (i * sz)) sz = some cs ∧ R (f i) cs) :
    ∀ m k, k + m = len → ∃ ds, Rows R sz ((List.range' k m).map f) ds ∧ ∀ j v, ds[j]? = some v → w.cell? (a.add (k * sz + j)) = some v := by
  intro m
  induction m with
  | zero => intro k _; exact ⟨[], rfl, fun j v h => by simp at h⟩
  | succ m ih =>
    intro k hk
    obtain ⟨ds, hr, hc⟩ := ih (k + 1) (by omega)
    obtain ⟨cs, h1, h2⟩ := hf k (by omega)
    obtain ⟨_, hl, hat⟩ := World.cells?_some h1
    refine ⟨cs ++ ds, ⟨cs, ds, rfl, hl, h2, hr⟩, fun j v hj => ?_⟩
    by_cases h : j < sz
    · rw [List.getElem?_append_left (by omega)] at hj
      rw [← add_add, hat j h]; exact hj
    · rw [List.getElem?_append_right (by omega), hl] at hj
      have := hc (j - sz) v hj
      rw [show (k + 1) * sz + (j - sz) = k * sz + j by rw [Nat.add_mul]; omega] at this
      exact this

/-- A SLICE, by what its elements read as -/
theorem rd_slice {α : Type} {R : α → List Value → Prop} {sz : Nat} {e : TypeId} (wt : α → Nat) (ht : P.underlying t = some (.slice e)) (hsz : P.cellsOf e = sz) (hz : 0 < sz)
    (hel : ∀ n cs x, TR enc P w n e cs = some x → ∃ y, R y cs ∧ wt y ≤ Rows.uptoBulk x.1) (h : TR enc P w fuel t cs = some x) :
    ∃ (a : Option Addr) (c : Nat) (xs : List α), cs = [.slice a xs.length c] ∧ xs.length ≤ c ∧ SlOf [wH w] R sz a xs ∧ (xs.map wt).sum ≤ Rows.uptoBulk x.1 ∧ xs.length ≤ Rows.uptoBulk x.1 := by
  rcases open_slice ht h with ⟨rfl, rfl⟩ | ⟨a, len, cap, m, n, D, Pl, rfl, _, hl, _, hm, rfl, hi⟩
  · exact ⟨none, 0, [], rfl, Nat.le_refl _, SlOf.nil _, by simp, by simp⟩
  · have hm' : m = cap := by simpa using hm
    subst hm'
    rw [hsz] at hi
    have ex : ∀ i, i < len → ∃ y : α, ∃ cs, w.cells? 0 (a.add (i * sz)) sz = some cs ∧ R y cs ∧ wt y ≤ Rows.uptoBulk (D i) := fun i h => by
      obtain ⟨cs, h1, h2⟩ := hi i (by omega)
      obtain ⟨y, h3, h4⟩ := hel n cs _ h2
      exact ⟨y, cs, h1, h3, h4⟩
    have bl : Rows.uptoBulkAll ((List.range len).map D) + 1 ≤ Rows.uptoBulk (DataW.slice ((List.range len).map D) ((List.range (m - len)).map fun j => D (len + j))) := by
      simp only [Rows.uptoBulk]; omega
    have hlen : len ≤ Rows.uptoBulkAll ((List.range len).map D) := by
      rw [bulk_sum]
      have := len_le_sum (f := Rows.uptoBulk) ((List.range len).map D) (fun d _ => bulk_pos d)
      simpa using this
    cases len with
    | zero => exact ⟨some a, m, [], rfl, Nat.zero_le _, SlOf.nil _, by simp, by simp⟩
    | succ len =>
      obtain ⟨y0, _⟩ := ex 0 (by omega)
      have : Inhabited α := ⟨y0⟩
      obtain ⟨f, hf⟩ := choose_lt ex
      have hcell : ∀ i, i < len + 1 → ∃ cs, w.cells? 0 (a.add (i * sz)) sz = some cs ∧ R (f i) cs := fun i h => by
        obtain ⟨cs, h1, h2, _⟩ := hf i h; exact ⟨cs, h1, h2⟩
      obtain ⟨ds, hr, hc⟩ := rows_from hcell (len + 1) 0 (by omega)
      refine ⟨some a, m, (List.range (len + 1)).map f, by simp, by simpa using hl, ⟨ds, ?_, ?_⟩, ?_, ?_⟩
      · rw [List.range_eq_range']; exact hr
      · by_cases h0 : ds = []
        · exfalso
          rw [h0, List.range'_succ, List.map_cons] at hr
          obtain ⟨vs, cs', e1, e2, _⟩ := hr
          have : vs = [] := by
            cases vs with
            | nil => rfl
            | cons v vs => simp at e1
          rw [this] at e2; simp at e2; omega
        · obtain ⟨v0, hv0⟩ : ∃ v, ds[0]? = some v := ⟨_, List.getElem?_eq_getElem (List.length_pos_iff.2 h0)⟩
          have hs := (cell_wH (hc 0 v0 hv0)).1
          have hs' : a.spot = none := by simpa [Addr.add] using hs
          refine .inr ⟨a.block, a.off, ?_, rfl, fun j v h => ?_⟩
          · obtain ⟨b, o, s⟩ := a
            simp only at hs'
            subst hs'; rfl
          · have := (cell_wH (hc j v h)).2
            rw [Nat.zero_mul, Nat.zero_add] at this
            by_cases hj0 : j = 0
            · subst hj0; simpa [Addr.add] using this
            · simpa [Addr.add, hj0] using this
      · rw [bulk_sum] at bl
        have := sum_le (f := fun i => wt (f i)) (g := fun i => Rows.uptoBulk (D i)) (List.range (len + 1)) (fun i hi => by
          obtain ⟨_, _, _, h4⟩ := hf i (by simpa using hi); exact h4)
        rw [List.map_map] at bl ⊢
        simp only [Function.comp_def] at bl ⊢
        exact Nat.le_trans this (Nat.le_trans (Nat.le_succ _) bl)
      · rw [List.length_map, List.length_range]
        exact Nat.le_trans hlen (Nat.le_trans (Nat.le_succ _) bl)
end
end Go.Proofs.YtonnncdolofccaaGreat

namespace Go.Proofs.YtonnncdolofccaaGreat
open Go.ChangeShapes Go.WideShapes Go.ChangeAt Go.RowKit Go.Deep

section
variable {H : Type} {enc : TypeId × Value → H} {w : World} {n : Nat} {cs : List Value} {x : DataW H × List MemPlace}
theorem fld {P : Program} {fs : Array Field} {xs : List (DataW H × List MemPlace)} (hg : ∀ (i : Nat) (f : Field), fs[i]? = some f → DataW.trod enc P w 0 (fun _ => true) true n f.type ((cs.drop f.offset).take (P.cellsOf f.type)) = xs[i]?) (i : Nat) {f : Field} (t off k : Nat) (hf : fs[i]? = some f) (ht : f.type = t) (ho : f.offset = off) (hk : P.cellsOf t = k) :
    TR enc P w n t ((cs.drop off).take k) = xs[i]? := by
  have := hg i f hf
  rw [ht, ho, hk] at this
  exact this
theorem rd_bytes (h : TR enc Tryz.prog w n 33 cs = some x) : ∃ a c bs, cs = [.slice a bs.length c] ∧ bs.length ≤ c ∧ SlOf [wH w] ByteR 1 a bs ∧ bs.length ≤ Rows.uptoBulk x.1 := by
  obtain ⟨a, c, bs, h1, h2, h3, _, h5⟩ := rd_slice (α := UInt8) (R := ByteR) (sz := 1) (fun _ => 0) Tryz.underlying33 (by kernel_rfl) (by omega) (fun n cs x h => by
    obtain ⟨k, rfl, rfl, hw⟩ := DataW.trod_int Tryz.underlying5 h
    refine ⟨UInt8.ofNat k.toNat, ?_, Nat.zero_le _⟩
    have hb : 0 ≤ k ∧ k ≤ 255 := by simpa [Lit.wf, IntKind.min, IntKind.max, IntKind.signed, IntKind.bits] using hw
    unfold ByteR byteV
    have : ((UInt8.ofNat k.toNat).toNat : Int) = k := by
      rw [UInt8.toNat_ofNat']; omega
    rw [this]) h
  exact ⟨a, c, bs, h1, h2, h3, h5⟩
set_option maxRecDepth 100000 in
theorem rd_entry (h : TR enc Tryz.prog w n 37 cs = some x) : ∃ e, EnR [wH w] e cs ∧ e.key.length + e.b.length ≤ Rows.uptoBulk x.1 := by
  obtain ⟨xs, m, rfl, rfl, hcl, hxl, hg⟩ := DataW.trod_struct Tryz.underlying37 h
  rw [show Tryz.prog.cellsOf 37 = 6 by kernel_rfl] at hcl
  match cs, hcl, xs, hxl with
  | [c0, c1, c2, c3, c4, c5], _, [x0, x1, x2], _ =>
    have g0 := fld hg 0 9 0 1 rfl rfl rfl (by kernel_rfl)
    have g1 := fld hg 1 32 1 3 rfl rfl rfl (by kernel_rfl)
    have g2 := fld hg 2 35 4 2 rfl rfl rfl (by kernel_rfl)
    obtain ⟨s, e0, rfl, _⟩ := DataW.trod_string Tryz.underlying9 g0
    obtain ⟨ys, m1, rfl, rfl, _, hyl, hy⟩ := DataW.trod_struct Tryz.underlying32 g1
    obtain ⟨zs, m2, _, rfl, _, hzl, hz⟩ := DataW.trod_struct Tryz.underlying35 g2
    match ys, hyl, zs, hzl with
    | [y0, y1, y2], _, [z0, z1], _ =>
      have k0 := fld hy 0 3 0 1 rfl rfl rfl (by kernel_rfl)
      have k1 := fld hy 1 3 1 1 rfl rfl rfl (by kernel_rfl)
      have k2 := fld hy 2 3 2 1 rfl rfl rfl (by kernel_rfl)
      have l0 := fld hz 0 4 0 1 rfl rfl rfl (by kernel_rfl)
      have l1 := fld hz 1 33 1 1 rfl rfl rfl (by kernel_rfl)
      obtain ⟨i0, e1, _, _⟩ := DataW.trod_int Tryz.underlying3 k0
      obtain ⟨i1, e2, _, _⟩ := DataW.trod_int Tryz.underlying3 k1
      obtain ⟨i2, e3, _, _⟩ := DataW.trod_int Tryz.underlying3 k2
      obtain ⟨b, e4, _⟩ := DataW.trod_bool Tryz.underlying4 l0
      obtain ⟨a, c, bs, e5, hc, hS, hb⟩ := rd_bytes l1
      simp only [List.drop_zero, List.drop_succ_cons, List.take_succ_cons, List.take_zero, List.cons.injEq, and_true] at e0 e1 e2 e3 e4 e5
      subst e0; subst e1; subst e2; subst e3; subst e4; subst e5
      refine ⟨⟨s.data.toList, ⟨i0, i1, i2⟩, b, bs⟩, ⟨a, c, by rw [str_of], hc, hS⟩, ?_⟩
      simp only [List.map_cons, List.map_nil, Rows.uptoBulk, Rows.uptoBulkAll]
      omega
set_option maxRecDepth 100000 in
theorem rd_do (h : TR enc Tryz.prog w n 39 cs = some x) : ∃ d, DoR [wH w] d cs ∧ d.e.key.length + d.e.b.length ≤ Rows.uptoBulk x.1 := by
  obtain ⟨xs, m, rfl, rfl, hcl, hxl, hg⟩ := DataW.trod_struct Tryz.underlying39 h
  rw [show Tryz.prog.cellsOf 39 = 9 by kernel_rfl] at hcl
  match cs, hcl, xs, hxl with
  | [c0, c1, c2, c3, c4, c5, c6, c7, c8], _, [x0, x1, x2, x3], _ =>
    have g0 := fld hg 0 3 0 1 rfl rfl rfl (by kernel_rfl)
    have g1 := fld hg 1 37 1 6 rfl rfl rfl (by kernel_rfl)
    have g2 := fld hg 2 3 7 1 rfl rfl rfl (by kernel_rfl)
    have g3 := fld hg 3 3 8 1 rfl rfl rfl (by kernel_rfl)
    obtain ⟨i0, e0, _, _⟩ := DataW.trod_int Tryz.underlying3 g0
    obtain ⟨i2, e2, _, _⟩ := DataW.trod_int Tryz.underlying3 g2
    obtain ⟨i3, e3, _, _⟩ := DataW.trod_int Tryz.underlying3 g3
    obtain ⟨e, ⟨a, c, e1, hc, hS⟩, hb⟩ := rd_entry g1
    simp only [List.drop_zero, List.drop_succ_cons, List.take_succ_cons, List.take_zero, List.cons.injEq, and_true] at e0 e1 e2 e3
    obtain ⟨rfl, rfl, rfl, rfl, rfl, rfl⟩ := e1
    subst e0; subst e2; subst e3
    refine ⟨⟨i0, e, i2, i3⟩, ⟨a, c, rfl, hc, hS⟩, ?_⟩
    simp only [List.map_cons, List.map_nil, Rows.uptoBulk, Rows.uptoBulkAll] at hb ⊢
    omega
theorem rd_dos (h : TR enc Tryz.prog w n 22 cs = some x) (hb : Rows.uptoBulk x.1 ≤ 1048576) : ∃ a c l, cs = [.slice a l.length c] ∧ l.length ≤ c ∧ SlOf [wH w] (DoR [wH w]) 9 a l ∧ l.length ≤ 1048576 ∧ longF l ≤ 1000000000 := by
  obtain ⟨a, c, l, h1, h2, h3, h4, h5⟩ := rd_slice (α := Do) (R := DoR [wH w]) (sz := 9) (fun d => d.e.key.length + d.e.b.length) Tryz.underlying22 (by kernel_rfl) (by omega) (fun n cs x h => rd_do h) h
  refine ⟨a, c, l, h1, h2, h3, by omega, ?_⟩
  have : ∀ l : List Do, longF l = 20 * l.length + (l.map fun d => d.e.key.length + d.e.b.length).sum := fun l => by
    unfold longF
    induction l with
    | nil => rfl
    | cons d l ih => simp only [List.map_cons, List.sum_cons, List.length_cons, ih]; omega
  rw [this]; omega
end

/-- what a law's row asks behind the call -/
theorem trodAll_below {H : Type} {enc : TypeId × Value → H} {P : Program} (hl : laidOutB P = true) {W W' : World} (hb : Below W.heap.size W W') : ∀ {ts : List TypeId} {vs : List Value} {ds : List (DataW H)} {ps : List MemPlace}, (ts.all fun t => P.readableRec t && decide (t < P.types.size)) = true →
    DataW.TrodAll enc P W 0 (fun _ => true) true ts vs ds ps → (∀ x, x ∈ ps → x.block < W.heap.size) → DataW.TrodAll enc P W' 0 (fun b => decide (b < W.heap.size)) true ts vs ds ps
  | [], vs, ds, ps, _, h, _ => by
    obtain ⟨rfl, rfl, rfl⟩ := trodAll_nil h
    exact trodAll_mk0
  | t :: ts, vs, ds, ps, ha, h, hp => by
    obtain ⟨v, vs', d, ds', p, q, rfl, rfl, rfl, h0, h1⟩ := trodAll_cons h
    simp only [List.all_cons, Bool.and_eq_true, decide_eq_true_eq] at ha
    refine trodAll_cons_mk (Below.trod hl ha.1.1 ha.1.2 h0 hb fun x hx => hp x (List.mem_append_left _ hx)) (trodAll_below hl hb ?_ h1 fun x hx => hp x (List.mem_append_right _ hx))
    simpa using ha.2
theorem law_post {H : Type} {enc : TypeId × Value → H} {P : Program} {f : Func} {s : ChangeSpec} {W W' : World} {args : Array Value} {ds gs : List (DataW H)} {before : List MemPlace} (hl : laidOutB P = true) (hr : (f.params.toList.all fun t => P.readableRec t && decide (t < P.types.size)) = true) (hv : s.vars = [])
    (hres : f.resultTypes = #[4]) (hP : P.underlying 4 = some .bool) (hW : DataW.Whole enc P f.params.toList s.vars false W args.toList ds gs before) (hs : s.fn H (ds ++ gs) = { results := [.lit (.bool true)], args := ds }) (hb : Below W.heap.size W W') : s.post enc P f false true false false W args (.bool true) W' := by
  have hW' := hW
  obtain ⟨p, q, hA, hV, rfl, hfz, -⟩ := hW
  have hV' := hV
  rw [hv] at hV'
  obtain ⟨rfl, rfl⟩ := trodVars_none hV'
  have hlt : ∀ x, x ∈ p → x.block < W.heap.size := fun x hx => hW'.lt x (List.mem_append_left _ hx)
  refine ⟨ds, [], p ++ [], [], p, [], hW', ?_, ?_, ?_, World.keptBut_mono (fun x hx => ⟨hx, .inr (.inl (by simpa using hx))⟩) (hb.frame _), fun h => by cases h⟩
  · rw [hs, hres]
    exact trodAll_cons_mk (shut_bool hP _) trodAll_mk0
  · rw [hs]
    exact trodAll_below hl hb hr hA hlt
  · rw [hs, hv]; exact rfl

namespace storeGets
theorem own : ownKnob Tryz.prog.godebug = none := by kernel_rfl
set_option maxRecDepth 100000 in
theorem contract (H : Type) (enc : TypeId × Value → H) (W : World) (base : Nat) (args : Array Value) (ds gs : List (DataW H)) (before : List MemPlace)
    (hval : ∀ (j : Nat) t v, Tryz.f3.params[j]? = some t → args[j]? = some v → Value.okWide Tryz.prog W .any base t v)
    (hW : DataW.Whole enc Tryz.prog Tryz.f3.params.toList Rows.storeGetsSpec.vars false W args.toList ds gs before) (hk : Rows.uptoSmall H (ds ++ gs) = true) :
    Calls Tryz.prog 3 args W fun e W' => ∃ v, e = .returned v ∧ Rows.storeGetsSpec.post enc Tryz.prog Tryz.f3 false true false false W args v W' := by
  have hW' := hW
  obtain ⟨p, q, hA0, hV, rfl, hfz, hnd⟩ := hW
  have hA : DataW.TrodAll enc Tryz.prog W 0 (fun _ => true) true Tryz.f3.params.toList args.toList ds p := hA0
  rw [Tryz.params3] at hA hval
  obtain ⟨v0, vs0, d0, ds0, p0, q0, hargs, rfl, rfl, h0, r0⟩ := trodAll_cons hA
  obtain ⟨v1, vs1, d1, ds1, p1, q1, rfl, rfl, rfl, h1, r1⟩ := trodAll_cons r0
  obtain ⟨rfl, rfl, rfl⟩ := trodAll_nil r1
  obtain rfl : args = #[v0, v1] := by cases args; simp_all
  obtain ⟨rfl, rfl⟩ := trodVars_none hV
  have hb : Rows.uptoBulkAll ([d0, d1] ++ []) ≤ 1048576 := of_decide_eq_true hk
  simp only [List.append_nil, Rows.uptoBulkAll] at hb
  obtain ⟨s, rfl, rfl, rfl, hmax⟩ := Go.ChangeMaps.open_string Tryz.underlying9 (hval 1 9 v1 rfl rfl) h1
  obtain ⟨fuel, h0'⟩ := h0
  obtain ⟨a, c, l, e0, hc, hS, hl, hn⟩ := rd_dos h0' (by simp only; omega)
  obtain ⟨a', n', c', rfl⟩ := okWide_slice Tryz.underlying22 (hval 0 22 v0 rfl rfl)
  obtain ⟨rfl, rfl, rfl⟩ : a' = a ∧ n' = l.length ∧ c' = c := by simpa [Value.cells] using e0
  refine (gets_spec (key := s.data.toList) (M := [wH W]) hS (Le.refl _) hc (by omega) hn W (wH W) (kin_wH W) (owned_wH W)).mono ?_
  rintro e W' ⟨v, hs', rfl, ho, hkeep, rfl, rfl⟩
  exact ⟨_, rfl, law_post (by kernel_rfl) (by kernel_rfl) rfl rfl Tryz.underlying4 hW' rfl ⟨hkeep.os, hkeep.tape, hkeep.output, hkeep.size, fun k hk => by
    have := ho.subF k W.heap[k] (Array.getElem?_eq_getElem hk)
    rw [this, Array.getElem?_eq_getElem hk]⟩⟩

set_option maxRecDepth 100000 in
theorem lifted (os : Os) (started : os.Started) (H : Type) (enc : TypeId × Value → H) (F : Stop.Interp) :
    ReturnsInHanded {} Tryz.checked os 3 .any ((Rows.OpenSpec.upto Rows.storeGetsSpec).pre6 enc Tryz.prog Tryz.f3 Rows.storeGetsUptoRow.domain false) (((Rows.OpenSpec.upto Rows.storeGetsSpec).at F).post enc Tryz.prog Tryz.f3 false true false false) := by
  refine returnsInHanded_of_cond (C := Tryz.checked) (s := Rows.OpenSpec.upto Rows.storeGetsSpec) (k := Rows.uptoSmall) rfl own started (by kernel_rfl) Tryz.func3
    (OpenSpec.witness (enc := enc) (C := Tryz.checked) (s := Rows.OpenSpec.upto Rows.storeGetsSpec) (k := Rows.uptoSmall) rfl false ⟨#[], #[.slice none 0 0, .string .empty], []⟩ 8 (by kernel_rfl) (by kernel_rfl) (by kernel_rfl)
      (x := ([.nil, .lit (.string [])], [], [])) (by kernel_rfl) rfl (by kernel_rfl)) ?_
  intro W base args ds gs before hval hW _ hk _
  exact contract H enc W base args ds gs before hval hW hk

theorem proved : Rows.StoreGetsUptoSaid :=
  OpenClaim.holds_of_cond 3 Tryz.f3 rfl rfl rfl rfl rfl rfl rfl ⟨rfl, rfl, rfl, rfl, rfl⟩ rfl rfl rfl rfl rfl (by kernel_rfl) Tryz.func3 (by kernel_rfl)
    (of_decide_eq_true (by kernel_rfl)) (by unfold Func.isWrapper; first | (rw [if_pos (by decide +kernel)]; kernel_rfl) | (rw [if_neg (by decide +kernel)]; exact ⟨rfl, rfl⟩))
    (fun os started H enc _ F => lifted os started H enc F)
end storeGets
end Go.Proofs.YtonnncdolofccaaGreat
