/- slices.Sorted(maps.Keys(m)) of a map from texts to entries. Conditions: none.
   store: sorted, All. Conditions: none.
   store: All, Compact, Crash. Conditions: none.
   icehouseref03: Compare, SameVal, Same, SameAll; icehouseref08: SameAcks, Long. Conditions: none.
   icehouselaw08: done; what a store is after each step. Conditions: none.
   icehouselaw08: known. Conditions: none. -/
import Derived.Test.YtonnncdolofccaaGreatQi
import Derived.Test.YtonnncdolofccaaGreatQe
namespace Go.Proofs.YtonnncdolofccaaGreat
open Go.RowKit Go.Maps Go.Sort Go.Shelf

def StrR (k : List UInt8) (vs : List Value) : Prop := vs = [.string (str k)]
def sortK (l : List (List UInt8)) : List (List UInt8) := l.mergeSort leB
theorem insert_perm {H : Type} (x : Lit × DataW H) : ∀ l, (DataW.insert x l).Perm (x :: l)
  | [] => List.Perm.refl _
  | y :: r => by
    unfold DataW.insert
    split
    · exact List.Perm.refl _
    · exact ((insert_perm x r).cons y).trans (List.Perm.swap _ _ _)
theorem foldr_perm {H : Type} : ∀ l : List (Lit × DataW H), (l.foldr DataW.insert []).Perm l
  | [] => List.Perm.refl _
  | x :: l => (insert_perm x _).trans ((foldr_perm l).cons x)
def RN (_ : Value) : Option (DataW Unit × List MemPlace) := some (.nil, [])
theorem sorts_in (m : Nat) : AnyZ.SortsIn Tryz.prog sortedL_ren Fence.wide m :=
  ⟨fun blk off cap ss W hH hblk hsz => callsIn_wide.2 (AnyM.slices_Sort_string sortL blk off cap ss W hH hblk hsz),
   fun p cap W => callsIn_wide.2 (AnyM.slices_Sort_string_none sortL p cap W)⟩
theorem keyOf_str' {k : List UInt8} (h : k.length ≤ maxLen) : keyOf Tryz.prog 9 (.string (str k)) = some (.string k) := by
  have h2 : (str k).size ≤ maxLen := by rw [str_size]; exact h
  simp only [keyOf, Tryz.underlying9, mapKey]
  simp [h2, str_data]
theorem rg_keys {M : List Hp} : ∀ {es : List En} {ms : List MapEntry}, MpE M es ms → (∀ e, e ∈ es → e.key.length ≤ maxLen) → (∀ m, m ∈ ms → ∃ y, WideElems.rd Tryz.prog 9 RN m = some y) ∧ (ms.map (WideElems.rg Tryz.prog 9 RN)).map (fun p => strOf p.1) = es.map (·.key)
  | [], [], _, _ => ⟨fun _ h => (by cases h), rfl⟩
  | e :: es, m :: ms, h, hk => by
    obtain ⟨h1, h2⟩ := rg_keys h.2.2 fun x hx => hk x (List.mem_cons_of_mem _ hx)
    have hkey : keyOf Tryz.prog 9 m.key = some (.string e.key) := by rw [h.1]; exact keyOf_str' (hk e List.mem_cons_self)
    have hrd : WideElems.rd Tryz.prog 9 RN m = some (.string e.key, .nil) := by simp [WideElems.rd, hkey, RN]
    refine ⟨fun x hx => ?_, ?_⟩
    · rcases List.mem_cons.1 hx with rfl | hx
      · exact ⟨_, hrd⟩
      · exact h1 x hx
    · rw [List.map_cons, List.map_cons, List.map_cons, h2, WideElems.rg_of hrd]; rfl
theorem rows_str : ∀ l : List (List UInt8), Rows StrR 1 l (l.map Go.Proofs.encStr)
  | [] => rfl
  | x :: l => ⟨[.string (str x)], l.map Go.Proofs.encStr, rfl, rfl, rfl, rows_str l⟩

theorem skeys_spec {bC mb : Nat} {ents : Array MapEntry} {clock : Nat} {es : List En} {M K : List Hp} (hC : Rdb K bC (.cells [.map (some mb)].toArray 73 (0, 0))) (hr : Rdb K mb (.map ents clock)) (hm : MpR M es ents clock) (hk : ∀ e, e ∈ es → e.key.length ≤ 1000000) (hn : es.length ≤ 1000000000) :
    Fn Tryz.prog 55 [.func (.func 85) #[] #[.pointer (some ⟨bC, 0, none⟩)]] K [] fun r hs' => ∃ h, OwnOf StrR 9 1 r (sortK (es.map (·.key))) h ∧ hs' = [h] := by
  intro w F hK ho
  have e1 : w.heap[bC]? = some (.cells #[.map (some mb)] 73 (0, 0)) := ho.subF _ _ (by obtain ⟨g, hg, e⟩ := hC; exact hK g hg _ _ e)
  have e2 : w.heap[mb]? = some (.map ents clock) := ho.subF _ _ (by obtain ⟨g, hg, e⟩ := hr; exact hK g hg _ _ e)
  have hks := rg_keys hm.1 (fun e he => Nat.le_trans (hk e he) (by unfold maxLen; omega))
  have hlen := hm.1.len
  have hsz : ents.size = es.length := by rw [hlen, Array.length_toList]
  have hml : (1000000000 : Nat) ≤ maxLen := by unfold maxLen; omega
  have hown : w.ownsMap Tryz.prog 9 RN mb ents.size (.map ((ents.toList.map (WideElems.rg Tryz.prog 9 RN)).foldr DataW.insert [])) :=
    ⟨ents, clock, e2, ⟨by omega, hm.2, hks.1⟩, Nat.le_refl _, rfl⟩
  have hD : Maps.size (.map ((ents.toList.map (WideElems.rg Tryz.prog 9 RN)).foldr DataW.insert [])) = es.length := by
    show (List.foldr DataW.insert [] _).length = _
    rw [(foldr_perm _).length_eq, List.length_map, ← hlen]
  have hseq : SeqGives Fence.wide 2 Tryz.prog 85 #[.pointer (some ⟨bC, 0, none⟩)] Go.Proofs.encStr (fun ss => ss.Perm (strKeys (.map ((ents.toList.map (WideElems.rg Tryz.prog 9 RN)).foldr DataW.insert [])))) (Maps.size (.map ((ents.toList.map (WideElems.rg Tryz.prog 9 RN)).foldr DataW.insert []))) w :=
    AnyZ.keys_gives (ρ := keysL_ren) { keysL with } Fence.wide _ trivial rfl (by omega) bC mb ents.size _ w (Array.getElem?_eq_some_iff.1 e1).1 (by simp [World.cell?, e1]) hown
  refine callsIn_wide.1 ((AnyZ.sorted_in sortedL Fence.wide 5 trivial trivial trivial trivial rfl (by omega) (sorts_in _) (enters_of Tryz.func84 (by kernel_rfl) rfl) 85 #[.pointer (some ⟨bC, 0, none⟩)] trivial (enters_of Tryz.func85 (by kernel_rfl) rfl) _ _ (by rw [hD]; omega) (by rw [hD]; omega) _ hseq).mono ?_)
  rintro e w' ⟨v, ss, rfl, hp, hrow, -, hb⟩
  have hperm : ss.Perm (es.map (·.key)) := by
    refine hp.trans ?_
    show ((List.foldr DataW.insert [] _).map fun p => strOf p.1).Perm _
    rw [← hks.2]
    exact (foldr_perm _).map _
  have hss : ss.mergeSort leB = sortK (es.map (·.key)) := mergeSort_of_perm hperm
  have hsl : ss.length = (sortK (es.map (·.key))).length := by rw [← hss, List.length_mergeSort]
  have kk : Keeps w w' := ⟨hb.os, hb.tape, hb.output, hb.size⟩
  obtain ⟨h1, h2⟩ := hrow
  rw [show ss.mergeSort (fun x y => decide (x ≤ y)) = sortK (es.map (·.key)) from hss, hsl] at h1 h2
  have ho' : Owned F [] w' := ho.same fun b hb' => hb.block b hb'
  rcases h2 with ⟨rfl, h0⟩ | ⟨g, cap, cur, rfl, hg, hgb, r1, r2, r3, r4⟩
  · refine ⟨_, [emp], rfl, ho'.emp, kk, emp, ?_, rfl⟩
    rw [List.eq_nil_of_length_eq_zero h0]
    exact OwnOf.nil _ _
  · have fresh : F g = none := by
      cases hF : F g with
      | none => rfl
      | some o =>
        have := (Array.getElem?_eq_some_iff.1 (ho.subF g o hF)).1
        omega
    refine ⟨_, [one g (.cells cur 9 (0, 0))], rfl, ⟨fun h hh => ?_, List.pairwise_singleton _ _, ho'.subF, fun h hh => ?_⟩, kk, _, ⟨_, rows_str _, by simp [List.length_map], .inr ⟨g, cap, (cur.toList.drop (sortK (es.map (·.key))).length), (0, 0), rfl, r1, ?_, ?_, ?_⟩⟩, rfl⟩
    · rw [List.mem_singleton.1 hh]
      intro b
      by_cases hbg : b = g
      · subst hbg; exact .inl fresh
      · right
        cases h3 : one g (.cells cur 9 (0, 0)) b with
        | none => rfl
        | some o => exact absurd (one_some h3).1 hbg
    · rw [List.mem_singleton.1 hh]
      intro b o e
      obtain ⟨rfl, rfl⟩ := one_some e
      exact hgb
    · rw [Nat.mul_one] at r4
      rw [← r4, List.take_append_drop]
    · rw [Nat.mul_one] at r4
      rw [← r4, List.take_append_drop, Array.length_toList]; exact r3
    · exact .inl (Nat.le_refl _)
end Go.Proofs.YtonnncdolofccaaGreat

namespace Go.Proofs.YtonnncdolofccaaGreat

/-- no cell of it is shut -/
def Thaw (h : Hp) : Prop := ∀ b c T fz, h b = some (.cells c T fz) → okfz fz c.size
theorem Thaw.emp : Thaw emp := fun _ _ _ _ e => by cases e
theorem Thaw.two {h g : Hp} (a : Thaw h) (c : Thaw g) : Thaw (uni [h, g]) := fun b cs T fz e => by
  obtain ⟨k, hk, e2⟩ := uni_some e
  simp only [List.mem_cons, List.not_mem_nil, or_false] at hk
  rcases hk with rfl | rfl
  · exact a _ _ _ _ e2
  · exact c _ _ _ _ e2
theorem OwnSl.thaw {E : TypeId} {sz n : Nat} {v : Value} {cs : List Value} {h : Hp} (o : OwnSl E sz v n cs h) : Thaw h := by
  rcases o.2 with ⟨_, _, rfl⟩ | ⟨b, cap, rest, fz, _, _, rfl, hl, hf⟩
  · exact Thaw.emp
  · intro b' c T fz' e
    obtain ⟨rfl, e2⟩ := one_some e
    cases e2
    rw [List.size_toArray, hl]; exact hf
theorem OwnOf.thaw {α : Type} {R : α → List Value → Prop} {E : TypeId} {sz : Nat} {v : Value} {xs : List α} {h : Hp} (o : OwnOf R E sz v xs h) : Thaw h := let ⟨_, _, o⟩ := o; o.thaw

attribute [local irreducible] RC RO EvE DR OpV Fn SlOf OwnSl postQ Src Rows Rdb CellsAt thenQ blockQ noGotoQ
set_option linter.unusedSimpArgs false
set_option linter.unusedVariables false

abbrev OwnEs (v : Value) (l : List En) (ha hB : Hp) : Prop := OwnOf (EnR [hB]) 37 6 v l ha
def sortedF (es : List En) : List En := (sortK (es.map (·.key))).map (ofE es)
theorem EnR.one {M : List Hp} (e : En) (vs : List Value) (h : EnR M e vs) (u : Value) (m : u ∈ vs) : u.oneCell' = true := by
  obtain ⟨a, c, rfl, _, _⟩ := h
  simp only [List.mem_cons, List.not_mem_nil, or_false] at m
  rcases m with rfl | rfl | rfl | rfl | rfl | rfl <;> rfl
theorem findE_some {es : List En} {k : List UInt8} (h : k ∈ es.map (·.key)) : ∃ e, findE es k = some e := by
  obtain ⟨e, he, rfl⟩ := List.mem_map.1 h
  cases hf : findE es e.key with
  | some x => exact ⟨x, rfl⟩
  | none =>
    have := List.find?_eq_none.1 hf e he
    simp at this
theorem mem_sortK {l : List (List UInt8)} {k : List UInt8} : k ∈ sortK l ↔ k ∈ l := (List.mergeSort_perm l Go.leB).mem_iff
theorem len_sortK (l : List (List UInt8)) : (sortK l).length = l.length := List.length_mergeSort l

theorem mkeys_spec {mb : Nat} {K : List Hp} : Fn Tryz.prog 56 [.map (some mb)] K [] fun r hs' => ∃ bC, r = .func (.func 85) #[] #[.pointer (some ⟨bC, 0, none⟩)] ∧ hs' = [one bC (.cells [.map (some mb)].toArray 73 (0, 0))] := by
  refine Fn.enter Tryz.func56 rfl rfl ?_; simp only [Tryz.ntmps56, argEnv, Nat.reduceAdd]
  repeat (first | refine goX ?_ | refine bxX fun b => ?_)
  refine post_ret (hs' := [_]) [_] rfl ⟨rfl, rfl⟩ slX ?_
  exact ⟨b, rfl, rfl⟩

theorem ent_up {u : Value} {l : List En} {ha hB hp : Hp} (d : Apart [hp, hB]) (ho : OwnEs u l ha hB) : OwnOf (EnR [uni [hp, hB]]) 37 6 u l ha :=
  ho.mono fun r vs h => EnR.le ((Le.sub (by intro g hg; simp at hg; simp [hg])).trans (Le.join d)) h
theorem ent_src {hB hp : Hp} {b : Nat} {e : En} {aw : Option Addr} {cw : Nat} (d : Apart [hp, hB]) (hcw : e.b.length ≤ cw) (hSw : SlOf [hp] ByteR 1 aw e.b) :
    SlV [one b (.cells [.string (str e.key), .int .i64 e.tag.seq, .int .i64 e.tag.who, .int .i64 e.tag.op, .bool e.has, .slice aw e.b.length cw].toArray 37 (0, 0))] (EnR [uni [hp, hB]]) 6 (.slice (some ⟨b, 0, none⟩) 1 1) [e] :=
  ⟨_, _, rfl, Nat.le_refl _, slOf_one (List.mem_singleton.2 rfl) (by
    have := rows_cons (R := EnR [uni [hp, hB]]) (x := e) (sz := 6) (vs := [.string (str e.key), .int .i64 e.tag.seq, .int .i64 e.tag.who, .int .i64 e.tag.op, .bool e.has, .slice aw e.b.length cw]) ⟨aw, cw, rfl, hcw, hSw.le ((Le.sub (by intro g hg; simp at hg; simp [hg])).trans (Le.join d))⟩ rfl rows_nil
    simpa using this)⟩

theorem sorted_spec {b : Nat} {ents : Array MapEntry} {clock : Nat} {es : List En} {K : List Hp} (hr : Rdb K b (.map ents clock)) (hm : MpR K es ents clock) (hk : ∀ e, e ∈ es → e.key.length ≤ 1000000) (hb : ∀ e, e ∈ es → e.b.length ≤ 140000000000000) (hn : es.length ≤ 100000000) :
    Fn Tryz.prog 31 [.map (some b)] K [] fun r hs' => ∃ ha hB, OwnEs r (sortedF es) ha hB ∧ Thaw hB ∧ hs' = [hB, ha] := by
  refine Fn.enter Tryz.func31 rfl rfl ?_; simp only [Tryz.ntmps31, argEnv, Nat.reduceAdd]
  repeat (first | refine goX ?_ | refine bsX fun b => ?_)
  refine RO.call0 rfl rfl rfl Tryz.func56 rfl (by kernel_rfl) mkeys_spec ?_
  rintro v hs' ⟨bC, rfl, rfl⟩
  repeat (first | refine goX ?_ | refine bsX fun b => ?_)
  refine RO.call0 rfl rfl rfl Tryz.func55 rfl (by kernel_rfl) (skeys_spec (es := es) (M := K) (rdb_one (List.mem_append_right _ (List.mem_of_getElem? (i := 0) rfl))) (hr.sub (Sub.left _ _)) hm hk (by omega)) ?_
  rintro v hs' ⟨hks, ok, rfl⟩
  obtain ⟨ak, ck, rfl, hck, hSk⟩ := OwnOf.rows ok
  have hlk := len_sortK (es.map (·.key))
  rw [List.length_map] at hlk
  unfold sortedF
  have hmem : ∀ k, k ∈ sortK (es.map (·.key)) → ∃ e, findE es k = some e := fun k h => findE_some (mem_sortK.1 h)
  generalize sortK (es.map (·.key)) = ks at *
  repeat (first | refine goX ?_ | refine bsX fun b => ?_)
  refine RC.emp (RC.emp ?_)
  refine RC.loopI (fun s : Nat × Value × Hp × Hp => [(10, .int .i64 (s.1 : Int)), (9, .int .i64 (ks.length : Int)), (8, .slice ak ks.length ck), (3, s.2.1), (0, .map (some b))]) (fun s => [s.2.2.2, s.2.2.1, hks])
    (fun s => s.1 ≤ ks.length ∧ OwnEs s.2.1 ((ks.take s.1).map (ofE es)) s.2.2.1 s.2.2.2 ∧ Thaw s.2.2.2) (fun s => ks.length - s.1) (0, _, emp, emp) ⟨by simp, OwnOf.nil _ _, Thaw.emp⟩ leX (Imp.take (junk := _) pmX) ?_
  rintro ⟨i, u, ha, hB⟩ ⟨hi, ho, hth⟩
  simp only at hi ho hth ⊢
  by_cases h1 : i = ks.length
  · subst h1
    rw [List.take_length] at ho
    repeat (first | refine goX ?_ | refine bsX fun b => ?_)
    refine post_ret (hs' := [hB, ha]) [_] rfl ⟨rfl, rfl⟩ slX ?_
    exact ⟨_, _, ho, hth, rfl⟩
  · have hi2 : i < ks.length := by omega
    have hb2 : ks[i]? = some ks[i] := List.getElem?_eq_getElem hi2
    have hts : (ks.take (i + 1)).map (ofE es) = (ks.take i).map (ofE es) ++ [ofE es ks[i]] := by rw [take_succ_eq hb2, List.map_append]; rfl
    obtain ⟨e, hfe⟩ := hmem _ (List.mem_of_getElem? hb2)
    generalize ks[i] = k at *
    have hofe : ofE es k = e := by unfold ofE; rw [hfe]; rfl
    rw [hofe] at hts
    have he := findE_mem hfe
    have ho2 := ho
    obtain ⟨a4, c4, rfl, _, _⟩ := OwnOf.rows ho2
    rw [List.length_map] at *
    repeat (first | refine goX ?_ | refine bsX fun b => ?_)
    refine o_indexAddr tb (R := _) (sz := 1) rfl rfl rfl rfl rfl hSk (by omega) (by omega) (by first | exact hb2 | simpa using hb2) rfl ?_
    rintro b' off vs rfl _ hcell
    repeat (first | refine goX ?_ | refine bsX fun b => ?_)
    refine o_lookup tb rfl rfl rfl rfl rfl rfl (hr.sub (Sub.left _ _)) hm ?_
    intro v hl
    unfold LookR at hl
    rw [hfe] at hl
    simp only at hl
    simp only [lookV, Bool.false_eq_true, if_false]
    repeat (first | refine goX ?_ | refine bsX fun b => ?_)
    refine RO.call0 rfl rfl rfl Tryz.func52 rfl (by kernel_rfl) (copy_spec (e := e) (hl.1.sub (Sub.left _ _)) (hb _ he.1)) ?_
    rintro v hs' ⟨hp, ⟨u5, rfl, ou⟩, rfl⟩
    have ou' := ou
    obtain ⟨aw, cw, rfl, hcw, hSw⟩ := OwnOf.rows ou'
    repeat (first | refine goX ?_ | refine bsX fun b => ?_)
    refine RO.know fun hap => ?_
    have d : Apart [hp, hB] := hap.of (junk := _) pmX
    refine o_appendO 3 tb rfl rfl (ent_up d ho) rfl rfl rfl rfl rfl rfl (ent_src d hcw hSw) (by intro g hg; rw [List.mem_singleton.1 hg]; exact List.mem_append_right _ (List.mem_of_getElem? (i := 0) rfl)) (fun r vs h => EnR.one r vs h) ?_ rfl ?_
    · show (2 * (((ks.take i).map (ofE es)).length + 1) + 192) * 72 ≤ _
      rw [List.length_map, List.length_take]
      omega
    intro v' ha' o'
    refine RO.imp (Imp.joinP (hs1 := [hp, hB]) (hs2 := [ha', hks]) (junk := [_]) pmX) ?_
    rw [← hts] at o'
    have o7 := o'
    obtain ⟨a', c', rfl, _, _⟩ := OwnOf.rows o7
    repeat (first | refine goX ?_ | refine bsX fun b => ?_)
    refine ⟨(i + 1, _, ha', uni [hp, hB]), ⟨by simp only; omega, o', ou.thaw.two hth⟩, by simp only; omega, leX, Imp.sublist slX⟩
end Go.Proofs.YtonnncdolofccaaGreat

namespace Go.Proofs.YtonnncdolofccaaGreat
attribute [local irreducible] RC RO EvE DR OpV Fn SlOf OwnSl postQ Src Rows Rdb CellsAt thenQ blockQ noGotoQ
set_option linter.unusedSimpArgs false
set_option linter.unusedVariables false

/-- entries that may be in a store -/
def EsOk (es : List En) : Prop := (∀ e, e ∈ es → right e = true) ∧ es.length ≤ 100000000
theorem EsOk.k {es : List En} (h : EsOk es) : ∀ e, e ∈ es → e.key.length ≤ 1000000 := fun e he => by have := right_blen (h.1 e he); omega
theorem EsOk.b {es : List En} (h : EsOk es) : ∀ e, e ∈ es → e.b.length ≤ 140000000000000 := fun e he => by have := right_blen (h.1 e he); omega
theorem sortedF_mem {es : List En} {e : En} (h : e ∈ sortedF es) : e ∈ es := by
  obtain ⟨k, hk, rfl⟩ := List.mem_map.1 h
  obtain ⟨e, he⟩ := findE_some (mem_sortK.1 hk)
  unfold ofE; rw [he]; exact (findE_mem he).1
theorem sortedF_len (es : List En) : (sortedF es).length = es.length := by unfold sortedF; rw [List.length_map, len_sortK, List.length_map]

theorem sall_spec {p : Value} {s : St} {h : Hp} {K : List Hp} (ho : IsS p s h) (hes : EsOk s.lasts) : Fn Tryz.prog 16 [p] K [h] fun r hs' => ∃ ha hB, OwnEs r (sortedF s.lasts) ha hB ∧ Thaw hB ∧ hs' = [h, hB, ha] := by
  obtain ⟨b0, pl, mN, mL, va, eN, cN, eL, cL, hl, hE, ha, rfl, rfl, ap, ol, oN, oL, oa⟩ := ho
  obtain ⟨bl, rfl⟩ := ol.ptr
  have oa' := oa
  obtain ⟨aa, ca, rfl, _, _⟩ := OwnOf.rows oa'
  refine Fn.imp (Imp.split0 ap) ?_
  refine Fn.enter Tryz.func16 rfl rfl ?_; simp only [Tryz.ntmps16, argEnv, Nat.reduceAdd]
  repeat refine goX ?_
  refine RO.call0 rfl rfl rfl Tryz.func31 rfl (by kernel_rfl) (sorted_spec (es := s.lasts) (rdb_one (List.mem_append_right _ (List.mem_of_getElem? (i := 3) rfl))) (oL.le (Le.sub sbX)) hes.k hes.b hes.2) ?_
  rintro v hs' ⟨ha1, hB1, o1, th1, rfl⟩
  have o1' := o1
  obtain ⟨a1, c1, rfl, _, _⟩ := OwnOf.rows o1'
  repeat refine goX ?_
  refine post_imp (Imp.joinP (hs1 := [one b0 _, hl, one mN _, one mL _, hE, ha]) (hs2 := [hB1, ha1]) (junk := []) pmX) ?_
  refine post_ret (hs' := [_, hB1, ha1]) [_] rfl ⟨rfl, rfl⟩ slX ?_
  exact ⟨_, _, o1, th1, rfl⟩

/-- the bytes of some entries, one row each -/
def compB (es : List En) : List UInt8 := (es.map fun e => rowB (enB e)).flatten
theorem compB_snoc (es : List En) (e : En) : compB (es ++ [e]) = compB es ++ rowB (enB e) := by simp [compB]
theorem compB_le (es : List En) (i : Nat) : (compB (es.take i)).length ≤ (compB es).length := by
  have : compB es = compB (es.take i) ++ compB (es.drop i) := by rw [compB, compB, compB, ← List.flatten_append, ← List.map_append, List.take_append_drop]
  rw [this, List.length_append]; omega
theorem rowB_len (b : List UInt8) : (rowB b).length ≤ b.length + 9 := by
  have := numB_len b.length
  simp only [rowB, List.length_append]; omega

theorem scompact_spec {p : Value} {s : St} {h : Hp} {K : List Hp} (ho : IsS p s h) (hes : EsOk s.newer) : Fn Tryz.prog 23 [p] K [h] fun r hs' =>
    if (compB (sortedF s.newer)).length ≤ 65536 then r = .int .i64 0 ∧ ∃ h', IsS p ⟨⟨⟨frameB 0 (compB (sortedF s.newer)), [], s.g.d.n⟩, [⟨0, compB (sortedF s.newer)⟩], 1⟩, s.newer, s.newer, s.acks⟩ h' ∧ hs' = [h'] else r = .int .i64 3 ∧ hs' = [h] := by
  obtain ⟨b0, pl, mN, mL, va, eN, cN, eL, cL, hl, hE, ha, rfl, rfl, ap, ol, oN, oL, oa⟩ := ho
  obtain ⟨bl, rfl⟩ := ol.ptr
  have oa' := oa
  obtain ⟨aa, ca, rfl, _, _⟩ := OwnOf.rows oa'
  refine Fn.imp (Imp.split0 ap) ?_
  refine Fn.enter Tryz.func23 rfl rfl ?_; simp only [Tryz.ntmps23, argEnv, Nat.reduceAdd]
  repeat (first | refine goX ?_ | refine alX fun b => ?_)
  refine RO.call0 rfl rfl rfl Tryz.func31 rfl (by kernel_rfl) (sorted_spec (es := s.newer) (rdb_one (List.mem_append_right _ (List.mem_of_getElem? (i := 2) rfl))) (oN.le (Le.sub sbX)) hes.k hes.b hes.2) ?_
  have hsl := sortedF_len s.newer
  have hsr : ∀ e, e ∈ sortedF s.newer → right e = true := fun e he => hes.1 e (sortedF_mem he)
  have hnl := hes.2
  generalize sortedF s.newer = l at *
  rintro v hs' ⟨ha1, hB1, o1, th1, rfl⟩
  have o1' := o1
  obtain ⟨a1, c1, rfl, hc1, hS1⟩ := OwnOf.rows o1'
  repeat (first | refine goX ?_ | refine alX fun b => ?_)
  refine RC.emp ?_
  refine RC.loopI (fun s : Nat × Value × Hp => [(19, .int .i64 (s.1 : Int)), (18, .int .i64 (l.length : Int)), (17, .slice a1 l.length c1), (3, s.2.1), (0, .pointer (some ⟨b0, 0, none⟩))])
    (fun s2 => [s2.2.2, hB1, ha1, one b0 (.cells [.pointer (some ⟨bl, 0, none⟩), .map (some mN), .map (some mL), .slice aa s.acks.length ca].toArray 75 (0, 0)), hl, one mN (.map eN cN), one mL (.map eL cL), hE, ha])
    (fun s => s.1 ≤ l.length ∧ (compB (l.take s.1)).length ≤ 65536 ∧ OwnB 5 s.2.1 (compB (l.take s.1)) s.2.2) (fun s => l.length - s.1) (0, _, emp) ⟨by simp, by simp [compB], OwnOf.nil _ _⟩ leX (Imp.take (junk := _) pmX) ?_
  rintro ⟨i, u, hu⟩ ⟨hi, hlen, ou⟩
  simp only at hi hlen ou ⊢
  have ou' := ou
  obtain ⟨au, cu, rfl, hcu, hSu⟩ := OwnOf.rows ou'
  by_cases h1 : i = l.length
  · subst h1
    rw [List.take_length] at hlen ou hcu hSu
    simp only [if_pos hlen, List.take_length]
    repeat (first | refine goX ?_ | refine alX fun b => ?_)
    refine RO.call1 4 rfl rfl rfl Tryz.func47 rfl (by kernel_rfl) rfl rfl (snapshot_spec (x := compB l) ol ⟨_, _, rfl, hcu, hSu.sub sbX⟩ hlen) ?_
    rintro v hs' ⟨rfl, hl', ol', rfl⟩
    repeat (first | refine goX ?_ | refine alX fun b => ?_)
    refine RO.callF (hs1 := [one b0 _, one mN _]) (hs2 := [hl', hu, hB1, ha1, one mL _, hE, ha]) rfl rfl rfl Tryz.func29 rfl (by kernel_rfl) pmX settle_parts ?_
    rintro v hs' ⟨b', rfl⟩
    repeat (first | refine goX ?_ | refine alX fun b => ?_)
    refine post_join (hs1 := [one b0 _, hl', one mN _, one b' _, hE, ha]) (junk := _) pmX fun hap => ?_
    refine post_ret (hs' := [_]) [_] rfl ⟨rfl, rfl⟩ slX ?_
    exact ⟨rfl, _, ⟨_, _, _, _, _, _, _, _, _, _, _, _, rfl, rfl, hap, ol', oN, oN, oa⟩, rfl⟩
  · have hi2 : i < l.length := by omega
    have hb2 : l[i]? = some l[i] := List.getElem?_eq_getElem hi2
    have her := hsr _ (List.mem_of_getElem? hb2)
    generalize l[i] = e at *
    repeat (first | refine goX ?_ | refine alX fun b => ?_)
    refine o_indexAddr tb (R := _) (sz := 6) rfl rfl rfl rfl rfl hS1 (by omega) (by omega) (by first | exact hb2 | simpa using hb2) rfl ?_
    rintro b' off vs ⟨av, cv, rfl, hcv, hSv⟩ _ hcell
    repeat (first | refine goX ?_ | refine alX fun b => ?_)
    refine RO.call0 rfl rfl rfl Tryz.func35 rfl (by kernel_rfl) (bytes_spec (e := e) ⟨_, rfl, av, cv, rfl, hcv, hSv.sub sbX⟩ her) ?_
    rintro v hs' ⟨u2, hp, rfl, ob, rfl⟩
    have ob' := ob
    obtain ⟨a6, c6, rfl, hc6, hS6⟩ := OwnOf.rows ob'
    have hbl := enB_len her
    repeat (first | refine goX ?_ | refine alX fun b => ?_)
    refine RO.call0 rfl rfl rfl Tryz.func46 rfl (by kernel_rfl) (row_spec (b := enB e) ⟨_, _, rfl, hc6, hS6.sub sbX⟩ (by omega)) ?_
    rintro v hs' ⟨u3, hp3, rfl, or3, rfl⟩
    have hrl := rowB_len (enB e)
    have or3' := or3
    obtain ⟨a7, c7, rfl, hc7, hS7⟩ := OwnOf.rows or3'
    repeat (first | refine goX ?_ | refine alX fun b => ?_)
    refine o_appendB 3 tb rfl rfl ou rfl rfl rfl rfl rfl rfl ⟨_, _, rfl, hc7, hS7⟩ sbX (by (try simp only [List.length_append, List.length_cons, List.length_nil]); omega) rfl ?_
    intro v' hu' ou2
    rw [← compB_snoc, ← take_succ_eq hb2] at ou2
    have ou3 := ou2
    obtain ⟨a8, c8, rfl, hc8, hS8⟩ := OwnOf.rows ou3
    have hcl := compB_le l (i + 1)
    by_cases h2 : (compB (l.take (i + 1))).length ≤ 65536
    · repeat (first | refine goX ?_ | refine alX fun b => ?_)
      refine ⟨(i + 1, _, hu'), ⟨by simp only; omega, h2, ou2⟩, by simp only; omega, leX, Imp.take (junk := _) pmX⟩
    · simp only [if_neg (show ¬ (compB l).length ≤ 65536 by omega)]
      repeat (first | refine goX ?_ | refine alX fun b => ?_)
      refine post_join (hs1 := [one b0 _, hl, one mN _, one mL _, hE, ha]) (junk := _) pmX fun hap => ?_
      refine post_ret (hs' := [_]) [_] rfl ⟨rfl, rfl⟩ slX ?_
      exact ⟨rfl, rfl⟩

theorem scrash_spec {p : Value} {s : St} {h : Hp} {k : Int} {K : List Hp} (ho : IsS p s h) (hg : s.g.ok) : Fn Tryz.prog 26 [p, .int .i64 k] K [h] fun r hs' =>
    if k < 0 then r = .tuple #[.pointer none, .int .i64 2] ∧ hs' = [h] else match recoverF (s.g.d.l ++ s.g.d.t.take k.toNat) with
    | some es => ∃ u h2, r = .tuple #[u, .int .i64 0] ∧ IsS u ⟨⟨⟨(s.g.d.l ++ s.g.d.t.take k.toNat).take (scan (s.g.d.l ++ s.g.d.t.take k.toNat)).2, [], s.g.d.n⟩, (scan (s.g.d.l ++ s.g.d.t.take k.toNat)).1, (scan (s.g.d.l ++ s.g.d.t.take k.toNat)).1.length⟩, es, es, []⟩ h2 ∧ hs' = [h, h2]
    | none => r = .tuple #[.pointer none, .int .i64 11] ∧ hs' = [h] := by
  obtain ⟨b0, pl, mN, mL, va, eN, cN, eL, cL, hl, hE, ha, rfl, rfl, ap, ol, oN, oL, oa⟩ := ho
  obtain ⟨bl, rfl⟩ := ol.ptr
  have oa' := oa
  obtain ⟨aa, ca, rfl, _, _⟩ := OwnOf.rows oa'
  refine Fn.imp (Imp.split0 ap) ?_
  refine Fn.enter Tryz.func26 rfl rfl ?_; simp only [Tryz.ntmps26, argEnv, Nat.reduceAdd]
  repeat refine goX ?_
  refine RO.call0 rfl rfl rfl Tryz.func49 rfl (by kernel_rfl) (wdisk_spec (g := s.g) (ol.rd.le (Le.sub sbX)) hg) ?_
  rintro v hs' ⟨hd, od, rfl⟩
  obtain ⟨bd, rfl⟩ := od.ptr
  repeat refine goX ?_
  by_cases hk : k < 0
  · simp only [if_pos hk]
    refine RO.call1 0 rfl rfl rfl Tryz.func50 rfl (by kernel_rfl) rfl rfl (dcrash_bad od hk) ?_
    rintro v hs' ⟨rfl, rfl⟩
    repeat refine goX ?_
    refine post_join (hs1 := [one b0 _, hl, one mN _, one mL _, hE, ha]) (junk := _) pmX fun hap => ?_
    refine post_ret (hs' := [_]) [_, _] rfl ⟨rfl, rfl, rfl⟩ slX ?_
    exact ⟨rfl, rfl⟩
  · simp only [if_neg hk]
    refine RO.call1 0 rfl rfl rfl Tryz.func50 rfl (by kernel_rfl) rfl rfl (dcrash_spec od hg.1 (by omega)) ?_
    rintro v hs' ⟨rfl, hd2, od2, rfl⟩
    repeat refine goX ?_
    have hok : (⟨s.g.d.l ++ s.g.d.t.take k.toNat, [], s.g.d.n⟩ : Dk).ok := by
      have := hg.1
      unfold Dk.ok at this ⊢
      simp only [List.length_append, List.length_take, List.length_nil]
      omega
    refine RO.call0 rfl rfl rfl Tryz.func51 rfl (by kernel_rfl) (recover_spec (d := ⟨s.g.d.l ++ s.g.d.t.take k.toNat, [], s.g.d.n⟩) (od2.rd.le (Le.sub sbX)) hok) ?_
    simp only [List.append_nil]
    cases hrec : recoverF (s.g.d.l ++ s.g.d.t.take k.toNat) with
    | none =>
      rintro v hs' ⟨rfl, rfl⟩
      repeat refine goX ?_
      refine post_join (hs1 := [one b0 _, hl, one mN _, one mL _, hE, ha]) (junk := _) pmX fun hap => ?_
      refine post_ret (hs' := [_]) [_, _] rfl ⟨rfl, rfl, rfl⟩ slX ?_
      exact ⟨rfl, rfl⟩
    | some es =>
      rintro v hs' ⟨u, n, h2, rfl, o2, rfl⟩
      repeat refine goX ?_
      refine post_imp (Imp.joinP (hs1 := [one b0 _, hl, one mN _, one mL _, hE, ha]) (hs2 := [h2]) (junk := _) pmX) ?_
      refine post_ret (hs' := [_, h2]) [_, _] rfl ⟨rfl, rfl, rfl⟩ slX ?_
      exact ⟨u, h2, rfl, o2, rfl⟩
end Go.Proofs.YtonnncdolofccaaGreat

namespace Go.Proofs.YtonnncdolofccaaGreat
section
variable {P : Program} {tab : Tab} {n : Nat} {ops : Array Oper} {rest : List Oper} {ρ : Env} {Ms : List Hp} {N : Env → Prop} {d : Nat} {ty : TypeId} {pos : String} {after : Array Edge}
theorem e_indexAddr (ht : TabOk P tab) {α : Type} {R : α → List Value → Prop} {sz : Nat} {M : List Hp} {xs : List α} {x y : Operand} {T E : TypeId} {ie : TI} {a : Option Addr} {len c : Nat} {k : IntKind} {i : Int} {el : α}
    (hx : evalO ρ x = some (.slice a len c)) (hy : evalO ρ y = some (.int k i)) (hu : undOf tab T = some (.slice E)) (hE : lkT tab E = some ie) (hsz : Nat.beq ie.size sz = true) (hS : SlOf M R sz a xs) (h0 : 0 ≤ i) (hl : i < len) (hi : xs[i.toNat]? = some el) (hd : Nat.blt d n = true)
    (h : ∀ b off vs, R el vs → vs.length = sz → CellsAt M ⟨b, off, none⟩ vs → EvE P n ops Ms ((d, .pointer (some ⟨b, off, none⟩)) :: ρ) rest N) : EvE P n ops Ms ρ (⟨some d, .indexAddr T x y, ty, pos, after, none⟩ :: rest) N := by
  obtain ⟨b, off, vs, rfl, hr, hvl, hc⟩ := hS.get hi
  have hsz' := Nat.eq_of_beq_eq_true hsz
  refine EvE.ofV (v_indexAddr ht hx hy hu hE h0 hl) hd ?_
  rw [hsz']
  exact h b _ vs hr hvl hc
end
theorem CellsAt.get1 {M : List Hp} {b off : Nat} {vs : List Value} (h : CellsAt M ⟨b, off, none⟩ vs) (j : Nat) {v : Value} (hj : vs[j]? = some v) : CellsAt M ⟨b, off + j, none⟩ [v] := by
  refine ⟨rfl, fun i u e => ?_⟩
  have : i = 0 := by
    cases i with
    | zero => rfl
    | succ i => simp at e
  subst this
  simp only [List.getElem?_cons_zero, Option.some.injEq] at e
  subst e
  exact h.2 j v hj
attribute [local irreducible] RC RO EvE DR OpV Fn SlOf OwnSl postQ Src Rows Rdb CellsAt thenQ blockQ noGotoQ
set_option linter.unusedSimpArgs false
set_option linter.unusedVariables false

theorem cmpT_idx (t u : Tg) (k : Nat) (x y : Int) (hx : [t.seq, t.who, t.op][k]? = some x) (hy : [u.seq, u.who, u.op][k]? = some y) (h : ∀ j, j < k → [t.seq, t.who, t.op][j]? = [u.seq, u.who, u.op][j]?) (hne : x ≠ y) : cmpT t u = cmpI x y := by
  have hc : ∀ a b : Int, a ≠ b → cmpI a b ≠ 0 := fun a b h => by
    unfold cmpI
    repeat' split
    all_goals omega
  have h0 : ∀ a : Int, cmpI a a = 0 := fun a => by unfold cmpI; rw [if_neg (by omega), if_neg (by omega)]
  match k, hx, hy, h with
  | 0, hx, hy, _ =>
    simp at hx hy; subst hx; subst hy
    simp [cmpT, orI, hc _ _ hne]
  | 1, hx, hy, h =>
    have e0 := h 0 (by omega)
    simp at hx hy e0; subst hx; subst hy
    simp [cmpT, orI, hc _ _ hne, e0, h0]
  | 2, hx, hy, h =>
    have e0 := h 0 (by omega)
    have e1 := h 1 (by omega)
    simp at hx hy e0 e1; subst hx; subst hy
    by_cases h3 : cmpI t.op u.op = 0
    · exact absurd h3 (hc _ _ hne)
    · simp [cmpT, orI, e0, e1, h0, h3]
  | k + 3, hx, _, _ => simp at hx
theorem cmpT_eq (t u : Tg) (h : ∀ j, j < 3 → [t.seq, t.who, t.op][j]? = [u.seq, u.who, u.op][j]?) : cmpT t u = 0 := by
  have e0 := h 0 (by omega)
  have e1 := h 1 (by omega)
  have e2 := h 2 (by omega)
  have h0 : ∀ a : Int, cmpI a a = 0 := fun a => by unfold cmpI; rw [if_neg (by omega), if_neg (by omega)]
  simp at e0 e1 e2
  simp [cmpT, orI, e0, e1, e2, h0]
theorem rcompare_spec (t u : Tg) (K : List Hp) : Fn Tryz.prog 12 [tagV t, tagV u] K [] fun v hs' => v = .int .i64 (cmpT t u) ∧ hs' = [] := by
  refine Fn.enter Tryz.func12 rfl rfl ?_; simp only [Tryz.ntmps12, argEnv, Nat.reduceAdd]
  repeat (first | refine goX ?_ | refine bxX fun b => ?_ | refine bsX fun b => ?_ | refine dwX 6 [([0, 1, 2, 3, 4, 5, 6, 7, 8], [])] [] ?_ | refine dwX 8 [([0, 1, 2, 3, 4, 5, 6, 7, 8], [])] [] ?_)
  rename_i b1 b2 b3
  obtain ⟨ax, hax⟩ : ∃ ax : Option Addr, ax = some ⟨b3, 0, none⟩ := ⟨_, rfl⟩
  obtain ⟨ay, hay⟩ : ∃ ay : Option Addr, ay = some ⟨b, 0, none⟩ := ⟨_, rfl⟩
  rw [← hax, ← hay]
  have hSx1 : SlOf [one b (.cells [.int .i64 u.seq, .int .i64 u.who, .int .i64 u.op].toArray 3 (0, 0)), one b3 (.cells [.int .i64 t.seq, .int .i64 t.who, .int .i64 t.op].toArray 3 (0, 0))] IntR 1 ax [t.seq, t.who, t.op] := by
    rw [hax]; exact slOf_one (List.mem_cons_of_mem _ List.mem_cons_self) (rows_c1 rfl (rows_c1 rfl (rows_c1 rfl rows_nil)))
  have hSy1 : SlOf [one b (.cells [.int .i64 u.seq, .int .i64 u.who, .int .i64 u.op].toArray 3 (0, 0)), one b3 (.cells [.int .i64 t.seq, .int .i64 t.who, .int .i64 t.op].toArray 3 (0, 0))] IntR 1 ay [u.seq, u.who, u.op] := by
    rw [hay]; exact slOf_one List.mem_cons_self (rows_c1 rfl (rows_c1 rfl (rows_c1 rfl rows_nil)))
  refine RC.loopI (fun k : Nat => [(7, .int .i64 (k : Int)), (6, .slice ay 3 3), (5, .slice ax 3 3)]) (fun _ => [one b (.cells [.int .i64 u.seq, .int .i64 u.who, .int .i64 u.op].toArray 3 (0, 0)), one b3 (.cells [.int .i64 t.seq, .int .i64 t.who, .int .i64 t.op].toArray 3 (0, 0))])
    (fun k => k ≤ 3 ∧ ∀ j, j < k → [t.seq, t.who, t.op][j]? = [u.seq, u.who, u.op][j]?) (fun k => 3 - k) 0 ⟨by omega, by intro j h; omega⟩ leX (Imp.take (junk := _) pmX) ?_
  rintro k ⟨hk, hz⟩
  by_cases h3 : k = 3
  · subst h3
    repeat (first | refine goX ?_ | refine bxX fun b => ?_ | refine bsX fun b => ?_ | refine dwX 6 [([0, 1, 2, 3, 4, 5, 6, 7, 8], [])] [] ?_ | refine dwX 8 [([0, 1, 2, 3, 4, 5, 6, 7, 8], [])] [] ?_)
    refine post_ret (hs' := []) [_] rfl ⟨rfl, rfl⟩ (List.nil_sublist _) ?_
    exact ⟨by rw [cmpT_eq t u hz]; rfl, rfl⟩
  · obtain ⟨x, hx⟩ : ∃ x, [t.seq, t.who, t.op][k]? = some x := ⟨_, List.getElem?_eq_getElem (by simp; omega)⟩
    obtain ⟨y, hy⟩ : ∃ y, [u.seq, u.who, u.op][k]? = some y := ⟨_, List.getElem?_eq_getElem (by simp; omega)⟩
    repeat (first | refine goX ?_ | refine bxX fun b => ?_ | refine bsX fun b => ?_ | refine dwX 6 [([0, 1, 2, 3, 4, 5, 6, 7, 8], [])] [] ?_ | refine dwX 8 [([0, 1, 2, 3, 4, 5, 6, 7, 8], [])] [] ?_)
    refine e_indexAddr tb (R := IntR) (sz := 1) rfl rfl rfl rfl rfl hSx1 (by omega) (by omega) (by first | exact hx | simpa using hx) rfl ?_
    rintro b5 off5 vs rfl _ hc5
    repeat (first | refine goX ?_ | refine bxX fun b => ?_ | refine bsX fun b => ?_ | refine dwX 6 [([0, 1, 2, 3, 4, 5, 6, 7, 8], [])] [] ?_ | refine dwX 8 [([0, 1, 2, 3, 4, 5, 6, 7, 8], [])] [] ?_)
    refine e_indexAddr tb (R := IntR) (sz := 1) rfl rfl rfl rfl rfl hSy1 (by omega) (by omega) (by first | exact hy | simpa using hy) rfl ?_
    rintro b6 off6 vs rfl _ hc6
    repeat (first | refine goX ?_ | refine bxX fun b => ?_ | refine bsX fun b => ?_ | refine dwX 6 [([0, 1, 2, 3, 4, 5, 6, 7, 8], [])] [] ?_ | refine dwX 8 [([0, 1, 2, 3, 4, 5, 6, 7, 8], [])] [] ?_)
    refine RC.cond rfl (fun h4 => ?_) (fun h4 => ?_) <;> (try simp only [decide_eq_true_eq, decide_eq_false_iff_not, Bool.not_eq_true', Bool.not_eq_false', Bool.not_eq_eq_eq_not, Bool.not_true, Bool.not_false, Int.not_lt, Int.not_le] at h4)
    · repeat (first | refine goX ?_ | refine bxX fun b => ?_ | refine bsX fun b => ?_ | refine dwX 6 [([0, 1, 2, 3, 4, 5, 6, 7, 8], [])] [] ?_ | refine dwX 8 [([0, 1, 2, 3, 4, 5, 6, 7, 8], [])] [] ?_)
      refine post_ret (hs' := []) [_] rfl ⟨rfl, rfl⟩ (List.nil_sublist _) ?_
      rw [cmpT_idx t u k x y hx hy hz (by omega)]
      exact ⟨by simp [pack, cmpI, h4], rfl⟩
    · repeat (first | refine goX ?_ | refine bxX fun b => ?_ | refine bsX fun b => ?_ | refine dwX 6 [([0, 1, 2, 3, 4, 5, 6, 7, 8], [])] [] ?_ | refine dwX 8 [([0, 1, 2, 3, 4, 5, 6, 7, 8], [])] [] ?_)
      refine e_indexAddr tb (R := IntR) (sz := 1) rfl rfl rfl rfl rfl hSx1 (by omega) (by omega) (by first | exact hx | simpa using hx) rfl ?_
      rintro b5 off5 vs rfl _ hc5
      repeat (first | refine goX ?_ | refine bxX fun b => ?_ | refine bsX fun b => ?_ | refine dwX 6 [([0, 1, 2, 3, 4, 5, 6, 7, 8], [])] [] ?_ | refine dwX 8 [([0, 1, 2, 3, 4, 5, 6, 7, 8], [])] [] ?_)
      refine e_indexAddr tb (R := IntR) (sz := 1) rfl rfl rfl rfl rfl hSy1 (by omega) (by omega) (by first | exact hy | simpa using hy) rfl ?_
      rintro b6 off6 vs rfl _ hc6
      repeat (first | refine goX ?_ | refine bxX fun b => ?_ | refine bsX fun b => ?_ | refine dwX 6 [([0, 1, 2, 3, 4, 5, 6, 7, 8], [])] [] ?_ | refine dwX 8 [([0, 1, 2, 3, 4, 5, 6, 7, 8], [])] [] ?_)
      refine RC.cond rfl (fun h5 => ?_) (fun h5 => ?_) <;> (try simp only [decide_eq_true_eq, decide_eq_false_iff_not, Bool.not_eq_true', Bool.not_eq_false', Bool.not_eq_eq_eq_not, Bool.not_true, Bool.not_false, Int.not_lt, Int.not_le] at h5)
      · repeat (first | refine goX ?_ | refine bxX fun b => ?_ | refine bsX fun b => ?_ | refine dwX 6 [([0, 1, 2, 3, 4, 5, 6, 7, 8], [])] [] ?_ | refine dwX 8 [([0, 1, 2, 3, 4, 5, 6, 7, 8], [])] [] ?_)
        refine post_ret (hs' := []) [_] rfl ⟨rfl, rfl⟩ (List.nil_sublist _) ?_
        rw [cmpT_idx t u k x y hx hy hz (by omega)]
        exact ⟨by simp [pack, cmpI, h5, Int.not_lt.2 h4], rfl⟩
      · have hxy : x = y := by omega
        repeat (first | refine goX ?_ | refine bxX fun b => ?_ | refine bsX fun b => ?_ | refine dwX 6 [([0, 1, 2, 3, 4, 5, 6, 7, 8], [])] [] ?_ | refine dwX 8 [([0, 1, 2, 3, 4, 5, 6, 7, 8], [])] [] ?_)
        refine ⟨k + 1, ⟨by omega, fun j hj => ?_⟩, by omega, leX, Imp.sublist slX⟩
        rcases Nat.lt_or_ge j k with h6 | h6
        · exact hz j h6
        · obtain rfl : j = k := by omega
          rw [hx, hy, hxy]

def sameValF (a e : En) : Bool := if a.has ≠ e.has then false else if a.has = false then true else decide (a.b = e.b)
def sameF (a e : En) : Bool := decide (a.key = e.key) && decide (a.tag = e.tag) && sameValF a e
theorem byteV_inj {a c : UInt8} : (a.toNat : Int) = (c.toNat : Int) ↔ a = c := by
  constructor
  · intro h; exact UInt8.toNat_inj.1 (by exact_mod_cast h)
  · intro h; rw [h]
theorem rsameval_spec {a e : En} {u v : Value} {K : List Hp} {x y : Option Addr} {c c' : Nat} (hu : u = .agg #[.bool a.has, .slice x a.b.length c]) (hv : v = .agg #[.bool e.has, .slice y e.b.length c']) (hx : SlOf K ByteR 1 x a.b) (hy : SlOf K ByteR 1 y e.b) (hn : a.b.length ≤ 100000000) :
    Fn Tryz.prog 30 [u, v] K [] fun r hs' => r = .bool (sameValF a e) ∧ hs' = [] := by
  subst hu; subst hv
  refine Fn.enter Tryz.func30 rfl rfl ?_; simp only [Tryz.ntmps30, argEnv, Nat.reduceAdd]
  repeat (first | refine goX ?_ | refine bxX fun b => ?_ | refine dwX 10 [([0, 1, 2, 3, 4, 5, 6, 7, 8, 9, 10], [])] [] ?_)
  unfold sameValF
  cases a.has <;> cases e.has
  case true.true =>
    by_cases hl : a.b.length = e.b.length
    · repeat (first | refine goX ?_ | refine bxX fun b => ?_ | refine dwX 10 [([0, 1, 2, 3, 4, 5, 6, 7, 8, 9, 10], [])] [] ?_)
      rename_i b1
      refine RC.loopI (fun k : Nat => [(5, .int .i64 (k : Int)), (3, .pointer (some ⟨b, 0, none⟩)), (2, .pointer (some ⟨b1, 0, none⟩))]) (fun _ => [one b (.cells [.bool true, .slice y e.b.length c'].toArray 35 (0, 0)), one b1 (.cells [.bool true, .slice x a.b.length c].toArray 35 (0, 0))])
        (fun k => k ≤ a.b.length ∧ a.b.take k = e.b.take k) (fun k => a.b.length - k) 0 ⟨Nat.zero_le _, rfl⟩ leX (Imp.take (junk := _) pmX) ?_
      rintro k ⟨hk, hz⟩
      by_cases h3 : k = a.b.length
      · have hbb : a.b = e.b := by
          rw [h3, List.take_length, hl, List.take_length] at hz
          exact hz
        repeat (first | refine goX ?_ | refine bxX fun b => ?_ | refine dwX 10 [([0, 1, 2, 3, 4, 5, 6, 7, 8, 9, 10], [])] [] ?_)
        refine post_ret (hs' := []) [_] rfl ⟨rfl, rfl⟩ (List.nil_sublist _) ?_
        exact ⟨by simp [pack, hbb], rfl⟩
      · obtain ⟨p, hp⟩ : ∃ p, a.b[k]? = some p := ⟨_, List.getElem?_eq_getElem (by omega)⟩
        obtain ⟨q, hq⟩ : ∃ q, e.b[k]? = some q := ⟨_, List.getElem?_eq_getElem (by omega)⟩
        repeat (first | refine goX ?_ | refine bxX fun b => ?_ | refine dwX 10 [([0, 1, 2, 3, 4, 5, 6, 7, 8, 9, 10], [])] [] ?_)
        refine e_indexAddr tb (R := ByteR) (sz := 1) rfl rfl rfl rfl rfl hx (by omega) (by omega) (by first | exact hp | simpa using hp) rfl ?_
        rintro b5 off5 vs rfl _ hc5
        repeat (first | refine goX ?_ | refine bxX fun b => ?_ | refine dwX 10 [([0, 1, 2, 3, 4, 5, 6, 7, 8, 9, 10], [])] [] ?_)
        refine e_indexAddr tb (R := ByteR) (sz := 1) rfl rfl rfl rfl rfl hy (by omega) (by omega) (by first | exact hq | simpa using hq) rfl ?_
        rintro b6 off6 vs rfl _ hc6
        repeat (first | refine goX ?_ | refine bxX fun b => ?_ | refine dwX 10 [([0, 1, 2, 3, 4, 5, 6, 7, 8, 9, 10], [])] [] ?_)
        by_cases hpq : p = q
        · subst hpq
          simp only [decide_true, Bool.not_true]
          repeat (first | refine goX ?_ | refine bxX fun b => ?_ | refine dwX 10 [([0, 1, 2, 3, 4, 5, 6, 7, 8, 9, 10], [])] [] ?_)
          refine ⟨k + 1, ⟨by omega, by rw [take_succ_eq hp, take_succ_eq hq, hz]⟩, by omega, leX, Imp.sublist slX⟩
        · have hpq' : ¬ (p.toNat : Int) = (q.toNat : Int) := fun h => hpq (byteV_inj.1 h)
          have hne : a.b ≠ e.b := fun h => by rw [h, hq] at hp; exact hpq (Option.some.inj hp).symm
          simp only [hpq', decide_false, Bool.not_false]
          repeat (first | refine goX ?_ | refine bxX fun b => ?_ | refine dwX 10 [([0, 1, 2, 3, 4, 5, 6, 7, 8, 9, 10], [])] [] ?_)
          refine post_ret (hs' := []) [_] rfl ⟨rfl, rfl⟩ (List.nil_sublist _) ?_
          exact ⟨by simp [pack, hne], rfl⟩
    · have hne : a.b ≠ e.b := fun h => hl (by rw [h])
      repeat (first | refine goX ?_ | refine bxX fun b => ?_ | refine dwX 10 [([0, 1, 2, 3, 4, 5, 6, 7, 8, 9, 10], [])] [] ?_)
      refine post_ret (hs' := []) [_] rfl ⟨rfl, rfl⟩ (List.nil_sublist _) ?_
      exact ⟨by simp [pack, hne], rfl⟩
  all_goals
    repeat (first | refine goX ?_ | refine bxX fun b => ?_ | refine dwX 10 [([0, 1, 2, 3, 4, 5, 6, 7, 8, 9, 10], [])] [] ?_)
    refine post_ret (hs' := []) [_] rfl ⟨rfl, rfl⟩ (List.nil_sublist _) ?_
    exact ⟨by simp [pack], rfl⟩

theorem tagB (t u : Tg) : (decide (t.seq = u.seq) && (decide (t.who = u.who) && (decide (t.op = u.op) && true))) = decide (t = u) := by
  obtain ⟨a, b, c⟩ := t
  obtain ⟨d, e, f⟩ := u
  simp [Bool.eq_iff_iff]
theorem ackB (p q : Ak) : (decide (p.who = q.who) && (decide (str p.key = str q.key) && (decide (p.tag.seq = q.tag.seq) && (decide (p.tag.who = q.tag.who) && (decide (p.tag.op = q.tag.op) && true)) && true))) = decide (p = q) := by
  have hs : (str p.key = str q.key) = (p.key = q.key) := propext ⟨str_inj, fun h => by rw [h]⟩
  rw [tagB]
  simp only [hs]
  obtain ⟨a, b, c⟩ := p
  obtain ⟨d, e, f⟩ := q
  simp [Bool.eq_iff_iff]
theorem rsame_spec {a e : En} {u v : Value} {K : List Hp} (hu : EnV K u a) (hv : EnV K v e) (hn : a.b.length ≤ 100000000) : Fn Tryz.prog 15 [u, v] K [] fun r hs' => r = .bool (sameF a e) ∧ hs' = [] := by
  obtain ⟨vs, rfl, x, c, rfl, hc, hx⟩ := hu
  obtain ⟨vs, rfl, y, c', rfl, hc', hy⟩ := hv
  refine Fn.enter Tryz.func15 rfl rfl ?_; simp only [Tryz.ntmps15, argEnv, Nat.reduceAdd]
  have hs : (str a.key = str e.key) = (a.key = e.key) := propext ⟨str_inj, fun h => by rw [h]⟩
  have hsf : ¬ (a.key = e.key ∧ a.tag = e.tag) → sameF a e = false := fun h => by
    unfold sameF
    by_cases h1 : a.key = e.key
    · have h2 : ¬ a.tag = e.tag := fun h2 => h ⟨h1, h2⟩
      simp [h2]
    · simp [h1]
  repeat (first | refine goX ?_ | refine bxX fun b => ?_)
  by_cases hk : a.key = e.key
  case neg =>
    simp only [hs, hk, decide_false]
    repeat (first | refine goX ?_ | refine bxX fun b => ?_)
    refine post_ret (hs' := []) [_] rfl ⟨rfl, rfl⟩ (List.nil_sublist _) ?_
    rw [hsf (fun h => hk h.1)]
    exact ⟨rfl, rfl⟩
  simp only [hs, hk, decide_true]
  repeat (first | refine goX ?_ | refine bxX fun b => ?_)
  simp only [tagB]
  by_cases ht : a.tag = e.tag
  case neg =>
    simp only [ht, decide_false]
    repeat (first | refine goX ?_ | refine bxX fun b => ?_)
    refine post_ret (hs' := []) [_] rfl ⟨rfl, rfl⟩ (List.nil_sublist _) ?_
    rw [hsf (fun h => ht h.2)]
    exact ⟨rfl, rfl⟩
  simp only [ht, decide_true]
  repeat (first | refine goX ?_ | refine bxX fun b => ?_)
  refine RO.call0 rfl rfl rfl Tryz.func30 rfl (by kernel_rfl) (rsameval_spec (a := a) (e := e) rfl rfl (hx.sub (Sub.left _ _)) (hy.sub (Sub.left _ _)) hn) ?_
  rintro r hs' ⟨rfl, rfl⟩
  repeat (first | refine goX ?_ | refine bxX fun b => ?_)
  refine post_ret (hs' := []) [_] rfl ⟨rfl, rfl⟩ (List.nil_sublist _) ?_
  exact ⟨by simp [sameF, pack, hk, ht], rfl⟩
theorem rsameacks_spec {la lb : List Ak} {K : List Hp} {x y : Option Addr} {c c' : Nat} (hx : SlOf K AckR 5 x la) (hy : SlOf K AckR 5 y lb) (hn : la.length ≤ 100000000) : Fn Tryz.prog 20 [.slice x la.length c, .slice y lb.length c'] K [] fun r hs' => r = .bool (decide (la = lb)) ∧ hs' = [] := by
  refine Fn.enter Tryz.func20 rfl rfl ?_; simp only [Tryz.ntmps20, argEnv, Nat.reduceAdd]
  by_cases hl : la.length = lb.length
  · repeat (first | refine goX ?_ | refine dwX 6 [([0, 1, 2, 3, 4, 5, 6, 7, 8], [])] [] ?_)
    refine RC.loopI (fun k : Nat => [(5, .int .i64 (k : Int)), (1, .slice y lb.length c'), (0, .slice x la.length c)]) (fun _ => []) (fun k => k ≤ la.length ∧ la.take k = lb.take k) (fun k => la.length - k) 0 ⟨Nat.zero_le _, rfl⟩ leX (Imp.sublist (List.nil_sublist _)) ?_
    rintro k ⟨hk, hz⟩
    by_cases h3 : k = la.length
    · have hbb : la = lb := by
        rw [h3, List.take_length, hl, List.take_length] at hz
        exact hz
      repeat (first | refine goX ?_ | refine dwX 6 [([0, 1, 2, 3, 4, 5, 6, 7, 8], [])] [] ?_)
      refine post_ret (hs' := []) [_] rfl ⟨rfl, rfl⟩ (List.nil_sublist _) ?_
      exact ⟨by simp [pack, hbb], rfl⟩
    · obtain ⟨p, hp⟩ : ∃ p, la[k]? = some p := ⟨_, List.getElem?_eq_getElem (by omega)⟩
      obtain ⟨q, hq⟩ : ∃ q, lb[k]? = some q := ⟨_, List.getElem?_eq_getElem (by omega)⟩
      repeat (first | refine goX ?_ | refine dwX 6 [([0, 1, 2, 3, 4, 5, 6, 7, 8], [])] [] ?_)
      refine e_indexAddr tb (R := AckR) (sz := 5) rfl rfl rfl rfl rfl hx (by omega) (by omega) (by first | exact hp | simpa using hp) rfl ?_
      rintro b5 off5 vs rfl _ hc5
      repeat (first | refine goX ?_ | refine dwX 6 [([0, 1, 2, 3, 4, 5, 6, 7, 8], [])] [] ?_)
      refine e_indexAddr tb (R := AckR) (sz := 5) rfl rfl rfl rfl rfl hy (by omega) (by omega) (by first | exact hq | simpa using hq) rfl ?_
      rintro b6 off6 vs rfl _ hc6
      repeat (first | refine goX ?_ | refine dwX 6 [([0, 1, 2, 3, 4, 5, 6, 7, 8], [])] [] ?_)
      simp only [ackB]
      by_cases hpq : p = q
      · subst hpq
        simp only [decide_true, Bool.not_true]
        repeat (first | refine goX ?_ | refine dwX 6 [([0, 1, 2, 3, 4, 5, 6, 7, 8], [])] [] ?_)
        refine ⟨k + 1, ⟨by omega, by rw [take_succ_eq hp, take_succ_eq hq, hz]⟩, by omega, leX, Imp.sublist (List.nil_sublist _)⟩
      · have hne : la ≠ lb := fun h => by rw [h, hq] at hp; exact hpq (Option.some.inj hp).symm
        simp only [hpq, decide_false, Bool.not_false]
        repeat (first | refine goX ?_ | refine dwX 6 [([0, 1, 2, 3, 4, 5, 6, 7, 8], [])] [] ?_)
        refine post_ret (hs' := []) [_] rfl ⟨rfl, rfl⟩ (List.nil_sublist _) ?_
        exact ⟨by simp [pack, hne], rfl⟩
  · have hne : la ≠ lb := fun h => hl (by rw [h])
    repeat (first | refine goX ?_ | refine dwX 6 [([0, 1, 2, 3, 4, 5, 6, 7, 8], [])] [] ?_)
    refine post_ret (hs' := []) [_] rfl ⟨rfl, rfl⟩ (List.nil_sublist _) ?_
    exact ⟨by simp [pack, hne], rfl⟩

/-- all that is done, one thing -/
structure Do where
  kind : Int
  e : En
  who : Int
  kept : Int
def DoR (M : List Hp) (d : Do) (vs : List Value) : Prop := ∃ a c, vs = [.int .i64 d.kind, .string (str d.e.key), .int .i64 d.e.tag.seq, .int .i64 d.e.tag.who, .int .i64 d.e.tag.op, .bool d.e.has, .slice a d.e.b.length c, .int .i64 d.who, .int .i64 d.kept] ∧ d.e.b.length ≤ c ∧ SlOf M ByteR 1 a d.e.b
def longF (l : List Do) : Nat := (l.map fun d => 20 + d.e.key.length + d.e.b.length).sum
theorem longF_snoc (l : List Do) (d : Do) : longF (l ++ [d]) = longF l + (20 + d.e.key.length + d.e.b.length) := by simp [longF]
theorem longF_take (l : List Do) (i : Nat) : longF (l.take i) ≤ longF l := by
  have : longF l = longF (l.take i) + longF (l.drop i) := by
    unfold longF; rw [← List.sum_append, ← List.map_append, List.take_append_drop]
  omega
theorem long_spec {l : List Do} {K M : List Hp} {x : Option Addr} {c : Nat} (hx : SlOf K (DoR M) 9 x l) (hc : l.length ≤ c) (hn : longF l ≤ 1000000000) (hl : l.length ≤ 100000000) : Fn Tryz.prog 6 [.slice x l.length c] K [] fun r hs' => r = .int .i64 (longF l : Int) ∧ hs' = [] := by
  refine Fn.enter Tryz.func6 rfl rfl ?_; simp only [Tryz.ntmps6, argEnv, Nat.reduceAdd]
  repeat (first | refine goX ?_ | refine dwX 5 [([0, 1, 2, 3, 4, 5, 6, 7, 8, 9, 10, 11, 12, 13, 14, 15, 16, 17, 18, 19], [])] [] ?_)
  refine RC.loopI (fun k : Nat => [(4, .int .i64 (k : Int)), (3, .int .i64 (longF (l.take k) : Int)), (0, .slice x l.length c)]) (fun _ => []) (fun k => k ≤ l.length) (fun k => l.length - k) 0 (Nat.zero_le _) leX (Imp.sublist (List.nil_sublist _)) ?_
  intro k hk
  by_cases h3 : k = l.length
  · subst h3
    rw [List.take_length]
    repeat (first | refine goX ?_ | refine dwX 5 [([0, 1, 2, 3, 4, 5, 6, 7, 8, 9, 10, 11, 12, 13, 14, 15, 16, 17, 18, 19], [])] [] ?_)
    refine post_ret (hs' := []) [_] rfl ⟨rfl, rfl⟩ (List.nil_sublist _) ?_
    exact ⟨rfl, rfl⟩
  · obtain ⟨p, hp⟩ : ∃ p, l[k]? = some p := ⟨_, List.getElem?_eq_getElem (by omega)⟩
    have hs := longF_snoc (l.take k) p
    rw [← take_succ_eq hp] at hs
    have ht := longF_take l (k + 1)
    repeat (first | refine goX ?_ | refine dwX 5 [([0, 1, 2, 3, 4, 5, 6, 7, 8, 9, 10, 11, 12, 13, 14, 15, 16, 17, 18, 19], [])] [] ?_)
    refine e_indexAddr tb (R := _) (sz := 9) rfl rfl rfl rfl rfl hx (by omega) (by omega) (by first | exact hp | simpa using hp) rfl ?_
    rintro b5 off5 vs ⟨a6, c6, rfl, _, _⟩ _ hc5
    have h1 := hc5.get1 1 rfl
    have h6 := hc5.get1 6 rfl
    have hks := str_size p.e.key
    repeat (first | refine goX ?_ | refine dwX 5 [([0, 1, 2, 3, 4, 5, 6, 7, 8, 9, 10, 11, 12, 13, 14, 15, 16, 17, 18, 19], [])] [] ?_)
    refine e_indexAddr tb (R := _) (sz := 9) rfl rfl rfl rfl rfl hx (by omega) (by omega) (by first | exact hp | simpa using hp) rfl ?_
    rintro b6 off6 vs ⟨a7, c7, rfl, _, _⟩ _ hc6
    have h1 := hc6.get1 1 rfl
    have h6 := hc6.get1 6 rfl
    repeat (first | refine goX ?_ | refine dwX 5 [([0, 1, 2, 3, 4, 5, 6, 7, 8, 9, 10, 11, 12, 13, 14, 15, 16, 17, 18, 19], [])] [] ?_)
    refine ⟨k + 1, by omega, by omega, ?_, Imp.sublist (List.nil_sublist _)⟩
    have e : (longF (l.take (k + 1)) : Int) = (longF (l.take k) : Int) + 20 + ((str p.e.key).size : Int) + (p.e.b.length : Int) := by omega
    rw [e]
    exact leX
end Go.Proofs.YtonnncdolofccaaGreat

namespace Go.Proofs.YtonnncdolofccaaGreat
attribute [local irreducible] RC RO EvE DR OpV Fn SlOf OwnSl postQ Src Rows Rdb CellsAt thenQ blockQ noGotoQ
set_option linter.unusedSimpArgs false
set_option linter.unusedVariables false

/-! ### the steps -/
def putF (s : St) (e : En) (who : Int) : St × Int :=
  if right e = true ∧ e.tag.seq ≠ 0 ∧ 0 ≤ who ∧ who ≤ 1048575 then
    if 0 < cmpT e.tag (ofE s.newer e.key).tag then
      if s.g.d.l.length + s.g.d.t.length + (frameB 1 (enB e)).length ≤ 4194304 then
        (⟨⟨⟨s.g.d.l, s.g.d.t ++ frameB 1 (enB e), s.g.d.n⟩, s.g.rs ++ [⟨1, enB e⟩], s.g.last⟩, layE s.newer e, s.lasts, s.acks ++ [⟨who, e.key, e.tag⟩]⟩, 0)
      else (s, 3)
    else (⟨s.g, s.newer, s.lasts, s.acks ++ [⟨who, e.key, e.tag⟩]⟩, 0)
  else (s, 2)
def tickF (s : St) : St := ⟨⟨⟨s.g.d.l ++ s.g.d.t, [], s.g.d.n⟩, s.g.rs, s.g.rs.length⟩, s.newer, s.newer, []⟩
def compF (s : St) : St × Int :=
  if (compB (sortedF s.newer)).length ≤ 65536 then (⟨⟨⟨frameB 0 (compB (sortedF s.newer)), [], s.g.d.n⟩, [⟨0, compB (sortedF s.newer)⟩], 1⟩, s.newer, s.newer, s.acks⟩, 0) else (s, 3)
def crashF (s : St) (k : Int) : St × Int :=
  if k < 0 then (s, 2) else match recoverF (s.g.d.l ++ s.g.d.t.take k.toNat) with
    | some es => (⟨⟨⟨(s.g.d.l ++ s.g.d.t.take k.toNat).take (scan (s.g.d.l ++ s.g.d.t.take k.toNat)).2, [], s.g.d.n⟩, (scan (s.g.d.l ++ s.g.d.t.take k.toNat)).1, (scan (s.g.d.l ++ s.g.d.t.take k.toNat)).1.length⟩, es, es, []⟩, 0)
    | none => (s, 11)
def doneF (s : St) (d : Do) : St × List Ak × Int :=
  if d.kind = 1 then ((putF s d.e d.who).1, [], (putF s d.e d.who).2) else
  if d.kind = 2 then (tickF s, s.acks, 0) else
  if d.kind = 3 then ((compF s).1, [], (compF s).2) else ((crashF s d.kept).1, [], (crashF s d.kept).2)

/-! ### what holds of each store -/
structure SOk (i : Nat) (s : St) : Prop where
  g : s.g.ok
  nk : ∀ e, e ∈ s.newer → right e = true
  lk : ∀ e, e ∈ s.lasts → right e = true
  nl : s.newer.length ≤ 1000000 + i
  ll : s.lasts.length ≤ 1000000 + i
  al : s.acks.length ≤ i
theorem SOk.n {i : Nat} {s : St} (h : SOk i s) (hi : i ≤ 10000) : EsOk s.newer := ⟨h.nk, by have := h.nl; omega⟩
theorem SOk.l {i : Nat} {s : St} (h : SOk i s) (hi : i ≤ 10000) : EsOk s.lasts := ⟨h.lk, by have := h.ll; omega⟩
theorem SOk.zero : SOk 0 St.zero := ⟨⟨(by show 0 + 0 ≤ _; omega), Nat.zero_le _⟩, (fun _ h => by cases h), (fun _ h => by cases h), Nat.zero_le _, Nat.zero_le _, Nat.le_refl _⟩
theorem updE_mem {es : List En} {e x : En} (h : x ∈ updE es e) : x ∈ es ∨ x = e := by
  induction es with
  | nil => simp only [updE, List.mem_singleton] at h; exact .inr h
  | cons y ys ih =>
    simp only [updE] at h
    split at h
    · rcases List.mem_cons.1 h with h | h
      · exact .inr h
      · exact .inl (List.mem_cons_of_mem _ h)
    · rcases List.mem_cons.1 h with h | h
      · rw [h]; exact .inl List.mem_cons_self
      · rcases ih h with h | h
        · exact .inl (List.mem_cons_of_mem _ h)
        · exact .inr h
theorem updE_len (es : List En) (e : En) : (updE es e).length ≤ es.length + 1 := by
  induction es with
  | nil => simp [updE]
  | cons y ys ih =>
    simp only [updE]
    split
    · simp
    · simp only [List.length_cons]; omega
theorem layE_mem {es : List En} {e x : En} (h : x ∈ layE es e) : x ∈ es ∨ x = e := by
  unfold layE at h
  split at h
  · exact updE_mem h
  · exact .inl h
theorem layE_len (es : List En) (e : En) : (layE es e).length ≤ es.length + 1 := by
  unfold layE
  split
  · exact updE_len es e
  · omega
theorem layRows_ok : ∀ (xs : List (List UInt8)) (es es' : List En), layRows es xs = some es' → (∀ e, e ∈ es → right e = true) → (∀ e, e ∈ es' → right e = true) ∧ es'.length ≤ es.length + xs.length
  | [], es, es', h, hr => by
    simp only [layRows, Option.some.injEq] at h
    subst h; exact ⟨hr, by simp⟩
  | x :: xs, es, es', h, hr => by
    simp only [layRows] at h
    split at h
    · rename_i hok
      obtain ⟨h1, h2⟩ := layRows_ok xs _ es' h fun e he => by
        rcases layE_mem he with he | rfl
        · exact hr e he
        · exact readF_right hok.1
      have := layE_len es (readF x).1
      exact ⟨h1, by simp only [List.length_cons]; omega⟩
    · cases h
theorem layRecs_ok : ∀ (xs : List Rc) (es es' : List En), layRecs es xs = some es' → (∀ e, e ∈ es → right e = true) → (∀ e, e ∈ es' → right e = true) ∧ es'.length ≤ es.length + xs.length
  | [], es, es', h, hr => by
    simp only [layRecs, Option.some.injEq] at h
    subst h; exact ⟨hr, by simp⟩
  | x :: xs, es, es', h, hr => by
    simp only [layRecs] at h
    split at h
    · rename_i hok
      obtain ⟨h1, h2⟩ := layRecs_ok xs _ es' h fun e he => by
        rcases layE_mem he with he | rfl
        · exact hr e he
        · exact readF_right hok.2.1
      have := layE_len es (readF x.b).1
      exact ⟨h1, by simp only [List.length_cons]; omega⟩
    · cases h
theorem recoverF_ok {x : List UInt8} {es : List En} (hx : x.length ≤ 4194304) (h : recoverF x = some es) : (∀ e, e ∈ es → right e = true) ∧ es.length ≤ 1000000 := by
  unfold recoverF at h
  split at h
  · cases h1 : layRows [] (rowsF ⟨(lastF (scan x).1).1, 0⟩).1 with
    | none => rw [h1] at h; cases h
    | some es1 =>
      rw [h1, Option.bind_some] at h
      obtain ⟨a1, a2⟩ := layRows_ok _ _ _ h1 (fun _ h => by cases h)
      obtain ⟨b1, b2⟩ := layRecs_ok _ _ _ h a1
      refine ⟨b1, ?_⟩
      have h3 := (rowsF_len ⟨(lastF (scan x).1).1, 0⟩).1
      have h4 := lastF_len (b := x)
      have h5 := (lastG_facts (scan x).1 (scan x).1.length).2.1
      have h6 := scan_le (b := x)
      change (lastF (scan x).1).2.length ≤ _ at h5
      simp only [List.length_nil] at a2
      change (rowsF ⟨(lastF (scan x).1).1, 0⟩).1.length ≤ (lastF (scan x).1).1.length at h3
      omega
  · cases h
theorem scanTake_ok {x : List UInt8} (hx : x.length ≤ 4194304) (n : Int) (m : Nat) : (⟨⟨x.take (scan x).2, [], n⟩, (scan x).1, m⟩ : Lg).ok := by
  have := scan_le (b := x)
  constructor
  · show (x.take (scan x).2).length + 0 ≤ _
    rw [List.length_take]; omega
  · show 10 * (scan x).1.length ≤ (x.take (scan x).2).length + 0
    rw [List.length_take]; omega
theorem SOk.crash {i : Nat} {s : St} (h : SOk i s) (k : Int) : SOk (i + 1) (crashF s k).1 := by
  have keep : SOk (i + 1) s := ⟨h.g, h.nk, h.lk, by have := h.nl; omega, by have := h.ll; omega, by have := h.al; omega⟩
  unfold crashF
  split
  · exact keep
  · have hx : (s.g.d.l ++ s.g.d.t.take k.toNat).length ≤ 4194304 := by
      have : s.g.d.l.length + s.g.d.t.length ≤ 4194304 := h.g.1
      rw [List.length_append, List.length_take]; omega
    split
    · rename_i es he
      obtain ⟨h1, h2⟩ := recoverF_ok hx he
      exact ⟨scanTake_ok hx _ _, h1, h1, by simp only; omega, by simp only; omega, Nat.zero_le _⟩
    · exact keep
theorem SOk.put {i : Nat} {s : St} (h : SOk i s) (e : En) (who : Int) : SOk (i + 1) (putF s e who).1 := by
  have hnl := h.nl
  have hll := h.ll
  have hal := h.al
  have keep : SOk (i + 1) s := ⟨h.g, h.nk, h.lk, by omega, by omega, by omega⟩
  unfold putF
  split
  · rename_i hr
    split
    · split
      · rename_i hf
        have h1 : s.g.d.l.length + s.g.d.t.length ≤ 4194304 := h.g.1
        have h2 := h.g.2
        have hfl := frameB_len 1 (enB e)
        refine ⟨⟨?_, ?_⟩, ?_, h.lk, ?_, by simp only; omega, ?_⟩
        · show s.g.d.l.length + (s.g.d.t ++ frameB 1 (enB e)).length ≤ 4194304
          rw [List.length_append]; omega
        · show 10 * (s.g.rs ++ [(⟨1, enB e⟩ : Rc)]).length ≤ s.g.d.l.length + (s.g.d.t ++ frameB 1 (enB e)).length
          simp only [List.length_append, List.length_singleton]; omega
        · intro x hx
          rcases layE_mem hx with hx | rfl
          · exact h.nk x hx
          · exact hr.1
        · have := layE_len s.newer e
          simp only; omega
        · simp only [List.length_append, List.length_singleton]; omega
      · exact keep
    · exact ⟨h.g, h.nk, h.lk, by simp only; omega, by simp only; omega, by simp only [List.length_append, List.length_singleton]; omega⟩
  · exact keep
theorem SOk.tick {i : Nat} {s : St} (h : SOk i s) : SOk i (tickF s) := by
  have h1 : s.g.d.l.length + s.g.d.t.length ≤ 4194304 := h.g.1
  have h2 := h.g.2
  refine ⟨⟨?_, ?_⟩, h.nk, h.nk, h.nl, h.nl, Nat.zero_le _⟩
  · show (s.g.d.l ++ s.g.d.t).length + 0 ≤ _
    rw [List.length_append]; omega
  · show 10 * s.g.rs.length ≤ (s.g.d.l ++ s.g.d.t).length + 0
    rw [List.length_append]; omega
theorem SOk.more {i : Nat} {s : St} (h : SOk i s) : SOk (i + 1) s := ⟨h.g, h.nk, h.lk, by have := h.nl; omega, by have := h.ll; omega, by have := h.al; omega⟩
theorem SOk.comp {i : Nat} {s : St} (h : SOk i s) : SOk (i + 1) (compF s).1 := by
  unfold compF
  split
  · rename_i hl
    have hfl := frameB_len 0 (compB (sortedF s.newer))
    refine ⟨⟨?_, ?_⟩, h.nk, h.nk, by have := h.nl; simp only; omega, by have := h.nl; simp only; omega, by have := h.al; simp only; omega⟩
    · show (frameB 0 (compB (sortedF s.newer))).length + 0 ≤ _
      omega
    · show 10 * 1 ≤ (frameB 0 (compB (sortedF s.newer))).length + 0
      omega
  · exact h.more
theorem SOk.done {i : Nat} {s : St} (h : SOk i s) (d : Do) : SOk (i + 1) (doneF s d).1 := by
  unfold doneF
  split
  · exact h.put _ _
  · split
    · exact h.tick.more
    · split
      · exact h.comp
      · exact h.crash _

/-! ### the walk -/
/-- a store; how often its disk was synced is not told -/
def IsT (p : Value) (s : St) (h : Hp) : Prop := ∃ n : Int, IsS p ⟨⟨⟨s.g.d.l, s.g.d.t, n⟩, s.g.rs, s.g.last⟩, s.newer, s.lasts, s.acks⟩ h
theorem IsS.t {p : Value} {s : St} {h : Hp} (o : IsS p s h) : IsT p s h := ⟨s.g.d.n, o⟩
theorem IsT.ptr {p : Value} {s : St} {h : Hp} (o : IsT p s h) : ∃ b, p = .pointer (some ⟨b, 0, none⟩) := by
  obtain ⟨n, b, _, _, _, _, _, _, _, _, _, _, _, e, _⟩ := o
  exact ⟨b, e⟩
theorem tput_spec {p : Value} {s : St} {h : Hp} {e : En} {v : Value} {who : Int} {K : List Hp} (ho : IsT p s h) (hv : EnV K v e) (hg : s.g.ok) (ha : s.acks.length ≤ 100000000) : Fn Tryz.prog 17 [p, v, .int .i64 who] K [h] fun r hs' => r = .int .i64 (putF s e who).2 ∧ ∃ h', IsT p (putF s e who).1 h' ∧ hs' = [h'] := by
  obtain ⟨n, ho⟩ := ho
  have hg' : (⟨⟨s.g.d.l, s.g.d.t, n⟩, s.g.rs, s.g.last⟩ : Lg).ok := hg
  unfold putF
  by_cases h1 : right e = true ∧ e.tag.seq ≠ 0 ∧ 0 ≤ who ∧ who ≤ 1048575
  · rw [if_pos h1]
    by_cases h2 : 0 < cmpT e.tag (ofE s.newer e.key).tag
    · rw [if_pos h2]
      refine (put_new ho hv h1 ha h2 hg').mono fun r hs' hr => ?_
      by_cases h3 : s.g.d.l.length + s.g.d.t.length + (frameB 1 (enB e)).length ≤ 4194304
      · rw [if_pos h3]
        simp only [if_pos h3] at hr
        obtain ⟨rfl, h', o, rfl⟩ := hr
        exact ⟨rfl, h', ⟨n, o⟩, rfl⟩
      · rw [if_neg h3]
        simp only [if_neg h3] at hr
        obtain ⟨rfl, h', o, rfl⟩ := hr
        exact ⟨rfl, h', ⟨n, o⟩, rfl⟩
    · rw [if_neg h2]
      refine (put_old ho hv h1 ha h2).mono fun r hs' ⟨hr, h', o, e⟩ => ⟨hr, h', ⟨n, o⟩, e⟩
  · rw [if_neg h1]
    refine (put_refused ho hv ?_).mono fun r hs' ⟨hr, e⟩ => ⟨hr, h, ⟨n, ho⟩, e⟩
    by_cases r1 : right e = true
    · by_cases r2 : e.tag.seq = 0
      · exact .inr (.inl r2)
      · have : ¬ (0 ≤ who ∧ who ≤ 1048575) := fun h => h1 ⟨r1, r2, h⟩
        omega
    · exact .inl (by simpa using r1)
theorem ttick_spec {p : Value} {s : St} {h : Hp} {K : List Hp} (ho : IsT p s h) (hg : s.g.ok) : Fn Tryz.prog 14 [p] K [h] fun r hs' => ∃ va h1 h2, r = .tuple #[va, .int .i64 0] ∧ IsT p (tickF s) h1 ∧ OwnOf AckR 65 5 va s.acks h2 ∧ hs' = [h1, h2] := by
  obtain ⟨n, ho⟩ := ho
  exact (stick_spec ho hg).mono fun r hs' ⟨va, m, h1, h2, e, o, oa, e2⟩ => ⟨va, h1, h2, e, ⟨m, o⟩, oa, e2⟩
theorem tcomp_spec {p : Value} {s : St} {h : Hp} {K : List Hp} (ho : IsT p s h) (hes : EsOk s.newer) : Fn Tryz.prog 23 [p] K [h] fun r hs' => r = .int .i64 (compF s).2 ∧ ∃ h', IsT p (compF s).1 h' ∧ hs' = [h'] := by
  obtain ⟨n, ho⟩ := ho
  refine (scompact_spec ho hes).mono fun r hs' hr => ?_
  unfold compF
  by_cases h1 : (compB (sortedF s.newer)).length ≤ 65536
  · rw [if_pos h1]
    simp only [if_pos h1] at hr
    obtain ⟨rfl, h', o, rfl⟩ := hr
    exact ⟨rfl, h', ⟨n, o⟩, rfl⟩
  · rw [if_neg h1]
    simp only [if_neg h1] at hr
    obtain ⟨rfl, rfl⟩ := hr
    exact ⟨rfl, h, ⟨n, ho⟩, rfl⟩
/-- a crash: what comes back, if any; the store itself stays -/
theorem tcrash_spec {p : Value} {s : St} {h : Hp} {k : Int} {K : List Hp} (ho : IsT p s h) (hg : s.g.ok) : Fn Tryz.prog 26 [p, .int .i64 k] K [h] fun r hs' => ∃ u, r = .tuple #[u, .int .i64 (crashF s k).2] ∧ (((crashF s k).2 = 0 ∧ ∃ h2, IsT u (crashF s k).1 h2 ∧ hs' = [h, h2]) ∨ ((crashF s k).2 ≠ 0 ∧ (crashF s k).1 = s ∧ u = .pointer none ∧ hs' = [h])) := by
  obtain ⟨n, ho⟩ := ho
  refine (scrash_spec (k := k) ho hg).mono fun r hs' hr => ?_
  unfold crashF
  by_cases h1 : k < 0
  · rw [if_pos h1] at hr ⊢
    obtain ⟨rfl, rfl⟩ := hr
    exact ⟨_, rfl, .inr ⟨(by show (2 : Int) ≠ 0; decide), rfl, rfl, rfl⟩⟩
  · rw [if_neg h1] at hr ⊢
    cases hrec : recoverF (s.g.d.l ++ s.g.d.t.take k.toNat) with
    | none =>
      simp only [hrec] at hr
      obtain ⟨rfl, rfl⟩ := hr
      exact ⟨_, rfl, .inr ⟨(by show (11 : Int) ≠ 0; decide), rfl, rfl, rfl⟩⟩
    | some es =>
      simp only [hrec] at hr
      obtain ⟨u, h2, rfl, o, rfl⟩ := hr
      exact ⟨u, rfl, .inl ⟨rfl, h2, ⟨n, o⟩, rfl⟩⟩

theorem done_spec {p : Value} {s : St} {h : Hp} {d : Do} {v : Value} {vs : List Value} {K M : List Hp} (ho : IsT p s h) (hv : v = .agg vs.toArray) (hd : DoR M d vs) (hM : Le M K) (hg : s.g.ok) (ha : s.acks.length ≤ 100000000) (hes : EsOk s.newer) :
    Fn Tryz.prog 9 [p, v] K [h] fun r hs' => ∃ u va h1 h2, r = .tuple #[u, va, .int .i64 (doneF s d).2.2] ∧ IsT u (doneF s d).1 h1 ∧ OwnOf AckR 65 5 va (doneF s d).2.1 h2 ∧ hs' = [h1, h2] := by
  subst hv
  obtain ⟨a, c, rfl, hc, hS⟩ := hd
  obtain ⟨bp, rfl⟩ := ho.ptr
  unfold doneF
  refine Fn.enter Tryz.func9 rfl rfl ?_; simp only [Tryz.ntmps9, argEnv, Nat.reduceAdd]
  repeat (first | refine goX ?_ | refine bxX fun b => ?_)
  by_cases k1 : d.kind = 1
  · simp only [k1, decide_true, if_true]
    repeat (first | refine goX ?_ | refine bxX fun b => ?_)
    refine RO.call1 1 rfl rfl rfl Tryz.func17 rfl (by kernel_rfl) rfl rfl (tput_spec (e := d.e) (who := d.who) ho ⟨_, rfl, a, c, rfl, hc, (hS.le hM).sub (Sub.left _ _)⟩ hg ha) ?_
    rintro v hs' ⟨rfl, h', o', rfl⟩
    repeat (first | refine goX ?_ | refine bxX fun b => ?_)
    refine post_imp (Imp.emp _) ?_
    refine post_imp (Imp.take (hs1 := [h', emp]) (junk := _) pmX) ?_
    refine post_ret (hs' := [h', emp]) [_, _, _] rfl ⟨rfl, rfl, rfl, rfl⟩ slX ?_
    exact ⟨_, _, _, _, rfl, o', OwnOf.nil _ _, rfl⟩
  simp only [k1, decide_false, if_false]
  repeat (first | refine goX ?_ | refine bxX fun b => ?_)
  by_cases k2 : d.kind = 2
  · simp only [k2, decide_true, if_true]
    repeat (first | refine goX ?_ | refine bxX fun b => ?_)
    refine RO.call1 1 rfl rfl rfl Tryz.func14 rfl (by kernel_rfl) rfl rfl (ttick_spec ho hg) ?_
    rintro v hs' ⟨va, h1, h2, rfl, o1, oa, rfl⟩
    obtain ⟨aa, ca, rfl, _, _⟩ := OwnOf.rows oa
    repeat (first | refine goX ?_ | refine bxX fun b => ?_)
    refine post_ret (hs' := [h1, h2]) [_, _, _] rfl ⟨rfl, rfl, rfl, rfl⟩ slX ?_
    exact ⟨_, _, _, _, rfl, o1, oa, rfl⟩
  simp only [k2, decide_false, if_false]
  repeat (first | refine goX ?_ | refine bxX fun b => ?_)
  by_cases k3 : d.kind = 3
  · simp only [k3, decide_true, if_true]
    repeat (first | refine goX ?_ | refine bxX fun b => ?_)
    refine RO.call1 1 rfl rfl rfl Tryz.func23 rfl (by kernel_rfl) rfl rfl (tcomp_spec ho hes) ?_
    rintro v hs' ⟨rfl, h', o', rfl⟩
    repeat (first | refine goX ?_ | refine bxX fun b => ?_)
    refine post_imp (Imp.emp _) ?_
    refine post_imp (Imp.take (hs1 := [h', emp]) (junk := _) pmX) ?_
    refine post_ret (hs' := [h', emp]) [_, _, _] rfl ⟨rfl, rfl, rfl, rfl⟩ slX ?_
    exact ⟨_, _, _, _, rfl, o', OwnOf.nil _ _, rfl⟩
  simp only [k3, decide_false, if_false]
  repeat (first | refine goX ?_ | refine bxX fun b => ?_)
  refine RO.call1 1 rfl rfl rfl Tryz.func26 rfl (by kernel_rfl) rfl rfl (tcrash_spec (k := d.kept) ho hg) ?_
  rintro v hs' ⟨u, rfl, ⟨he, h2, o2, rfl⟩ | ⟨he, hs0, rfl, rfl⟩⟩
  · obtain ⟨bu, rfl⟩ := o2.ptr
    rw [he]
    repeat (first | refine goX ?_ | refine bxX fun b => ?_)
    refine post_imp (Imp.emp _) ?_
    refine post_imp (Imp.take (hs1 := [h2, emp]) (junk := _) pmX) ?_
    refine post_ret (hs' := [h2, emp]) [_, _, _] rfl ⟨rfl, rfl, rfl, rfl⟩ slX ?_
    exact ⟨_, _, _, _, rfl, o2, OwnOf.nil _ _, rfl⟩
  · repeat (first | refine goX ?_ | refine bxX fun b => ?_)
    refine post_imp (Imp.emp _) ?_
    refine post_imp (Imp.take (hs1 := [h, emp]) (junk := _) pmX) ?_
    refine post_ret (hs' := [h, emp]) [_, _, _] rfl ⟨rfl, rfl, rfl, rfl⟩ slX ?_
    rw [hs0]
    exact ⟨_, _, _, _, rfl, ho, OwnOf.nil _ _, rfl⟩
end Go.Proofs.YtonnncdolofccaaGreat

namespace Go.Proofs.YtonnncdolofccaaGreat
attribute [local irreducible] RC RO EvE DR OpV Fn SlOf OwnSl postQ Src Rows Rdb CellsAt thenQ blockQ noGotoQ
set_option linter.unusedSimpArgs false
set_option linter.unusedVariables false

theorem tget_spec {p : Value} {s : St} {h : Hp} {k : List UInt8} {K : List Hp} (ho : IsT p s h) (hb : ∀ e, e ∈ s.lasts → right e = true) : Fn Tryz.prog 10 [p, .string (str k)] K [h] fun r hs' => ∃ h1, OwnEn r (ofE s.lasts k) h1 ∧ hs' = [h, h1] := by
  obtain ⟨n, ho⟩ := ho
  exact (sget_spec ho fun e he => by have := right_blen (hb e he); omega).mono fun _ _ h => h
theorem tnewest_spec {p : Value} {s : St} {h : Hp} {k : List UInt8} {K : List Hp} (ho : IsT p s h) (hb : ∀ e, e ∈ s.newer → right e = true) : Fn Tryz.prog 11 [p, .string (str k)] K [h] fun r hs' => ∃ h1, OwnEn r (ofE s.newer k) h1 ∧ hs' = [h, h1] := by
  obtain ⟨n, ho⟩ := ho
  exact (snewest_spec ho fun e he => by have := right_blen (hb e he); omega).mono fun _ _ h => h
theorem twaiting_spec {p : Value} {s : St} {h : Hp} {K : List Hp} (ho : IsT p s h) : Fn Tryz.prog 13 [p] K [h] fun r hs' => r = .int .i64 (s.acks.length : Int) ∧ hs' = [h] := by
  obtain ⟨n, ho⟩ := ho
  exact (waiting_spec ho).mono fun _ _ h => h
theorem compact_nil {K : List Hp} : Fn Tryz.prog 23 [.pointer none] K [] fun r hs' => r = .int .i64 1 ∧ hs' = [] := by
  refine Fn.enter Tryz.func23 rfl rfl ?_; simp only [Tryz.ntmps23, argEnv, Nat.reduceAdd]
  repeat (first | refine goX ?_ | refine alX fun b => ?_)
  refine post_ret (hs' := []) [_] rfl ⟨rfl, rfl⟩ (List.nil_sublist _) ?_
  exact ⟨rfl, rfl⟩

def eK (n : Int) : En := ⟨[107], ⟨n, 0, 0⟩, false, []⟩
def kS1 : St := ⟨⟨⟨[], [] ++ frameB 1 (enB (eK 3)), 0⟩, [] ++ [⟨1, enB (eK 3)⟩], 0⟩, layE [] (eK 3), [], [] ++ [⟨7, [107], ⟨3, 0, 0⟩⟩]⟩
def kS2 : St := ⟨kS1.g, kS1.newer, kS1.lasts, kS1.acks ++ [⟨8, [107], ⟨2, 0, 0⟩⟩]⟩
theorem kput1 : putF St.zero (eK 3) 7 = (kS1, 0) := by
  have h1 : right (eK 3) = true := by decide
  have hl := enB_len h1
  have hf := frameB_len 1 (enB (eK 3))
  unfold putF
  rw [if_pos ⟨h1, by decide, by decide, by decide⟩, if_pos (by decide), if_pos (by show 0 + 0 + _ ≤ _; omega)]
  rfl
theorem kput2 : putF kS1 (eK 2) 8 = (kS2, 0) := by
  unfold putF
  rw [if_pos ⟨by decide, by decide, by decide, by decide⟩, if_neg (by decide)]
  rfl
theorem kS1_ok : SOk 1 kS1 := by
  have := SOk.zero.put (eK 3) 7
  rw [kput1] at this; exact this
theorem kS2_ok : SOk 2 kS2 := by
  have := kS1_ok.put (eK 2) 8
  rw [kput2] at this; exact this

theorem known_spec {K : List Hp} : Fn Tryz.prog 7 [] K [] fun r hs' => r = .bool true ∧ hs' = [] := by
  refine Fn.enter Tryz.func7 rfl rfl ?_; simp only [Tryz.ntmps7, argEnv, Nat.reduceAdd]
  repeat (first | refine goX ?_ | refine alX fun b => ?_ | refine bsX fun b => ?_)
  refine RO.call0 rfl rfl rfl Tryz.func8 rfl (by kernel_rfl) (snew_spec) ?_
  rintro v hs' ⟨h, o, rfl⟩
  have o1 := o.t
  obtain ⟨bp, rfl⟩ := o1.ptr
  repeat (first | refine goX ?_ | refine alX fun b => ?_ | refine bsX fun b => ?_)
  refine RO.call1 0 rfl rfl rfl Tryz.func17 rfl (by kernel_rfl) rfl rfl (tput_spec (e := eK 3) (who := 7) o1 ⟨_, rfl, none, 0, rfl, Nat.zero_le _, SlOf.nil _⟩ SOk.zero.g (by show 0 ≤ _; omega)) ?_
  rintro v hs' ⟨rfl, h1, o2, rfl⟩
  rw [kput1] at o2 ⊢
  simp only at o2 ⊢
  repeat (first | refine goX ?_ | refine alX fun b => ?_ | refine bsX fun b => ?_)
  refine RO.call1 0 rfl rfl rfl Tryz.func17 rfl (by kernel_rfl) rfl rfl (tput_spec (e := eK 2) (who := 8) o2 ⟨_, rfl, none, 0, rfl, Nat.zero_le _, SlOf.nil _⟩ kS1_ok.g (by have := kS1_ok.al; omega)) ?_
  rintro v hs' ⟨rfl, h2, o3, rfl⟩
  rw [kput2] at o3 ⊢
  simp only at o3 ⊢
  repeat (first | refine goX ?_ | refine alX fun b => ?_ | refine bsX fun b => ?_)
  refine RO.call1 0 rfl rfl rfl Tryz.func10 rfl (by kernel_rfl) rfl rfl (tget_spec (k := [107]) o3 kS2_ok.lk) ?_
  rw [show ofE kS2.lasts [107] = ⟨[107], Tg.zero, false, []⟩ from rfl]
  rintro v hs' ⟨h3, ⟨u3, rfl, ou3⟩, rfl⟩
  obtain ⟨a3, c3, rfl, _, _⟩ := OwnOf.rows ou3
  repeat (first | refine goX ?_ | refine alX fun b => ?_ | refine bsX fun b => ?_)
  refine RO.call1 1 rfl rfl rfl Tryz.func14 rfl (by kernel_rfl) rfl rfl (ttick_spec o3 kS2_ok.g) ?_
  rintro v hs' ⟨va, h4, h5, rfl, o4, oa, rfl⟩
  obtain ⟨aa, ca, rfl, hca, hSa⟩ := OwnOf.rows oa
  repeat (first | refine goX ?_ | refine alX fun b => ?_ | refine bsX fun b => ?_)
  refine RO.call0 rfl rfl rfl Tryz.func20 rfl (by kernel_rfl) (rsameacks_spec (la := kS2.acks) (lb := [⟨7, [107], ⟨3, 0, 0⟩⟩, ⟨8, [107], ⟨2, 0, 0⟩⟩]) (hSa.sub sbX) ?_ (by decide)) ?_
  · exact slOf_one (List.mem_append_right _ List.mem_cons_self) (rows_cons rfl rfl (rows_cons rfl rfl rows_nil))
  rintro v hs' ⟨rfl, rfl⟩
  rw [show decide (kS2.acks = [⟨7, [107], ⟨3, 0, 0⟩⟩, ⟨8, [107], ⟨2, 0, 0⟩⟩]) = true from rfl]
  repeat (first | refine goX ?_ | refine alX fun b => ?_ | refine bsX fun b => ?_)
  refine RO.call1 1 rfl rfl rfl Tryz.func10 rfl (by kernel_rfl) rfl rfl (tget_spec (k := [107]) o4 kS2_ok.tick.lk) ?_
  rw [show ofE (tickF kS2).lasts [107] = eK 3 from rfl]
  rintro v hs' ⟨h6, ⟨u6, rfl, ou6⟩, rfl⟩
  obtain ⟨a6, c6, rfl, _, _⟩ := OwnOf.rows ou6
  repeat (first | refine goX ?_ | refine alX fun b => ?_ | refine bsX fun b => ?_)
  refine RO.call0 rfl rfl rfl Tryz.func23 rfl (by kernel_rfl) compact_nil ?_
  rintro v hs' ⟨rfl, rfl⟩
  repeat (first | refine goX ?_ | refine alX fun b => ?_ | refine bsX fun b => ?_)
  refine post_ret (hs' := []) [_] rfl ⟨rfl, rfl⟩ (List.nil_sublist _) ?_
  exact ⟨rfl, rfl⟩
end Go.Proofs.YtonnncdolofccaaGreat
