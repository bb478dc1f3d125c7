/- icehouseref03.SameAll; store.All of a store with the invariant; bytes that are written. Conditions: none.
   icehouselaw08.StoreSilent: what it computes. Conditions: none.
   icehouselaw08.StoreSilent: WHATEVER THE INPUT (up to the bound of the second form): true. Conditions: the bound of the second form. -/
import Derived.Test.YtonnncdolofccaaGreatQg
namespace Go.Proofs.YtonnncdolofccaaGreat

/-! ### a byte of a part of one's own is written -/
def delH (h : Hp) (b : Nat) : Hp := fun b' => if b' = b then none else h b'
theorem apart_del (h : Hp) (b : Nat) (o : Obj) : Apart [one b o, delH h b] := by
  refine List.pairwise_cons.2 ⟨fun g hg => ?_, List.pairwise_singleton _ _⟩
  obtain rfl := List.mem_singleton.1 hg
  intro k
  unfold delH
  by_cases e : k = b
  · exact .inr (if_pos e)
  · left
    cases hk : one b o k with
    | none => rfl
    | some o' => exact absurd (one_some hk).1 e
theorem uni_del {h : Hp} {b : Nat} {o : Obj} (e : h b = some o) : h = uni [one b o, delH h b] := by
  funext k
  by_cases hk : k = b
  · subst hk
    rw [e]; exact (uni_mem (apart_del h k o) (by simp) (one_self _ _)).symm
  · cases hv : h k with
    | some o' => exact (uni_mem (apart_del h b o) (g := delH h b) (by simp) (by unfold delH; rw [if_neg hk]; exact hv)).symm
    | none =>
      symm; rw [uni_none]
      intro g hg
      simp only [List.mem_cons, List.not_mem_nil, or_false] at hg
      rcases hg with rfl | rfl
      · cases hv : one b o k with
        | none => rfl
        | some o' => exact absurd (one_some hv).1 hk
      · unfold delH; rw [if_neg hk]; exact hv
theorem setH_at {h : Hp} {b : Nat} {o : Obj} : uni [one b o, delH h b] b = some o := uni_mem (apart_del h b o) (by simp) (one_self _ _)
theorem setH_ne {h : Hp} {b k : Nat} {o : Obj} (hk : k ≠ b) : uni [one b o, delH h b] k = h k := by
  cases hv : h k with
  | some o' => exact uni_mem (apart_del h b o) (g := delH h b) (by simp) (by unfold delH; rw [if_neg hk]; exact hv)
  | none =>
    rw [uni_none]
    intro g hg
    simp only [List.mem_cons, List.not_mem_nil, or_false] at hg
    rcases hg with rfl | rfl
    · cases hv : one b o k with
      | none => rfl
      | some o' => exact absurd (one_some hv).1 hk
    · unfold delH; rw [if_neg hk]; exact hv
theorem Thaw.set {h : Hp} {b : Nat} {c c' : Array Value} {T : TypeId} {fz : Nat × Nat} (t : Thaw h) (e : h b = some (.cells c T fz)) (hc : c'.size = c.size) : Thaw (uni [one b (.cells c' T fz), delH h b]) := by
  intro k d U gz ek
  by_cases hk : k = b
  · subst hk
    rw [setH_at] at ek
    cases ek
    rw [hc]; exact t _ _ _ _ e
  · rw [setH_ne hk] at ek
    exact t _ _ _ _ ek
theorem rows_byte : ∀ (bs : List UInt8) (ds : List Value), Rows ByteR 1 bs ds ↔ ds = bs.map byteV
  | [], ds => Iff.rfl
  | x :: xs, ds => by
    constructor
    · rintro ⟨vs, cs, rfl, hl, hr, h⟩
      rw [(rows_byte xs cs).1 h]
      obtain rfl : vs = [byteV x] := hr
      rfl
    · rintro rfl
      exact ⟨[byteV x], _, rfl, rfl, rfl, (rows_byte xs _).2 rfl⟩
/-- bytes that are read, behind the writing of one -/
theorem slOf_set {h : Hp} {b o : Nat} {l : List Value} {T : TypeId} {fz : Nat × Nat} (e : h b = some (.cells l.toArray T fz)) (y : UInt8) {a : Option Addr} {bs : List UInt8} (hS : SlOf [h] ByteR 1 a bs) :
    ∃ bs' : List UInt8, bs'.length = bs.length ∧ SlOf [uni [one b (.cells (l.set o (byteV y)).toArray T fz), delH h b]] ByteR 1 a bs' := by
  obtain ⟨ds, hr, hS⟩ := hS
  rw [rows_byte] at hr
  subst hr
  rcases hS with rfl | ⟨b', off, rfl, hc⟩
  · exact ⟨[], rfl, [], rfl, .inl rfl⟩
  refine ⟨if b' = b ∧ off ≤ o then bs.set (o - off) y else bs, by split <;> simp, _, (rows_byte _ _).2 rfl, .inr ⟨b', off, rfl, rfl, fun j v hj => ?_⟩⟩
  obtain ⟨_, hc⟩ := hc
  have hjl : j < bs.length := by
    have := (List.getElem?_eq_some_iff.1 hj).1
    split at this <;> simpa using this
  obtain ⟨hsp, c, U, gz, ⟨g, hg, eg⟩, hv⟩ := hc j (byteV bs[j]) (by simp [hjl])
  obtain rfl := List.mem_singleton.1 hg
  refine ⟨rfl, ?_⟩
  by_cases hb : b' = b
  · subst hb
    rw [e] at eg
    cases eg
    refine ⟨_, _, _, ⟨_, List.mem_singleton.2 rfl, setH_at⟩, ?_⟩
    simp only [List.getElem?_toArray] at hv ⊢
    rw [List.getElem?_set]
    by_cases ho : o = off + j
    · subst ho
      have hl : off + j < l.length := (List.getElem?_eq_some_iff.1 hv).1
      rw [if_pos rfl, if_pos hl]
      simp only [true_and, Nat.le_add_right, if_true, Nat.add_sub_cancel_left, List.getElem?_map] at hj
      rw [List.getElem?_set_self hjl] at hj
      exact hj
    · rw [if_neg ho, hv]
      simp only [true_and, List.getElem?_map] at hj
      split at hj
      · rw [List.getElem?_set_ne (by omega), List.getElem?_eq_getElem hjl] at hj
        exact hj
      · rw [List.getElem?_eq_getElem hjl] at hj
        exact hj
  · refine ⟨c, U, gz, ⟨_, List.mem_singleton.2 rfl, ?_⟩, ?_⟩
    · show uni _ b' = _
      rw [setH_ne hb]; exact eg
    · rw [hv]
      simp only [hb, false_and, if_false, List.getElem?_map, List.getElem?_eq_getElem hjl] at hj
      exact hj
theorem enR_set {h : Hp} {b o : Nat} {l : List Value} {T : TypeId} {fz : Nat × Nat} (e : h b = some (.cells l.toArray T fz)) (y : UInt8) {x : En} {vs : List Value} (hr : EnR [h] x vs) :
    ∃ x' : En, x'.b.length = x.b.length ∧ EnR [uni [one b (.cells (l.set o (byteV y)).toArray T fz), delH h b]] x' vs := by
  obtain ⟨a, c, rfl, hc, hS⟩ := hr
  obtain ⟨bs, hl, hS'⟩ := slOf_set (o := o) e y hS
  exact ⟨⟨x.key, x.tag, x.has, bs⟩, hl, a, c, by rw [hl], by rw [hl]; exact hc, hS'⟩
theorem rows_set {h : Hp} {b o : Nat} {l : List Value} {T : TypeId} {fz : Nat × Nat} (e : h b = some (.cells l.toArray T fz)) (y : UInt8) : ∀ {es : List En} {cs : List Value}, Rows (EnR [h]) 6 es cs →
    ∃ es' : List En, es'.map (·.b.length) = es.map (·.b.length) ∧ Rows (EnR [uni [one b (.cells (l.set o (byteV y)).toArray T fz), delH h b]]) 6 es' cs
  | [], _, hr => ⟨[], rfl, hr⟩
  | x :: xs, _, ⟨vs, cs, rfl, hl, h0, hr⟩ => by
    obtain ⟨es', h1, h2⟩ := rows_set (o := o) e y hr
    obtain ⟨x', h3, h4⟩ := enR_set (o := o) e y h0
    exact ⟨x' :: es', by simp [h1, h3], vs, cs, rfl, hl, h4, h2⟩
theorem ownEs_set {h ha : Hp} {b o : Nat} {l : List Value} {T : TypeId} {fz : Nat × Nat} (e : h b = some (.cells l.toArray T fz)) (y : UInt8) {v : Value} {es : List En} (ho : OwnEs v es ha h) :
    ∃ es' : List En, es'.map (·.b.length) = es.map (·.b.length) ∧ OwnEs v es' ha (uni [one b (.cells (l.set o (byteV y)).toArray T fz), delH h b]) := by
  obtain ⟨cs, hr, ho⟩ := ho
  obtain ⟨es', h1, h2⟩ := rows_set (o := o) e y hr
  have hl := congrArg List.length h1
  rw [List.length_map, List.length_map] at hl
  exact ⟨es', h1, cs, h2, by rw [hl]; exact ho⟩
theorem cell_at {h : Hp} {b off : Nat} {v : Value} (hc : CellsAt [h] ⟨b, off, none⟩ [v]) : ∃ l T fz, h b = some (.cells (List.toArray l) T fz) ∧ off < l.length := by
  obtain ⟨_, hc⟩ := hc
  obtain ⟨_, c, T, fz, ⟨g, hg, e⟩, hv⟩ := hc 0 v rfl
  obtain rfl := List.mem_singleton.1 hg
  obtain ⟨l⟩ := c
  refine ⟨l, T, fz, e, ?_⟩
  have := (Array.getElem?_eq_some_iff.1 hv).1
  simpa using this
attribute [local irreducible] RC RO EvE DR OpV Fn SlOf OwnSl postQ Src Rows Rdb CellsAt thenQ blockQ noGotoQ
set_option linter.unusedSimpArgs false
set_option linter.unusedVariables false

/-! ### SameAll -/
def sameAllF : List En → List En → Bool
  | [], [] => true
  | a :: xs, e :: ys => sameF a e && sameAllF xs ys
  | _, _ => false
theorem sameAllF_len : ∀ {a e : List En}, a.length ≠ e.length → sameAllF a e = false
  | [], [], h => absurd rfl h
  | [], _ :: _, _ => rfl
  | _ :: _, [], _ => rfl
  | a :: xs, e :: ys, h => by rw [sameAllF, sameAllF_len (a := xs) (e := ys) (by simpa using h), Bool.and_false]
theorem sameAllF_self : ∀ a : List En, sameAllF a a = true
  | [] => rfl
  | a :: xs => by rw [sameAllF, sameF_self, sameAllF_self xs]; rfl
theorem rsameall_spec {a e : List En} {K M M' : List Hp} {x y : Option Addr} {c c' : Nat} (hx : SlOf K (EnR M) 6 x a) (hM : Sub M K) (hy : SlOf K (EnR M') 6 y e) (hM' : Sub M' K) (hn : ∀ x, x ∈ a → x.b.length ≤ 100000000) (hl : a.length ≤ 100000000) :
    Fn Tryz.prog 18 [.slice x a.length c, .slice y e.length c'] K [] fun r hs' => r = .bool (sameAllF a e) ∧ hs' = [] := by
  refine Fn.enter Tryz.func18 rfl rfl ?_; simp only [Tryz.ntmps18, argEnv, Nat.reduceAdd]
  by_cases h1 : a.length = e.length
  · repeat (first | refine goX ?_ | refine dwX 6 [([0, 1, 2, 3, 4, 5, 6, 7], [8, 9])] [] ?_)
    refine RC.loopI (fun k : Nat => [(5, .int .i64 (k : Int)), (1, .slice y e.length c'), (0, .slice x a.length c)]) (fun _ => [])
      (fun k => k ≤ a.length ∧ sameAllF (a.drop k) (e.drop k) = sameAllF a e) (fun k => a.length - k) 0 ⟨Nat.zero_le _, rfl⟩ leX (Imp.take (junk := _) pmX) ?_
    rintro k ⟨hk, hz⟩
    by_cases h3 : k = a.length
    · subst h3
      rw [List.drop_length, h1, List.drop_length] at hz
      repeat (first | refine goX ?_ | refine dwX 6 [([0, 1, 2, 3, 4, 5, 6, 7], [8, 9])] [] ?_)
      refine post_ret (hs' := []) [_] rfl ⟨rfl, rfl⟩ (List.nil_sublist _) ?_
      exact ⟨by rw [← hz]; rfl, rfl⟩
    · have hka : k < a.length := by omega
      have hke : k < e.length := by omega
      have hp : a[k]? = some a[k] := List.getElem?_eq_getElem hka
      have hq : e[k]? = some e[k] := List.getElem?_eq_getElem hke
      rw [List.drop_eq_getElem_cons hka, List.drop_eq_getElem_cons hke, sameAllF] at hz
      have hbn := hn _ (List.mem_of_getElem? hp)
      generalize a[k] = p at *
      generalize e[k] = q at *
      repeat (first | refine goX ?_ | refine dwX 6 [([0, 1, 2, 3, 4, 5, 6, 7], [8, 9])] [] ?_)
      refine e_indexAddr tb (R := _) (sz := 6) rfl rfl rfl rfl rfl hx (by omega) (by omega) (by first | exact hp | simpa using hp) rfl ?_
      rintro b5 off5 vs hr5 _ hc5
      have hr5' := hr5
      obtain ⟨a5, c5, rfl, _, _⟩ := hr5'
      repeat (first | refine goX ?_ | refine dwX 6 [([0, 1, 2, 3, 4, 5, 6, 7], [8, 9])] [] ?_)
      refine e_indexAddr tb (R := _) (sz := 6) rfl rfl rfl rfl rfl hy (by omega) (by omega) (by first | exact hq | simpa using hq) rfl ?_
      rintro b6 off6 vs hr6 _ hc6
      have hr6' := hr6
      obtain ⟨a6, c6, rfl, _, _⟩ := hr6'
      repeat (first | refine goX ?_ | refine dwX 6 [([0, 1, 2, 3, 4, 5, 6, 7], [8, 9])] [] ?_)
      refine RO.call0 rfl rfl rfl Tryz.func15 rfl (by kernel_rfl) (rsame_spec (a := p) (e := q) ⟨_, rfl, hr5.sub (by simpa using hM)⟩ ⟨_, rfl, hr6.sub (by simpa using hM')⟩ hbn) ?_
      rintro v hs' ⟨rfl, rfl⟩
      cases hpq : sameF p q
      · repeat (first | refine goX ?_ | refine dwX 6 [([0, 1, 2, 3, 4, 5, 6, 7], [8, 9])] [] ?_)
        refine post_ret (hs' := []) [_] rfl ⟨rfl, rfl⟩ (List.nil_sublist _) ?_
        rw [hpq] at hz
        exact ⟨by rw [← hz]; rfl, rfl⟩
      · repeat (first | refine goX ?_ | refine dwX 6 [([0, 1, 2, 3, 4, 5, 6, 7], [8, 9])] [] ?_)
        rw [hpq] at hz
        refine ⟨k + 1, ⟨by omega, by rw [← hz]; rfl⟩, by omega, leX, Imp.sublist slX⟩
  · repeat (first | refine goX ?_ | refine dwX 6 [([0, 1, 2, 3, 4, 5, 6, 7], [8, 9])] [] ?_)
    refine post_ret (hs' := []) [_] rfl ⟨rfl, rfl⟩ (List.nil_sublist _) ?_
    exact ⟨by rw [sameAllF_len h1]; rfl, rfl⟩
theorem tall_spec {p : Value} {s : St} {h : Hp} {K : List Hp} (ho : IsT p s h) (hes : EsOk s.lasts) : Fn Tryz.prog 16 [p] K [h] fun r hs' => ∃ ha hB, OwnEs r (sortedF s.lasts) ha hB ∧ Thaw hB ∧ hs' = [h, hB, ha] := by
  obtain ⟨n, ho⟩ := ho
  exact (sall_spec ho hes).mono fun _ _ h => h
end Go.Proofs.YtonnncdolofccaaGreat

namespace Go.Proofs.YtonnncdolofccaaGreat
attribute [local irreducible] RC RO EvE DR OpV Fn SlOf OwnSl postQ Src Rows Rdb CellsAt thenQ blockQ noGotoQ
set_option linter.unusedSimpArgs false
set_option linter.unusedVariables false

theorem long_len (l : List Do) : 20 * l.length ≤ longF l := by
  induction l with
  | nil => exact Nat.zero_le _
  | cons d l ih => unfold longF at ih ⊢; simp only [List.length_cons, List.map_cons, List.sum_cons]; omega
theorem put_no {s : St} {e : En} {who : Int} (h : e.tag.seq = 0 ∨ who < 0) : putF s e who = (s, 2) := by
  unfold putF
  rw [if_neg (by omega)]
theorem wrap_byte (c : UInt8) : IntKind.wrap .u8 ((c.toNat : Int) + 1) = ((c + 1).toNat : Int) := by
  have h1 : (c + 1).toNat = (c.toNat + 1) % 256 := by rw [UInt8.toNat_add]; rfl
  have h2 : c.toNat < 256 := c.toNat_lt
  rw [h1]
  by_cases h : c.toNat + 1 < 256
  · rw [wrap_u8 (by omega) (by omega), Nat.mod_eq_of_lt h]; omega
  · have : c.toNat = 255 := by omega
    rw [this]; rfl
theorem silent_spec {l : List Do} {e : En} {u : Value} {x : Option Addr} {c : Nat} {K M : List Hp} (hx : SlOf K (DoR M) 9 x l) (hM : Le M K) (he : EnV K u e) (hc : l.length ≤ c) (hl : l.length ≤ 10000000) (hn : longF l ≤ 1000000000) (hbl : e.b.length ≤ 1000000000) :
    Fn Tryz.prog 4 [.slice x l.length c, u] K [] fun r hs' => r = .bool true ∧ hs' = [] := by
  have he' := he
  obtain ⟨vs, rfl, ae, ce, rfl, hce, hSe⟩ := he'
  refine Fn.enter Tryz.func4 rfl rfl ?_; simp only [Tryz.ntmps4, argEnv, Nat.reduceAdd]
  repeat (first | refine goX ?_ | refine bxX fun b => ?_ | refine dwX 22 [([0, 1, 2, 3, 4, 5, 6, 7, 8, 9, 10, 11, 12, 13, 14, 15, 16, 17], [])] [18] ?_)
  refine RO.call0 rfl rfl rfl Tryz.func6 rfl (by kernel_rfl) (long_spec (l := l) (M := M) (hx.sub (Sub.left _ _)) hc hn (by omega)) ?_
  rintro v hs' ⟨rfl, rfl⟩
  by_cases h1 : 1500 < longF l
  · repeat (first | refine goX ?_ | refine bxX fun b => ?_ | refine dwX 22 [([0, 1, 2, 3, 4, 5, 6, 7, 8, 9, 10, 11, 12, 13, 14, 15, 16, 17], [])] [18] ?_)
    refine RO.call0 rfl rfl rfl Tryz.func7 rfl (by kernel_rfl) known_spec ?_
    rintro v hs' ⟨rfl, rfl⟩
    repeat (first | refine goX ?_ | refine bxX fun b => ?_ | refine dwX 22 [([0, 1, 2, 3, 4, 5, 6, 7, 8, 9, 10, 11, 12, 13, 14, 15, 16, 17], [])] [18] ?_)
    refine post_ret (hs' := []) [_] rfl ⟨rfl, rfl⟩ (List.nil_sublist _) ?_
    exact ⟨rfl, rfl⟩
  have hl75 : l.length ≤ 75 := by
    have := long_len l
    omega
  by_cases h2 : 300 < e.b.length
  · repeat (first | refine goX ?_ | refine bxX fun b => ?_ | refine dwX 22 [([0, 1, 2, 3, 4, 5, 6, 7, 8, 9, 10, 11, 12, 13, 14, 15, 16, 17], [])] [18] ?_)
    refine RO.call0 rfl rfl rfl Tryz.func7 rfl (by kernel_rfl) known_spec ?_
    rintro v hs' ⟨rfl, rfl⟩
    repeat (first | refine goX ?_ | refine bxX fun b => ?_ | refine dwX 22 [([0, 1, 2, 3, 4, 5, 6, 7, 8, 9, 10, 11, 12, 13, 14, 15, 16, 17], [])] [18] ?_)
    refine post_ret (hs' := []) [_] rfl ⟨rfl, rfl⟩ (List.nil_sublist _) ?_
    exact ⟨rfl, rfl⟩
  repeat (first | refine goX ?_ | refine bxX fun b => ?_ | refine dwX 22 [([0, 1, 2, 3, 4, 5, 6, 7, 8, 9, 10, 11, 12, 13, 14, 15, 16, 17], [])] [18] ?_)
  refine RO.call0 rfl rfl rfl Tryz.func8 rfl (by kernel_rfl) (snew_spec) ?_
  rintro v hs' ⟨h, o, rfl⟩
  have o1 := o.t
  obtain ⟨bp, rfl⟩ := o1.ptr
  repeat (first | refine goX ?_ | refine bxX fun b => ?_ | refine dwX 22 [([0, 1, 2, 3, 4, 5, 6, 7, 8, 9, 10, 11, 12, 13, 14, 15, 16, 17], [])] [18] ?_)
  let eb : Hp := one b (.cells [.string (str e.key), .int .i64 e.tag.seq, .int .i64 e.tag.who, .int .i64 e.tag.op, .bool e.has, .slice ae e.b.length ce].toArray 37 (0, 0))
  refine RC.loopI (fun s : Nat × Nat × St × Hp => [(6, .int .i64 (s.1 : Int)), (5, .pointer (some ⟨s.2.1, 0, none⟩)), (3, .pointer (some ⟨b, 0, none⟩)), (0, .slice x l.length c)]) (fun s => [s.2.2.2, eb])
    (fun s => s.1 ≤ l.length ∧ IsT (.pointer (some ⟨s.2.1, 0, none⟩)) s.2.2.1 s.2.2.2 ∧ SOk s.1 s.2.2.1) (fun s => l.length - s.1) (0, bp, St.zero, h) ⟨Nat.zero_le _, o1, SOk.zero⟩ leX (Imp.take (junk := _) pmX) ?_
  rintro ⟨i, bp, s, h⟩ ⟨hi, o1, hs⟩
  simp only at hi o1 hs ⊢
  have hal := hs.al
  by_cases h3 : i = l.length
  · have hle : EsOk s.lasts := hs.l (by omega)
    repeat (first | refine goX ?_ | refine bxX fun b => ?_ | refine dwX 22 [([0, 1, 2, 3, 4, 5, 6, 7, 8, 9, 10, 11, 12, 13, 14, 15, 16, 17], [])] [18] ?_)
    refine RO.call1 0 rfl rfl rfl Tryz.func16 rfl (by kernel_rfl) rfl rfl (tall_spec o1 hle) ?_
    rintro v hs' ⟨ha1, hB1, oe1, _, rfl⟩
    obtain ⟨a1, c1, rfl, hc1, hS1⟩ := OwnOf.rows oe1
    repeat (first | refine goX ?_ | refine bxX fun b => ?_ | refine dwX 22 [([0, 1, 2, 3, 4, 5, 6, 7, 8, 9, 10, 11, 12, 13, 14, 15, 16, 17], [])] [18] ?_)
    refine RO.call1 0 rfl rfl rfl Tryz.func13 rfl (by kernel_rfl) rfl rfl (twaiting_spec o1) ?_
    rintro v hs' ⟨rfl, rfl⟩
    repeat (first | refine goX ?_ | refine bxX fun b => ?_ | refine dwX 22 [([0, 1, 2, 3, 4, 5, 6, 7, 8, 9, 10, 11, 12, 13, 14, 15, 16, 17], [])] [18] ?_)
    refine RO.call1 0 rfl rfl rfl Tryz.func17 rfl (by kernel_rfl) rfl rfl (tput_spec (e := e) (who := -1) o1 ⟨_, rfl, ae, ce, rfl, hce, hSe.sub sbX⟩ hs.g (by omega)) ?_
    rw [put_no (.inr (by omega))]
    rintro v hs' ⟨rfl, h, o1, rfl⟩
    simp only at o1
    repeat (first | refine goX ?_ | refine bxX fun b => ?_ | refine dwX 22 [([0, 1, 2, 3, 4, 5, 6, 7, 8, 9, 10, 11, 12, 13, 14, 15, 16, 17], [])] [18] ?_)
    refine RO.call1 0 rfl rfl rfl Tryz.func17 rfl (by kernel_rfl) rfl rfl (tput_spec (e := ⟨e.key, Tg.zero, false, []⟩) (who := 3) o1 ⟨_, rfl, none, 0, rfl, Nat.zero_le _, SlOf.nil _⟩ hs.g (by omega)) ?_
    rw [put_no (.inl rfl)]
    rintro v hs' ⟨rfl, h, o1, rfl⟩
    simp only at o1
    repeat (first | refine goX ?_ | refine bxX fun b => ?_ | refine dwX 22 [([0, 1, 2, 3, 4, 5, 6, 7, 8, 9, 10, 11, 12, 13, 14, 15, 16, 17], [])] [18] ?_)
    refine RO.call1 0 rfl rfl rfl Tryz.func16 rfl (by kernel_rfl) rfl rfl (tall_spec o1 hle) ?_
    rintro v hs' ⟨ha2, hB2, oe2, th2, rfl⟩
    obtain ⟨a2, c2, rfl, hc2, hS2⟩ := OwnOf.rows oe2
    repeat (first | refine goX ?_ | refine bxX fun b => ?_ | refine dwX 22 [([0, 1, 2, 3, 4, 5, 6, 7, 8, 9, 10, 11, 12, 13, 14, 15, 16, 17], [])] [18] ?_)
    have hb0 : ∀ e, e ∈ sortedF s.lasts → e.b.length ≤ 60000 := fun e he => (right_blen (hle.1 e (sortedF_mem he))).1
    have hl0 := sortedF_len s.lasts
    have hl1 := hle.2
    obtain ⟨es0, hes0⟩ : ∃ es0, sortedF s.lasts = es0 := ⟨_, rfl⟩
    rw [hes0] at oe1 oe2 hS1 hS2 hb0 hl0 hc1 hc2 ⊢
    refine RC.loopI (fun s5 : Nat × List En × Hp => [(15, .int .i64 (s5.1 : Int)), (14, .slice a2 es0.length c2), (13, .int .i64 2), (12, .int .i64 2), (11, .int .i64 (s.acks.length : Int)), (10, .slice a1 es0.length c1), (5, .pointer (some ⟨bp, 0, none⟩))]) (fun s => [h, ha2, s.2.2, ha1, hB1])
      (fun s => s.1 ≤ es0.length ∧ s.2.1.map (·.b.length) = es0.map (·.b.length) ∧ OwnEs (.slice a2 es0.length c2) s.2.1 ha2 s.2.2 ∧ Thaw s.2.2) (fun s => es0.length - s.1) (0, es0, hB2) ⟨Nat.zero_le _, rfl, oe2, th2⟩ leX (Imp.take (junk := _) pmX) ?_
    rintro ⟨i, es, hB⟩ ⟨hi, hL, oe, th⟩
    simp only at hi hL oe th ⊢
    have hln : es.length = es0.length := by simpa using congrArg List.length hL
    by_cases h5 : i = es0.length
    · repeat (first | refine goX ?_ | refine bxX fun b => ?_ | refine dwX 22 [([0, 1, 2, 3, 4, 5, 6, 7, 8, 9, 10, 11, 12, 13, 14, 15, 16, 17], [])] [18] ?_)
      refine RO.call1 0 rfl rfl rfl Tryz.func13 rfl (by kernel_rfl) rfl rfl (twaiting_spec o1) ?_
      rintro v hs' ⟨rfl, rfl⟩
      repeat (first | refine goX ?_ | refine bxX fun b => ?_ | refine dwX 22 [([0, 1, 2, 3, 4, 5, 6, 7, 8, 9, 10, 11, 12, 13, 14, 15, 16, 17], [])] [18] ?_)
      simp only [decide_true]
      repeat (first | refine goX ?_ | refine bxX fun b => ?_ | refine dwX 22 [([0, 1, 2, 3, 4, 5, 6, 7, 8, 9, 10, 11, 12, 13, 14, 15, 16, 17], [])] [18] ?_)
      refine RO.call1 0 rfl rfl rfl Tryz.func16 rfl (by kernel_rfl) rfl rfl (tall_spec o1 hle) ?_
      rw [hes0]
      rintro v hs' ⟨ha3, hB3, oe3, _, rfl⟩
      obtain ⟨a3, c3, rfl, hc3, hS3⟩ := OwnOf.rows oe3
      repeat (first | refine goX ?_ | refine bxX fun b => ?_ | refine dwX 22 [([0, 1, 2, 3, 4, 5, 6, 7, 8, 9, 10, 11, 12, 13, 14, 15, 16, 17], [])] [18] ?_)
      refine RO.call0 rfl rfl rfl Tryz.func18 rfl (by kernel_rfl) (rsameall_spec (a := es0) (e := es0) (M := [hB3]) (M' := [hB1]) (hS3.sub sbX) sbX (hS1.sub sbX) sbX (fun x hx => by have := hb0 x hx; omega) (by omega)) ?_
      rintro v hs' ⟨rfl, rfl⟩
      rw [sameAllF_self]
      repeat (first | refine goX ?_ | refine bxX fun b => ?_ | refine dwX 22 [([0, 1, 2, 3, 4, 5, 6, 7, 8, 9, 10, 11, 12, 13, 14, 15, 16, 17], [])] [18] ?_)
      refine RO.call0 rfl rfl rfl Tryz.func7 rfl (by kernel_rfl) known_spec ?_
      rintro v hs' ⟨rfl, rfl⟩
      repeat (first | refine goX ?_ | refine bxX fun b => ?_ | refine dwX 22 [([0, 1, 2, 3, 4, 5, 6, 7, 8, 9, 10, 11, 12, 13, 14, 15, 16, 17], [])] [18] ?_)
      refine post_ret (hs' := []) [_] rfl ⟨rfl, rfl⟩ (List.nil_sublist _) ?_
      exact ⟨rfl, rfl⟩
    · have hi2 : i < es.length := by omega
      have hbi : es[i]? = some es[i] := List.getElem?_eq_getElem hi2
      obtain ⟨m, hm⟩ : ∃ m, (es0.map (·.b.length))[i]? = some m := ⟨_, List.getElem?_eq_getElem (by simp; omega)⟩
      have hm1 : m ≤ 60000 := by
        obtain ⟨e, he, rfl⟩ := List.mem_map.1 (List.mem_of_getElem? hm)
        exact hb0 e he
      repeat (first | refine goX ?_ | refine bxX fun b => ?_ | refine dwX 22 [([0, 1, 2, 3, 4, 5, 6, 7, 8, 9, 10, 11, 12, 13, 14, 15, 16, 17], [])] [18] ?_)
      refine RC.loopI (fun s5 : Nat × List En × Hp => [(16, .int .i64 (s5.1 : Int)), (15, .int .i64 (i : Int)), (14, .slice a2 es0.length c2), (13, .int .i64 2), (12, .int .i64 2), (11, .int .i64 (s.acks.length : Int)), (10, .slice a1 es0.length c1), (5, .pointer (some ⟨bp, 0, none⟩))]) (fun s => [h, ha2, s.2.2, ha1, hB1])
        (fun s => s.1 ≤ m ∧ s.2.1.map (·.b.length) = es0.map (·.b.length) ∧ OwnEs (.slice a2 es0.length c2) s.2.1 ha2 s.2.2 ∧ Thaw s.2.2) (fun s => m - s.1) (0, es, hB) ⟨Nat.zero_le _, hL, oe, th⟩ leX (Imp.take (junk := _) pmX) ?_
      clear oe th hbi hi2 hln hL hB es
      rintro ⟨k, es, hB⟩ ⟨hk, hL, oe, th⟩
      simp only at hk hL oe th ⊢
      have hln : es.length = es0.length := by simpa using congrArg List.length hL
      obtain ⟨a2', c2', e2', _, hS⟩ := OwnOf.rows oe
      obtain ⟨rfl, rfl⟩ : a2 = a2' ∧ c2 = c2' := by simpa [hln] using e2'
      obtain ⟨y, hbi⟩ : ∃ y, es[i]? = some y := ⟨_, List.getElem?_eq_getElem (by omega)⟩
      have hmi : y.b.length = m := by
        rw [← hL, List.getElem?_map, hbi] at hm
        simpa using hm
      repeat (first | refine goX ?_ | refine bxX fun b => ?_ | refine dwX 22 [([0, 1, 2, 3, 4, 5, 6, 7, 8, 9, 10, 11, 12, 13, 14, 15, 16, 17], [])] [18] ?_)
      refine o_indexAddr tb (R := _) (sz := 6) rfl rfl rfl rfl rfl hS (by omega) (by omega) (by first | exact hbi | simpa using hbi) rfl ?_
      rintro b5 off5 vs hr5 _ hc5
      have hr5' := hr5
      obtain ⟨a5, c5, rfl, hc5', hS5⟩ := hr5'
      have hc6 : CellsAt _ ⟨b5, off5 + 4 + 1, none⟩ [.slice a5 y.b.length c5] := hc5.get1 5 rfl
      by_cases h6 : k = m
      · repeat (first | refine goX ?_ | refine bxX fun b => ?_ | refine dwX 22 [([0, 1, 2, 3, 4, 5, 6, 7, 8, 9, 10, 11, 12, 13, 14, 15, 16, 17], [])] [18] ?_)
        refine ⟨(i + 1, es, hB), ⟨by simp only; omega, hL, oe, th⟩, by simp only; omega, leX, Imp.take (junk := _) pmX⟩
      · obtain ⟨z, hz⟩ : ∃ z, y.b[k]? = some z := ⟨_, List.getElem?_eq_getElem (by omega)⟩
        repeat (first | refine goX ?_ | refine bxX fun b => ?_ | refine dwX 22 [([0, 1, 2, 3, 4, 5, 6, 7, 8, 9, 10, 11, 12, 13, 14, 15, 16, 17], [])] [18] ?_)
        refine e_indexAddr tb (R := _) (sz := 6) rfl rfl rfl rfl rfl hS (by omega) (by omega) (by first | exact hbi | simpa using hbi) rfl ?_
        rintro b7 off7 vs hr7 _ hc7
        obtain ⟨a7, c7, rfl, hc7', hS7⟩ := hr7
        have hc8 : CellsAt _ ⟨b7, off7 + 4 + 1, none⟩ [.slice a7 y.b.length c7] := hc7.get1 5 rfl
        repeat (first | refine goX ?_ | refine bxX fun b => ?_ | refine dwX 22 [([0, 1, 2, 3, 4, 5, 6, 7, 8, 9, 10, 11, 12, 13, 14, 15, 16, 17], [])] [18] ?_)
        refine e_indexAddr tb (R := _) (sz := 6) rfl rfl rfl rfl rfl hS (by omega) (by omega) (by first | exact hbi | simpa using hbi) rfl ?_
        rintro b9 off9 vs hr9 _ hc9
        obtain ⟨a9, c9, rfl, hc9', hS9⟩ := hr9
        have hc10 : CellsAt _ ⟨b9, off9 + 4 + 1, none⟩ [.slice a9 y.b.length c9] := hc9.get1 5 rfl
        repeat (first | refine goX ?_ | refine bxX fun b => ?_ | refine dwX 22 [([0, 1, 2, 3, 4, 5, 6, 7, 8, 9, 10, 11, 12, 13, 14, 15, 16, 17], [])] [18] ?_)
        refine e_indexAddr tb (R := _) (sz := 1) rfl rfl rfl rfl rfl hS9 (by omega) (by omega) (by first | exact hz | simpa using hz) rfl ?_
        rintro b11 off11 vs hr11 _ hc11
        obtain rfl := hr11
        repeat (first | refine goX ?_ | refine bxX fun b => ?_ | refine dwX 22 [([0, 1, 2, 3, 4, 5, 6, 7, 8, 9, 10, 11, 12, 13, 14, 15, 16, 17], [])] [18] ?_)
        refine e_indexAddr tb (R := _) (sz := 1) rfl rfl rfl rfl rfl hS7 (by omega) (by omega) (by first | exact hz | simpa using hz) rfl ?_
        rintro b12 off12 vs hr12 _ hc12
        obtain rfl := hr12
        repeat (first | refine goX ?_ | refine bxX fun b => ?_ | refine dwX 22 [([0, 1, 2, 3, 4, 5, 6, 7, 8, 9, 10, 11, 12, 13, 14, 15, 16, 17], [])] [18] ?_)
        obtain ⟨lb, T, fz, eb, ho⟩ := cell_at hc12
        have hok : okfz fz lb.length := by have := th _ _ _ _ eb; simpa using this
        obtain ⟨es', hL', oe'⟩ := ownEs_set (o := off12) eb (z + 1) oe
        have th' := th.set (c' := (lb.set off12 (byteV (z + 1))).toArray) eb (by simp)
        refine RO.imp (Imp.splitAt 2 rfl (uni_del eb) rfl (apart_del _ _ _)) ?_
        rw [wrap_byte]
        refine o_storeC 0 tb rfl rfl rfl rfl rfl rfl ho hok ?_
        refine RO.imp (Imp.joinP (hs1 := [one b12 _, delH hB b12]) (hs2 := [h, ha2, ha1, hB1]) (junk := []) pmX) ?_
        repeat (first | refine goX ?_ | refine bxX fun b => ?_ | refine dwX 22 [([0, 1, 2, 3, 4, 5, 6, 7, 8, 9, 10, 11, 12, 13, 14, 15, 16, 17], [])] [18] ?_)
        refine ⟨(k + 1, es', _), ⟨by simp only; omega, hL'.trans hL, oe', th'⟩, by simp only; omega, leX, Imp.take (junk := _) pmX⟩
  · obtain ⟨d, hd⟩ : ∃ d, l[i]? = some d := ⟨_, List.getElem?_eq_getElem (by omega)⟩
    repeat (first | refine goX ?_ | refine bxX fun b => ?_ | refine dwX 22 [([0, 1, 2, 3, 4, 5, 6, 7, 8, 9, 10, 11, 12, 13, 14, 15, 16, 17], [])] [18] ?_)
    refine o_indexAddr tb (R := _) (sz := 9) rfl rfl rfl rfl rfl hx (by omega) (by omega) (by first | exact hd | simpa using hd) rfl ?_
    rintro b' off vs hdr _ hcell
    have hdr2 := hdr
    obtain ⟨a9, c9, rfl, _, _⟩ := hdr2
    repeat (first | refine goX ?_ | refine bxX fun b => ?_ | refine dwX 22 [([0, 1, 2, 3, 4, 5, 6, 7, 8, 9, 10, 11, 12, 13, 14, 15, 16, 17], [])] [18] ?_)
    refine RO.call1 0 rfl rfl rfl Tryz.func9 rfl (by kernel_rfl) rfl rfl (done_spec (d := d) (M := M) o1 rfl hdr (hM.trans (Le.sub (Sub.left _ _))) hs.g (by omega) (hs.n (by omega))) ?_
    rintro v hs' ⟨u, va, h4, h5, rfl, o4, oa, rfl⟩
    have hs4 := hs.done d
    generalize doneF s d = q at *
    obtain ⟨s2, l2, e2⟩ := q
    simp only at o4 oa hs4 ⊢
    obtain ⟨bu, rfl⟩ := o4.ptr
    obtain ⟨aa, ca, rfl, hca, hSa⟩ := OwnOf.rows oa
    repeat (first | refine goX ?_ | refine bxX fun b => ?_ | refine dwX 22 [([0, 1, 2, 3, 4, 5, 6, 7, 8, 9, 10, 11, 12, 13, 14, 15, 16, 17], [])] [18] ?_)
    refine ⟨(i + 1, bu, s2, h4), ⟨by simp only; omega, o4, hs4⟩, by simp only; omega, leX, Imp.take (junk := _) pmX⟩
end Go.Proofs.YtonnncdolofccaaGreat

namespace Go.Proofs.YtonnncdolofccaaGreat
open Go.ChangeShapes Go.WideShapes Go.ChangeAt Go.RowKit Go.Deep

namespace storeSilent
theorem own : ownKnob Tryz.prog.godebug = none := by kernel_rfl
set_option maxRecDepth 100000 in
theorem contract (H : Type) (enc : TypeId × Value → H) (W : World) (base : Nat) (args : Array Value) (ds gs : List (DataW H)) (before : List MemPlace)
    (hval : ∀ (j : Nat) t v, Tryz.f4.params[j]? = some t → args[j]? = some v → Value.okWide Tryz.prog W .any base t v)
    (hW : DataW.Whole enc Tryz.prog Tryz.f4.params.toList Rows.storeSilentSpec.vars false W args.toList ds gs before) (hk : Rows.uptoSmall H (ds ++ gs) = true) :
    Calls Tryz.prog 4 args W fun e W' => ∃ v, e = .returned v ∧ Rows.storeSilentSpec.post enc Tryz.prog Tryz.f4 false true false false W args v W' := by
  have hW' := hW
  obtain ⟨p, q, hA0, hV, rfl, hfz, hnd⟩ := hW
  have hA : DataW.TrodAll enc Tryz.prog W 0 (fun _ => true) true Tryz.f4.params.toList args.toList ds p := hA0
  rw [Tryz.params4] at hA hval
  obtain ⟨v0, vs0, d0, ds0, p0, q0, hargs, rfl, rfl, h0, r0⟩ := trodAll_cons hA
  obtain ⟨v1, vs1, d1, ds1, p1, q1, rfl, rfl, rfl, h1, r1⟩ := trodAll_cons r0
  obtain ⟨rfl, rfl, rfl⟩ := trodAll_nil r1
  obtain rfl : args = #[v0, v1] := by cases args; simp_all
  obtain ⟨rfl, rfl⟩ := trodVars_none hV
  have hb : Rows.uptoBulkAll ([d0, d1] ++ []) ≤ 1048576 := of_decide_eq_true hk
  simp only [List.append_nil, Rows.uptoBulkAll] at hb
  obtain ⟨fuel1, h1'⟩ := h1
  obtain ⟨e, hE, hbe⟩ := rd_entry h1'
  obtain ⟨ec, rfl, _⟩ := okWide_struct Tryz.underlying37 (hval 1 37 v1 rfl rfl)
  obtain ⟨fuel, h0'⟩ := h0
  obtain ⟨a, c, l, e0, hc, hS, hl, hn⟩ := rd_dos h0' (by simp only; omega)
  obtain ⟨a', n', c', rfl⟩ := okWide_slice Tryz.underlying22 (hval 0 22 v0 rfl rfl)
  obtain ⟨rfl, rfl, rfl⟩ : a' = a ∧ n' = l.length ∧ c' = c := by simpa [Value.cells] using e0
  refine (silent_spec (e := e) (M := [wH W]) hS (Le.refl _) ⟨_, by simp [Value.cells], hE⟩ hc (by omega) hn (by simp only at hbe; omega) W (wH W) (kin_wH W) (owned_wH W)).mono ?_
  rintro e W' ⟨v, hs', rfl, ho, hkeep, rfl, rfl⟩
  exact ⟨_, rfl, law_post (by kernel_rfl) (by kernel_rfl) rfl rfl Tryz.underlying4 hW' rfl ⟨hkeep.os, hkeep.tape, hkeep.output, hkeep.size, fun k hk => by
    have := ho.subF k W.heap[k] (Array.getElem?_eq_getElem hk)
    rw [this, Array.getElem?_eq_getElem hk]⟩⟩

set_option maxRecDepth 100000 in
theorem lifted (os : Os) (started : os.Started) (H : Type) (enc : TypeId × Value → H) (F : Stop.Interp) :
    ReturnsInHanded {} Tryz.checked os 4 .any ((Rows.OpenSpec.upto Rows.storeSilentSpec).pre6 enc Tryz.prog Tryz.f4 Rows.storeSilentUptoRow.domain false) (((Rows.OpenSpec.upto Rows.storeSilentSpec).at F).post enc Tryz.prog Tryz.f4 false true false false) := by
  refine returnsInHanded_of_cond (C := Tryz.checked) (s := Rows.OpenSpec.upto Rows.storeSilentSpec) (k := Rows.uptoSmall) rfl own started (by kernel_rfl) Tryz.func4
    (OpenSpec.witness (enc := enc) (C := Tryz.checked) (s := Rows.OpenSpec.upto Rows.storeSilentSpec) (k := Rows.uptoSmall) rfl false ⟨#[], #[.slice none 0 0, .agg #[.string .empty, .int .i64 0, .int .i64 0, .int .i64 0, .bool false, .slice none 0 0]], []⟩ 8 (by kernel_rfl) (by kernel_rfl) (by kernel_rfl)
      (x := ([.nil, .agg [.lit (.string []), .agg [.lit (.int .i64 0), .lit (.int .i64 0), .lit (.int .i64 0)], .agg [.lit (.bool false), .nil]]], [], [])) (by kernel_rfl) rfl (by kernel_rfl)) ?_
  intro W base args ds gs before hval hW _ hk _
  exact contract H enc W base args ds gs before hval hW hk

theorem proved : Rows.StoreSilentUptoSaid :=
  OpenClaim.holds_of_cond 4 Tryz.f4 rfl rfl rfl rfl rfl rfl rfl ⟨rfl, rfl, rfl, rfl, rfl⟩ rfl rfl rfl rfl rfl (by kernel_rfl) Tryz.func4 (by kernel_rfl)
    (of_decide_eq_true (by kernel_rfl)) (by unfold Func.isWrapper; first | (rw [if_pos (by decide +kernel)]; kernel_rfl) | (rw [if_neg (by decide +kernel)]; exact ⟨rfl, rfl⟩))
    (fun os started H enc _ F => lifted os started H enc F)
end storeSilent
end Go.Proofs.YtonnncdolofccaaGreat
