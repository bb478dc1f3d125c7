/- tags: what the functions of tags compute. Conditions: none.
   tags: Right, Copy. Conditions: none.
   pack: Num, Row, Truth. Conditions: none.
   pack: Row, Truth; tags: Copy, Bytes. Conditions: none.
   tags: Bytes. Conditions: none.
   hash: Step, Sum, Check; frames: four, get. Conditions: none.
   frames: One, Next. Conditions: none.
   frames: Scan. Conditions: none.
   disk. Conditions: none.
   disk: what changes it. Conditions: none. -/
import Derived.Test.YtonnncdolofccaaGreatQb
namespace Go.Proofs.YtonnncdolofccaaGreat
attribute [local irreducible] RC RO EvE DR OpV Fn SlOf OwnSl postQ Src Rows Rdb CellsAt thenQ blockQ noGotoQ
set_option linter.unusedSimpArgs false
set_option linter.unusedVariables false

/-! ### how plain words lie in cells -/
def tagC (t : Tg) : List Value := [.int .i64 t.seq, .int .i64 t.who, .int .i64 t.op]
abbrev tagV (t : Tg) : Value := .agg #[.int .i64 t.seq, .int .i64 t.who, .int .i64 t.op]
/-- an entry's cells; its bytes lie in M -/
def EnR (M : List Hp) (e : En) (vs : List Value) : Prop := ∃ a c, vs = [.string (str e.key), .int .i64 e.tag.seq, .int .i64 e.tag.who, .int .i64 e.tag.op, .bool e.has, .slice a e.b.length c] ∧ e.b.length ≤ c ∧ SlOf M ByteR 1 a e.b
def EnV (M : List Hp) (v : Value) (e : En) : Prop := ∃ vs, v = .agg vs.toArray ∧ EnR M e vs
theorem EnR.sub {M M' : List Hp} (s : Sub M M') {e : En} {vs : List Value} (h : EnR M e vs) : EnR M' e vs := let ⟨a, c, e1, l, h⟩ := h; ⟨a, c, e1, l, h.sub s⟩
theorem EnV.sub {M M' : List Hp} (s : Sub M M') {e : En} {v : Value} (h : EnV M v e) : EnV M' v e := let ⟨v, e1, h⟩ := h; ⟨v, e1, h.sub s⟩

theorem none_spec (s w o : Int) (K : List Hp) : Fn Tryz.prog 33 [.agg #[.int .i64 s, .int .i64 w, .int .i64 o]] K [] fun v hs' => v = .bool (decide (s = 0)) ∧ hs' = [] := by
  refine Fn.enter Tryz.func33 rfl rfl ?_; simp only [Tryz.ntmps33, argEnv, Nat.reduceAdd]
  repeat (first | refine goX ?_ | refine bxX fun b => ?_)
  refine post_ret (hs' := []) [_] rfl ⟨rfl, rfl⟩ (List.nil_sublist _) ?_
  exact ⟨rfl, rfl⟩

theorem isNaN_spec (a : Int) (K : List Hp) : Fn Tryz.prog 86 [.int .i64 a] K [] fun v hs' => v = .bool false ∧ hs' = [] := by
  refine Fn.enter Tryz.func86 rfl rfl ?_; simp only [Tryz.ntmps86, argEnv, Nat.reduceAdd]
  repeat refine goX ?_
  refine post_ret (hs' := []) [_] rfl ⟨rfl, rfl⟩ (List.nil_sublist _) ?_
  simp [pack]

theorem cmp_spec (a b : Int) (K : List Hp) : Fn Tryz.prog 59 [.int .i64 a, .int .i64 b] K [] fun v hs' => v = .int .i64 (cmpI a b) ∧ hs' = [] := by
  refine Fn.enter Tryz.func59 rfl rfl ?_; simp only [Tryz.ntmps59, argEnv, Nat.reduceAdd]
  repeat refine goX ?_
  refine RO.call0 rfl rfl rfl Tryz.func86 rfl (by kernel_rfl) (isNaN_spec _ _) ?_
  rintro v hs' ⟨rfl, rfl⟩
  repeat refine goX ?_
  refine RO.call0 rfl rfl rfl Tryz.func86 rfl (by kernel_rfl) (isNaN_spec _ _) ?_
  rintro v hs' ⟨rfl, rfl⟩
  repeat refine goX ?_
  refine RC.cond rfl (fun h => ?_) (fun h => ?_) <;> (try simp only [decide_eq_true_eq, decide_eq_false_iff_not, Bool.not_eq_true', Bool.not_eq_false', Bool.not_eq_eq_eq_not, Bool.not_true, Bool.not_false, Int.not_lt, Int.not_le] at h)
  · repeat refine goX ?_
    refine post_ret (hs' := []) [_] rfl ⟨rfl, rfl⟩ (List.nil_sublist _) ?_
    exact ⟨by simp [pack, cmpI, h], rfl⟩
  · repeat refine goX ?_
    refine RC.cond rfl (fun h2 => ?_) (fun h2 => ?_) <;> (try simp only [decide_eq_true_eq, decide_eq_false_iff_not, Bool.not_eq_true', Bool.not_eq_false', Bool.not_eq_eq_eq_not, Bool.not_true, Bool.not_false, Int.not_lt, Int.not_le] at h2)
    · repeat refine goX ?_
      refine post_ret (hs' := []) [_] rfl ⟨rfl, rfl⟩ (List.nil_sublist _) ?_
      exact ⟨by simp [pack, cmpI, h2, Int.not_lt.2 h], rfl⟩
    · repeat refine goX ?_
      refine post_ret (hs' := []) [_] rfl ⟨rfl, rfl⟩ (List.nil_sublist _) ?_
      exact ⟨by simp [pack, cmpI, Int.not_lt.2 h, Int.not_lt.2 h2], rfl⟩

theorem or_spec (a b c : Int) (K : List Hp) (x : Option Addr) (cap : Nat) (hx : SlOf K IntR 1 x [a, b, c]) : Fn Tryz.prog 58 [.slice x 3 cap] K [] fun v hs' => v = .int .i64 (orI a b c) ∧ hs' = [] := by
  refine Fn.enter Tryz.func58 rfl rfl ?_; simp only [Tryz.ntmps58, argEnv, Nat.reduceAdd]
  repeat refine goX ?_
  refine RC.loopE (fun k : Nat => [(8, .int .i64 (k : Int)), (7, .int .i64 ((3 : Nat) : Int)), (6, .slice x 3 cap), (3, .int .i64 0), (0, .slice x 3 cap)]) (fun _ => []) (fun k => k ≤ 3 ∧ ∀ j, j < k → [a, b, c][j]? = some 0) (fun k => 3 - k) 0 ⟨by omega, by intro j h; omega⟩ leX (List.nil_sublist _) ?_
  rintro k ⟨hk, hz⟩
  repeat refine goX ?_
  by_cases h3 : k = 3
  · subst h3
    refine RC.cond rfl (fun h => ?_) (fun h => ?_) <;> (try simp only [decide_eq_true_eq, decide_eq_false_iff_not, Bool.not_eq_true', Bool.not_eq_false', Bool.not_eq_eq_eq_not, Bool.not_true, Bool.not_false, Int.not_lt, Int.not_le] at h)
    · omega
    · repeat refine goX ?_
      refine post_ret (hs' := []) [_] rfl ⟨rfl, rfl⟩ (List.nil_sublist _) ?_
      have h0 := hz 0 (by omega)
      have h1 := hz 1 (by omega)
      have h2 := hz 2 (by omega)
      simp at h0 h1 h2
      subst h0; subst h1; subst h2
      exact ⟨rfl, rfl⟩
  · refine RC.cond rfl (fun h => ?_) (fun h => ?_) <;> (try simp only [decide_eq_true_eq, decide_eq_false_iff_not, Bool.not_eq_true', Bool.not_eq_false', Bool.not_eq_eq_eq_not, Bool.not_true, Bool.not_false, Int.not_lt, Int.not_le] at h)
    · repeat refine goX ?_
      obtain ⟨y, hy⟩ : ∃ y, [a, b, c][k]? = some y := ⟨_, List.getElem?_eq_getElem (by simp; omega)⟩
      refine o_indexAddr tb (R := IntR) (sz := 1) rfl rfl rfl rfl rfl hx (by omega) (by omega) (by first | exact hy | simpa using hy) rfl ?_
      rintro b' off vs rfl _ hc
      repeat refine goX ?_
      by_cases hy0 : y = 0
      · subst hy0
        refine RC.cond rfl (fun h4 => ?_) (fun h4 => ?_) <;> (try simp only [decide_eq_true_eq, decide_eq_false_iff_not, Bool.not_eq_true', Bool.not_eq_false', Bool.not_eq_eq_eq_not, Bool.not_true, Bool.not_false, Int.not_lt, Int.not_le] at h4)
        · simp at h4
        · repeat refine goX ?_
          exact ⟨k + 1, ⟨by omega, fun j hj => by
            rcases Nat.lt_or_ge j k with h5 | h5
            · exact hz j h5
            · have : j = k := by omega
              subst this; exact hy⟩, by omega, leX, List.nil_sublist _⟩
      · refine RC.cond rfl (fun h4 => ?_) (fun h4 => ?_) <;> (try simp only [decide_eq_true_eq, decide_eq_false_iff_not, Bool.not_eq_true', Bool.not_eq_false', Bool.not_eq_eq_eq_not, Bool.not_true, Bool.not_false, Int.not_lt, Int.not_le] at h4)
        · repeat refine goX ?_
          refine post_ret (hs' := []) [_] rfl ⟨rfl, rfl⟩ (List.nil_sublist _) ?_
          refine ⟨?_, rfl⟩
          simp only [pack]
          congr 1
          match k, hk, h3, hy, hz with
          | 0, _, _, hy, _ => simp at hy; subst hy; simp [orI, hy0]
          | 1, _, _, hy, hz => have := hz 0 (by omega); simp at hy this; subst hy; subst this; simp [orI, hy0]
          | 2, _, _, hy, hz => have h0 := hz 0 (by omega); have h1 := hz 1 (by omega); simp at hy h0 h1; subst hy; subst h0; subst h1; simp [orI]
        · simp [hy0] at h4
    · omega

theorem compare_spec (t u : Tg) (K : List Hp) : Fn Tryz.prog 34 [tagV t, tagV u] K [] fun v hs' => v = .int .i64 (cmpT t u) ∧ hs' = [] := by
  refine Fn.enter Tryz.func34 rfl rfl ?_; simp only [Tryz.ntmps34, argEnv, Nat.reduceAdd]
  repeat (first | refine goX ?_ | refine bxX fun b => ?_ | refine bsX fun b => ?_ | refine dwX 1 [([0, 1, 2, 3, 5, 6, 7, 8, 10, 11, 12, 13], [4, 9, 14, 15, 16])] [17] ?_)
  refine RO.call0 rfl rfl rfl Tryz.func59 rfl (by kernel_rfl) (cmp_spec _ _ _) ?_
  rintro v hs' ⟨rfl, rfl⟩
  repeat (first | refine goX ?_ | refine bxX fun b => ?_ | refine bsX fun b => ?_ | refine dwX 1 [([0, 1, 2, 3, 5, 6, 7, 8, 10, 11, 12, 13], [4, 9, 14, 15, 16])] [17] ?_)
  refine RO.call0 rfl rfl rfl Tryz.func59 rfl (by kernel_rfl) (cmp_spec _ _ _) ?_
  rintro v hs' ⟨rfl, rfl⟩
  repeat (first | refine goX ?_ | refine bxX fun b => ?_ | refine bsX fun b => ?_ | refine dwX 1 [([0, 1, 2, 3, 5, 6, 7, 8, 10, 11, 12, 13], [4, 9, 14, 15, 16])] [17] ?_)
  refine RO.call0 rfl rfl rfl Tryz.func59 rfl (by kernel_rfl) (cmp_spec _ _ _) ?_
  rintro v hs' ⟨rfl, rfl⟩
  repeat (first | refine goX ?_ | refine bxX fun b => ?_ | refine bsX fun b => ?_ | refine dwX 1 [([0, 1, 2, 3, 5, 6, 7, 8, 10, 11, 12, 13], [4, 9, 14, 15, 16])] [17] ?_)
  refine RO.call0 rfl rfl rfl Tryz.func58 rfl (by kernel_rfl) (or_spec (cmpI t.seq u.seq) (cmpI t.who u.who) (cmpI t.op u.op) _ _ _ ?_) ?_
  · exact slOf_one (List.mem_append_right _ List.mem_cons_self) (rows_c1 rfl (rows_c1 rfl (rows_c1 rfl rows_nil)))
  rintro v hs' ⟨rfl, rfl⟩
  repeat (first | refine goX ?_ | refine bxX fun b => ?_ | refine bsX fun b => ?_ | refine dwX 1 [([0, 1, 2, 3, 5, 6, 7, 8, 10, 11, 12, 13], [4, 9, 14, 15, 16])] [17] ?_)
  refine post_ret (hs' := []) [_] rfl ⟨rfl, rfl⟩ (List.nil_sublist _) ?_
  exact ⟨rfl, rfl⟩

theorem check_spec (t : Tg) (K : List Hp) : Fn Tryz.prog 57 [tagV t] K [] fun v hs' => v = .int .i64 (if tagOk t then 0 else 2) ∧ hs' = [] := by
  have D : ¬ 0 ≤ t.seq ∨ (0 ≤ t.seq ∧ ¬ t.seq ≤ 1099511627775) ∨ (0 ≤ t.seq ∧ t.seq ≤ 1099511627775 ∧ ¬ 0 ≤ t.who) ∨ (0 ≤ t.seq ∧ t.seq ≤ 1099511627775 ∧ 0 ≤ t.who ∧ ¬ t.who ≤ 1048575) ∨ (0 ≤ t.seq ∧ t.seq ≤ 1099511627775 ∧ 0 ≤ t.who ∧ t.who ≤ 1048575 ∧ ¬ 0 ≤ t.op) ∨ (0 ≤ t.seq ∧ t.seq ≤ 1099511627775 ∧ 0 ≤ t.who ∧ t.who ≤ 1048575 ∧ 0 ≤ t.op ∧ ¬ t.op ≤ 1048575) ∨ (0 ≤ t.seq ∧ t.seq ≤ 1099511627775 ∧ 0 ≤ t.who ∧ t.who ≤ 1048575 ∧ 0 ≤ t.op ∧ t.op ≤ 1048575) := by omega
  rcases D with D | D | D | D | D | D | D
  case inr.inr.inr.inr.inr.inr =>
    obtain ⟨d1, d2, d3, d4, d5, d6⟩ := D
    by_cases h0 : t.seq = 0
    · refine Fn.enter Tryz.func57 rfl rfl ?_; simp only [Tryz.ntmps57, argEnv, Nat.reduceAdd]
      repeat (first | refine goX ?_ | refine bxX fun b => ?_)
      refine RC.cond rfl (fun h => ?_) (fun h => ?_) <;> (try simp only [decide_eq_true_eq, decide_eq_false_iff_not, Bool.not_eq_true', Bool.not_eq_false', Bool.not_eq_eq_eq_not, Bool.not_true, Bool.not_false, Int.not_lt, Int.not_le] at h)
      · repeat (first | refine goX ?_ | refine bxX fun b => ?_)
        refine post_ret (hs' := []) [_] rfl ⟨rfl, rfl⟩ (List.nil_sublist _) ?_
        refine ⟨?_, rfl⟩
        simp [tagOk] at h ⊢
        simp only [pack]; congr 1
        rw [if_neg]; omega
      · repeat (first | refine goX ?_ | refine bxX fun b => ?_)
        refine post_ret (hs' := []) [_] rfl ⟨rfl, rfl⟩ (List.nil_sublist _) ?_
        refine ⟨?_, rfl⟩
        simp [tagOk] at h ⊢
        simp only [pack]; congr 1
        rw [if_pos]; omega
    · refine Fn.enter Tryz.func57 rfl rfl ?_; simp only [Tryz.ntmps57, argEnv, Nat.reduceAdd]
      repeat (first | refine goX ?_ | refine bxX fun b => ?_)
      refine post_ret (hs' := []) [_] rfl ⟨rfl, rfl⟩ (List.nil_sublist _) ?_
      refine ⟨?_, rfl⟩
      simp only [pack]; congr 1
      simp [tagOk]; omega
  all_goals
    refine Fn.enter Tryz.func57 rfl rfl ?_; simp only [Tryz.ntmps57, argEnv, Nat.reduceAdd]
    repeat (first | refine goX ?_ | refine bxX fun b => ?_)
    refine post_ret (hs' := []) [_] rfl ⟨rfl, rfl⟩ (List.nil_sublist _) ?_
    refine ⟨?_, rfl⟩
    simp only [pack]; congr 1
    rw [if_neg]
    simp [tagOk]; omega
end Go.Proofs.YtonnncdolofccaaGreat

namespace Go.Proofs.YtonnncdolofccaaGreat
attribute [local irreducible] RC RO EvE DR OpV Fn SlOf OwnSl postQ Src Rows Rdb CellsAt thenQ blockQ noGotoQ
set_option linter.unusedSimpArgs false
set_option linter.unusedVariables false

theorem right_spec (e : En) (K : List Hp) (v : Value) (h : EnV K v e) : Fn Tryz.prog 32 [v] K [] fun v hs' => v = .int .i64 (if right e then 0 else 2) ∧ hs' = [] := by
  obtain ⟨vs, rfl, a, c, rfl, hc, hS⟩ := h
  have hks := str_size e.key
  have D : e.key.length = 0 ∨ (0 < e.key.length ∧ 250 < e.key.length) ∨ (0 < e.key.length ∧ e.key.length ≤ 250 ∧ 60000 < e.b.length) ∨ (0 < e.key.length ∧ e.key.length ≤ 250 ∧ e.b.length ≤ 60000) := by omega
  rcases D with D | D | D | D
  case inr.inr.inr =>
    obtain ⟨d1, d2, d3⟩ := D
    have D2 : (e.has = false ∧ 0 < e.b.length) ∨ (e.has = true ∨ (e.has = false ∧ e.b.length = 0)) := by
      rcases Nat.eq_zero_or_pos e.b.length with h | h
      · cases hq : e.has
        · exact .inr (.inr ⟨rfl, h⟩)
        · exact .inr (.inl rfl)
      · cases hq : e.has
        · exact .inl ⟨rfl, h⟩
        · exact .inr (.inl rfl)
    have hk0 : e.key ≠ [] := by intro h; rw [h] at d1; simp at d1
    rcases D2 with ⟨hh, h0⟩ | D2
    · rw [hh]
      refine Fn.enter Tryz.func32 rfl rfl ?_; simp only [Tryz.ntmps32, argEnv, Nat.reduceAdd]
      repeat (first | refine goX ?_ | refine bxX fun b => ?_)
      refine post_ret (hs' := []) [_] rfl ⟨rfl, rfl⟩ (List.nil_sublist _) ?_
      refine ⟨?_, rfl⟩
      simp only [pack]; congr 1
      rw [if_neg]
      have : e.b ≠ [] := fun h => by rw [h] at h0; simp at h0
      simp [right, hh, this]
    · rcases D2 with hh | ⟨hh, h0⟩
      all_goals
        rw [hh]
        refine Fn.enter Tryz.func32 rfl rfl ?_; simp only [Tryz.ntmps32, argEnv, Nat.reduceAdd]
        repeat (first | refine goX ?_ | refine bxX fun b => ?_)
        refine RO.call0 rfl rfl rfl Tryz.func57 rfl (by kernel_rfl) (check_spec _ _) ?_
        rintro v hs' ⟨rfl, rfl⟩
        cases ht : tagOk e.tag
        · simp only [Bool.false_eq_true, if_false]
          repeat (first | refine goX ?_ | refine bxX fun b => ?_)
          refine post_ret (hs' := []) [_] rfl ⟨rfl, rfl⟩ (List.nil_sublist _) ?_
          refine ⟨?_, rfl⟩
          simp only [pack]; congr 1
          rw [if_neg]
          simp [right, ht]
        · simp only [if_true]
          repeat (first | refine goX ?_ | refine bxX fun b => ?_)
          refine RO.call0 rfl rfl rfl Tryz.func33 rfl (by kernel_rfl) (none_spec _ _ _ _) ?_
          rintro v hs' ⟨rfl, rfl⟩
          by_cases h1 : e.tag.seq = 0
          all_goals
            simp only [h1, decide_true, decide_false]
            repeat (first | refine goX ?_ | refine bxX fun b => ?_)
            refine post_ret (hs' := []) [_] rfl ⟨rfl, rfl⟩ (List.nil_sublist _) ?_
            refine ⟨?_, rfl⟩
            simp only [pack]; congr 1
            simp [right, hh, ht, h1, d2, d3, hk0]
            try omega
            try (intro _; exact List.eq_nil_of_length_eq_zero h0)
            try exact ⟨by omega, List.eq_nil_of_length_eq_zero h0⟩
  all_goals
    refine Fn.enter Tryz.func32 rfl rfl ?_; simp only [Tryz.ntmps32, argEnv, Nat.reduceAdd]
    repeat (first | refine goX ?_ | refine bxX fun b => ?_)
    refine post_ret (hs' := []) [_] rfl ⟨rfl, rfl⟩ (List.nil_sublist _) ?_
    refine ⟨?_, rfl⟩
    simp only [pack]; congr 1
    rw [if_neg]
    simp [right]; omega
end Go.Proofs.YtonnncdolofccaaGreat

namespace Go.Proofs.YtonnncdolofccaaGreat
attribute [local irreducible] RC RO EvE DR OpV Fn SlOf OwnSl postQ Src Rows Rdb CellsAt thenQ blockQ noGotoQ
set_option linter.unusedSimpArgs false
set_option linter.unusedVariables false

/-- the bytes of a number, so many of them -/
def outK (n k : Nat) : List UInt8 := 0 :: ((b8 n).take k).dropWhile (· == 0)
theorem b8_get (n k : Nat) (hk : k < 8) : (b8 n)[k]? = some (UInt8.ofNat (n / 2 ^ (56 - 8 * k))) := by
  match k, hk with
  | 0, _ => rfl
  | 1, _ => rfl
  | 2, _ => rfl
  | 3, _ => rfl
  | 4, _ => rfl
  | 5, _ => rfl
  | 6, _ => rfl
  | 7, _ => simp [b8]
theorem outK_succ (n k : Nat) (hk : k < 8) : outK n (k + 1) = if UInt8.ofNat (n / 2 ^ (56 - 8 * k)) = 0 ∧ (outK n k).length = 1 then outK n k else outK n k ++ [UInt8.ofNat (n / 2 ^ (56 - 8 * k))] := by
  have e : (b8 n).take (k + 1) = (b8 n).take k ++ [UInt8.ofNat (n / 2 ^ (56 - 8 * k))] := by
    rw [List.take_add_one, b8_get n k hk]; rfl
  unfold outK
  rw [e, dropWhile_snoc]
  cases h : ((b8 n).take k).dropWhile (· == 0) with
  | nil =>
    by_cases hc : UInt8.ofNat (n / 2 ^ (56 - 8 * k)) = 0 <;> simp [hc]
  | cons a l => simp
theorem outK_len (n k : Nat) : 1 ≤ (outK n k).length ∧ (outK n k).length ≤ 9 := by
  have := dropWhile_len (· == 0) ((b8 n).take k)
  have h2 : ((b8 n).take k).length ≤ 8 := by rw [List.length_take]; have : (b8 n).length = 8 := rfl; omega
  simp only [outK, List.length_cons]; omega

theorem u8_wrap (m : Nat) : IntKind.wrap .u8 (m : Int) = ((UInt8.ofNat m).toNat : Int) := by
  simp [IntKind.wrap, IntKind.bits, IntKind.signed]

theorem num_spec (n : Nat) (hn : n < 9223372036854775808) (K : List Hp) : Fn Tryz.prog 60 [.int .i64 (n : Int)] K [] fun v hs' => ∃ hp, OwnB 5 v (numB n) hp ∧ hs' = [hp] := by
  refine Fn.enter Tryz.func60 rfl rfl ?_; simp only [Tryz.ntmps60, argEnv, Nat.reduceAdd]
  repeat (first | refine goX ?_ | refine bsX fun b => ?_)
  refine RC.loopE (fun s : Nat × Option Addr × Nat × Hp => [(4, .int .i64 (56 - 8 * (s.1 : Int))), (3, .slice s.2.1 (outK n s.1).length s.2.2.1), (0, .int .i64 (n : Int))]) (fun s => [s.2.2.2])
    (fun s => s.1 ≤ 8 ∧ OwnB 5 (.slice s.2.1 (outK n s.1).length s.2.2.1) (outK n s.1) s.2.2.2) (fun s => 8 - s.1) (0, some ⟨b, 0, none⟩, 1, _) ⟨by simp, ownB_built (bs := [0]) rfl rfl⟩ leX (List.Sublist.refl _) ?_
  rintro ⟨k, a, c, hp⟩ ⟨hk, ho⟩
  simp only at hk ho ⊢
  have hl := outK_len n k
  have hnum : outK n 8 = 0 :: digs n := by unfold outK digs; rw [List.take_of_length_le (by simp [b8])]
  by_cases h8 : k = 8
  · subst h8
    repeat (first | refine goX ?_ | refine bsX fun b => ?_)
    obtain ⟨cs, hr, ho⟩ := ho
    have e1 := rows_bytes.1 hr
    subst e1
    obtain ⟨b', cap, rest, fz, e, hcap, rfl, hlen, hfz, hcl⟩ := ho.pos (by omega)
    cases e
    repeat (first | refine goX ?_ | refine bsX fun b => ?_)
    refine o_storeC 0 tb rfl rfl rfl rfl rfl rfl ?_ ?_ ?_
    · show 0 + 0 * 1 < _
      rw [hlen]; omega
    · rw [hlen]; exact hfz
    repeat (first | refine goX ?_ | refine bsX fun b => ?_)
    refine post_ret (hs' := [_]) [_] rfl ⟨rfl, rfl⟩ (List.Sublist.refl _) ?_
    refine ⟨_, ⟨(numB n).map byteV, rows_bytes.2 rfl, ?_⟩, rfl⟩
    have hl2 : (numB n).length = (outK n 8).length := by rw [hnum]; rfl
    have e2 : ((outK n 8).map byteV ++ rest).set (0 + 0 * 1) (.int .u8 (((outK n 8).length : Int) - 1)) = (numB n).map byteV ++ rest := by
      rw [hnum]
      simp only [numB, List.map_cons, List.cons_append, List.set_cons_zero, Nat.zero_mul, Nat.add_zero, List.length_cons]
      congr 1
      have hd := digs_len n
      simp only [byteV]
      congr 1
      rw [UInt8.toNat_ofNat_of_lt' (by show _ < 256; omega)]
      omega
    show OwnSl _ 1 (.slice (some ⟨b', 0, none⟩) (outK n 8).length c) (numB n).length ((numB n).map byteV) (one b' (.cells (((outK n 8).map byteV ++ rest).set (0 + 0 * 1) _).toArray _ fz))
    rw [e2, hl2]
    refine OwnSl.mk hcap ?_ hfz (by simp [hl2])
    rw [← e2, List.length_set]; exact hlen
  · have hk8 : k < 8 := by omega
    repeat (first | refine goX ?_ | refine bsX fun b => ?_)
    have ec : IntKind.u8.wrap ((n : Int) / 2 ^ (min (56 - 8 * (k : Int)).toNat IntKind.u64.bits)) = ((UInt8.ofNat (n / 2 ^ (56 - 8 * k))).toNat : Int) := by
      have e1 : min (56 - 8 * (k : Int)).toNat IntKind.u64.bits = 56 - 8 * k := by show min (56 - 8 * (k : Int)).toNat 64 = _; omega
      rw [e1, ← u8_wrap]; norm_cast
    rw [ec]
    generalize hc : UInt8.ofNat (n / 2 ^ (56 - 8 * k)) = cc
    have hs := outK_succ n k hk8
    rw [hc] at hs
    by_cases h0 : cc = 0
    · have hd : (decide ((cc.toNat : Int) = 0)) = true := by rw [h0]; rfl
      simp only [hd, Bool.not_true]
      by_cases h1 : (outK n k).length = 1
      · repeat (first | refine goX ?_ | refine bsX fun b => ?_)
        rw [if_pos ⟨h0, h1⟩] at hs
        refine ⟨(k + 1, a, c, hp), ⟨by simp; omega, ?_⟩, by simp; omega, ?_, List.Sublist.refl _⟩
        · simp only [hs]; exact ho
        · simp only [hs]
          refine EnvLe.cons ?_ (EnvLe.cons rfl (EnvLe.cons rfl (EnvLe.nil _)))
          show some (Value.int .i64 (56 - 8 * (k : Int) - 8)) = some (.int .i64 _)
          congr 2; push_cast; omega
      · repeat (first | refine goX ?_ | refine bsX fun b => ?_)
        have hs : outK n (k + 1) = outK n k ++ [cc] := by rw [hs, if_neg (fun h => h1 h.2)]
        have hb := (ownB_built (E := 5) (b := b) (bs := [cc]) (l := [byteV cc]) (len := 1) rfl rfl)
        refine o_appendB 1 tb rfl rfl ho rfl rfl rfl rfl rfl rfl (OwnOf.slV hb) (fun x hx => by rw [List.mem_singleton.1 hx]; exact List.mem_append_right _ (List.mem_cons_self ..)) (by rw [List.length_singleton]; omega) rfl ?_
        intro v' hp' o'
        have e3 := o'
        rw [← hs] at o' e3
        obtain ⟨a', c', rfl, _, _⟩ := e3.rows
        repeat (first | refine goX ?_ | refine bsX fun b => ?_)
        refine ⟨(k + 1, a', c', hp'), ⟨by simp; omega, o'⟩, by simp; omega, ?_, .cons _ (List.Sublist.refl _)⟩
        refine EnvLe.cons ?_ (EnvLe.cons rfl (EnvLe.cons rfl (EnvLe.nil _)))
        show some (Value.int .i64 (56 - 8 * (k : Int) - 8)) = some (.int .i64 _)
        congr 2; push_cast; omega
    · have hd : (decide ((cc.toNat : Int) = 0)) = false := by
        rw [decide_eq_false_iff_not]; intro h; exact h0 (UInt8.toNat_inj.1 (by simpa using h))
      simp only [hd, Bool.not_false]
      repeat (first | refine goX ?_ | refine bsX fun b => ?_)
      have hs : outK n (k + 1) = outK n k ++ [cc] := by rw [hs, if_neg (fun h => h0 h.1)]
      have hb := (ownB_built (E := 5) (b := b) (bs := [cc]) (l := [byteV cc]) (len := 1) rfl rfl)
      refine o_appendB 1 tb rfl rfl ho rfl rfl rfl rfl rfl rfl (OwnOf.slV hb) (fun x hx => by rw [List.mem_singleton.1 hx]; exact List.mem_append_right _ (List.mem_cons_self ..)) (by rw [List.length_singleton]; omega) rfl ?_
      intro v' hp' o'
      have e3 := o'
      rw [← hs] at o' e3
      obtain ⟨a', c', rfl, _, _⟩ := e3.rows
      repeat (first | refine goX ?_ | refine bsX fun b => ?_)
      refine ⟨(k + 1, a', c', hp'), ⟨by simp; omega, o'⟩, by simp; omega, ?_, .cons _ (List.Sublist.refl _)⟩
      refine EnvLe.cons ?_ (EnvLe.cons rfl (EnvLe.cons rfl (EnvLe.nil _)))
      show some (Value.int .i64 (56 - 8 * (k : Int) - 8)) = some (.int .i64 _)
      congr 2; push_cast; omega
end Go.Proofs.YtonnncdolofccaaGreat

namespace Go.Proofs.YtonnncdolofccaaGreat
attribute [local irreducible] RC RO EvE DR OpV Fn SlOf OwnSl postQ Src Rows Rdb CellsAt thenQ blockQ noGotoQ
set_option linter.unusedSimpArgs false
set_option linter.unusedVariables false

theorem row_spec {b : List UInt8} {v : Value} {K : List Hp} (hv : BytesV K v b) (hb : b.length ≤ 65536) : Fn Tryz.prog 46 [v] K [] fun r hs' => ∃ u h, r = .tuple #[u, .int .i64 0] ∧ OwnB 5 u (rowB b) h ∧ hs' = [h] := by
  obtain ⟨a, c, rfl, hc, hS⟩ := hv
  refine Fn.enter Tryz.func46 rfl rfl ?_; simp only [Tryz.ntmps46, argEnv, Nat.reduceAdd]
  repeat refine goX ?_
  refine RO.call0 rfl rfl rfl Tryz.func60 rfl (by kernel_rfl) (num_spec b.length (by omega) _) ?_
  rintro v hs' ⟨hp, ho, rfl⟩
  repeat refine goX ?_
  have hn := numB_len b.length
  refine o_appendB 0 tb rfl rfl ho rfl rfl rfl rfl rfl rfl ⟨_, _, rfl, hc, hS⟩ sbX (by (try simp only [List.length_append, List.length_cons, List.length_nil]); omega) rfl ?_
  intro v' hp' o'
  repeat refine goX ?_
  refine post_ret (hs' := [_]) [_, _] rfl ⟨rfl, rfl, rfl⟩ slX ?_
  exact ⟨_, _, rfl, o', rfl⟩

theorem row_long {b : List UInt8} {v : Value} {K : List Hp} (hv : BytesV K v b) (hb : 65536 < b.length) : Fn Tryz.prog 46 [v] K [] fun r hs' => r = .tuple #[.slice none 0 0, .int .i64 3] ∧ hs' = [] := by
  obtain ⟨a, c, rfl, hc, hS⟩ := hv
  refine Fn.enter Tryz.func46 rfl rfl ?_; simp only [Tryz.ntmps46, argEnv, Nat.reduceAdd]
  repeat refine goX ?_
  refine post_ret (hs' := []) [_, _] rfl ⟨rfl, rfl, rfl⟩ (List.nil_sublist _) ?_
  exact ⟨rfl, rfl⟩

theorem truth_spec (t : Bool) (K : List Hp) : Fn Tryz.prog 61 [.bool t] K [] fun v hs' => ∃ h, OwnB 5 v (truB t) h ∧ hs' = [h] := by
  cases t
  all_goals
    refine Fn.enter Tryz.func61 rfl rfl ?_; simp only [Tryz.ntmps61, argEnv, Nat.reduceAdd]
    repeat (first | refine goX ?_ | refine bsX fun b => ?_)
    refine post_ret (hs' := [_]) [_] rfl ⟨rfl, rfl⟩ slX ?_
    exact ⟨_, ownB_built rfl rfl, rfl⟩

/-- what tells of an entry whose bytes are one's own -/
def OwnEn (v : Value) (e : En) (h : Hp) : Prop := ∃ u, v = .agg #[.string (str e.key), .int .i64 e.tag.seq, .int .i64 e.tag.who, .int .i64 e.tag.op, .bool e.has, u] ∧ OwnB 5 u e.b h
theorem OwnEn.enV {v : Value} {e : En} {h : Hp} (o : OwnEn v e h) : EnV [h] v e := by
  obtain ⟨u, rfl, o⟩ := o
  obtain ⟨a, c, rfl, h1, h2⟩ := o.rows
  exact ⟨_, rfl, a, c, rfl, h1, h2⟩

theorem copy_spec {e : En} {v : Value} {K : List Hp} (hv : EnV K v e) (hb : e.b.length ≤ 140000000000000) : Fn Tryz.prog 52 [v] K [] fun r hs' => ∃ h, OwnEn r e h ∧ hs' = [h] := by
  obtain ⟨vs, rfl, a, c, rfl, hc, hS⟩ := hv
  refine Fn.enter Tryz.func52 rfl rfl ?_; simp only [Tryz.ntmps52, argEnv, Nat.reduceAdd]
  repeat (first | refine goX ?_ | refine bxX fun b => ?_ | refine alX fun b => ?_)
  refine o_appendBN tb rfl rfl rfl rfl rfl rfl rfl ⟨_, _, rfl, hc, hS⟩ sbX (by (try simp only [List.length_append, List.length_cons, List.length_nil]); omega) rfl ?_
  intro v' hp' o'
  have e3 := o'
  obtain ⟨a', c', rfl, _, _⟩ := e3.rows
  repeat (first | refine goX ?_ | refine bxX fun b => ?_ | refine alX fun b => ?_)
  refine post_ret (hs' := [hp']) [_] rfl ⟨res_cell 1 tb rfl rfl rfl rfl rfl, rfl⟩ slX ?_
  exact ⟨_, ⟨_, rfl, o'⟩, rfl⟩
end Go.Proofs.YtonnncdolofccaaGreat

namespace Go.Proofs.YtonnncdolofccaaGreat
attribute [local irreducible] RC RO EvE DR OpV Fn SlOf OwnSl postQ Src Rows Rdb CellsAt thenQ blockQ noGotoQ
set_option linter.unusedSimpArgs false
set_option linter.unusedVariables false

def outN (e : En) (k : Nat) : List UInt8 := rowB e.key ++ (([e.tag.seq, e.tag.who, e.tag.op].take k).map (fun n => numB n.toNat)).flatten
theorem outN_succ (e : En) (k : Nat) (n : Int) (h : [e.tag.seq, e.tag.who, e.tag.op][k]? = some n) : outN e (k + 1) = outN e k ++ numB n.toNat := by
  unfold outN
  rw [List.take_add_one, h]
  simp
theorem outN_len (e : En) (k : Nat) (h : e.key.length ≤ 250) : (outN e k).length ≤ 400 := by
  have h1 := numB_len e.key.length
  have h2 := numB_len e.tag.seq.toNat
  have h3 := numB_len e.tag.who.toNat
  have h4 := numB_len e.tag.op.toNat
  match k with
  | 0 => simp [outN, rowB]; omega
  | 1 => simp [outN, rowB]; omega
  | 2 => simp [outN, rowB]; omega
  | k + 3 => simp [outN, rowB]; omega

theorem bytes_spec {e : En} {v : Value} {K : List Hp} (hv : EnV K v e) (hr : right e = true) : Fn Tryz.prog 35 [v] K [] fun r hs' => ∃ u h, r = .tuple #[u, .int .i64 0] ∧ OwnB 5 u (enB e) h ∧ hs' = [h] := by
  have hR : (0 < e.key.length ∧ e.key.length ≤ 250) ∧ e.b.length ≤ 60000 ∧ (0 ≤ e.tag.seq ∧ e.tag.seq ≤ 1099511627775) ∧ (0 ≤ e.tag.who ∧ e.tag.who ≤ 1048575) ∧ (0 ≤ e.tag.op ∧ e.tag.op ≤ 1048575) := by
    simp only [right, tagOk, decide_eq_true_eq] at hr
    omega
  obtain ⟨⟨k1, k2⟩, b1, ⟨s1, s2⟩, ⟨w1, w2⟩, ⟨o1, o2⟩⟩ := hR
  obtain ⟨vs, rfl, a, c, rfl, hc, hS⟩ := hv
  refine Fn.enter Tryz.func35 rfl rfl ?_; simp only [Tryz.ntmps35, argEnv, Nat.reduceAdd]
  repeat (first | refine goX ?_ | refine bxX fun b => ?_ | refine bsX fun b => ?_)
  rename Nat => b0
  refine RO.call0 rfl rfl rfl Tryz.func32 rfl (by kernel_rfl) (right_spec e _ _ ⟨_, rfl, a, c, rfl, hc, hS.sub (by intro g hg; simp [hg])⟩) ?_
  rintro v hs' ⟨rfl, rfl⟩
  simp only [hr, if_true]
  repeat (first | refine goX ?_ | refine bxX fun b => ?_ | refine bsX fun b => ?_)
  refine o_toBytes tb rfl rfl rfl rfl rfl ?_
  intro kv khp ko
  have ek : (str e.key).data.toList = e.key := by simp [str]
  rw [ek] at ko
  repeat (first | refine goX ?_ | refine bxX fun b => ?_ | refine bsX fun b => ?_)
  refine RO.call0 rfl rfl rfl Tryz.func46 rfl (by kernel_rfl) (row_spec (ko.slV.sub (by intro g hg; simp at hg; simp [hg])) (by omega)) ?_
  rintro v hs' ⟨u, hp, rfl, ho, rfl⟩
  repeat (first | refine goX ?_ | refine bxX fun b => ?_ | refine bsX fun b => ?_)
  have hI : SlOf [one b (.cells [.int .i64 e.tag.seq, .int .i64 e.tag.who, .int .i64 e.tag.op].toArray 3 (0, 0))] IntR 1 (some ⟨b, 0, none⟩) [e.tag.seq, e.tag.who, e.tag.op] :=
    slOf_one (List.mem_singleton.2 rfl) (rows_c1 rfl (rows_c1 rfl (rows_c1 rfl rows_nil)))
  refine RC.loopE (fun s : Nat × Value × Hp => [(34, .int .i64 (s.1 : Int)), (33, .int .i64 ((3 : Nat) : Int)), (32, .slice (some ⟨b, 0, none⟩) 3 3), (5, s.2.1), (1, .pointer (some ⟨b0, 0, none⟩))])
    (fun s => [one b (.cells [.int .i64 e.tag.seq, .int .i64 e.tag.who, .int .i64 e.tag.op].toArray 3 (0, 0)), s.2.2, one b0 (.cells [.string (str e.key), .int .i64 e.tag.seq, .int .i64 e.tag.who, .int .i64 e.tag.op, .bool e.has, .slice a e.b.length c].toArray 37 (0, 0))])
    (fun s => s.1 ≤ 3 ∧ OwnB 5 s.2.1 (outN e s.1) s.2.2) (fun s => 3 - s.1) (0, _, _) ⟨by simp, by simpa [outN] using ho⟩ leX slX ?_
  rintro ⟨k, out, hp1⟩ ⟨hk, ho1⟩
  simp only at hk ho1 ⊢
  by_cases h3 : k = 3
  · subst h3
    have hO : outN e 3 = rowB e.key ++ numB e.tag.seq.toNat ++ numB e.tag.who.toNat ++ numB e.tag.op.toNat := by simp [outN]
    have hl := outN_len e 3 k2
    repeat (first | refine goX ?_ | refine bxX fun b => ?_ | refine bsX fun b => ?_)
    refine RO.call0 rfl rfl rfl Tryz.func61 rfl (by kernel_rfl) (truth_spec _ _) ?_
    rintro v hs' ⟨hp2, ho2, rfl⟩
    repeat (first | refine goX ?_ | refine bxX fun b => ?_ | refine bsX fun b => ?_)
    have ht : (truB e.has).length = 1 := rfl
    refine o_appendB 2 tb rfl rfl ho1 rfl rfl rfl rfl rfl rfl ho2.slV sbX (by (try simp only [List.length_append, List.length_cons, List.length_nil]); omega) rfl ?_
    intro v' hp' o'
    rw [hO] at o' hl
    cases hh : e.has
    · rw [hh] at o'
      repeat (first | refine goX ?_ | refine bxX fun b => ?_ | refine bsX fun b => ?_)
      refine post_ret (hs' := [hp']) [_, _] rfl ⟨rfl, rfl, rfl⟩ slX ?_
      exact ⟨_, _, rfl, by simpa [enB, hh] using o', rfl⟩
    · rw [hh] at o'
      repeat (first | refine goX ?_ | refine bxX fun b => ?_ | refine bsX fun b => ?_)
      refine RO.call0 rfl rfl rfl Tryz.func46 rfl (by kernel_rfl) (row_spec (b := e.b) ⟨_, _, rfl, hc, hS.sub (by intro g hg; simp [hg])⟩ (by omega)) ?_
      rintro v hs' ⟨u3, hp3, rfl, ho3, rfl⟩
      repeat (first | refine goX ?_ | refine bxX fun b => ?_ | refine bsX fun b => ?_)
      have h5 := numB_len e.b.length
      have h6 : (rowB e.b).length = (numB e.b.length).length + e.b.length := by simp [rowB]
      have h7 : (truB true).length = 1 := rfl
      refine o_appendB 3 tb rfl rfl o' rfl rfl rfl rfl rfl rfl ho3.slV sbX (by simp only [List.length_append] at hl ⊢; omega) rfl ?_
      intro v'' hp'' o''
      repeat (first | refine goX ?_ | refine bxX fun b => ?_ | refine bsX fun b => ?_)
      refine post_ret (hs' := [hp'']) [_, _] rfl ⟨rfl, rfl, rfl⟩ slX ?_
      exact ⟨_, _, rfl, by simpa [enB, hh] using o'', rfl⟩
  · have hl := outN_len e k k2
    have hk3 : k = 0 ∨ k = 1 ∨ k = 2 := by omega
    obtain ⟨n, hn, hn0⟩ : ∃ n : Int, [e.tag.seq, e.tag.who, e.tag.op][k]? = some n ∧ 0 ≤ n ∧ n < 9223372036854775808 := by
      rcases hk3 with rfl | rfl | rfl
      · exact ⟨_, rfl, by omega, by omega⟩
      · exact ⟨_, rfl, by omega, by omega⟩
      · exact ⟨_, rfl, by omega, by omega⟩
    have hs := outN_succ e k n hn
    repeat (first | refine goX ?_ | refine bxX fun b => ?_ | refine bsX fun b => ?_)
    have hC : takeRow [Value.int .i64 e.tag.seq, .int .i64 e.tag.who, .int .i64 e.tag.op] (0 + k * 1) 1 = some [.int .i64 n] := by
      rcases hk3 with rfl | rfl | rfl <;> cases hn <;> rfl
    refine RO.ofV (v_load 0 tb rfl rfl rfl hC rfl) rfl ?_
    repeat (first | refine goX ?_ | refine bxX fun b => ?_ | refine bsX fun b => ?_)
    refine RO.call0 rfl rfl rfl Tryz.func60 rfl (by kernel_rfl) (by
      have := num_spec n.toNat (by omega) (K ++ [one b (.cells [.int .i64 e.tag.seq, .int .i64 e.tag.who, .int .i64 e.tag.op].toArray 3 (0, 0)), hp1, one b0 (.cells [.string (str e.key), .int .i64 e.tag.seq, .int .i64 e.tag.who, .int .i64 e.tag.op, .bool e.has, .slice a e.b.length c].toArray 37 (0, 0))])
      rw [Int.toNat_of_nonneg hn0.1] at this
      exact this) ?_
    rintro v hs' ⟨hp2, ho2, rfl⟩
    have hn2 := numB_len n.toNat
    repeat (first | refine goX ?_ | refine bxX fun b => ?_ | refine bsX fun b => ?_)
    refine o_appendB 2 tb rfl rfl ho1 rfl rfl rfl rfl rfl rfl ho2.slV sbX (by (try simp only [List.length_append, List.length_cons, List.length_nil]); omega) rfl ?_
    intro v' hp' o'
    rw [← hs] at o'
    repeat (first | refine goX ?_ | refine bxX fun b => ?_ | refine bsX fun b => ?_)
    refine ⟨(k + 1, v', hp'), ⟨by simp; omega, o'⟩, by simp; omega, leX, slX⟩
end Go.Proofs.YtonnncdolofccaaGreat

namespace Go.Proofs.YtonnncdolofccaaGreat
attribute [local irreducible] RC RO EvE DR OpV Fn SlOf OwnSl postQ Src Rows Rdb CellsAt thenQ blockQ noGotoQ
set_option linter.unusedSimpArgs false
set_option linter.unusedVariables false

theorem foldl_succ {f : Nat → UInt8 → Nat} (b : List UInt8) (i : Nat) (hi : i < b.length) (h0 : Nat) : (b.take (i + 1)).foldl f h0 = f ((b.take i).foldl f h0) b[i] := by
  rw [List.take_add_one, List.getElem?_eq_getElem hi]
  simp only [Option.toList, List.foldl_append, List.foldl_cons, List.foldl_nil]
def hstep (h : Nat) (c : UInt8) : Nat := ((h ^^^ c.toNat) * 1099511628211) % 18446744073709551616
def hsum (b : List UInt8) : Nat := b.foldl hstep 14695981039346656037
def chk (b : List UInt8) : Nat := (hsum b / 4294967296) ^^^ (hsum b % 4294967296)
theorem hstep_lt (h : Nat) (c : UInt8) : hstep h c < 18446744073709551616 := Nat.mod_lt _ (by decide)
theorem foldl_lt (b : List UInt8) (h : Nat) (hh : h < 18446744073709551616) : b.foldl hstep h < 18446744073709551616 := by
  induction b generalizing h with
  | nil => exact hh
  | cons c b ih => exact ih _ (hstep_lt h c)
theorem hsum_lt (b : List UInt8) : hsum b < 18446744073709551616 := foldl_lt b _ (by decide)
theorem chk_lt (b : List UInt8) : chk b < 4294967296 := by
  have := hsum_lt b
  exact Nat.xor_lt_two_pow (n := 32) (by omega) (Nat.mod_lt _ (by decide))

theorem u64_wrap (n : Nat) (h : n < 18446744073709551616) : IntKind.wrap .u64 (n : Int) = (n : Int) := wrap_u64 (by omega) (by omega)
theorem u32_wrap (n : Nat) (h : n < 4294967296) : IntKind.wrap .u32 (n : Int) = (n : Int) := wrap_u32 (by omega) (by omega)
theorem u64_mod (n : Nat) : IntKind.wrap .u64 (n : Int) = ((n % 18446744073709551616 : Nat) : Int) := by simp [IntKind.wrap, IntKind.bits, IntKind.signed]
theorem u32_mod (n : Nat) : IntKind.wrap .u32 (n : Int) = ((n % 4294967296 : Nat) : Int) := by simp [IntKind.wrap, IntKind.bits, IntKind.signed]
theorem ibits_xor64 (a b : Nat) (ha : a < 18446744073709551616) (hb : b < 18446744073709551616) : ibits .xor .u64 (a : Int) (b : Int) = ((a ^^^ b : Nat) : Int) := by
  have h := Nat.xor_lt_two_pow (n := 64) ha hb
  show IntKind.wrap .u64 ((BitVec.ofInt 64 a ^^^ BitVec.ofInt 64 b).toNat : Int) = _
  rw [BitVec.toNat_xor, BitVec.ofInt_natCast, BitVec.ofInt_natCast, BitVec.toNat_ofNat, BitVec.toNat_ofNat, Nat.mod_eq_of_lt ha, Nat.mod_eq_of_lt hb, u64_wrap _ h]
theorem ibits_xor32 (a b : Nat) (ha : a < 4294967296) (hb : b < 4294967296) : ibits .xor .u32 (a : Int) (b : Int) = ((a ^^^ b : Nat) : Int) := by
  have h := Nat.xor_lt_two_pow (n := 32) ha hb
  show IntKind.wrap .u32 ((BitVec.ofInt 32 a ^^^ BitVec.ofInt 32 b).toNat : Int) = _
  rw [BitVec.toNat_xor, BitVec.ofInt_natCast, BitVec.ofInt_natCast, BitVec.toNat_ofNat, BitVec.toNat_ofNat, Nat.mod_eq_of_lt ha, Nat.mod_eq_of_lt hb, u32_wrap _ h]
theorem ibits_or32 (a b : Nat) (ha : a < 4294967296) (hb : b < 4294967296) : ibits .or .u32 (a : Int) (b : Int) = ((a ||| b : Nat) : Int) := by
  have h := Nat.or_lt_two_pow (n := 32) ha hb
  show IntKind.wrap .u32 ((BitVec.ofInt 32 a ||| BitVec.ofInt 32 b).toNat : Int) = _
  rw [BitVec.toNat_or, BitVec.ofInt_natCast, BitVec.ofInt_natCast, BitVec.toNat_ofNat, BitVec.toNat_ofNat, Nat.mod_eq_of_lt ha, Nat.mod_eq_of_lt hb, u32_wrap _ h]

theorem u64_mul (a m : Nat) : IntKind.wrap .u64 ((a : Int) * (m : Int)) = ((a * m % 18446744073709551616 : Nat) : Int) := by
  rw [← Int.natCast_mul]; exact u64_mod _
theorem step_eq (h : Nat) (c : UInt8) (hh : h < 18446744073709551616) : IntKind.wrap .u64 (ibits .xor .u64 (h : Int) (IntKind.wrap .u64 (c.toNat : Int)) * 1099511628211) = ((hstep h c : Nat) : Int) := by
  have hc : c.toNat < 256 := c.toNat_lt
  rw [u64_wrap _ (by omega), ibits_xor64 _ _ hh (by omega), show (1099511628211 : Int) = ((1099511628211 : Nat) : Int) from rfl, u64_mul]
  unfold hstep
  generalize 1099511628211 = m
  rfl
attribute [irreducible] hstep
theorem step_spec (h : Nat) (c : UInt8) (hh : h < 18446744073709551616) (K : List Hp) : Fn Tryz.prog 140 [.int .u64 (h : Int), byteV c] K [] fun v hs' => v = .int .u64 (hstep h c : Nat) ∧ hs' = [] := by
  unfold byteV
  refine Fn.enter Tryz.func140 rfl rfl ?_; simp only [Tryz.ntmps140, argEnv, Nat.reduceAdd]
  repeat refine goX ?_
  refine post_ret (hs' := []) [_] rfl ⟨rfl, rfl⟩ (List.nil_sublist _) ?_
  rw [step_eq h c hh]
  exact ⟨rfl, rfl⟩

/-- rows of bytes -/
def BsR (M : List Hp) (b : List UInt8) (vs : List Value) : Prop := ∃ v, vs = [v] ∧ BytesV M v b

theorem BsR.sub {M M' : List Hp} (s : Sub M M') {b : List UInt8} {vs : List Value} (h : BsR M b vs) : BsR M' b vs := let ⟨v, e, h⟩ := h; ⟨v, e, h.sub s⟩
theorem BsR.one {M : List Hp} (b : List UInt8) (vs : List Value) (h : BsR M b vs) (u : Value) (m : u ∈ vs) : u.oneCell' = true := by
  obtain ⟨v, rfl, a, c, rfl, _⟩ := h
  rw [List.mem_singleton.1 m]; rfl
theorem sum_spec {b : List UInt8} (hb : b.length ≤ 140000000000000) {K : List Hp} {x : Option Addr} {cap : Nat} (hx : SlOf K (BsR K) 1 x [b]) : Fn Tryz.prog 114 [.slice x 1 cap] K [] fun v hs' => v = .int .u64 (hsum b : Nat) ∧ hs' = [] := by
  refine Fn.enter Tryz.func114 rfl rfl ?_; simp only [Tryz.ntmps114, argEnv, Nat.reduceAdd]
  repeat refine goX ?_
  refine RC.loopE (fun k : Nat => [(10, .int .i64 (k : Int)), (9, .int .i64 ((1 : Nat) : Int)), (8, .slice x 1 cap), (3, .int .u64 ((if k = 0 then 14695981039346656037 else hsum b : Nat) : Int))]) (fun _ => []) (fun k => k ≤ 1) (fun k => 1 - k) 0 (by omega) leX (List.nil_sublist _) ?_
  intro k hk
  by_cases h1 : k = 1
  · subst h1
    repeat refine goX ?_
    refine post_ret (hs' := []) [_] rfl ⟨rfl, rfl⟩ (List.nil_sublist _) ?_
    exact ⟨rfl, rfl⟩
  · obtain rfl : k = 0 := by omega
    simp only [if_true]
    repeat refine goX ?_
    have hb1 : [b][0]? = some b := rfl
    refine o_indexAddr tb (R := _) (sz := 1) rfl rfl rfl rfl rfl hx (by omega) (by omega) (by first | exact hb1 | simpa using hb1) rfl ?_
    rintro b' off vs ⟨v, rfl, a, c, rfl, hc, hS⟩ _ hcell
    by_cases h0 : b.length = 0
    · obtain rfl := List.eq_nil_of_length_eq_zero h0
      repeat refine goX ?_
      exact ⟨1, by omega, by omega, leX, List.nil_sublist _⟩
    · repeat refine goX ?_
      refine RC.loopE (fun i : Nat => [(19, .int .i64 (i : Int)), (18, .int .i64 (b.length : Int)), (17, .slice a b.length c), (10, .int .i64 ((0 : Nat) : Int)), (9, .int .i64 ((1 : Nat) : Int)), (8, .slice x 1 cap), (3, .int .u64 (((b.take i).foldl hstep 14695981039346656037 : Nat) : Int))]) (fun _ => []) (fun i => i ≤ b.length) (fun i => b.length - i) 0 (by omega) leX (List.nil_sublist _) ?_
      intro i hi
      by_cases h2 : i = b.length
      · subst h2
        rw [List.take_length]
        repeat refine goX ?_
        exact ⟨1, by omega, by omega, leX, List.nil_sublist _⟩
      · have hi2 : i < b.length := by omega
        repeat refine goX ?_
        have hb2 : b[i]? = some b[i] := List.getElem?_eq_getElem hi2
        refine o_indexAddr tb (R := _) (sz := 1) rfl rfl rfl rfl rfl hS (by omega) (by omega) (by first | exact hb2 | simpa using hb2) rfl ?_
        rintro b' off vs rfl _ hcell
        repeat refine goX ?_
        refine RO.call0 rfl rfl rfl Tryz.func140 rfl (by kernel_rfl) (step_spec _ _ (foldl_lt _ _ (by decide)) _) ?_
        rintro v hs' ⟨hv, rfl⟩
        have hv2 : v = .int .u64 (((b.take (i + 1)).foldl hstep 14695981039346656037 : Nat) : Int) := by
          rw [hv, foldl_succ b i hi2]
        subst hv2
        repeat refine goX ?_
        exact ⟨i + 1, by omega, by omega, leX, List.nil_sublist _⟩

theorem check_sum {b : List UInt8} (hb : b.length ≤ 140000000000000) {K : List Hp} {x : Option Addr} {cap : Nat} (hx : SlOf K (BsR K) 1 x [b]) : Fn Tryz.prog 88 [.slice x 1 cap] K [] fun v hs' => v = .int .u32 (chk b : Nat) ∧ hs' = [] := by
  refine Fn.enter Tryz.func88 rfl rfl ?_; simp only [Tryz.ntmps88, argEnv, Nat.reduceAdd]
  repeat refine goX ?_
  refine RO.call0 rfl rfl rfl Tryz.func114 rfl (by kernel_rfl) (sum_spec (b := b) hb (by simpa using hx)) ?_
  rintro v hs' ⟨rfl, rfl⟩
  repeat refine goX ?_
  refine post_ret (hs' := []) [_] rfl ⟨rfl, rfl⟩ (List.nil_sublist _) ?_
  have h := hsum_lt b
  have e1 : min (Int.toNat 32) IntKind.u64.bits = 32 := rfl
  rw [e1, show ((hsum b : Nat) : Int) / 2 ^ 32 = ((hsum b / 4294967296 : Nat) : Int) from rfl, u32_mod, u32_mod, ibits_xor32 _ _ (Nat.mod_lt _ (by decide)) (Nat.mod_lt _ (by decide)), Nat.mod_eq_of_lt (show hsum b / 4294967296 < 4294967296 by omega)]
  exact ⟨rfl, rfl⟩

def four (n : Nat) : List UInt8 := [UInt8.ofNat (n / 16777216), UInt8.ofNat (n / 65536), UInt8.ofNat (n / 256), UInt8.ofNat n]
theorem four_spec (n : Nat) (h : n < 4294967296) (K : List Hp) : Fn Tryz.prog 87 [.int .u32 (n : Int)] K [] fun v hs' => ∃ hp, OwnB 5 v (four n) hp ∧ hs' = [hp] := by
  refine Fn.enter Tryz.func87 rfl rfl ?_; simp only [Tryz.ntmps87, argEnv, Nat.reduceAdd]
  repeat (first | refine goX ?_ | refine bsX fun b => ?_)
  refine post_ret (hs' := [_]) [_] rfl ⟨rfl, rfl⟩ slX ?_
  refine ⟨_, ownB_built (bs := four n) ?_ rfl, rfl⟩
  rw [show min (Int.toNat 24) IntKind.u32.bits = 24 from rfl, show min (Int.toNat 16) IntKind.u32.bits = 16 from rfl, show min (Int.toNat 8) IntKind.u32.bits = 8 from rfl,
    show (n : Int) / 2 ^ 24 = ((n / 16777216 : Nat) : Int) from rfl, show (n : Int) / 2 ^ 16 = ((n / 65536 : Nat) : Int) from rfl, show (n : Int) / 2 ^ 8 = ((n / 256 : Nat) : Int) from rfl, u8_wrap, u8_wrap, u8_wrap, u8_wrap]
  rfl

def gets : List UInt8 → Nat
  | a :: b :: c :: d :: _ => ((a.toNat * 16777216 ||| b.toNat * 65536) ||| c.toNat * 256) ||| d.toNat
  | _ => 0
theorem gets_lt (b : List UInt8) : gets b < 4294967296 := by
  unfold gets
  split
  · rename_i a b c d _
    have h1 := a.toNat_lt
    have h2 := b.toNat_lt
    have h3 := c.toNat_lt
    have h4 := d.toNat_lt
    exact Nat.or_lt_two_pow (n := 32) (Nat.or_lt_two_pow (Nat.or_lt_two_pow (by omega) (by omega)) (by omega)) (by omega)
  · decide
theorem u32_shl (c : UInt8) (k m : Nat) (hm : c.toNat * m < 4294967296) (e : (2 : Int) ^ (min k 32) = (m : Int)) : IntKind.wrap .u32 (IntKind.wrap .u32 (c.toNat : Int) * 2 ^ (min k 32)) = ((c.toNat * m : Nat) : Int) := by
  have := c.toNat_lt
  rw [u32_wrap _ (by omega), e, ← Int.natCast_mul, u32_wrap _ hm]
theorem get_spec {b : List UInt8} {v : Value} {K : List Hp} (hv : BytesV K v b) (hl : 4 ≤ b.length) : Fn Tryz.prog 146 [v] K [] fun r hs' => r = .int .u32 (gets b : Nat) ∧ hs' = [] := by
  obtain ⟨a, c, rfl, hc, hS⟩ := hv
  match b, hl with
  | b0 :: b1 :: b2 :: b3 :: bs, hl =>
  obtain ⟨b', off, vs, rfl, rfl, -, c0⟩ := hS.get (i := 0) (x := b0) rfl
  obtain ⟨b'', off', vs, e, rfl, -, c1⟩ := hS.get (i := 1) (x := b1) rfl
  cases e
  obtain ⟨b'', off', vs, e, rfl, -, c2⟩ := hS.get (i := 2) (x := b2) rfl
  cases e
  obtain ⟨b'', off', vs, e, rfl, -, c3⟩ := hS.get (i := 3) (x := b3) rfl
  cases e
  unfold byteV at c0 c1 c2 c3
  have hl : 4 ≤ (b0 :: b1 :: b2 :: b3 :: bs).length := by simp
  generalize hn : (b0 :: b1 :: b2 :: b3 :: bs).length = nn at *
  refine Fn.enter Tryz.func146 rfl rfl ?_; simp only [Tryz.ntmps146, argEnv, Nat.reduceAdd]
  repeat (first | refine goX ?_ | refine dwX 1 [([0, 1, 2, 3, 4, 5, 6, 7, 8, 9, 10, 11, 12, 13, 14, 15, 16, 17, 18, 19, 20, 21, 22], [])] [] ?_)
  refine post_ret (hs' := []) [_] rfl ⟨rfl, rfl⟩ (List.nil_sublist _) ?_
  have h0 := b0.toNat_lt
  have h1 := b1.toNat_lt
  have h2 := b2.toNat_lt
  have h3 := b3.toNat_lt
  rw [show IntKind.wrap .u32 (IntKind.wrap .u32 (b0.toNat : Int) * 2 ^ (min (Int.toNat 24) IntKind.u32.bits)) = _ from u32_shl b0 24 16777216 (by omega) rfl,
    show IntKind.wrap .u32 (IntKind.wrap .u32 (b1.toNat : Int) * 2 ^ (min (Int.toNat 16) IntKind.u32.bits)) = _ from u32_shl b1 16 65536 (by omega) rfl,
    show IntKind.wrap .u32 (IntKind.wrap .u32 (b2.toNat : Int) * 2 ^ (min (Int.toNat 8) IntKind.u32.bits)) = _ from u32_shl b2 8 256 (by omega) rfl, u32_wrap _ (by omega)]
  have g1 : b0.toNat * 16777216 ||| b1.toNat * 65536 < 4294967296 := Nat.or_lt_two_pow (n := 32) (by omega) (by omega)
  have g2 : b0.toNat * 16777216 ||| b1.toNat * 65536 ||| b2.toNat * 256 < 4294967296 := Nat.or_lt_two_pow (n := 32) g1 (by omega)
  rw [ibits_or32 _ _ (by omega) (by omega), ibits_or32 _ _ g1 (by omega), ibits_or32 _ _ g2 (by omega)]
  exact ⟨rfl, rfl⟩
attribute [irreducible] hsum chk four gets
end Go.Proofs.YtonnncdolofccaaGreat

namespace Go.Proofs.YtonnncdolofccaaGreat
attribute [local irreducible] RC RO EvE DR OpV Fn SlOf OwnSl postQ Src Rows Rdb CellsAt thenQ blockQ noGotoQ
set_option linter.unusedSimpArgs false
set_option linter.unusedVariables false

def headB (k : UInt8) (b : List UInt8) : List UInt8 := [165, k] ++ four b.length ++ b
def frameB (k : UInt8) (b : List UInt8) : List UInt8 := headB k b ++ four (chk (headB k b))
theorem four_len (n : Nat) : (four n).length = 4 := by unfold four; rfl
theorem headB_len (k : UInt8) (b : List UInt8) : (headB k b).length = 6 + b.length := by simp [headB, four_len]; omega
theorem frameB_len (k : UInt8) (b : List UInt8) : (frameB k b).length = 10 + b.length := by simp [frameB, four_len, headB_len]; omega

theorem one_spec {k : UInt8} {x : List UInt8} {v : Value} {K : List Hp} (hv : BytesV K v x) (hb : x.length ≤ 65536) : Fn Tryz.prog 62 [byteV k, v] K [] fun r hs' => ∃ u h, r = .tuple #[u, .int .i64 0] ∧ OwnB 5 u (frameB k x) h ∧ hs' = [h] := by
  obtain ⟨a, c, rfl, hc, hS⟩ := hv
  refine Fn.enter Tryz.func62 rfl rfl ?_; simp only [Tryz.ntmps62, argEnv, Nat.reduceAdd]
  repeat (first | refine goX ?_ | refine bsX fun b => ?_)
  rename Nat => b0
  have o0 := ownB_built (E := 5) (b := b0) (bs := [165, k]) (l := [byteV 165, byteV k]) (len := 2) rfl rfl
  refine RO.call0 rfl rfl rfl Tryz.func87 rfl (by kernel_rfl) (four_spec x.length (by omega) _) ?_
  rintro v hs' ⟨hp, ho, rfl⟩
  repeat (first | refine goX ?_ | refine bsX fun b => ?_)
  have h4 := four_len x.length
  refine o_appendB 1 tb rfl rfl o0 rfl rfl rfl rfl rfl rfl ho.slV sbX (by (try simp only [List.length_append, List.length_cons, List.length_nil]); omega) rfl ?_
  intro v1 hp1 o1
  repeat (first | refine goX ?_ | refine bsX fun b => ?_)
  have h5 := headB_len k x
  refine o_appendB 1 tb rfl rfl o1 rfl rfl rfl rfl rfl rfl ⟨_, _, rfl, hc, hS⟩ sbX (by simp only [List.length_append, List.length_cons, List.length_nil]; omega) rfl ?_
  intro v2 hp2 o2
  change OwnB _ _ (headB k x) _ at o2
  have o3 := o2
  obtain ⟨a2, c2, rfl, hc2, hS2⟩ := o3.rows
  have h5 := headB_len k x
  repeat (first | refine goX ?_ | refine bsX fun b => ?_)
  refine RO.call0 rfl rfl rfl Tryz.func88 rfl (by kernel_rfl) (check_sum (b := headB k x) (by omega) ?_) ?_
  · exact slOf_one (l := [.slice a2 (headB k x).length c2]) (List.mem_append_right _ (List.mem_cons_self ..)) (rows_c1 ⟨_, rfl, o2.slV.sub (by intro g hg; simp at hg; simp [hg])⟩ rows_nil)
  rintro v hs' ⟨rfl, rfl⟩
  repeat (first | refine goX ?_ | refine bsX fun b => ?_)
  refine RO.call0 rfl rfl rfl Tryz.func87 rfl (by kernel_rfl) (four_spec _ (chk_lt _) _) ?_
  rintro v hs' ⟨hp4, ho4, rfl⟩
  repeat (first | refine goX ?_ | refine bsX fun b => ?_)
  have h6 := four_len (chk (headB k x))
  refine o_appendB 3 tb rfl rfl o2 rfl rfl rfl rfl rfl rfl ho4.slV sbX (by (try simp only [List.length_append, List.length_cons, List.length_nil]); omega) rfl ?_
  intro v3 hp3 o3
  repeat (first | refine goX ?_ | refine bsX fun b => ?_)
  refine post_ret (hs' := [hp3]) [_, _] rfl ⟨rfl, rfl, rfl⟩ slX ?_
  exact ⟨_, _, rfl, o3, rfl⟩

/-- the first frame: its kind, its bytes, how long it is -/
def next (b : List UInt8) : Option (UInt8 × List UInt8 × Nat) :=
  if 6 ≤ b.length ∧ b[0]? = some 165 ∧ gets (b.drop 2) ≤ 65536 ∧ 10 + gets (b.drop 2) ≤ b.length ∧ chk (b.take (6 + gets (b.drop 2))) = gets (b.drop (6 + gets (b.drop 2))) then
    some (b[1]?.getD 0, (b.take (6 + gets (b.drop 2))).drop 6, 10 + gets (b.drop 2))
  else none

theorem next_spec {x : List UInt8} {v : Value} {K : List Hp} (hv : BytesV K v x) (hb : x.length ≤ 140000000000000) : Fn Tryz.prog 123 [v] K [] fun r hs' =>
    (∃ k y n u h, next x = some (k, y, n) ∧ r = .tuple #[byteV k, u, .int .i64 (n : Nat), .int .i64 0] ∧ OwnB 5 u y h ∧ hs' = [h]) ∨ (∃ e : Int, next x = none ∧ e ≠ 0 ∧ r = .tuple #[.int .u8 0, .slice none 0 0, .int .i64 0, .int .i64 e] ∧ hs' = []) := by
  obtain ⟨a, c, rfl, hc, hS⟩ := hv
  rcases Nat.eq_zero_or_pos x.length with h0 | h0
  · refine Fn.enter Tryz.func123 rfl rfl ?_; simp only [Tryz.ntmps123, argEnv, Nat.reduceAdd]
    repeat (first | refine goX ?_ | refine bsX fun b => ?_ | refine dwX 13 [([0, 1, 2, 5, 6, 7], [3, 4, 8, 9, 10])] [] ?_ | refine dwX 15 [([0, 1, 2, 3, 4, 5, 7, 8], [6, 9, 10])] [11, 12] ?_)
    refine post_ret (hs' := []) [_, _, _, _] rfl ⟨rfl, rfl, rfl, rfl, rfl⟩ (List.nil_sublist _) ?_
    exact .inr ⟨4, by simp [next]; omega, by decide, rfl, rfl⟩
  obtain ⟨b0, hb0⟩ : ∃ y, x[0]? = some y := ⟨_, List.getElem?_eq_getElem h0⟩
  obtain ⟨bb, off, vs, rfl, rfl, -, c0⟩ := hS.get hb0
  unfold byteV at c0
  by_cases hk : b0 = 165
  case neg =>
    have hk2 : ¬ ((b0.toNat : Int) = 165) := by
      intro h; apply hk; apply UInt8.toNat_inj.1; rw [show (165 : UInt8).toNat = 165 from rfl]; omega
    refine Fn.enter Tryz.func123 rfl rfl ?_; simp only [Tryz.ntmps123, argEnv, Nat.reduceAdd]
    repeat (first | refine goX ?_ | refine bsX fun b => ?_ | refine dwX 13 [([0, 1, 2, 5, 6, 7], [3, 4, 8, 9, 10])] [] ?_ | refine dwX 15 [([0, 1, 2, 3, 4, 5, 7, 8], [6, 9, 10])] [11, 12] ?_)
    refine post_ret (hs' := []) [_, _, _, _] rfl ⟨rfl, rfl, rfl, rfl, rfl⟩ (List.nil_sublist _) ?_
    exact .inr ⟨11, by simp [next, hb0, hk], by decide, rfl, rfl⟩
  subst hk
  simp only [show UInt8.toNat 165 = 165 from rfl] at c0
  by_cases h6 : x.length < 6
  · refine Fn.enter Tryz.func123 rfl rfl ?_; simp only [Tryz.ntmps123, argEnv, Nat.reduceAdd]
    repeat (first | refine goX ?_ | refine bsX fun b => ?_ | refine dwX 13 [([0, 1, 2, 5, 6, 7], [3, 4, 8, 9, 10])] [] ?_ | refine dwX 15 [([0, 1, 2, 3, 4, 5, 7, 8], [6, 9, 10])] [11, 12] ?_)
    refine post_ret (hs' := []) [_, _, _, _] rfl ⟨rfl, rfl, rfl, rfl, rfl⟩ (List.nil_sublist _) ?_
    exact .inr ⟨12, by simp [next]; omega, by decide, rfl, rfl⟩
  have hd2 : 4 ≤ (x.drop 2).length := by rw [List.length_drop]; omega
  have hg := gets_lt (x.drop 2)
  generalize hn : gets (x.drop 2) = m at *
  have S : m > 65536 ∨ (m ≤ 65536 ∧ x.length < m + 10) ∨ (m ≤ 65536 ∧ m + 10 ≤ x.length) := by omega
  refine Fn.enter Tryz.func123 rfl rfl ?_; simp only [Tryz.ntmps123, argEnv, Nat.reduceAdd]
  repeat (first | refine goX ?_ | refine bsX fun b => ?_ | refine dwX 13 [([0, 1, 2, 5, 6, 7], [3, 4, 8, 9, 10])] [] ?_ | refine dwX 15 [([0, 1, 2, 3, 4, 5, 7, 8], [6, 9, 10])] [11, 12] ?_)
  refine o_sliceL tb (R := ByteR) (sz := 1) rfl rfl rfl rfl rfl hS rfl hc (by omega) (by simp; omega) rfl ?_
  intro a1 c1 hc1 hS1
  rw [show Int.toNat 2 = 2 from rfl] at hc1 hS1 ⊢
  repeat (first | refine goX ?_ | refine bsX fun b => ?_ | refine dwX 13 [([0, 1, 2, 5, 6, 7], [3, 4, 8, 9, 10])] [] ?_ | refine dwX 15 [([0, 1, 2, 3, 4, 5, 7, 8], [6, 9, 10])] [11, 12] ?_)
  refine RO.call0 rfl rfl rfl Tryz.func146 rfl (by kernel_rfl) (get_spec (b := x.drop 2) ⟨_, _, rfl, hc1, hS1.sub (by intro g hg; simp [hg])⟩ hd2) ?_
  rintro v hs' ⟨rfl, rfl⟩
  rw [hn]
  rcases S with S | ⟨S, S2⟩ | ⟨S, S2⟩
  · repeat (first | refine goX ?_ | refine bsX fun b => ?_ | refine dwX 13 [([0, 1, 2, 5, 6, 7], [3, 4, 8, 9, 10])] [] ?_ | refine dwX 15 [([0, 1, 2, 3, 4, 5, 7, 8], [6, 9, 10])] [11, 12] ?_)
    refine post_ret (hs' := []) [_, _, _, _] rfl ⟨rfl, rfl, rfl, rfl, rfl⟩ (List.nil_sublist _) ?_
    exact .inr ⟨11, by simp [next, hn]; omega, by decide, rfl, rfl⟩
  · repeat (first | refine goX ?_ | refine bsX fun b => ?_ | refine dwX 13 [([0, 1, 2, 5, 6, 7], [3, 4, 8, 9, 10])] [] ?_ | refine dwX 15 [([0, 1, 2, 3, 4, 5, 7, 8], [6, 9, 10])] [11, 12] ?_)
    refine post_ret (hs' := []) [_, _, _, _] rfl ⟨rfl, rfl, rfl, rfl, rfl⟩ (List.nil_sublist _) ?_
    exact .inr ⟨12, by simp [next, hn]; omega, by decide, rfl, rfl⟩
  · repeat (first | refine goX ?_ | refine bsX fun b => ?_ | refine dwX 13 [([0, 1, 2, 5, 6, 7], [3, 4, 8, 9, 10])] [] ?_ | refine dwX 15 [([0, 1, 2, 3, 4, 5, 7, 8], [6, 9, 10])] [11, 12] ?_)
    have et : (6 + (m : Int)).toNat = 6 + m := by omega
    refine e_sliceH tb (R := ByteR) (sz := 1) rfl rfl rfl rfl rfl hS rfl hc (by omega) (by omega) rfl ?_
    intro a2 c2 hc2 hS2
    rw [et] at hc2 hS2 ⊢
    repeat (first | refine goX ?_ | refine bsX fun b => ?_ | refine dwX 13 [([0, 1, 2, 5, 6, 7], [3, 4, 8, 9, 10])] [] ?_ | refine dwX 15 [([0, 1, 2, 3, 4, 5, 7, 8], [6, 9, 10])] [11, 12] ?_)
    refine e_sliceL tb (R := ByteR) (sz := 1) rfl rfl rfl rfl rfl hS rfl hc (by omega) (by omega) rfl ?_
    intro a3 c3 hc3 hS3
    rw [et] at hc3 hS3 ⊢
    repeat (first | refine goX ?_ | refine bsX fun b => ?_ | refine dwX 13 [([0, 1, 2, 5, 6, 7], [3, 4, 8, 9, 10])] [] ?_ | refine dwX 15 [([0, 1, 2, 3, 4, 5, 7, 8], [6, 9, 10])] [11, 12] ?_)
    refine RO.call0 rfl rfl rfl Tryz.func88 rfl (by kernel_rfl) (check_sum (b := x.take (6 + m)) (by rw [List.length_take]; omega) ?_) ?_
    · exact slOf_one (l := [.slice a2 (x.take (6 + m)).length c2]) (List.mem_append_right _ (List.mem_cons_self ..)) (rows_c1 ⟨_, rfl, ⟨a2, c2, rfl, hc2, hS2.sub (by intro g hg; simp [hg])⟩⟩ rows_nil)
    rintro v hs' ⟨rfl, rfl⟩
    repeat (first | refine goX ?_ | refine bsX fun b => ?_ | refine dwX 13 [([0, 1, 2, 5, 6, 7], [3, 4, 8, 9, 10])] [] ?_ | refine dwX 15 [([0, 1, 2, 3, 4, 5, 7, 8], [6, 9, 10])] [11, 12] ?_)
    have hd3 : 4 ≤ (x.drop (6 + m)).length := by rw [List.length_drop]; omega
    refine RO.call0 rfl rfl rfl Tryz.func146 rfl (by kernel_rfl) (get_spec (b := x.drop (6 + m)) ⟨_, _, rfl, hc3, hS3.sub (by intro g hg; simp [hg])⟩ hd3) ?_
    rintro v hs' ⟨rfl, rfl⟩
    by_cases he : chk (x.take (6 + m)) = gets (x.drop (6 + m))
    case neg =>
      have he2 : ¬ (((chk (x.take (6 + m)) : Nat) : Int) = ((gets (x.drop (6 + m)) : Nat) : Int)) := by omega
      repeat (first | refine goX ?_ | refine bsX fun b => ?_ | refine dwX 13 [([0, 1, 2, 5, 6, 7], [3, 4, 8, 9, 10])] [] ?_ | refine dwX 15 [([0, 1, 2, 3, 4, 5, 7, 8], [6, 9, 10])] [11, 12] ?_)
      refine post_ret (hs' := []) [_, _, _, _] rfl ⟨rfl, rfl, rfl, rfl, rfl⟩ (List.nil_sublist _) ?_
      exact .inr ⟨20, by simp [next, hn, he], by decide, rfl, rfl⟩
    · have he2 : ((chk (x.take (6 + m)) : Nat) : Int) = ((gets (x.drop (6 + m)) : Nat) : Int) := by omega
      obtain ⟨k1, hk1⟩ : ∃ y, x[1]? = some y := ⟨_, List.getElem?_eq_getElem (by omega)⟩
      obtain ⟨bb2, off2, vs, e2, rfl, -, cc1⟩ := hS.get hk1
      cases e2
      unfold byteV at cc1
      repeat (first | refine goX ?_ | refine bsX fun b => ?_ | refine dwX 13 [([0, 1, 2, 5, 6, 7], [3, 4, 8, 9, 10])] [] ?_ | refine dwX 15 [([0, 1, 2, 3, 4, 5, 7, 8], [6, 9, 10])] [11, 12] ?_)
      refine e_sliceLH tb (R := ByteR) (sz := 1) rfl rfl rfl rfl rfl rfl hS rfl hc (by omega) (by omega) (by omega) rfl ?_
      intro a4 c4 hc4 hS4
      rw [et] at hc4 hS4 ⊢
      repeat (first | refine goX ?_ | refine bsX fun b => ?_ | refine dwX 13 [([0, 1, 2, 5, 6, 7], [3, 4, 8, 9, 10])] [] ?_ | refine dwX 15 [([0, 1, 2, 3, 4, 5, 7, 8], [6, 9, 10])] [11, 12] ?_)
      rw [show Int.toNat 6 = 6 from rfl] at hc4 hS4 ⊢
      have hl4 : ((x.take (6 + m)).drop 6).length ≤ 65536 := by rw [List.length_drop, List.length_take]; omega
      refine o_appendBN tb rfl rfl rfl rfl rfl rfl rfl ⟨_, _, rfl, hc4, hS4⟩ sbX (by (try simp only [List.length_append, List.length_cons, List.length_nil]); omega) rfl ?_
      intro v5 hp5 o5
      repeat (first | refine goX ?_ | refine bsX fun b => ?_ | refine dwX 13 [([0, 1, 2, 5, 6, 7], [3, 4, 8, 9, 10])] [] ?_ | refine dwX 15 [([0, 1, 2, 3, 4, 5, 7, 8], [6, 9, 10])] [11, 12] ?_)
      refine post_ret (hs' := [hp5]) [byteV k1, v5, .int .i64 ((10 + m : Nat) : Int), .int .i64 0] rfl ⟨rfl, rfl, ?_, rfl, rfl⟩ slX ?_
      · show some (Value.int .i64 (6 + (m : Int) + 4)) = some (Value.int .i64 ((10 + m : Nat) : Int))
        rw [show (6 + (m : Int) + 4) = ((10 + m : Nat) : Int) by omega]
      · refine .inl ⟨k1, _, 10 + m, v5, hp5, ?_, rfl, o5, rfl⟩
        unfold next
        rw [hn, if_pos ⟨by omega, hb0, S, by omega, he⟩, hk1]; rfl
end Go.Proofs.YtonnncdolofccaaGreat

namespace Go.Proofs.YtonnncdolofccaaGreat
attribute [local irreducible] RC RO EvE DR OpV Fn SlOf OwnSl postQ Src Rows Rdb CellsAt thenQ blockQ noGotoQ
set_option linter.unusedSimpArgs false
set_option linter.unusedVariables false

/-- a record -/
structure Rc where
  kind : UInt8
  b : List UInt8
  deriving DecidableEq
def RecR (M : List Hp) (r : Rc) (vs : List Value) : Prop := ∃ a c, vs = [byteV r.kind, .slice a r.b.length c] ∧ r.b.length ≤ c ∧ SlOf M ByteR 1 a r.b
theorem RecR.le {M M' : List Hp} (s : Le M M') {r : Rc} {vs : List Value} (h : RecR M r vs) : RecR M' r vs := let ⟨a, c, e1, l, h⟩ := h; ⟨a, c, e1, l, h.le s⟩
theorem RecR.one {M : List Hp} (r : Rc) (vs : List Value) (h : RecR M r vs) (u : Value) (m : u ∈ vs) : u.oneCell' = true := by
  obtain ⟨a, c, rfl, _, _⟩ := h
  simp only [List.mem_cons, List.not_mem_nil, or_false] at m
  rcases m with rfl | rfl <;> rfl
abbrev OwnRs (v : Value) (l : List Rc) (ha hB : Hp) : Prop := OwnOf (RecR [hB]) 121 2 v l ha

theorem next_facts {b : List UInt8} {k : UInt8} {r : List UInt8} {n : Nat} (h : next b = some (k, r, n)) : n = 10 + r.length ∧ n ≤ b.length ∧ r.length ≤ 65536 := by
  unfold next at h
  split at h
  · rename_i hc
    simp only [Option.some.injEq, Prod.mk.injEq] at h
    obtain ⟨_, rfl, rfl⟩ := h
    rw [List.length_drop, List.length_take]
    omega
  · cases h
def scan (b : List UInt8) : List Rc × Nat :=
  match h : next b with
  | none => ([], 0)
  | some (k, r, n) => (⟨k, r⟩ :: (scan (b.drop n)).1, n + (scan (b.drop n)).2)
termination_by b.length
decreasing_by all_goals (have := next_facts h; rw [List.length_drop]; omega)
theorem scan_none {b : List UInt8} (h : next b = none) : scan b = ([], 0) := by
  rw [scan]; split
  · rfl
  · rename_i e; rw [h] at e; cases e
theorem scan_some {b : List UInt8} {k : UInt8} {r : List UInt8} {n : Nat} (h : next b = some (k, r, n)) : scan b = (⟨k, r⟩ :: (scan (b.drop n)).1, n + (scan (b.drop n)).2) := by
  rw [scan]; split
  · rename_i e; rw [h] at e; cases e
  · rename_i e; rw [h] at e; cases e; rfl

theorem next_nil : next [] = none := by unfold next; exact if_neg (by simp)
theorem scan_spec {x : List UInt8} {v : Value} {K : List Hp} (hv : BytesV K v x) (hb : x.length ≤ 100000000) : Fn Tryz.prog 101 [v] K [] fun r hs' =>
    ∃ (u : Value) (e : Int) (ha hB : Hp), r = .tuple #[u, .int .i64 ((scan x).2 : Nat), .int .i64 e] ∧ OwnRs u (scan x).1 ha hB ∧ hs' = [hB, ha] := by
  obtain ⟨a, c, rfl, hc, hS⟩ := hv
  refine Fn.enter Tryz.func101 rfl rfl ?_; simp only [Tryz.ntmps101, argEnv, Nat.reduceAdd]
  repeat (first | refine goX ?_ | refine bsX fun b => ?_)
  refine RC.emp (RC.emp ?_)
  refine RC.loopI (fun s : Nat × List Rc × Value × Hp × Hp => [(7, .int .i64 0), (6, .int .i64 (s.1 : Int)), (5, s.2.2.1), (0, .slice a x.length c)]) (fun s => [s.2.2.2.2, s.2.2.2.1])
    (fun s => s.1 ≤ x.length ∧ 10 * s.2.1.length ≤ s.1 ∧ scan x = (s.2.1 ++ (scan (x.drop s.1)).1, s.1 + (scan (x.drop s.1)).2) ∧ OwnRs s.2.2.1 s.2.1 s.2.2.2.1 s.2.2.2.2) (fun s => x.length - s.1) (0, [], _, emp, emp) ⟨by simp, by simp, by simp, OwnOf.nil _ _⟩ leX (Imp.sublist (List.Sublist.refl _)) ?_
  rintro ⟨at', l, u, ha, hB⟩ ⟨h1, h10, h2, ho⟩
  simp only at h1 h10 h2 ho ⊢
  by_cases hl : at' = x.length
  · repeat (first | refine goX ?_ | refine bsX fun b => ?_)
    have e0 := scan_none next_nil
    rw [hl, List.drop_length, e0] at h2
    subst hl
    refine post_ret (hs' := [hB, ha]) [_, _, _] rfl ⟨rfl, rfl, rfl, rfl⟩ slX ?_
    rw [h2]
    exact ⟨_, _, ha, hB, rfl, by simpa using ho, rfl⟩
  · repeat (first | refine goX ?_ | refine bsX fun b => ?_)
    refine o_sliceL tb (R := ByteR) (sz := 1) rfl rfl rfl rfl rfl hS rfl hc (by omega) (by omega) rfl ?_
    intro a1 c1 hc1 hS1
    rw [show Int.toNat (at' : Int) = at' from rfl] at hc1 hS1 ⊢
    repeat (first | refine goX ?_ | refine bsX fun b => ?_)
    refine RO.call0 rfl rfl rfl Tryz.func123 rfl (by kernel_rfl) (next_spec (x := x.drop at') ⟨_, _, rfl, hc1, hS1.sub (by intro g hg; simp [hg])⟩ (by rw [List.length_drop]; omega)) ?_
    rintro v hs' (⟨k, y, n, w, hp, hn, rfl, o, rfl⟩ | ⟨e, hn, he, rfl, rfl⟩)
    · have hf := next_facts hn
      rw [List.length_drop] at hf
      have hsc := scan_some hn
      obtain ⟨aw, cw, rfl, hcw, hSw⟩ := o.rows
      repeat (first | refine goX ?_ | refine bsX fun b => ?_)
      refine RO.know fun hap => ?_
      have hap2 : Apart [hp, hB] := by
        have := hap.sublist (l₁ := [hp, hB]) slX
        exact this
      have ho2 := ho.mono (R' := RecR [uni [hp, hB]]) fun r vs h => RecR.le ((Le.sub (by intro g hg; simp at hg; simp [hg])).trans (Le.join hap2)) h
      have hsr : SlV [one b (.cells [byteV k, .slice aw y.length cw].toArray 121 (0, 0))] (RecR [uni [hp, hB]]) 2 (.slice (some ⟨b, 0, none⟩) 1 1) [(⟨k, y⟩ : Rc)] :=
        ⟨_, _, rfl, Nat.le_refl _, slOf_one (List.mem_singleton.2 rfl) (by
          have := rows_cons (R := RecR [uni [hp, hB]]) (x := (⟨k, y⟩ : Rc)) (sz := 2) (vs := [byteV k, .slice aw y.length cw]) ⟨aw, cw, rfl, hcw, hSw.le ((Le.sub (by intro g hg; simp at hg; simp [hg])).trans (Le.join hap2))⟩ rfl rows_nil
          simpa using this)⟩
      refine o_appendO 3 tb rfl rfl ho2 rfl rfl rfl rfl rfl rfl hsr (by intro g hg; rw [List.mem_singleton.1 hg]; exact List.mem_append_right _ (List.mem_of_getElem? (i := 0) rfl)) (fun r vs h => RecR.one r vs h) ?_ rfl ?_
      · show (2 * (l.length + 1) + 192) * 32 ≤ _
        omega
      intro v' ha' o'
      refine RO.imp (Imp.joinP (hs1 := [hp, hB]) (hs2 := [ha']) (junk := [_]) pmX) ?_
      obtain ⟨a', c', rfl, _, _⟩ := o'.rows
      repeat (first | refine goX ?_ | refine bsX fun b => ?_)
      refine ⟨(at' + n, l ++ [⟨k, y⟩], _, ha', uni [hp, hB]), ⟨by simp only; omega, by simp only [List.length_append, List.length_singleton]; omega, ?_, o'⟩, by simp only; omega, leX, Imp.sublist (List.Sublist.refl _)⟩
      rw [h2, hsc, List.drop_drop]
      simp [Nat.add_assoc]
    · repeat (first | refine goX ?_ | refine bsX fun b => ?_)
      rw [scan_none hn] at h2
      refine post_ret (hs' := [hB, ha]) [_, _, _] rfl ⟨rfl, rfl, rfl, rfl⟩ slX ?_
      rw [h2]
      exact ⟨_, _, ha, hB, rfl, by simpa using ho, rfl⟩
end Go.Proofs.YtonnncdolofccaaGreat

namespace Go.Proofs.YtonnncdolofccaaGreat
attribute [local irreducible] RC RO EvE DR OpV Fn SlOf OwnSl postQ Src Rows Rdb CellsAt thenQ blockQ noGotoQ
set_option linter.unusedSimpArgs false
set_option linter.unusedVariables false

/-- a disk -/
structure Dk where
  l : List UInt8
  t : List UInt8
  n : Int
def Dk.zero : Dk := ⟨[], [], 0⟩
def Dk.ok (d : Dk) : Prop := d.l.length + d.t.length ≤ 4194304
/-- a disk that is read -/
def RdD (M : List Hp) (p : Value) (d : Dk) : Prop := ∃ b al cl at' ct, p = .pointer (some ⟨b, 0, none⟩) ∧ CellsAt M ⟨b, 0, none⟩ [.slice al d.l.length cl] ∧ CellsAt M ⟨b, 1, none⟩ [.slice at' d.t.length ct] ∧ CellsAt M ⟨b, 2, none⟩ [.int .i64 d.n] ∧
  (d.l.length ≤ cl ∧ SlOf M ByteR 1 al d.l) ∧ (d.t.length ≤ ct ∧ SlOf M ByteR 1 at' d.t)
/-- a disk of one's own -/
def IsD (p : Value) (d : Dk) (h : Hp) : Prop := ∃ b vl vt hl ht, p = .pointer (some ⟨b, 0, none⟩) ∧ h = uni [one b (.cells [vl, vt, .int .i64 d.n].toArray 136 (0, 0)), hl, ht] ∧
  Apart [one b (.cells [vl, vt, .int .i64 d.n].toArray 136 (0, 0)), hl, ht] ∧ OwnB 5 vl d.l hl ∧ OwnB 5 vt d.t ht
theorem RdD.le {M M' : List Hp} (s : Le M M') {p : Value} {d : Dk} (h : RdD M p d) : RdD M' p d := by
  obtain ⟨b, al, cl, a2, ct, e, c0, c1, c2, ⟨g1, g2⟩, g3, g4⟩ := h
  exact ⟨b, al, cl, a2, ct, e, c0.le s, c1.le s, c2.le s, ⟨g1, g2.le s⟩, g3, g4.le s⟩
theorem IsD.rd {p : Value} {d : Dk} {h : Hp} (o : IsD p d h) : RdD [h] p d := by
  obtain ⟨b, vl, vt, hl, ht, rfl, rfl, ap, ol, ot⟩ := o
  obtain ⟨al, cl, rfl, g1, g2⟩ := ol.rows
  obtain ⟨a2, ct, rfl, g3, g4⟩ := ot.rows
  have L := Le.join ap
  have r := (rdb_one (M := [one b (.cells [.slice al d.l.length cl, .slice a2 d.t.length ct, .int .i64 d.n].toArray 136 (0, 0)), hl, ht]) List.mem_cons_self).le L
  exact ⟨b, al, cl, a2, ct, rfl, cellsAt_of r rfl, cellsAt_of r rfl, cellsAt_of r rfl, ⟨g1, g2.le ((Le.sub (by intro g hg; simp at hg; simp [hg])).trans L)⟩, g3, g4.le ((Le.sub (by intro g hg; simp at hg; simp [hg])).trans L)⟩

theorem clone_spec {x : List UInt8} {v : Value} {K : List Hp} (hv : BytesV K v x) (hb : x.length ≤ 140000000000000) : Fn Tryz.prog 73 [v] K [] fun r hs' => ∃ h, OwnB 5 r x h ∧ hs' = [h] := by
  obtain ⟨a, c, rfl, hc, hS⟩ := hv
  refine Fn.enter Tryz.func73 rfl rfl ?_; simp only [Tryz.ntmps73, argEnv, Nat.reduceAdd]
  repeat refine goX ?_
  refine o_appendBN tb rfl rfl rfl rfl rfl rfl rfl ⟨_, _, rfl, hc, hS⟩ sbX (by (try simp only [List.length_append, List.length_cons, List.length_nil]); omega) rfl ?_
  intro v' hp' o'
  repeat refine goX ?_
  refine post_ret (hs' := [hp']) [_] rfl ⟨rfl, rfl⟩ slX ?_
  exact ⟨_, o', rfl⟩

theorem dnew_spec (K : List Hp) : Fn Tryz.prog 48 [] K [] fun r hs' => ∃ h, IsD r Dk.zero h ∧ hs' = [h] := by
  refine Fn.enter Tryz.func48 rfl rfl ?_; simp only [Tryz.ntmps48, argEnv, Nat.reduceAdd]
  repeat (first | refine goX ?_ | refine bxX fun b => ?_)
  refine post_imp (Imp.emp _) (post_imp (Imp.emp _) ?_)
  refine post_join (hs1 := [one _ _, emp, emp]) (junk := _) pmX fun hap => ?_
  refine post_ret (hs' := [_]) [_] rfl ⟨rfl, rfl⟩ slX ?_
  exact ⟨_, ⟨_, _, _, _, _, rfl, rfl, hap, OwnOf.nil _ _, OwnOf.nil _ _⟩, rfl⟩

theorem lasting_spec {p : Value} {d : Dk} {K : List Hp} (h : RdD K p d) (hd : d.ok) : Fn Tryz.prog 44 [p] K [] fun r hs' => ∃ h, OwnB 5 r d.l h ∧ hs' = [h] := by
  obtain ⟨b, al, cl, a2, ct, rfl, c0, c1, c2, ⟨g1, g2⟩, g3, g4⟩ := h
  unfold Dk.ok at hd
  refine Fn.enter Tryz.func44 rfl rfl ?_; simp only [Tryz.ntmps44, argEnv, Nat.reduceAdd]
  repeat refine goX ?_
  refine RO.call0 rfl rfl rfl Tryz.func73 rfl (by kernel_rfl) (clone_spec (x := d.l) ⟨_, _, rfl, g1, g2.sub (by intro g hg; simp [hg])⟩ (by omega)) ?_
  rintro v hs' ⟨hp, o, rfl⟩
  repeat refine goX ?_
  refine post_ret (hs' := [hp]) [_] rfl ⟨rfl, rfl⟩ slX ?_
  exact ⟨_, o, rfl⟩
theorem tail_spec {p : Value} {d : Dk} {K : List Hp} (h : RdD K p d) (hd : d.ok) : Fn Tryz.prog 45 [p] K [] fun r hs' => ∃ h, OwnB 5 r d.t h ∧ hs' = [h] := by
  obtain ⟨b, al, cl, a2, ct, rfl, c0, c1, c2, ⟨g1, g2⟩, g3, g4⟩ := h
  unfold Dk.ok at hd
  refine Fn.enter Tryz.func45 rfl rfl ?_; simp only [Tryz.ntmps45, argEnv, Nat.reduceAdd]
  repeat refine goX ?_
  refine RO.call0 rfl rfl rfl Tryz.func73 rfl (by kernel_rfl) (clone_spec (x := d.t) ⟨_, _, rfl, g3, g4.sub (by intro g hg; simp [hg])⟩ (by omega)) ?_
  rintro v hs' ⟨hp, o, rfl⟩
  repeat refine goX ?_
  refine post_ret (hs' := [hp]) [_] rfl ⟨rfl, rfl⟩ slX ?_
  exact ⟨_, o, rfl⟩
theorem dbytes_spec {p : Value} {d : Dk} {K : List Hp} (h : RdD K p d) (hd : d.ok) : Fn Tryz.prog 100 [p] K [] fun r hs' => ∃ h, OwnB 5 r (d.l ++ d.t) h ∧ hs' = [h] := by
  have hd2 : d.l.length + d.t.length ≤ 4194304 := hd
  refine Fn.enter Tryz.func100 rfl rfl ?_; simp only [Tryz.ntmps100, argEnv, Nat.reduceAdd]
  repeat refine goX ?_
  refine RO.call0 rfl rfl rfl Tryz.func44 rfl (by kernel_rfl) (lasting_spec (d := d) (h.le (Le.sub (by intro g hg; simp [hg]))) hd) ?_
  rintro v hs' ⟨hp, o, rfl⟩
  repeat refine goX ?_
  refine RO.call0 rfl rfl rfl Tryz.func45 rfl (by kernel_rfl) (tail_spec (d := d) (h.le (Le.sub (by intro g hg; simp [hg]))) hd) ?_
  rintro v2 hs' ⟨hp2, o2, rfl⟩
  repeat refine goX ?_
  refine o_appendB 1 tb rfl rfl o rfl rfl rfl rfl rfl rfl o2.slV sbX (by (try simp only [List.length_append, List.length_cons, List.length_nil]); omega) rfl ?_
  intro v' hp' o'
  repeat refine goX ?_
  refine post_ret (hs' := [hp']) [_] rfl ⟨rfl, rfl⟩ slX ?_
  exact ⟨_, o', rfl⟩
theorem dcopy_spec {p : Value} {d : Dk} {K : List Hp} (h : RdD K p d) (hd : d.ok) : Fn Tryz.prog 75 [p] K [] fun r hs' => ∃ h, IsD r d h ∧ hs' = [h] := by
  obtain ⟨b, al, cl, a2, ct, rfl, c0, c1, c2, ⟨g1, g2⟩, g3, g4⟩ := h
  unfold Dk.ok at hd
  refine Fn.enter Tryz.func75 rfl rfl ?_; simp only [Tryz.ntmps75, argEnv, Nat.reduceAdd]
  repeat (first | refine goX ?_ | refine bxX fun b => ?_ | refine dwX 3 [([0, 1, 2, 3, 5, 6, 7, 8, 10, 11, 12, 13], [4, 9, 14, 15])] [16] ?_)
  refine RO.call0 rfl rfl rfl Tryz.func73 rfl (by kernel_rfl) (clone_spec (x := d.l) ⟨_, _, rfl, g1, g2.sub (by intro g hg; simp [hg])⟩ (by omega)) ?_
  rintro v hs' ⟨hp, o, rfl⟩
  repeat (first | refine goX ?_ | refine bxX fun b => ?_ | refine dwX 3 [([0, 1, 2, 3, 5, 6, 7, 8, 10, 11, 12, 13], [4, 9, 14, 15])] [16] ?_)
  refine RO.call0 rfl rfl rfl Tryz.func73 rfl (by kernel_rfl) (clone_spec (x := d.t) ⟨_, _, rfl, g3, g4.sub (by intro g hg; simp [hg])⟩ (by omega)) ?_
  rintro v2 hs' ⟨hp2, o2, rfl⟩
  obtain ⟨a4, c4, rfl, _, _⟩ := OwnOf.rows o
  obtain ⟨a5, c5, rfl, _, _⟩ := OwnOf.rows o2
  repeat (first | refine goX ?_ | refine bxX fun b => ?_ | refine dwX 3 [([0, 1, 2, 3, 5, 6, 7, 8, 10, 11, 12, 13], [4, 9, 14, 15])] [16] ?_)
  refine post_join (hs1 := [one _ _, hp, hp2]) (junk := _) pmX fun hap => ?_
  refine post_ret (hs' := [_]) [_] rfl ⟨rfl, rfl⟩ slX ?_
  exact ⟨_, ⟨_, _, _, _, _, rfl, rfl, hap, o, o2⟩, rfl⟩
end Go.Proofs.YtonnncdolofccaaGreat

namespace Go.Proofs.YtonnncdolofccaaGreat
attribute [local irreducible] RC RO EvE DR OpV Fn SlOf OwnSl postQ Src Rows Rdb CellsAt thenQ blockQ noGotoQ
set_option linter.unusedSimpArgs false
set_option linter.unusedVariables false

theorem replace_spec {p : Value} {d : Dk} {x : List UInt8} {v : Value} {h : Hp} {K : List Hp} (ho : IsD p d h) (hv : BytesV K v x) (hx : x.length ≤ 4194304) : Fn Tryz.prog 74 [p, v] K [h] fun r hs' => r = .int .i64 0 ∧ ∃ h', IsD p ⟨x, [], d.n⟩ h' ∧ hs' = [h'] := by
  obtain ⟨b0, vl, vt, hl, ht, rfl, rfl, ap, ol, ot⟩ := ho
  obtain ⟨al, cl, rfl, g1, g2⟩ := ol.rows
  obtain ⟨a2, ct, rfl, g3, g4⟩ := ot.rows
  obtain ⟨a, c, rfl, hc, hS⟩ := hv
  refine Fn.imp (Imp.split0 ap) ?_
  refine Fn.enter Tryz.func74 rfl rfl ?_; simp only [Tryz.ntmps74, argEnv, Nat.reduceAdd]
  repeat refine goX ?_
  refine RO.call0 rfl rfl rfl Tryz.func73 rfl (by kernel_rfl) (clone_spec (x := x) ⟨_, _, rfl, hc, hS.sub (by intro g hg; simp [hg])⟩ (by omega)) ?_
  rintro v hs' ⟨hp, o, rfl⟩
  obtain ⟨a4, c4, rfl, _, _⟩ := OwnOf.rows o
  repeat refine goX ?_
  refine post_imp (Imp.emp _) ?_
  refine post_join (hs1 := [one _ _, hp, emp]) (junk := _) pmX fun hap => ?_
  refine post_ret (hs' := [_]) [_] rfl ⟨rfl, rfl⟩ slX ?_
  exact ⟨rfl, _, ⟨b0, _, _, _, _, rfl, rfl, hap, o, OwnOf.nil _ _⟩, rfl⟩

theorem dsync_spec {p : Value} {d : Dk} {h : Hp} {K : List Hp} (ho : IsD p d h) (hd : d.ok) : Fn Tryz.prog 53 [p] K [h] fun r hs' => r = .int .i64 0 ∧ ∃ h' n, IsD p ⟨d.l ++ d.t, [], n⟩ h' ∧ hs' = [h'] := by
  obtain ⟨b0, vl, vt, hl, ht, rfl, rfl, ap, ol, ot⟩ := ho
  obtain ⟨al, cl, rfl, g1, g2⟩ := ol.rows
  obtain ⟨a2, ct, rfl, g3, g4⟩ := ot.rows
  unfold Dk.ok at hd
  refine Fn.imp (Imp.split0 ap) ?_
  rcases Nat.eq_zero_or_pos d.t.length with h0 | h0
  all_goals
    refine Fn.enter Tryz.func53 rfl rfl ?_; simp only [Tryz.ntmps53, argEnv, Nat.reduceAdd]
    repeat refine goX ?_
    refine RC.draw (id := 5) (ps := [([0, 1, 2, 3, 4, 5, 6, 7, 8, 9], [10])]) (c2 := [11, 12, 13, 14, 15, 16]) (hs1 := [hl]) (hsL := [one _ _, ht]) mixed (by kernel_rfl) pmX ?_
    repeat (first | refine goX ?_ | refine dwX 5 [([0, 1, 2, 3, 4, 5, 6, 7, 8, 9], [10])] [11, 12, 13, 14, 15, 16] ?_)
    refine o_appendB 0 tb rfl rfl ol rfl rfl rfl rfl rfl rfl ot.slV sbX (by (try simp only [List.length_append, List.length_cons, List.length_nil]); omega) rfl ?_
    intro v' hp' o'
    obtain ⟨a4, c4, rfl, _, _⟩ := OwnOf.rows o'
    repeat (first | refine goX ?_ | refine dwX 5 [([0, 1, 2, 3, 4, 5, 6, 7, 8, 9], [10])] [11, 12, 13, 14, 15, 16] ?_)
    refine post_imp (Imp.emp _) ?_
    refine post_join (hs1 := [one _ _, hp', emp]) (junk := _) pmX fun hap => ?_
    refine post_ret (hs' := [_]) [_] rfl ⟨rfl, rfl⟩ slX ?_
    exact ⟨rfl, _, _, ⟨b0, _, _, _, _, rfl, rfl, hap, o', OwnOf.nil _ _⟩, rfl⟩

theorem dcrash_bad {p : Value} {d : Dk} {h : Hp} {K : List Hp} (ho : IsD p d h) {k : Int} (hk : k < 0) : Fn Tryz.prog 50 [p, .int .i64 k] K [h] fun r hs' => r = .int .i64 2 ∧ hs' = [h] := by
  obtain ⟨b0, vl, vt, hl, ht, rfl, -⟩ := ho
  refine Fn.enter Tryz.func50 rfl rfl ?_; simp only [Tryz.ntmps50, argEnv, Nat.reduceAdd]
  repeat refine goX ?_
  refine post_ret (hs' := [_]) [_] rfl ⟨rfl, rfl⟩ slX ?_
  exact ⟨rfl, rfl⟩
theorem dcrash_spec {p : Value} {d : Dk} {h : Hp} {K : List Hp} (ho : IsD p d h) (hd : d.ok) {k : Int} (hk : 0 ≤ k) : Fn Tryz.prog 50 [p, .int .i64 k] K [h] fun r hs' => r = .int .i64 0 ∧ ∃ h', IsD p ⟨d.l ++ d.t.take k.toNat, [], d.n⟩ h' ∧ hs' = [h'] := by
  obtain ⟨b0, vl, vt, hl, ht, rfl, rfl, ap, ol, ot⟩ := ho
  obtain ⟨al, cl, rfl, g1, g2⟩ := ol.rows
  obtain ⟨a2, ct, rfl, g3, g4⟩ := ot.rows
  unfold Dk.ok at hd
  refine Fn.imp (Imp.split0 ap) ?_
  refine Fn.enter Tryz.func50 rfl rfl ?_; simp only [Tryz.ntmps50, argEnv, Nat.reduceAdd]
  repeat refine goX ?_
  refine RC.draw (id := 5) (ps := [([0, 1, 2, 3, 4, 5, 6, 7, 8, 9, 10, 11, 12, 13, 14, 15, 16, 17], [18])]) (c2 := [19, 20, 21, 22, 23, 24]) (hs1 := [hl]) (hsL := [one _ _, ht]) mixed (by kernel_rfl) pmX ?_
  repeat (first | refine goX ?_ | refine dwX 5 [([0, 1, 2, 3, 4, 5, 6, 7, 8, 9, 10, 11, 12, 13, 14, 15, 16, 17], [18])] [19, 20, 21, 22, 23, 24] ?_)
  refine EvE.ofV (v_min2 rfl rfl) rfl ?_
  refine e_sliceH tb (R := ByteR) (sz := 1) rfl rfl rfl rfl rfl g4 rfl g3 (by omega) (by omega) rfl ?_
  intro a5 c5 hc5 hS5
  have et : d.t.take (min k (d.t.length : Int)).toNat = d.t.take k.toNat := by
    rw [show (min k (d.t.length : Int)).toNat = min k.toNat d.t.length by omega, List.take_eq_take_iff]
    omega
  rw [et] at hc5 hS5 ⊢
  have hl5 : (d.t.take k.toNat).length ≤ d.t.length := by rw [List.length_take]; omega
  repeat (first | refine goX ?_ | refine dwX 5 [([0, 1, 2, 3, 4, 5, 6, 7, 8, 9, 10, 11, 12, 13, 14, 15, 16, 17], [18])] [19, 20, 21, 22, 23, 24] ?_)
  refine o_appendB 0 tb rfl rfl ol rfl rfl rfl rfl rfl rfl ⟨_, _, rfl, hc5, hS5⟩ sbX (by (try simp only [List.length_append, List.length_cons, List.length_nil]); omega) rfl ?_
  intro v' hp' o'
  obtain ⟨a4, c4, rfl, _, _⟩ := OwnOf.rows o'
  repeat (first | refine goX ?_ | refine dwX 5 [([0, 1, 2, 3, 4, 5, 6, 7, 8, 9, 10, 11, 12, 13, 14, 15, 16, 17], [18])] [19, 20, 21, 22, 23, 24] ?_)
  refine post_imp (Imp.emp _) ?_
  refine post_join (hs1 := [one _ _, hp', emp]) (junk := _) pmX fun hap => ?_
  refine post_ret (hs' := [_]) [_] rfl ⟨rfl, rfl⟩ slX ?_
  exact ⟨rfl, _, ⟨b0, _, _, _, _, rfl, rfl, hap, o', OwnOf.nil _ _⟩, rfl⟩

theorem flat_succ {xs : List (List UInt8)} {i : Nat} {x : List UInt8} (h : xs[i]? = some x) : (xs.take (i + 1)).flatten = (xs.take i).flatten ++ x := by
  rw [List.take_add_one, h]; simp
theorem flat_le (xs : List (List UInt8)) (i : Nat) : (xs.take i).flatten.length ≤ xs.flatten.length := by
  have h : xs.flatten.length = (xs.take i).flatten.length + (xs.drop i).flatten.length := by
    rw [← List.length_append, ← List.flatten_append, List.take_append_drop]
  omega
theorem dappend_spec {p : Value} {d : Dk} {h : Hp} {K : List Hp} (ho : IsD p d h) (hd : d.ok) {a : Option Addr} {c : Nat} {xs : List (List UInt8)} (hS : SlOf K (BsR K) 1 a xs) (hl : xs.length ≤ 100000000) (hx : ∀ r, r ∈ xs → r.length ≤ 100000000) : Fn Tryz.prog 63 [p, .slice a xs.length c] K [h] fun r hs' =>
    if d.l.length + d.t.length + xs.flatten.length ≤ 4194304 then r = .int .i64 0 ∧ ∃ h', IsD p ⟨d.l, d.t ++ xs.flatten, d.n⟩ h' ∧ hs' = [h'] else r = .int .i64 3 ∧ ∃ h', IsD p d h' ∧ hs' = [h'] := by
  obtain ⟨b0, vl, vt, hl, ht, rfl, rfl, ap, ol, ot⟩ := ho
  obtain ⟨al, cl, rfl, g1, g2⟩ := ol.rows
  obtain ⟨a2, ct, rfl, g3, g4⟩ := ot.rows
  unfold Dk.ok at hd
  refine Fn.imp (Imp.split0 ap) ?_
  refine Fn.enter Tryz.func63 rfl rfl ?_; simp only [Tryz.ntmps63, argEnv, Nat.reduceAdd]
  repeat (first | refine goX ?_ | refine dwX 3 [([0, 1, 2, 3, 4, 5, 6, 7, 8, 9, 10, 11], [])] [] ?_)
  refine RC.loopE (fun i : Nat => [(25, .int .i64 (i : Int)), (24, .int .i64 (xs.length : Int)), (23, .slice a xs.length c), (5, .int .i64 ((d.l.length + d.t.length + (xs.take i).flatten.length : Nat) : Int)), (1, .slice a xs.length c), (0, .pointer (some ⟨b0, 0, none⟩))])
    (fun _ => [one b0 (.cells [.slice al d.l.length cl, .slice a2 d.t.length ct, .int .i64 d.n].toArray 136 (0, 0)), hl, ht]) (fun i => i ≤ xs.length ∧ d.l.length + d.t.length + (xs.take i).flatten.length ≤ 4194304) (fun i => xs.length - i) 0 ⟨by omega, by simpa using hd⟩ leX (List.Sublist.refl _) ?_
  rintro i ⟨hi, hn⟩
  by_cases h1 : i = xs.length
  · subst h1
    rw [List.take_length] at hn
    simp only [List.take_length]
    repeat (first | refine goX ?_ | refine dwX 3 [([0, 1, 2, 3, 4, 5, 6, 7, 8, 9, 10, 11], [])] [] ?_)
    refine RC.loopE (fun s : Nat × Value × Hp => [(40, .int .i64 (s.1 : Int)), (39, .int .i64 (xs.length : Int)), (38, .slice a xs.length c), (0, .pointer (some ⟨b0, 0, none⟩))])
      (fun s => [one b0 (.cells [.slice al d.l.length cl, s.2.1, .int .i64 d.n].toArray 136 (0, 0)), hl, s.2.2]) (fun s => s.1 ≤ xs.length ∧ OwnB 5 s.2.1 (d.t ++ (xs.take s.1).flatten) s.2.2) (fun s => xs.length - s.1) (0, _, _) ⟨by omega, by simpa using ot⟩ leX (List.Sublist.refl _) ?_
    rintro ⟨i, w, hw⟩ ⟨hi, ho⟩
    simp only at hi ho ⊢
    have ho2 := ho
    obtain ⟨a4, c4, rfl, _, _⟩ := OwnOf.rows ho2
    by_cases h1 : i = xs.length
    · subst h1
      rw [List.take_length] at ho
      simp only [List.take_length]
      repeat (first | refine goX ?_ | refine dwX 3 [([0, 1, 2, 3, 4, 5, 6, 7, 8, 9, 10, 11], [])] [] ?_)
      refine post_join (hs1 := [one _ _, hl, hw]) (junk := _) pmX fun hap => ?_
      refine post_ret (hs' := [_]) [_] rfl ⟨rfl, rfl⟩ slX ?_
      rw [if_pos hn]
      exact ⟨rfl, _, ⟨b0, _, _, _, _, rfl, rfl, hap, ol, ho⟩, rfl⟩
    · have hi2 : i < xs.length := by omega
      have hb2 : xs[i]? = some xs[i] := List.getElem?_eq_getElem hi2
      repeat (first | refine goX ?_ | refine dwX 3 [([0, 1, 2, 3, 4, 5, 6, 7, 8, 9, 10, 11], [])] [] ?_)
      refine o_indexAddr tb (R := _) (sz := 1) rfl rfl rfl rfl rfl hS (by omega) (by omega) (by first | exact hb2 | simpa using hb2) rfl ?_
      rintro b' off vs ⟨v, rfl, a6, c6, rfl, hc6, hS6⟩ _ hcell
      have hf := flat_succ hb2
      have hfl := flat_le xs i
      have hxl := hx _ (List.mem_of_getElem? hb2)
      repeat (first | refine goX ?_ | refine dwX 3 [([0, 1, 2, 3, 4, 5, 6, 7, 8, 9, 10, 11], [])] [] ?_)
      refine o_appendB 2 tb rfl rfl ho rfl rfl rfl rfl rfl rfl ⟨_, _, rfl, hc6, hS6⟩ sbX (by rw [List.length_append]; omega) rfl ?_
      intro v' hp' o'
      rw [List.append_assoc, ← hf] at o'
      have o2 := o'
      obtain ⟨a7, c7, rfl, _, _⟩ := OwnOf.rows o2
      repeat (first | refine goX ?_ | refine dwX 3 [([0, 1, 2, 3, 4, 5, 6, 7, 8, 9, 10, 11], [])] [] ?_)
      refine ⟨(i + 1, _, hp'), ⟨by simp only; omega, o'⟩, by simp only; omega, leX, List.Sublist.refl _⟩
  · have hi2 : i < xs.length := by omega
    have hb2 : xs[i]? = some xs[i] := List.getElem?_eq_getElem hi2
    repeat (first | refine goX ?_ | refine dwX 3 [([0, 1, 2, 3, 4, 5, 6, 7, 8, 9, 10, 11], [])] [] ?_)
    refine o_indexAddr tb (R := _) (sz := 1) rfl rfl rfl rfl rfl hS (by omega) (by omega) (by first | exact hb2 | simpa using hb2) rfl ?_
    rintro b' off vs ⟨v, rfl, a6, c6, rfl, hc6, hS6⟩ _ hcell
    have hf := flat_succ hb2
    have hfl := flat_le xs (i + 1)
    have hxl := hx _ (List.mem_of_getElem? hb2)
    have hfl2 : (xs.take (i + 1)).flatten.length = (xs.take i).flatten.length + xs[i].length := by rw [hf, List.length_append]
    by_cases hb : d.l.length + d.t.length + (xs.take (i + 1)).flatten.length ≤ 4194304
    · repeat (first | refine goX ?_ | refine dwX 3 [([0, 1, 2, 3, 4, 5, 6, 7, 8, 9, 10, 11], [])] [] ?_)
      refine ⟨i + 1, ⟨by omega, hb⟩, by omega, ?_, List.Sublist.refl _⟩
      refine EnvLe.cons rfl (EnvLe.cons rfl (EnvLe.cons rfl (EnvLe.cons ?_ (EnvLe.cons rfl (EnvLe.cons rfl (EnvLe.nil _))))))
      show some (Value.int .i64 _) = some (Value.int .i64 _)
      congr 2
      omega
    · repeat (first | refine goX ?_ | refine dwX 3 [([0, 1, 2, 3, 4, 5, 6, 7, 8, 9, 10, 11], [])] [] ?_)
      refine post_join (hs1 := [one _ _, hl, ht]) (junk := _) pmX fun hap => ?_
      refine post_ret (hs' := [_]) [_] rfl ⟨rfl, rfl⟩ slX ?_
      rw [if_neg (by omega)]
      exact ⟨rfl, _, ⟨b0, _, _, _, _, rfl, rfl, hap, ol, ot⟩, rfl⟩
end Go.Proofs.YtonnncdolofccaaGreat
