/- wal: New, Disk, Sync, Open, Records. Conditions: none.
   wal: copied, Records, Open. Conditions: none.
   wal: Snapshot, Append. Conditions: none.
   wal: Last; slices.Backward. Conditions: none.
   pack: the reader: New, dead, fail, peek. Conditions: none.
   pack: the reader: Row, Below, Truth, Fail, End. Conditions: none.
   pack: the reader: Below, Truth, Fail, End, Left, Failed. Conditions: none.
   pack: the reader: Fail, Failed, End, Left; tags: Get, Read. Conditions: none.
   tags: Read; pack: Rows. Conditions: none.
   The frame of our walks: maps from texts to entries. Conditions: none.
   The frame of our walks: a function of the library without a body; interfaces of maps. Conditions: none.
   maps.Clone; store: empty, of, lay. Conditions: none. -/
import Derived.Test.YtonnncdolofccaaGreatQc
import Derived.MapKept
import Derived.Laws.Externs
namespace Go.Proofs.YtonnncdolofccaaGreat
attribute [local irreducible] RC RO EvE DR OpV Fn SlOf OwnSl postQ Src Rows Rdb CellsAt thenQ blockQ noGotoQ
set_option linter.unusedSimpArgs false
set_option linter.unusedVariables false

/-- a log -/
structure Lg where
  d : Dk
  rs : List Rc
  last : Nat
def Lg.ok (g : Lg) : Prop := g.d.ok ∧ 10 * g.rs.length ≤ g.d.l.length + g.d.t.length
def RdL (M : List Hp) (p : Value) (g : Lg) : Prop := ∃ b pd a c, p = .pointer (some ⟨b, 0, none⟩) ∧ CellsAt M ⟨b, 0, none⟩ [pd] ∧ CellsAt M ⟨b, 1, none⟩ [.slice a g.rs.length c] ∧ CellsAt M ⟨b, 2, none⟩ [.int .i64 (g.last : Int)] ∧ RdD M pd g.d ∧ g.rs.length ≤ c ∧ SlOf M (RecR M) 2 a g.rs
def IsL (p : Value) (g : Lg) (h : Hp) : Prop := ∃ b pd v hd ha hB, p = .pointer (some ⟨b, 0, none⟩) ∧ h = uni [one b (.cells [pd, v, .int .i64 (g.last : Int)].toArray 100 (0, 0)), hd, ha, hB] ∧
  Apart [one b (.cells [pd, v, .int .i64 (g.last : Int)].toArray 100 (0, 0)), hd, ha, hB] ∧ IsD pd g.d hd ∧ OwnRs v g.rs ha hB
theorem RdL.le {M M' : List Hp} (s : Le M M') {p : Value} {g : Lg} (h : RdL M p g) : RdL M' p g := by
  obtain ⟨b, pd, a, c, e, c0, c1, c2, d, l, r⟩ := h
  exact ⟨b, pd, a, c, e, c0.le s, c1.le s, c2.le s, d.le s, l, (r.le s).mono fun _ _ h => h.le s⟩
theorem IsL.rd {p : Value} {g : Lg} {h : Hp} (o : IsL p g h) : RdL [h] p g := by
  obtain ⟨b, pd, v, hd, ha, hB, rfl, rfl, ap, od, or⟩ := o
  obtain ⟨a, c, rfl, g1, g2⟩ := or.rows
  have L := Le.join ap
  have r := (rdb_one (M := [one b (.cells [pd, .slice a g.rs.length c, .int .i64 (g.last : Int)].toArray 100 (0, 0)), hd, ha, hB]) List.mem_cons_self).le L
  have s1 : Le [hd] [one b (.cells [pd, .slice a g.rs.length c, .int .i64 (g.last : Int)].toArray 100 (0, 0)), hd, ha, hB] := Le.sub (by intro g hg; simp at hg; simp [hg])
  have s2 : Le [ha] [one b (.cells [pd, .slice a g.rs.length c, .int .i64 (g.last : Int)].toArray 100 (0, 0)), hd, ha, hB] := Le.sub (by intro g hg; simp at hg; simp [hg])
  have s3 : Le [hB] [one b (.cells [pd, .slice a g.rs.length c, .int .i64 (g.last : Int)].toArray 100 (0, 0)), hd, ha, hB] := Le.sub (by intro g hg; simp at hg; simp [hg])
  exact ⟨b, pd, a, c, rfl, cellsAt_of r rfl, cellsAt_of r rfl, cellsAt_of r rfl, od.rd.le (s1.trans L), g1, (g2.le (s2.trans L)).mono fun _ _ h => h.le (s3.trans L)⟩
theorem IsD.ptr {p : Value} {d : Dk} {h : Hp} (o : IsD p d h) : ∃ b, p = .pointer (some ⟨b, 0, none⟩) := let ⟨b, _, _, _, _, e, _⟩ := o; ⟨b, e⟩
theorem RdD.ptr {M : List Hp} {p : Value} {d : Dk} (o : RdD M p d) : ∃ b, p = .pointer (some ⟨b, 0, none⟩) := let ⟨b, _, _, _, _, e, _⟩ := o; ⟨b, e⟩
theorem IsL.ptr {p : Value} {d : Lg} {h : Hp} (o : IsL p d h) : ∃ b, p = .pointer (some ⟨b, 0, none⟩) := let ⟨b, _, _, _, _, _, e, _⟩ := o; ⟨b, e⟩

theorem wnew_spec (K : List Hp) : Fn Tryz.prog 25 [] K [] fun r hs' => ∃ h, IsL r ⟨Dk.zero, [], 0⟩ h ∧ hs' = [h] := by
  refine Fn.enter Tryz.func25 rfl rfl ?_; simp only [Tryz.ntmps25, argEnv, Nat.reduceAdd]
  repeat (first | refine goX ?_ | refine bxX fun b => ?_)
  refine RO.call0 rfl rfl rfl Tryz.func48 rfl (by kernel_rfl) (dnew_spec _) ?_
  rintro v hs' ⟨hd, od, rfl⟩
  obtain ⟨bd, rfl⟩ := od.ptr
  repeat (first | refine goX ?_ | refine bxX fun b => ?_)
  refine post_imp (Imp.emp _) (post_imp (Imp.emp _) ?_)
  refine post_join (hs1 := [one _ _, hd, emp, emp]) (junk := _) pmX fun hap => ?_
  refine post_ret (hs' := [_]) [_] rfl ⟨rfl, rfl⟩ slX ?_
  exact ⟨_, ⟨_, _, _, _, _, _, rfl, rfl, hap, od, OwnOf.nil _ _⟩, rfl⟩

theorem wdisk_spec {p : Value} {g : Lg} {K : List Hp} (h : RdL K p g) (hg : g.ok) : Fn Tryz.prog 49 [p] K [] fun r hs' => ∃ h, IsD r g.d h ∧ hs' = [h] := by
  obtain ⟨b, pd, a, c, rfl, c0, c1, c2, d, l, r⟩ := h
  obtain ⟨bd, rfl⟩ := d.ptr
  refine Fn.enter Tryz.func49 rfl rfl ?_; simp only [Tryz.ntmps49, argEnv, Nat.reduceAdd]
  repeat refine goX ?_
  refine RO.call0 rfl rfl rfl Tryz.func75 rfl (by kernel_rfl) (dcopy_spec (d := g.d) (d.le (Le.sub (by intro g hg; simp [hg]))) hg.1) ?_
  rintro v hs' ⟨hp, o, rfl⟩
  repeat refine goX ?_
  refine post_ret (hs' := [hp]) [_] rfl ⟨rfl, rfl⟩ slX ?_
  exact ⟨_, o, rfl⟩

theorem wsync_spec {p : Value} {g : Lg} {h : Hp} {K : List Hp} (ho : IsL p g h) (hg : g.ok) : Fn Tryz.prog 28 [p] K [h] fun r hs' => r = .int .i64 0 ∧ ∃ h' n, IsL p ⟨⟨g.d.l ++ g.d.t, [], n⟩, g.rs, g.rs.length⟩ h' ∧ hs' = [h'] := by
  obtain ⟨b0, pd, v, hd, ha, hB, rfl, rfl, ap, od, or⟩ := ho
  obtain ⟨bd, rfl⟩ := od.ptr
  have or2 := or
  obtain ⟨a, c, rfl, g1, g2⟩ := or2.rows
  refine Fn.imp (Imp.split0 ap) ?_
  refine Fn.enter Tryz.func28 rfl rfl ?_; simp only [Tryz.ntmps28, argEnv, Nat.reduceAdd]
  repeat refine goX ?_
  refine RO.call1 1 rfl rfl rfl Tryz.func53 rfl (by kernel_rfl) rfl rfl (dsync_spec od hg.1) ?_
  rintro v hs' ⟨rfl, hd', n, od', rfl⟩
  repeat refine goX ?_
  refine post_join (hs1 := [one _ _, hd', ha, hB]) (junk := _) pmX fun hap => ?_
  refine post_ret (hs' := [_]) [_] rfl ⟨rfl, rfl⟩ slX ?_
  exact ⟨rfl, _, n, ⟨b0, _, _, _, _, _, rfl, rfl, hap, od', or⟩, rfl⟩
end Go.Proofs.YtonnncdolofccaaGreat

namespace Go.Proofs.YtonnncdolofccaaGreat
attribute [local irreducible] RC RO EvE DR OpV Fn SlOf OwnSl postQ Src Rows Rdb CellsAt thenQ blockQ noGotoQ
set_option linter.unusedSimpArgs false
set_option linter.unusedVariables false

theorem rec_up {u : Value} {l : List Rc} {ha hB hp : Hp} (d : Apart [hp, hB]) (ho : OwnRs u l ha hB) : OwnOf (RecR [uni [hp, hB]]) 121 2 u l ha :=
  ho.mono fun r vs h => RecR.le ((Le.sub (by intro g hg; simp at hg; simp [hg])).trans (Le.join d)) h
theorem rec_src {hB hp : Hp} {b : Nat} {k : UInt8} {y : List UInt8} {aw : Option Addr} {cw : Nat} (d : Apart [hp, hB]) (hcw : y.length ≤ cw) (hSw : SlOf [hp] ByteR 1 aw y) :
    SlV [one b (.cells [byteV k, .slice aw y.length cw].toArray 121 (0, 0))] (RecR [uni [hp, hB]]) 2 (.slice (some ⟨b, 0, none⟩) 1 1) [(⟨k, y⟩ : Rc)] :=
  ⟨_, _, rfl, Nat.le_refl _, slOf_one (List.mem_singleton.2 rfl) (by
    have := rows_cons (R := RecR [uni [hp, hB]]) (x := (⟨k, y⟩ : Rc)) (sz := 2) (vs := [byteV k, .slice aw y.length cw]) ⟨aw, cw, rfl, hcw, hSw.le ((Le.sub (by intro g hg; simp at hg; simp [hg])).trans (Le.join d))⟩ rfl rows_nil
    simpa using this)⟩
theorem copied_spec {a : Option Addr} {c : Nat} {rs : List Rc} {K : List Hp} (hS : SlOf K (RecR K) 2 a rs) (hc : rs.length ≤ c) (hb : rs.length ≤ 100000000) (hx : ∀ r, r ∈ rs → r.b.length ≤ 140000000000000) : Fn Tryz.prog 124 [.slice a rs.length c] K [] fun r hs' =>
    ∃ (ha hB : Hp), OwnRs r rs ha hB ∧ hs' = [hB, ha] := by
  refine Fn.enter Tryz.func124 rfl rfl ?_; simp only [Tryz.ntmps124, argEnv, Nat.reduceAdd]
  repeat (first | refine goX ?_ | refine alX fun b => ?_ | refine bsX fun b => ?_ | refine dwX 5 [([0, 1, 2, 3, 4], [5, 6, 7, 8])] [9] ?_)
  refine RC.emp (RC.emp ?_)
  refine RC.loopI (fun s : Nat × Value × Hp × Hp => [(8, .int .i64 (s.1 : Int)), (7, .int .i64 (rs.length : Int)), (6, .slice a rs.length c), (3, s.2.1)]) (fun s => [s.2.2.2, s.2.2.1])
    (fun s => s.1 ≤ rs.length ∧ OwnRs s.2.1 (rs.take s.1) s.2.2.1 s.2.2.2) (fun s => rs.length - s.1) (0, _, emp, emp) ⟨by simp, OwnOf.nil _ _⟩ leX (Imp.sublist (List.Sublist.refl _)) ?_
  rintro ⟨i, u, ha, hB⟩ ⟨hi, ho⟩
  simp only at hi ho ⊢
  by_cases h1 : i = rs.length
  · subst h1
    rw [List.take_length] at ho
    repeat (first | refine goX ?_ | refine alX fun b => ?_ | refine bsX fun b => ?_ | refine dwX 5 [([0, 1, 2, 3, 4], [5, 6, 7, 8])] [9] ?_)
    refine post_ret (hs' := [hB, ha]) [_] rfl ⟨rfl, rfl⟩ slX ?_
    exact ⟨_, _, ho, rfl⟩
  · have hi2 : i < rs.length := by omega
    have hb2 : rs[i]? = some rs[i] := List.getElem?_eq_getElem hi2
    have hts : rs.take (i + 1) = rs.take i ++ [rs[i]] := by rw [List.take_add_one, hb2]; rfl
    have hxi := hx _ (List.mem_of_getElem? hb2)
    generalize rs[i] = r at *
    obtain ⟨k, y⟩ := r
    simp only at hxi
    have ho2 := ho
    obtain ⟨a4, c4, rfl, _, _⟩ := OwnOf.rows ho2
    repeat (first | refine goX ?_ | refine alX fun b => ?_ | refine bsX fun b => ?_ | refine dwX 5 [([0, 1, 2, 3, 4], [5, 6, 7, 8])] [9] ?_)
    refine o_indexAddr tb (R := _) (sz := 2) rfl rfl rfl rfl rfl hS (by omega) (by omega) (by first | exact hb2 | simpa using hb2) rfl ?_
    rintro b' off vs ⟨a6, c6, rfl, hc6, hS6⟩ _ hcell
    simp only at hc6 hS6
    repeat (first | refine goX ?_ | refine alX fun b => ?_ | refine bsX fun b => ?_)
    refine RC.draw (id := 5) (ps := [([0, 1, 2, 3, 4], [5, 6, 7, 8])]) (c2 := [9]) (hs1 := [ha, hB]) (hsL := [one _ _]) mixed (by kernel_rfl) pmX ?_
    repeat (first | refine goX ?_ | refine alX fun b => ?_ | refine bsX fun b => ?_ | refine dwX 5 [([0, 1, 2, 3, 4], [5, 6, 7, 8])] [9] ?_)
    refine o_appendBN tb rfl rfl rfl rfl rfl rfl rfl ⟨_, _, rfl, hc6, hS6⟩ sbX (by (try simp only [List.length_append, List.length_cons, List.length_nil]); omega) rfl ?_
    intro v5 hp o5
    have o6 := o5
    obtain ⟨aw, cw, rfl, hcw, hSw⟩ := OwnOf.rows o6
    repeat (first | refine goX ?_ | refine alX fun b => ?_ | refine bsX fun b => ?_ | refine dwX 5 [([0, 1, 2, 3, 4], [5, 6, 7, 8])] [9] ?_)
    refine RO.know fun hap => ?_
    have d : Apart [hp, hB] := hap.of (junk := [_, _]) pmX
    refine o_appendO 2 tb rfl rfl (rec_up d ho) rfl rfl rfl rfl rfl rfl (rec_src d hcw hSw) (by intro g hg; rw [List.mem_singleton.1 hg]; exact List.mem_append_right _ (List.mem_of_getElem? (i := 0) rfl)) (fun r vs h => RecR.one r vs h) ?_ rfl ?_
    · show (2 * ((rs.take i).length + 1) + 192) * 32 ≤ _
      rw [List.length_take]
      omega
    intro v' ha' o'
    refine RO.imp (Imp.joinP (hs1 := [hp, hB]) (hs2 := [ha']) (junk := [_]) pmX) ?_
    rw [← hts] at o'
    have o7 := o'
    obtain ⟨a', c', rfl, _, _⟩ := OwnOf.rows o7
    repeat (first | refine goX ?_ | refine alX fun b => ?_ | refine bsX fun b => ?_ | refine dwX 5 [([0, 1, 2, 3, 4], [5, 6, 7, 8])] [9] ?_)
    refine ⟨(i + 1, _, ha', uni [hp, hB]), ⟨by simp only; omega, o'⟩, by simp only; omega, leX, Imp.sublist slX⟩

theorem wrecords_spec {p : Value} {g : Lg} {K : List Hp} (h : RdL K p g) (hb : g.rs.length ≤ 100000000) (hx : ∀ r, r ∈ g.rs → r.b.length ≤ 140000000000000) : Fn Tryz.prog 102 [p] K [] fun r hs' => ∃ (ha hB : Hp), OwnRs r g.rs ha hB ∧ hs' = [hB, ha] := by
  obtain ⟨b, pd, a, c, rfl, c0, c1, c2, d, l, r⟩ := h
  refine Fn.enter Tryz.func102 rfl rfl ?_; simp only [Tryz.ntmps102, argEnv, Nat.reduceAdd]
  repeat refine goX ?_
  refine RO.call0 rfl rfl rfl Tryz.func124 rfl (by kernel_rfl) (copied_spec (rs := g.rs) ((r.le (Le.sub (by intro g hg; simp [hg]))).mono fun _ _ h => h.le (Le.sub (by intro g hg; simp [hg]))) l hb hx) ?_
  rintro v hs' ⟨ha, hB, o, rfl⟩
  repeat refine goX ?_
  refine post_ret (hs' := [hB, ha]) [_] rfl ⟨rfl, rfl⟩ slX ?_
  exact ⟨_, _, o, rfl⟩

theorem scan_le {b : List UInt8} : 10 * (scan b).1.length ≤ (scan b).2 ∧ (scan b).2 ≤ b.length := by
  generalize hn : b.length = n
  induction n using Nat.strongRecOn generalizing b with
  | _ n ih =>
    cases h : next b with
    | none => rw [scan_none h]; simp
    | some x =>
      obtain ⟨k, r, m⟩ := x
      have hf := next_facts h
      have := ih (b.drop m).length (by rw [List.length_drop]; omega) rfl
      rw [List.length_drop] at this
      rw [scan_some h]
      simp only [List.length_cons]
      omega

theorem wopen_spec {p : Value} {d : Dk} {K : List Hp} (h : RdD K p d) (hd : d.ok) : Fn Tryz.prog 76 [p] K [] fun r hs' =>
    ∃ (u : Value) (n : Int) (h : Hp), r = .tuple #[u, .int .i64 n, .int .i64 0] ∧ IsL u ⟨⟨(d.l ++ d.t).take (scan (d.l ++ d.t)).2, [], d.n⟩, (scan (d.l ++ d.t)).1, (scan (d.l ++ d.t)).1.length⟩ h ∧ hs' = [h] := by
  have hd2 : d.l.length + d.t.length ≤ 4194304 := hd
  obtain ⟨bd, rfl⟩ := h.ptr
  have hl : (d.l ++ d.t).length ≤ 4194304 := by rw [List.length_append]; omega
  have hsc := scan_le (b := d.l ++ d.t)
  refine Fn.enter Tryz.func76 rfl rfl ?_; simp only [Tryz.ntmps76, argEnv, Nat.reduceAdd]
  repeat (first | refine goX ?_ | refine bxX fun b => ?_)
  refine RO.call0 rfl rfl rfl Tryz.func100 rfl (by kernel_rfl) (dbytes_spec (d := d) (h.le (Le.sub (by intro g hg; simp [hg]))) hd) ?_
  rintro v hs' ⟨hb, o, rfl⟩
  have o2 := o
  obtain ⟨ab, cb, rfl, hcb, hSb⟩ := OwnOf.rows o2
  generalize hx : d.l ++ d.t = x at *
  repeat (first | refine goX ?_ | refine bxX fun b => ?_)
  refine RO.call0 rfl rfl rfl Tryz.func101 rfl (by kernel_rfl) (scan_spec (x := x) ⟨_, _, rfl, hcb, hSb.sub (by intro g hg; simp at hg; simp [hg])⟩ (by omega)) ?_
  rintro v hs' ⟨u, e, ha, hB, rfl, ors, rfl⟩
  have ors2 := ors
  obtain ⟨ar, cr, rfl, hcr, hSr⟩ := OwnOf.rows ors2
  repeat (first | refine goX ?_ | refine bxX fun b => ?_)
  refine RO.call0 rfl rfl rfl Tryz.func75 rfl (by kernel_rfl) (dcopy_spec (d := d) (h.le (Le.sub (by intro g hg; simp [hg]))) hd) ?_
  rintro v hs' ⟨hc, oc, rfl⟩
  obtain ⟨bc, rfl⟩ := oc.ptr
  repeat (first | refine goX ?_ | refine bxX fun b => ?_)
  refine o_sliceH tb (R := ByteR) (sz := 1) rfl rfl rfl rfl rfl hSb rfl hcb (by omega) (by omega) rfl ?_
  intro a5 c5 hc5 hS5
  rw [show Int.toNat ((scan x).2 : Int) = (scan x).2 from rfl] at hc5 hS5 ⊢
  repeat (first | refine goX ?_ | refine bxX fun b => ?_)
  refine RO.call1 0 rfl rfl rfl Tryz.func74 rfl (by kernel_rfl) rfl rfl (replace_spec (x := x.take (scan x).2) oc ⟨_, _, rfl, hc5, hS5.sub (by intro g hg; simp at hg; simp [hg])⟩ (by rw [List.length_take]; omega)) ?_
  rintro v hs' ⟨rfl, hc', oc', rfl⟩
  repeat (first | refine goX ?_ | refine bxX fun b => ?_)
  refine post_join (hs1 := [one _ _, hc', ha, hB]) (junk := _) pmX fun hap => ?_
  refine post_ret (hs' := [_]) [_, _, _] rfl ⟨rfl, rfl, rfl, rfl⟩ slX ?_
  exact ⟨_, _, _, rfl, ⟨_, _, _, _, _, _, rfl, rfl, hap, oc', ors⟩, rfl⟩
end Go.Proofs.YtonnncdolofccaaGreat

namespace Go.Proofs.YtonnncdolofccaaGreat
attribute [local irreducible] RC RO EvE DR OpV Fn SlOf OwnSl postQ Src Rows Rdb CellsAt thenQ blockQ noGotoQ
set_option linter.unusedSimpArgs false
set_option linter.unusedVariables false

theorem one_long {k : UInt8} {x : List UInt8} {v : Value} {K : List Hp} (hv : BytesV K v x) (hb : 65536 < x.length) : Fn Tryz.prog 62 [byteV k, v] K [] fun r hs' => r = .tuple #[.slice none 0 0, .int .i64 3] ∧ hs' = [] := by
  obtain ⟨a, c, rfl, hc, hS⟩ := hv
  refine Fn.enter Tryz.func62 rfl rfl ?_; simp only [Tryz.ntmps62, argEnv, Nat.reduceAdd]
  repeat (first | refine goX ?_ | refine bsX fun b => ?_)
  refine post_ret (hs' := []) [_, _] rfl ⟨rfl, rfl, rfl⟩ (List.nil_sublist _) ?_
  exact ⟨rfl, rfl⟩

theorem rec_one {hp : Hp} {b : Nat} {k : UInt8} {y : List UInt8} {aw : Option Addr} {cw : Nat} (hcw : y.length ≤ cw) (hSw : SlOf [hp] ByteR 1 aw y) :
    OwnRs (.slice (some ⟨b, 0, none⟩) 1 1) [(⟨k, y⟩ : Rc)] (one b (.cells [byteV k, .slice aw y.length cw].toArray 121 (0, 0))) hp :=
  ⟨[byteV k, .slice aw y.length cw], by
    have := rows_cons (R := RecR [hp]) (x := (⟨k, y⟩ : Rc)) (sz := 2) (vs := [byteV k, .slice aw y.length cw]) ⟨aw, cw, rfl, hcw, hSw⟩ rfl rows_nil
    simpa using this, own_built (by simp)⟩
theorem snapshot_spec {p : Value} {g : Lg} {x : List UInt8} {v : Value} {h : Hp} {K : List Hp} (ho : IsL p g h) (hv : BytesV K v x) (hx : x.length ≤ 65536) : Fn Tryz.prog 47 [p, v] K [h] fun r hs' => r = .int .i64 0 ∧ ∃ h', IsL p ⟨⟨frameB 0 x, [], g.d.n⟩, [⟨0, x⟩], 1⟩ h' ∧ hs' = [h'] := by
  obtain ⟨b0, pd, w, hd, ha, hB, rfl, rfl, ap, od, or⟩ := ho
  obtain ⟨bd, rfl⟩ := od.ptr
  obtain ⟨aw, cw, rfl, g1, g2⟩ := or.rows
  obtain ⟨a, c, rfl, hc, hS⟩ := hv
  have hfl := frameB_len 0 x
  refine Fn.imp (Imp.split0 ap) ?_
  refine Fn.enter Tryz.func47 rfl rfl ?_; simp only [Tryz.ntmps47, argEnv, Nat.reduceAdd]
  repeat (first | refine goX ?_ | refine bsX fun b => ?_)
  refine RO.call0 rfl rfl rfl Tryz.func62 rfl (by kernel_rfl) (one_spec (k := 0) (x := x) ⟨_, _, rfl, hc, hS.sub (by intro g hg; simp [hg])⟩ hx) ?_
  rintro v hs' ⟨u, hp, rfl, o, rfl⟩
  repeat (first | refine goX ?_ | refine bsX fun b => ?_)
  refine RO.call1 2 rfl rfl rfl Tryz.func74 rfl (by kernel_rfl) rfl rfl (replace_spec (x := frameB 0 x) od (o.slV.sub (by intro g hg; simp at hg; simp [hg])) (by omega)) ?_
  rintro v hs' ⟨rfl, hd', od', rfl⟩
  repeat (first | refine goX ?_ | refine bsX fun b => ?_)
  refine o_appendBN tb rfl rfl rfl rfl rfl rfl rfl ⟨_, _, rfl, hc, hS⟩ sbX (by (try simp only [List.length_append, List.length_cons, List.length_nil]); omega) rfl ?_
  intro v5 hp5 o5
  have o6 := o5
  obtain ⟨a6, c6, rfl, hc6, hS6⟩ := OwnOf.rows o6
  repeat (first | refine goX ?_ | refine bsX fun b => ?_)
  rename Nat => bz
  refine post_join (hs1 := [one b0 _, hd', one bz _, hp5]) (junk := _) pmX fun hap => ?_
  refine post_ret (hs' := [_]) [_] rfl ⟨rfl, rfl⟩ slX ?_
  exact ⟨rfl, _, ⟨b0, _, _, _, _, _, rfl, rfl, hap, od', rec_one (k := 0) hc6 hS6⟩, rfl⟩

theorem wappend_spec {p : Value} {g : Lg} {x : List UInt8} {a : Option Addr} {c : Nat} {h : Hp} {K : List Hp} (ho : IsL p g h) (hg : g.ok) (hS : SlOf K (BsR K) 1 a [x]) (hx : x.length ≤ 65536) : Fn Tryz.prog 36 [p, byteV 1, .slice a 1 c] K [h] fun r hs' =>
    if g.d.l.length + g.d.t.length + (frameB 1 x).length ≤ 4194304 then r = .int .i64 0 ∧ ∃ h', IsL p ⟨⟨g.d.l, g.d.t ++ frameB 1 x, g.d.n⟩, g.rs ++ [⟨1, x⟩], g.last⟩ h' ∧ hs' = [h'] else r = .int .i64 3 ∧ ∃ h', IsL p g h' ∧ hs' = [h'] := by
  obtain ⟨b0, pd, w, hd, ha, hB, rfl, rfl, ap, od, or⟩ := ho
  obtain ⟨bd, rfl⟩ := od.ptr
  have or2 := or
  obtain ⟨aw, cw, rfl, g1, g2⟩ := or2.rows
  have hfl := frameB_len 1 x
  refine Fn.imp (Imp.split0 ap) ?_
  refine Fn.enter Tryz.func36 rfl rfl ?_; simp only [Tryz.ntmps36, argEnv, Nat.reduceAdd]
  repeat (first | refine goX ?_ | refine bsX fun b => ?_ | refine dwX 22 [([0, 1, 2, 3, 4, 5, 6, 7], [8, 9, 10, 11])] [12, 13, 14, 15] ?_)
  refine RC.emp (RC.emp ?_)
  refine RC.loopI (fun s : Nat × Value × Hp × Hp => [(22, .int .i64 (s.1 : Int)), (21, .int .i64 ((1 : Nat) : Int)), (20, .slice a 1 c), (8, .int .i64 0), (7, s.2.1), (2, .slice a 1 c), (1, byteV 1), (0, .pointer (some ⟨b0, 0, none⟩))])
    (fun s => [s.2.2.1, s.2.2.2, one b0 (.cells [.pointer (some ⟨bd, 0, none⟩), .slice aw g.rs.length cw, .int .i64 (g.last : Int)].toArray 100 (0, 0)), hd, ha, hB])
    (fun s => s.1 ≤ 1 ∧ OwnOf (BsR [s.2.2.2]) 33 1 s.2.1 ([frameB 1 x].take s.1) s.2.2.1) (fun s => 1 - s.1) (0, _, emp, emp) ⟨by simp, OwnOf.nil _ _⟩ leX (Imp.sublist (List.Sublist.refl _)) ?_
  rintro ⟨i, all, h1, h2⟩ ⟨hi, oa⟩
  simp only at hi oa ⊢
  have hb2 : [x][0]? = some x := rfl
  by_cases hi1 : i = 1
  · subst hi1
    simp only [List.take_succ_cons, List.take_zero] at oa
    have oa2 := oa
    obtain ⟨a7, c7, rfl, hc7, hS7⟩ := OwnOf.rows oa2
    repeat (first | refine goX ?_ | refine bsX fun b => ?_ | refine dwX 22 [([0, 1, 2, 3, 4, 5, 6, 7], [8, 9, 10, 11])] [12, 13, 14, 15] ?_)
    refine RO.call1 3 rfl rfl rfl Tryz.func63 rfl (by kernel_rfl) rfl rfl (dappend_spec (xs := [frameB 1 x]) od hg.1 ((hS7.sub (by intro g hg; simp at hg; simp [hg])).mono fun _ _ h => BsR.sub (by intro g hg; simp at hg; simp [hg]) h) (by simp) (by intro r hr; rw [List.mem_singleton.1 hr]; omega)) ?_
    rw [show [frameB 1 x].flatten = frameB 1 x by simp]
    by_cases hfit : g.d.l.length + g.d.t.length + (frameB 1 x).length ≤ 4194304
    · simp only [if_pos hfit]
      rintro v hs' ⟨rfl, hd', od', rfl⟩
      repeat (first | refine goX ?_ | refine bsX fun b => ?_ | refine dwX 22 [([0, 1, 2, 3, 4, 5, 6, 7], [8, 9, 10, 11])] [12, 13, 14, 15] ?_)
      have hg2 := hg.2
      have hg1 : g.d.l.length + g.d.t.length ≤ 4194304 := hg.1
      refine RC.loopI (fun s : Nat × Value × Hp × Hp => [(53, .int .i64 (s.1 : Int)), (52, .int .i64 ((1 : Nat) : Int)), (51, .slice a 1 c), (1, byteV 1), (0, .pointer (some ⟨b0, 0, none⟩))])
        (fun s => [one b0 (.cells [.pointer (some ⟨bd, 0, none⟩), s.2.1, .int .i64 (g.last : Int)].toArray 100 (0, 0)), hd', s.2.2.1, s.2.2.2])
        (fun s => s.1 ≤ 1 ∧ OwnRs s.2.1 (g.rs ++ ([(⟨1, x⟩ : Rc)]).take s.1) s.2.2.1 s.2.2.2) (fun s => 1 - s.1) (0, _, ha, hB) ⟨by simp, by simpa using or⟩ leX (Imp.take (junk := [_, _]) pmX) ?_
      rintro ⟨i, w, ha, hB⟩ ⟨hi, ow⟩
      simp only at hi ow ⊢
      have ow2 := ow
      obtain ⟨a9, c9, rfl, hc9, hS9⟩ := OwnOf.rows ow2
      by_cases hi1 : i = 1
      · subst hi1
        simp only [List.take_succ_cons, List.take_zero] at ow ⊢
        repeat (first | refine goX ?_ | refine bsX fun b => ?_ | refine dwX 22 [([0, 1, 2, 3, 4, 5, 6, 7], [8, 9, 10, 11])] [12, 13, 14, 15] ?_)
        refine post_join (hs1 := [one b0 _, hd', ha, hB]) (junk := _) pmX fun hap => ?_
        refine post_ret (hs' := [_]) [_] rfl ⟨rfl, rfl⟩ slX ?_
        exact ⟨rfl, _, ⟨b0, _, _, _, _, _, rfl, rfl, hap, od', ow⟩, rfl⟩
      · obtain rfl : i = 0 := by omega
        simp only [List.take_zero, List.append_nil] at ow ⊢
        repeat (first | refine goX ?_ | refine bsX fun b => ?_ | refine dwX 22 [([0, 1, 2, 3, 4, 5, 6, 7], [8, 9, 10, 11])] [12, 13, 14, 15] ?_)
        refine o_indexAddr tb (R := _) (sz := 1) rfl rfl rfl rfl rfl hS (by omega) (by omega) (by first | exact hb2 | simpa using hb2) rfl ?_
        rintro b' off vs ⟨v, rfl, a6, c6, rfl, hc6, hS6⟩ _ hcell
        repeat (first | refine goX ?_ | refine bsX fun b => ?_)
        refine RC.draw (id := 22) (ps := [([0, 1, 2, 3, 4, 5, 6, 7], [8, 9, 10, 11])]) (c2 := [12, 13, 14, 15]) (hs1 := [ha, hB]) (hsL := [one b0 _, hd']) mixed (by kernel_rfl) pmX ?_
        repeat (first | refine goX ?_ | refine bsX fun b => ?_ | refine dwX 22 [([0, 1, 2, 3, 4, 5, 6, 7], [8, 9, 10, 11])] [12, 13, 14, 15] ?_)
        refine o_appendBN tb rfl rfl rfl rfl rfl rfl rfl ⟨_, _, rfl, hc6, hS6⟩ sbX (by (try simp only [List.length_append, List.length_cons, List.length_nil]); omega) rfl ?_
        intro v5 hp o5
        have o6 := o5
        obtain ⟨a10, c10, rfl, hc10, hS10⟩ := OwnOf.rows o6
        repeat (first | refine goX ?_ | refine bsX fun b => ?_ | refine dwX 22 [([0, 1, 2, 3, 4, 5, 6, 7], [8, 9, 10, 11])] [12, 13, 14, 15] ?_)
        refine RO.know fun hap => ?_
        have dd : Apart [hp, hB] := hap.of (junk := [_, _]) pmX
        refine o_appendO 2 tb rfl rfl (rec_up dd ow) rfl rfl rfl rfl rfl rfl (rec_src (k := 1) dd hc10 hS10) (by intro g hg; rw [List.mem_singleton.1 hg]; exact List.mem_append_right _ (List.mem_of_getElem? (i := 0) rfl)) (fun r vs h => RecR.one r vs h) ?_ rfl ?_
        · show (2 * (g.rs.length + 1) + 192) * 32 ≤ _
          omega
        intro v' ha' o'
        have o7 := o'
        obtain ⟨a', c', rfl, _, _⟩ := OwnOf.rows o7
        repeat (first | refine goX ?_ | refine bsX fun b => ?_ | refine dwX 22 [([0, 1, 2, 3, 4, 5, 6, 7], [8, 9, 10, 11])] [12, 13, 14, 15] ?_)
        exact ⟨(1, _, ha', uni [hp, hB]), ⟨by simp, o'⟩, by simp, leX, (Imp.joinP (hs1 := [hp, hB]) (hs2 := [one b0 _, hd', ha']) (junk := [_]) pmX).trans (Imp.take (junk := []) pmX)⟩
    · simp only [if_neg hfit]
      rintro v hs' ⟨rfl, hd', od', rfl⟩
      repeat (first | refine goX ?_ | refine bsX fun b => ?_ | refine dwX 22 [([0, 1, 2, 3, 4, 5, 6, 7], [8, 9, 10, 11])] [12, 13, 14, 15] ?_)
      refine post_join (hs1 := [one b0 _, hd', ha, hB]) (junk := _) pmX fun hap => ?_
      refine post_ret (hs' := [_]) [_] rfl ⟨rfl, rfl⟩ slX ?_
      exact ⟨rfl, _, ⟨b0, _, _, _, _, _, rfl, rfl, hap, od', or⟩, rfl⟩
  · obtain rfl : i = 0 := by omega
    repeat (first | refine goX ?_ | refine bsX fun b => ?_ | refine dwX 22 [([0, 1, 2, 3, 4, 5, 6, 7], [8, 9, 10, 11])] [12, 13, 14, 15] ?_)
    refine o_indexAddr tb (R := _) (sz := 1) rfl rfl rfl rfl rfl hS (by omega) (by omega) (by first | exact hb2 | simpa using hb2) rfl ?_
    rintro b' off vs ⟨v, rfl, a6, c6, rfl, hc6, hS6⟩ _ hcell
    repeat (first | refine goX ?_ | refine bsX fun b => ?_ | refine dwX 22 [([0, 1, 2, 3, 4, 5, 6, 7], [8, 9, 10, 11])] [12, 13, 14, 15] ?_)
    refine RO.call0 rfl rfl rfl Tryz.func62 rfl (by kernel_rfl) (one_spec (k := 1) (x := x) ⟨_, _, rfl, hc6, hS6.sub (by intro g hg; simp [hg])⟩ hx) ?_
    rintro v hs' ⟨u, hp, rfl, o, rfl⟩
    have o2 := o
    obtain ⟨a8, c8, rfl, hc8, hS8⟩ := OwnOf.rows o2
    repeat (first | refine goX ?_ | refine bsX fun b => ?_ | refine dwX 22 [([0, 1, 2, 3, 4, 5, 6, 7], [8, 9, 10, 11])] [12, 13, 14, 15] ?_)
    have hsr : SlV [one b (.cells [.slice a8 (frameB 1 x).length c8].toArray 33 (0, 0))] (BsR [hp]) 1 (.slice (some ⟨b, 0, none⟩) 1 1) [frameB 1 x] :=
      ⟨_, _, rfl, Nat.le_refl _, slOf_one (List.mem_singleton.2 rfl) (rows_c1 ⟨_, rfl, _, _, rfl, hc8, hS8⟩ rows_nil)⟩
    refine o_appendO 2 tb rfl rfl (OwnOf.any (R' := BsR [hp]) oa) rfl rfl rfl rfl rfl rfl hsr (by intro g hg; rw [List.mem_singleton.1 hg]; exact List.mem_append_right _ (List.mem_of_getElem? (i := 0) rfl)) (fun r vs h => BsR.one r vs h) (by show (2 * (0 + 1) + 192) * 24 ≤ 281474976710656; decide) rfl ?_
    intro v' h1' o'
    repeat (first | refine goX ?_ | refine bsX fun b => ?_ | refine dwX 22 [([0, 1, 2, 3, 4, 5, 6, 7], [8, 9, 10, 11])] [12, 13, 14, 15] ?_)
    exact ⟨(1, v', h1', hp), ⟨by simp, o'⟩, by simp, leX, Imp.take (junk := [_, _]) pmX⟩
end Go.Proofs.YtonnncdolofccaaGreat

namespace Go.Proofs.YtonnncdolofccaaGreat
attribute [local irreducible] RC RO EvE DR OpV Fn SlOf OwnSl postQ Src Rows Rdb CellsAt thenQ blockQ noGotoQ
set_option linter.unusedSimpArgs false
set_option linter.unusedVariables false

def lastG (rs : List Rc) : Nat → List UInt8 × List Rc
  | 0 => ([], rs)
  | i + 1 => match rs[i]? with
    | some r => if r.kind = 0 then (r.b, rs.drop (i + 1)) else lastG rs i
    | none => lastG rs i
def lastF (rs : List Rc) : List UInt8 × List Rc := lastG rs rs.length

theorem back1_spec {l b1 : Nat} {a : Option Addr} {c : Nat} {rs : List Rc} {M K : List Hp} (hb : Rdb K b1 (.cells [.slice a rs.length c].toArray 54 (0, 0))) (hS : SlOf K (RecR M) 2 a rs) (hn : rs.length ≤ 100000000)
    (J : Nat → List Hp → Prop) (X : List Hp → Prop) (hY : ∀ i hs vs r, rs[i]? = some r → RecR M r vs → J (i + 1) hs → Yt Tryz.prog l [.int .i64 (i : Int), .agg vs.toArray] K hs fun v hs' => (v = .bool true ∧ J i hs') ∨ (v = .bool false ∧ X hs')) {hs0 : List Hp} (h0 : J rs.length hs0) :
    Fn Tryz.prog 125 [.func (.yield l) #[] #[], .pointer (some ⟨b1, 0, none⟩)] K hs0 fun _ hs' => J 0 hs' ∨ X hs' := by
  have hcell : CellsAt K ⟨b1, 0, none⟩ [.slice a rs.length c] := cellsAt_of hb rfl
  refine Fn.enter Tryz.func125 rfl rfl ?_; simp only [Tryz.ntmps125, argEnv, Nat.reduceAdd]
  have hcell2 := hcell.sub (Sub.left K hs0)
  repeat refine goX ?_
  refine RC.loopI (fun s : Nat × List Hp => [(3, .int .i64 ((s.1 : Int) - 1)), (1, .pointer (some ⟨b1, 0, none⟩)), (0, .func (.yield l) #[] #[])]) (fun s => s.2) (fun s => s.1 ≤ rs.length ∧ J s.1 s.2) (fun s => s.1) (rs.length, hs0) ⟨Nat.le_refl _, h0⟩ leX (Imp.sublist (List.Sublist.refl _)) ?_
  rintro ⟨i, hs⟩ ⟨hi, hJ⟩
  simp only at hi hJ ⊢
  have hcell3 := hcell.sub (Sub.left K hs)
  cases i with
  | zero =>
    repeat refine goX ?_
    refine post_end (hs' := hs) [] rfl rfl (List.Sublist.refl _) ?_
    exact .inl hJ
  | succ i =>
    have hi2 : rs[i]? = some rs[i] := List.getElem?_eq_getElem hi
    generalize rs[i] = r at hi2
    rw [show ((i + 1 : Nat) : Int) - 1 = (i : Int) by omega]
    repeat (first | refine goN ?_ | refine rgX 0 ?_ | refine rgX 1 ?_ | refine rgX 2 ?_)
    refine RC.regionI (RI.pre 6 rfl ?_)
    repeat refine goX ?_
    refine o_indexAddr tb (R := _) (sz := 2) rfl rfl rfl rfl rfl hS (by omega) (by omega) (by first | exact hi2 | simpa using hi2) rfl ?_
    rintro b' off vs hr _ hcell
    obtain ⟨a6, c6, rfl, hc6, hS6⟩ := hr
    have hcell4 := hcell.sub (Sub.left K hs)
    repeat refine goX ?_
    refine RI.yield rfl rfl rfl (hY i hs _ r hi2 ⟨a6, c6, rfl, hc6, hS6⟩ hJ) ?_
    rintro v hs' (⟨rfl, h⟩ | ⟨rfl, h⟩)
    · refine RI.ofRO rfl ?_
      repeat refine goX ?_
      refine ⟨(i, hs'), ⟨by simp only; omega, h⟩, by simp only; omega, leX, Imp.sublist slX⟩
    · refine RI.ofRO rfl ?_
      repeat refine goX ?_
      refine post_ret (hs' := hs') [] rfl rfl slX ?_
      exact .inr h

theorem backward_spec {v : Value} {K : List Hp} : Fn Tryz.prog 103 [v] K [] fun r hs' => ∃ b1, r = .func (.func 125) #[] #[.pointer (some ⟨b1, 0, none⟩)] ∧ hs' = [one b1 (.cells (cellsL v).toArray 54 (0, 0))] := by
  refine Fn.enter Tryz.func103 rfl rfl ?_; simp only [Tryz.ntmps103, argEnv, Nat.reduceAdd]
  repeat (first | refine goX ?_ | refine bxX fun b => ?_)
  refine post_ret (hs' := [_]) [_] rfl ⟨rfl, rfl⟩ slX ?_
  exact ⟨b, rfl, rfl⟩

theorem wlast_spec {p : Value} {g : Lg} {K : List Hp} (h : RdL K p g) (hb : g.rs.length ≤ 100000000) (hx : ∀ r, r ∈ g.rs → r.b.length ≤ 140000000000000) : Fn Tryz.prog 77 [p] K [] fun r hs' =>
    ∃ u v ha hB, r = .tuple #[u, v] ∧ BytesV [hB, ha] u (lastF g.rs).1 ∧ SlV [hB, ha] (RecR [hB]) 2 v (lastF g.rs).2 ∧ hs' = [hB, ha] := by
  obtain ⟨bp, rfl⟩ : ∃ b, p = .pointer (some ⟨b, 0, none⟩) := by obtain ⟨b, _, _, _, e, _⟩ := h; exact ⟨b, e⟩
  refine Fn.enterM Tryz.func77 rfl rfl ?_; simp only [Tryz.ntmps77, argEnv, Nat.reduceAdd]
  refine RM.seq (RM.of ?_)
  repeat (first | refine goX ?_ | refine alX fun b => ?_ | refine dwX 6 [([0, 1, 2, 3, 4, 5], [6])] [7] ?_ | refine dwX 7 [([0], [1])] [2] ?_)
  rename_i b2
  rename Nat => b3
  refine RM.seq (RM.of ?_)
  repeat (first | refine goX ?_ | refine alX fun b => ?_ | refine dwX 6 [([0, 1, 2, 3, 4, 5], [6])] [7] ?_ | refine dwX 7 [([0], [1])] [2] ?_)
  refine RO.call0 rfl rfl rfl Tryz.func102 rfl (by kernel_rfl) (wrecords_spec (g := g) (h.le (Le.sub (Sub.left _ _))) hb hx) ?_
  rintro v hs' ⟨ha, hB, o, rfl⟩
  have o' := o
  obtain ⟨a, c, rfl, hc, hS⟩ := o'.rows
  repeat (first | refine goX ?_ | refine alX fun b => ?_ | refine dwX 6 [([0, 1, 2, 3, 4, 5], [6])] [7] ?_ | refine dwX 7 [([0], [1])] [2] ?_)
  rename Nat => b4
  refine RM.seq (RM.seq (RM.of ?_))
  repeat (first | refine goX ?_ | refine alX fun b => ?_ | refine dwX 6 [([0, 1, 2, 3, 4, 5], [6])] [7] ?_ | refine dwX 7 [([0], [1])] [2] ?_)
  refine RO.call0 rfl rfl rfl Tryz.func103 rfl (by kernel_rfl) backward_spec ?_
  rintro v hs' ⟨b5, rfl, rfl⟩
  repeat (first | refine goX ?_ | refine alX fun b => ?_ | refine dwX 6 [([0, 1, 2, 3, 4, 5], [6])] [7] ?_ | refine dwX 7 [([0], [1])] [2] ?_)
  refine RM.block (RM.rangeFunc rfl Tryz.func125 rfl (by kernel_rfl) rfl ?_)
  intro l L hround
  have hlen : ∀ j r, g.rs[j]? = some r → j < g.rs.length := fun j r e => (List.getElem?_eq_some_iff.1 e).1
  have S5 : SlOf (K ++ [one b5 (.cells (cellsL (.slice a g.rs.length c)).toArray 54 (0, 0)), one b4 (.cells [.slice a g.rs.length c].toArray 54 (0, 0)), hB, ha]) (RecR [hB]) 2 a g.rs := hS.sub (by intro g hg; simp at hg; simp [hg])
  refine Fn.mono (Fn.imp (Imp.perm (hs' := [L .ready none, one b2 _, one b3 _] ++ [one b5 _, one b4 _, hB, ha]) pmX) (Fn.frame (back1_spec (rs := g.rs) (M := [hB]) (rdb_one (List.mem_append_right _ (List.mem_of_getElem? (i := 0) rfl))) S5 hb
    (fun i hs' => hs' = [L .ready none, one b2 (.cells (cellsL ti33.zero).toArray 33 (0, 0)), one b3 (.cells (cellsL ti54.zero).toArray 54 (0, 0))] ∧ lastG g.rs i = lastF g.rs)
    (fun hs' => ∃ u v, hs' = [L .done (some .ret), one b2 (.cells [u].toArray 33 (0, 0)), one b3 (.cells [v].toArray 54 (0, 0))] ∧ BytesV [hB, ha] u (lastF g.rs).1 ∧ SlV [hB, ha] (RecR [hB]) 2 v (lastF g.rs).2)
    ?_ ⟨rfl, rfl⟩))) ?_
  · rintro i hs' vs ⟨k, y⟩ hi ⟨a6, c6, rfl, hc6, hS6⟩ ⟨rfl, hJ⟩
    simp only at hc6 hS6
    have hi' := hlen _ _ hi
    refine hround _ _ _ _ rfl ?_
    unfold RoundOk
    repeat (first | refine goX ?_ | refine alX fun b => ?_ | refine dwX 7 [([0], [1])] [2] ?_)
    refine ⟨rfl, ?_⟩
    have h4 : CellsAt [one b4 (.cells [.slice a g.rs.length c].toArray 54 (0, 0))] ⟨b4, 0, none⟩ [.slice a g.rs.length c] := cellsAt_of (rdb_one List.mem_cons_self) rfl
    repeat (first | refine goX ?_ | refine alX fun b => ?_ | refine dwX 7 [([0], [1])] [2] ?_)
    have hk : lastG g.rs (i + 1) = if k = 0 then (y, g.rs.drop (i + 1)) else lastG g.rs i := by rw [lastG, hi]
    rw [hJ] at hk
    refine RC.cond rfl (fun h0 => ?_) (fun h0 => ?_) <;> (try simp only [decide_eq_true_eq, decide_eq_false_iff_not, Bool.not_eq_true', Bool.not_eq_false', Bool.not_eq_eq_eq_not, Bool.not_true, Bool.not_false, Int.not_lt, Int.not_le] at h0)
    · have hk0 : k = 0 := by
        have h1 : k.toNat = 0 := by exact_mod_cast h0
        exact UInt8.toNat_inj.1 h1
      rw [if_pos hk0] at hk
      refine RC.seq ?_
      refine RC.draw (id := 6) (ps := [([0, 1, 2, 3, 4, 5], [6])]) (c2 := [7]) (hs1 := [one b2 _, one b3 _]) (hsL := [one b _]) mixed (by kernel_rfl) pmX ?_
      repeat (first | refine goX ?_ | refine alX fun b => ?_ | refine dwX 6 [([0, 1, 2, 3, 4, 5], [6])] [7] ?_ | refine dwX 7 [([0], [1])] [2] ?_)
      refine e_sliceL tb (R := RecR [hB]) (sz := 2) rfl rfl rfl rfl rfl hS rfl hc (by omega) (by omega) rfl ?_
      intro a9 c9 hc9 hS9
      rw [show Int.toNat ((i : Int) + 1) = i + 1 by omega] at hc9 hS9 ⊢
      repeat (first | refine goX ?_ | refine alX fun b => ?_ | refine dwX 6 [([0, 1, 2, 3, 4, 5], [6])] [7] ?_ | refine dwX 7 [([0], [1])] [2] ?_)
      rw [hk]
      exact ⟨_, Imp.take (hs1 := [one b2 _, one b3 _]) (junk := _) pmX, .inr ⟨rfl, _, _, rfl, ⟨_, _, rfl, hc6, hS6.sub (by intro g hg; simp at hg; simp [hg])⟩, ⟨_, _, rfl, hc9, hS9.sub (by intro g hg; simp at hg; simp [hg])⟩⟩⟩
    · have hk0 : ¬ k = 0 := fun e => h0 (by rw [e]; rfl)
      rw [if_neg hk0] at hk
      repeat (first | refine goX ?_ | refine alX fun b => ?_ | refine dwX 6 [([0, 1, 2, 3, 4, 5], [6])] [7] ?_ | refine dwX 7 [([0], [1])] [2] ?_)
      exact ⟨_, Imp.sublist slX, .inl ⟨rfl, rfl, hk.symm⟩⟩
  · rintro v hs' ⟨hs1, rfl, ⟨rfl, hJ⟩ | ⟨u, v, rfl, hu, hv⟩⟩
    · refine ⟨.ready, none, [one b2 _, one b3 _, one b5 _, one b4 _, hB, ha], .normal, rfl, (fun e => by cases e), rfl, ?_⟩
      repeat (first | refine goX ?_ | refine alX fun b => ?_ | refine dwX 6 [([0, 1, 2, 3, 4, 5], [6])] [7] ?_ | refine dwX 7 [([0], [1])] [2] ?_)
      refine RM.of ?_
      repeat (first | refine goX ?_ | refine alX fun b => ?_ | refine dwX 6 [([0, 1, 2, 3, 4, 5], [6])] [7] ?_)
      refine RC.draw (id := 7) (ps := [([0], [1])]) (c2 := [2]) (hs1 := [one b2 _, one b3 _]) (hsL := [one b5 _, one b4 _, hB, ha]) mixed (by kernel_rfl) pmX ?_
      repeat (first | refine goX ?_ | refine alX fun b => ?_ | refine dwX 6 [([0, 1, 2, 3, 4, 5], [6])] [7] ?_ | refine dwX 7 [([0], [1])] [2] ?_)
      refine post_ret (hs' := [hB, ha]) [_, _] rfl ⟨res_cell 0 tb rfl rfl rfl rfl rfl, res_cell 1 tb rfl rfl rfl rfl rfl, rfl⟩ slX ?_
      rw [← hJ]
      exact ⟨_, _, ha, hB, rfl, ⟨none, 0, rfl, Nat.le_refl _, SlOf.nil _⟩, ⟨a, c, rfl, hc, hS.sub (by intro g hg; simp at hg; simp [hg])⟩, rfl⟩
    · refine ⟨.done, some .ret, [one b2 _, one b3 _, one b5 _, one b4 _, hB, ha], .ret, rfl, (fun e => by cases e), rfl, ?_⟩
      repeat (first | refine goX ?_ | refine alX fun b => ?_ | refine dwX 6 [([0, 1, 2, 3, 4, 5], [6])] [7] ?_ | refine dwX 7 [([0], [1])] [2] ?_)
      refine post_ret (hs' := [hB, ha]) [_, _] rfl ⟨res_cell 0 tb rfl rfl rfl rfl rfl, res_cell 1 tb rfl rfl rfl rfl rfl, rfl⟩ slX ?_
      exact ⟨_, _, ha, hB, rfl, hu, hv, rfl⟩
end Go.Proofs.YtonnncdolofccaaGreat

namespace Go.Proofs.YtonnncdolofccaaGreat
attribute [local irreducible] RC RO EvE DR OpV Fn SlOf OwnSl postQ Src Rows Rdb CellsAt thenQ blockQ noGotoQ
set_option linter.unusedSimpArgs false
set_option linter.unusedVariables false

/-- a reader: what is left, what is wrong -/
structure Rd where
  b : List UInt8
  e : Int
/-- a reader of one's own that panics at nothing -/
def IsRd (p : Value) (r : Rd) (h : Hp) : Prop := ∃ b a c hb, p = .pointer (some ⟨b, 0, none⟩) ∧ h = uni [one b (.cells [.slice a r.b.length c, .int .i64 r.e, .bool false].toArray 198 (0, 0)), hb] ∧
  Apart [one b (.cells [.slice a r.b.length c, .int .i64 r.e, .bool false].toArray 198 (0, 0)), hb] ∧ r.b.length ≤ c ∧ SlOf [hb] ByteR 1 a r.b
/-- .. that is read -/
def RdR (M : List Hp) (p : Value) (r : Rd) : Prop := ∃ b a c, p = .pointer (some ⟨b, 0, none⟩) ∧ CellsAt M ⟨b, 0, none⟩ [.slice a r.b.length c] ∧ CellsAt M ⟨b, 1, none⟩ [.int .i64 r.e] ∧ CellsAt M ⟨b, 2, none⟩ [.bool false] ∧ r.b.length ≤ c ∧ SlOf M ByteR 1 a r.b
theorem RdR.le {M M' : List Hp} (s : Le M M') {p : Value} {r : Rd} (h : RdR M p r) : RdR M' p r :=
  let ⟨b, a, c, e, c0, c1, c2, l, o⟩ := h; ⟨b, a, c, e, c0.le s, c1.le s, c2.le s, l, o.le s⟩
theorem IsRd.rd {p : Value} {r : Rd} {h : Hp} (o : IsRd p r h) : RdR [h] p r := by
  obtain ⟨b, a, c, hb, rfl, rfl, ap, g1, g2⟩ := o
  have L := Le.join ap
  have q := (rdb_one (M := [one b (.cells [.slice a r.b.length c, .int .i64 r.e, .bool false].toArray 198 (0, 0)), hb]) List.mem_cons_self).le L
  exact ⟨b, a, c, rfl, cellsAt_of q rfl, cellsAt_of q rfl, cellsAt_of q rfl, g1, g2.le ((Le.sub (by intro g hg; simp at hg; simp [hg])).trans L)⟩
theorem IsRd.ptr {p : Value} {r : Rd} {h : Hp} (o : IsRd p r h) : ∃ b, p = .pointer (some ⟨b, 0, none⟩) := let ⟨b, _, _, _, e, _⟩ := o; ⟨b, e⟩

theorem rnew_spec {x : List UInt8} {v : Value} {K : List Hp} (hv : BytesV K v x) (hb : x.length ≤ 140000000000000) : Fn Tryz.prog 104 [v] K [] fun r hs' => ∃ h, IsRd r ⟨x, 0⟩ h ∧ hs' = [h] := by
  obtain ⟨a, c, rfl, hc, hS⟩ := hv
  refine Fn.enter Tryz.func104 rfl rfl ?_; simp only [Tryz.ntmps104, argEnv, Nat.reduceAdd]
  repeat (first | refine goX ?_ | refine bxX fun b => ?_)
  refine o_appendBN tb rfl rfl rfl rfl rfl rfl rfl ⟨_, _, rfl, hc, hS⟩ sbX (by (try simp only [List.length_append, List.length_cons, List.length_nil]); omega) rfl ?_
  intro v5 hp5 o5
  obtain ⟨a6, c6, rfl, hc6, hS6⟩ := OwnOf.rows o5
  repeat (first | refine goX ?_ | refine bxX fun b => ?_)
  refine post_join (hs1 := [one _ _, hp5]) (junk := _) pmX fun hap => ?_
  refine post_ret (hs' := [_]) [_] rfl ⟨rfl, rfl⟩ slX ?_
  exact ⟨_, ⟨_, _, _, _, rfl, rfl, hap, hc6, hS6⟩, rfl⟩

theorem dead_spec {p : Value} {r : Rd} {K : List Hp} (h : RdR K p r) : Fn Tryz.prog 107 [p] K [] fun v hs' => v = .bool (!decide (r.e = 0)) ∧ hs' = [] := by
  obtain ⟨b, a, c, rfl, c0, c1, c2, l, o⟩ := h
  refine Fn.enter Tryz.func107 rfl rfl ?_; simp only [Tryz.ntmps107, argEnv, Nat.reduceAdd]
  repeat refine goX ?_
  refine post_ret (hs' := []) [_] rfl ⟨rfl, rfl⟩ (List.nil_sublist _) ?_
  exact ⟨rfl, rfl⟩

theorem fail_spec {p : Value} {r : Rd} {h : Hp} {K : List Hp} (ho : IsRd p r h) (e : Int) : Fn Tryz.prog 127 [p, .int .i64 e] K [h] fun v hs' => ∃ h', IsRd p ⟨r.b, e⟩ h' ∧ hs' = [h'] := by
  obtain ⟨b, a, c, hb, rfl, rfl, ap, g1, g2⟩ := ho
  refine Fn.imp (Imp.split0 ap) ?_
  refine Fn.enter Tryz.func127 rfl rfl ?_; simp only [Tryz.ntmps127, argEnv, Nat.reduceAdd]
  repeat refine goX ?_
  refine post_joinN (hs1 := [one _ _, hb]) (junk := _) pmX fun hap => ?_
  refine post_end (hs' := [_]) [] rfl rfl slX ?_
  exact ⟨_, ⟨_, _, _, _, rfl, rfl, hap, g1, g2⟩, rfl⟩

def pstep (n : Nat) (c : UInt8) : Nat := ((n * 256) % 18446744073709551616) ||| c.toNat
theorem pstep_lt (n : Nat) (c : UInt8) : pstep n c < 18446744073709551616 := Nat.or_lt_two_pow (n := 64) (Nat.mod_lt _ (by decide)) (by have := c.toNat_lt; omega)
def numF (b : List UInt8) : Nat := b.foldl pstep 0
/-- the number at the place, and the bytes that it takes; what is wrong -/
def peekF : List UInt8 → Int × Nat × Int
  | [] => (0, 0, 12)
  | k :: r => if 8 < k.toNat then (0, 0, 11) else if r.length < k.toNat then (0, 0, 12) else if 0 < k.toNat ∧ r[0]? = some 0 then (0, 0, 11) else (IntKind.wrap .i64 (numF (r.take k.toNat)), 1 + k.toNat, 0)
attribute [irreducible] pstep

theorem ibits_or64 (a b : Nat) (ha : a < 18446744073709551616) (hb : b < 18446744073709551616) : ibits .or .u64 (a : Int) (b : Int) = ((a ||| b : Nat) : Int) := by
  have h := Nat.or_lt_two_pow (n := 64) ha hb
  show IntKind.wrap .u64 ((BitVec.ofInt 64 a ||| BitVec.ofInt 64 b).toNat : Int) = _
  rw [BitVec.toNat_or, BitVec.ofInt_natCast, BitVec.ofInt_natCast, BitVec.toNat_ofNat, BitVec.toNat_ofNat, Nat.mod_eq_of_lt ha, Nat.mod_eq_of_lt hb, u64_wrap _ h]
theorem pstep_eq (n : Nat) (c : UInt8) : ibits .or .u64 (IntKind.wrap .u64 ((n : Int) * 2 ^ (min (Int.toNat 8) IntKind.u64.bits))) (c.toNat : Int) = ((pstep n c : Nat) : Int) := by
  have hc := c.toNat_lt
  rw [show (2 : Int) ^ (min (Int.toNat 8) IntKind.u64.bits) = ((256 : Nat) : Int) from rfl, u64_mul, ibits_or64 _ _ (Nat.mod_lt _ (by decide)) (by omega)]
  unfold pstep
  rfl

theorem peek_spec {p : Value} {r : Rd} {K : List Hp} (h : RdR K p r) (hb : r.b.length ≤ 140000000000000) : Fn Tryz.prog 126 [p] K [] fun v hs' => v = .tuple #[.int .i64 (peekF r.b).1, .int .i64 ((peekF r.b).2.1 : Nat), .int .i64 (peekF r.b).2.2] ∧ hs' = [] := by
  obtain ⟨b, a, c, rfl, c0, c1, c2, l, o⟩ := h
  obtain ⟨x, e⟩ := r
  simp only at c0 c1 l o hb ⊢
  cases x with
  | nil =>
    refine Fn.enter Tryz.func126 rfl rfl ?_; simp only [Tryz.ntmps126, argEnv, Nat.reduceAdd]
    repeat refine goX ?_
    refine post_ret (hs' := []) [_, _, _] rfl ⟨rfl, rfl, rfl, rfl⟩ (List.nil_sublist _) ?_
    exact ⟨rfl, rfl⟩
  | cons k rr =>
    obtain ⟨b1, off, vs, rfl, rfl, -, d0⟩ := o.get (i := 0) (x := k) rfl
    unfold byteV at d0
    have hk := k.toNat_lt
    have hl : (k :: rr).length = rr.length + 1 := List.length_cons
    generalize hn : (k :: rr).length = nn at *
    by_cases h8 : 8 < k.toNat
    · refine Fn.enter Tryz.func126 rfl rfl ?_; simp only [Tryz.ntmps126, argEnv, Nat.reduceAdd]
      repeat refine goX ?_
      refine post_ret (hs' := []) [_, _, _] rfl ⟨rfl, rfl, rfl, rfl⟩ (List.nil_sublist _) ?_
      have ef : peekF (k :: rr) = (0, 0, 11) := by simp [peekF, h8]
      rw [ef]
      exact ⟨rfl, rfl⟩
    by_cases h9 : rr.length < k.toNat
    · refine Fn.enter Tryz.func126 rfl rfl ?_; simp only [Tryz.ntmps126, argEnv, Nat.reduceAdd]
      repeat refine goX ?_
      refine post_ret (hs' := []) [_, _, _] rfl ⟨rfl, rfl, rfl, rfl⟩ (List.nil_sublist _) ?_
      have ef : peekF (k :: rr) = (0, 0, 12) := by simp [peekF, h8, h9]
      rw [ef]
      exact ⟨rfl, rfl⟩
    have Z : (0 < k.toNat ∧ rr[0]? = some 0) ∨ ¬ (0 < k.toNat ∧ rr[0]? = some 0) := Classical.em _
    rcases Z with ⟨z1, z2⟩ | Z
    · obtain ⟨b2, off2, vs, e2, rfl, -, d1⟩ := o.get (i := 1) (x := 0) z2
      cases e2
      unfold byteV at d1
      simp only [show UInt8.toNat 0 = 0 from rfl] at d1
      refine Fn.enter Tryz.func126 rfl rfl ?_; simp only [Tryz.ntmps126, argEnv, Nat.reduceAdd]
      repeat refine goX ?_
      refine post_ret (hs' := []) [_, _, _] rfl ⟨rfl, rfl, rfl, rfl⟩ (List.nil_sublist _) ?_
      have ef : peekF (k :: rr) = (0, 0, 11) := by simp [peekF, h8, h9, z1, z2]
      rw [ef]
      exact ⟨rfl, rfl⟩
    · have ef : peekF (k :: rr) = (IntKind.wrap .i64 (numF (rr.take k.toNat)), 1 + k.toNat, 0) := by simp only [peekF, if_neg h8, if_neg h9, if_neg Z]
      rw [ef]
      simp only
      have D : k.toNat = 0 ∨ ∃ r1, 0 < k.toNat ∧ rr[0]? = some r1 ∧ ¬ ((r1.toNat : Int) = 0) := by
        rcases Nat.eq_zero_or_pos k.toNat with h | h
        · exact .inl h
        · obtain ⟨r1, h1⟩ : ∃ y, rr[0]? = some y := ⟨_, List.getElem?_eq_getElem (by omega)⟩
          refine .inr ⟨r1, h, h1, fun hz => Z ⟨h, ?_⟩⟩
          rw [h1]; congr 1
          apply UInt8.toNat_inj.1
          rw [show UInt8.toNat 0 = 0 from rfl]; omega
      have et : ((k :: rr).take (1 + (k.toNat : Int)).toNat).drop (Int.toNat 1) = rr.take k.toNat := by
        rw [show (1 + (k.toNat : Int)).toNat = k.toNat + 1 by omega, List.take_succ_cons]; rfl
      have hyl : (rr.take k.toNat).length = k.toNat := by rw [List.length_take]; omega
      rcases D with h0 | ⟨r1, z1, z2, z3⟩
      case' inl =>
        refine Fn.enter Tryz.func126 rfl rfl ?_; simp only [Tryz.ntmps126, argEnv, Nat.reduceAdd]
        repeat refine goX ?_
      case' inr =>
        obtain ⟨b2, off2, vs, e2, rfl, -, d1⟩ := o.get (i := 1) (x := r1) z2
        cases e2
        unfold byteV at d1
        refine Fn.enter Tryz.func126 rfl rfl ?_; simp only [Tryz.ntmps126, argEnv, Nat.reduceAdd]
        repeat refine goX ?_
      all_goals
        refine o_sliceLH tb (R := ByteR) (sz := 1) rfl rfl rfl rfl rfl rfl o hn.symm (hn ▸ l) (by omega) (by omega) (by omega) rfl ?_
        intro a5 c5 hc5 hS5
        rw [et] at hc5 hS5 ⊢
        generalize hy : rr.take k.toNat = y at *
        repeat refine goX ?_
        refine RC.loopE (fun i : Nat => [(53, .int .i64 (i : Int)), (52, .int .i64 (y.length : Int)), (51, .slice a5 y.length c5), (6, .int .u64 (((y.take i).foldl pstep 0 : Nat) : Int)), (5, .int .i64 (k.toNat : Int))]) (fun _ => []) (fun i => i ≤ y.length) (fun i => y.length - i) 0 (by omega) leX (List.nil_sublist _) ?_
        intro i hi
        by_cases h2 : i = y.length
        · subst h2
          rw [List.take_length]
          repeat refine goX ?_
          refine post_ret (hs' := []) [_, _, _] rfl ⟨rfl, rfl, rfl, rfl⟩ (List.nil_sublist _) ?_
          exact ⟨rfl, rfl⟩
        · have hi2 : i < y.length := by omega
          repeat refine goX ?_
          have hb2 : y[i]? = some y[i] := List.getElem?_eq_getElem hi2
          refine o_indexAddr tb (R := _) (sz := 1) rfl rfl rfl rfl rfl hS5 (by omega) (by omega) (by first | exact hb2 | simpa using hb2) rfl ?_
          rintro b' off' vs rfl _ hcell
          unfold byteV at hcell
          have hlt := (y[i]).toNat_lt
          repeat refine goX ?_
          refine ⟨i + 1, by omega, by omega, EnvLe.cons rfl (EnvLe.cons rfl (EnvLe.cons rfl (EnvLe.cons ?_ (EnvLe.cons rfl (EnvLe.nil _))))), List.nil_sublist _⟩
          refine congrArg (fun z : Int => some (Value.int .u64 z)) (?_ : ibits .or .u64 (IntKind.wrap .u64 ((((y.take i).foldl pstep 0 : Nat) : Int) * 2 ^ (min (Int.toNat 8) IntKind.u64.bits))) ((y[i]).toNat : Int) = _)
          rw [pstep_eq, foldl_succ y i hi2]
end Go.Proofs.YtonnncdolofccaaGreat

namespace Go.Proofs.YtonnncdolofccaaGreat
attribute [local irreducible] RC RO EvE DR OpV Fn SlOf OwnSl postQ Src Rows Rdb CellsAt thenQ blockQ noGotoQ
set_option linter.unusedSimpArgs false
set_option linter.unusedVariables false

def rowF (r : Rd) : List UInt8 × Rd :=
  if r.e ≠ 0 then ([], r)
  else if (peekF r.b).2.2 ≠ 0 then ([], ⟨r.b, (peekF r.b).2.2⟩)
  else if (peekF r.b).1 < 0 ∨ 65536 < (peekF r.b).1 then ([], ⟨r.b, 11⟩)
  else if (r.b.length : Int) - ((peekF r.b).2.1 : Int) < (peekF r.b).1 then ([], ⟨r.b, 12⟩)
  else ((r.b.take ((peekF r.b).2.1 + (peekF r.b).1.toNat)).drop (peekF r.b).2.1, ⟨r.b.drop ((peekF r.b).2.1 + (peekF r.b).1.toNat), 0⟩)
def belowF (r : Rd) (m : Int) : Int × Rd :=
  if r.e ≠ 0 then (0, r)
  else if (peekF r.b).2.2 ≠ 0 then (0, ⟨r.b, (peekF r.b).2.2⟩)
  else if (peekF r.b).1 < 0 ∨ m ≤ (peekF r.b).1 then (0, ⟨r.b, 11⟩)
  else ((peekF r.b).1, ⟨r.b.drop (peekF r.b).2.1, 0⟩)
def truthF (r : Rd) : Bool × Rd :=
  if r.e ≠ 0 then (false, r) else match r.b with
  | [] => (false, ⟨r.b, 12⟩)
  | c :: x => if 1 < c.toNat then (false, ⟨r.b, 11⟩) else (decide (c.toNat = 1), ⟨x, 0⟩)
theorem peek_ok {x : List UInt8} (h : (peekF x).2.2 = 0) : 1 ≤ (peekF x).2.1 ∧ (peekF x).2.1 ≤ x.length := by
  unfold peekF at h ⊢
  split at h
  · simp at h
  · rename_i k r
    by_cases h1 : 8 < k.toNat
    · simp [h1] at h
    · by_cases h2 : r.length < k.toNat
      · simp [h1, h2] at h
      · by_cases h3 : 0 < k.toNat ∧ r[0]? = some 0
        · rw [if_neg h1, if_neg h2, if_pos h3] at h; simp at h
        · rw [if_neg h1, if_neg h2, if_neg h3]
          simp only [List.length_cons]
          omega

theorem post_joinE {P : Program} {ρ : Env} {K hs : List Hp} {fn : Func} {R : Value → List Hp → Prop} {hs1 junk : List Hp} (p : hs.Perm (hs1 ++ junk)) (h : Apart hs1 → postQ P K fn R .ret ρ [uni hs1, emp]) : postQ P K fn R .ret ρ hs :=
  post_know fun d => post_imp (Imp.joinP (hs2 := []) (junk := junk) p) (post_imp (Imp.emp _) (post_imp (Imp.perm (List.Perm.swap _ _ _)) (h (d.of p))))
theorem rdR_parts {b : Nat} {a : Option Addr} {c : Nat} {hb : Hp} {r : Rd} (g1 : r.b.length ≤ c) (g2 : SlOf [hb] ByteR 1 a r.b) : RdR [one b (.cells [.slice a r.b.length c, .int .i64 r.e, .bool false].toArray 198 (0, 0)), hb] (.pointer (some ⟨b, 0, none⟩)) r := by
  have q := rdb_one (M := [one b (.cells [.slice a r.b.length c, .int .i64 r.e, .bool false].toArray 198 (0, 0)), hb]) List.mem_cons_self
  exact ⟨b, a, c, rfl, cellsAt_of q rfl, cellsAt_of q rfl, cellsAt_of q rfl, g1, g2.sub (by intro g hg; simp at hg; simp [hg])⟩
theorem fail_parts {b : Nat} {a : Option Addr} {c : Nat} {hb : Hp} {r : Rd} {K : List Hp} (g1 : r.b.length ≤ c) (g2 : SlOf [hb] ByteR 1 a r.b) (e : Int) :
    Fn Tryz.prog 127 [.pointer (some ⟨b, 0, none⟩), .int .i64 e] K [one b (.cells [.slice a r.b.length c, .int .i64 r.e, .bool false].toArray 198 (0, 0)), hb] fun v hs' => ∃ h', IsRd (.pointer (some ⟨b, 0, none⟩)) ⟨r.b, e⟩ h' ∧ hs' = [h'] :=
  Fn.know fun ap => Fn.imp (Imp.joinP (hs2 := []) (junk := []) (by simp)) (fail_spec ⟨b, a, c, hb, rfl, rfl, ap, g1, g2⟩ e)

theorem rrow_spec {p : Value} {r : Rd} {h : Hp} {K : List Hp} (ho : IsRd p r h) (hx : r.b.length ≤ 140000000000000) : Fn Tryz.prog 106 [p] K [h] fun v hs' => ∃ h1 h2, OwnB 5 v (rowF r).1 h1 ∧ IsRd p (rowF r).2 h2 ∧ hs' = [h2, h1] := by
  obtain ⟨b0, a, c, hb, rfl, rfl, ap, g1, g2⟩ := ho
  have hr := rdR_parts (b := b0) g1 g2
  obtain ⟨x, e⟩ := r
  simp only at ap g1 g2 hr hx ⊢
  refine Fn.imp (Imp.split0 ap) ?_
  by_cases he : e = 0
  case neg =>
    have hF : rowF ⟨x, e⟩ = ([], ⟨x, e⟩) := by simp [rowF, he]
    rw [hF]
    refine Fn.enter Tryz.func106 rfl rfl ?_; simp only [Tryz.ntmps106, argEnv, Nat.reduceAdd]
    repeat refine goX ?_
    refine RO.call0 rfl rfl rfl Tryz.func107 rfl (by kernel_rfl) (dead_spec (hr.le (Le.sub (Sub.right _ _)))) ?_
    rintro v hs' ⟨rfl, rfl⟩
    simp only [he, decide_false, Bool.not_false]
    repeat refine goX ?_
    refine post_joinE (hs1 := [one b0 _, hb]) (junk := _) pmX fun hap => ?_
    refine post_ret (hs' := [_, emp]) [_] rfl ⟨rfl, rfl⟩ slX ?_
    exact ⟨_, _, OwnOf.nil _ _, ⟨_, _, _, _, rfl, rfl, hap, g1, g2⟩, rfl⟩
  subst he
  have hok := peek_ok (x := x)
  refine Fn.enter Tryz.func106 rfl rfl ?_; simp only [Tryz.ntmps106, argEnv, Nat.reduceAdd]
  repeat refine goX ?_
  refine RO.call0 rfl rfl rfl Tryz.func107 rfl (by kernel_rfl) (dead_spec (hr.le (Le.sub (Sub.right _ _)))) ?_
  rintro v hs' ⟨rfl, rfl⟩
  simp only [decide_true, Bool.not_true]
  repeat refine goX ?_
  refine RO.call0 rfl rfl rfl Tryz.func126 rfl (by kernel_rfl) (peek_spec (hr.le (Le.sub (Sub.right _ _))) hx) ?_
  rintro v hs' ⟨rfl, rfl⟩
  have hF : rowF ⟨x, 0⟩ = if (peekF x).2.2 ≠ 0 then ([], ⟨x, (peekF x).2.2⟩) else if (peekF x).1 < 0 ∨ 65536 < (peekF x).1 then ([], ⟨x, 11⟩) else if (x.length : Int) - ((peekF x).2.1 : Int) < (peekF x).1 then ([], ⟨x, 12⟩)
    else ((x.take ((peekF x).2.1 + (peekF x).1.toNat)).drop (peekF x).2.1, ⟨x.drop ((peekF x).2.1 + (peekF x).1.toNat), 0⟩) := by simp [rowF]
  simp only at hF ⊢
  generalize (peekF x).1 = n at *
  generalize (peekF x).2.1 = k at *
  generalize (peekF x).2.2 = e at *
  by_cases he : e = 0
  case neg =>
    rw [if_pos he] at hF
    repeat refine goX ?_
    refine RO.callF (hs1 := [one b0 _, hb]) (hs2 := []) rfl rfl rfl Tryz.func127 rfl (by kernel_rfl) (List.Perm.refl _) (fail_parts (r := ⟨x, 0⟩) g1 g2 e) ?_
    rintro v hs' ⟨h2, o2, rfl⟩
    repeat refine goX ?_
    refine post_imp (Imp.emp _) (post_imp (Imp.perm (List.Perm.swap _ _ _)) ?_)
    refine post_ret (hs' := [h2, emp]) [_] rfl ⟨rfl, rfl⟩ slX ?_
    rw [hF]
    exact ⟨_, _, OwnOf.nil _ _, o2, rfl⟩
  subst he
  obtain ⟨k1, k2⟩ := hok rfl
  rw [if_neg (by simp)] at hF
  by_cases hn : n < 0 ∨ 65536 < n
  · rw [if_pos hn] at hF
    have D : n < 0 ∨ (0 ≤ n ∧ 65536 < n) := by omega
    rcases D with D | ⟨D, D2⟩
    all_goals
      repeat refine goX ?_
      refine RO.callF (hs1 := [one b0 _, hb]) (hs2 := []) rfl rfl rfl Tryz.func127 rfl (by kernel_rfl) (List.Perm.refl _) (fail_parts (r := ⟨x, 0⟩) g1 g2 11) ?_
      rintro v hs' ⟨h2, o2, rfl⟩
      repeat refine goX ?_
      refine post_imp (Imp.emp _) (post_imp (Imp.perm (List.Perm.swap _ _ _)) ?_)
      refine post_ret (hs' := [h2, emp]) [_] rfl ⟨rfl, rfl⟩ slX ?_
      rw [hF]
      exact ⟨_, _, OwnOf.nil _ _, o2, rfl⟩
  have hn1 : 0 ≤ n := by omega
  have hn2 : n ≤ 65536 := by omega
  rw [if_neg hn] at hF
  by_cases hs : (x.length : Int) - (k : Int) < n
  · rw [if_pos hs] at hF
    repeat refine goX ?_
    refine RO.callF (hs1 := [one b0 _, hb]) (hs2 := []) rfl rfl rfl Tryz.func127 rfl (by kernel_rfl) (List.Perm.refl _) (fail_parts (r := ⟨x, 0⟩) g1 g2 12) ?_
    rintro v hs' ⟨h2, o2, rfl⟩
    repeat refine goX ?_
    refine post_imp (Imp.emp _) (post_imp (Imp.perm (List.Perm.swap _ _ _)) ?_)
    refine post_ret (hs' := [h2, emp]) [_] rfl ⟨rfl, rfl⟩ slX ?_
    rw [hF]
    exact ⟨_, _, OwnOf.nil _ _, o2, rfl⟩
  · rw [if_neg hs] at hF
    repeat refine goX ?_
    have et : ((k : Int) + n).toNat = k + n.toNat := by omega
    refine o_sliceLH tb (R := ByteR) (sz := 1) rfl rfl rfl rfl rfl rfl g2 rfl g1 (by omega) (by omega) (by omega) rfl ?_
    intro a5 c5 hc5 hS5
    rw [et, show Int.toNat (k : Int) = k from rfl] at hc5 hS5 ⊢
    have hl5 : ((x.take (k + n.toNat)).drop k).length ≤ 65536 := by rw [List.length_drop, List.length_take]; omega
    repeat refine goX ?_
    refine o_appendBN tb rfl rfl rfl rfl rfl rfl rfl ⟨_, _, rfl, hc5, hS5⟩ sbX (by (try simp only [List.length_append, List.length_cons, List.length_nil]); omega) rfl ?_
    intro v5 hp5 o5
    have o6 := o5
    obtain ⟨a6, c6, rfl, hc6, hS6⟩ := OwnOf.rows o6
    repeat refine goX ?_
    refine o_sliceL tb (R := ByteR) (sz := 1) rfl rfl rfl rfl rfl g2 rfl g1 (by omega) (by omega) rfl ?_
    intro a7 c7 hc7 hS7
    rw [et] at hc7 hS7 ⊢
    repeat refine goX ?_
    refine post_know fun hap => post_imp (Imp.join (hs1 := [one b0 _, hb]) (hs2 := [hp5]) pmX) ?_
    refine post_ret (hs' := [_, hp5]) [_] rfl ⟨rfl, rfl⟩ slX ?_
    rw [hF]
    exact ⟨_, _, o5, ⟨_, _, _, _, rfl, rfl, hap.of (junk := [_]) pmX, hc7, hS7⟩, rfl⟩
end Go.Proofs.YtonnncdolofccaaGreat

namespace Go.Proofs.YtonnncdolofccaaGreat
attribute [local irreducible] RC RO EvE DR OpV Fn SlOf OwnSl postQ Src Rows Rdb CellsAt thenQ blockQ noGotoQ
set_option linter.unusedSimpArgs false
set_option linter.unusedVariables false

theorem rbelow_spec {p : Value} {r : Rd} {h : Hp} {K : List Hp} (ho : IsRd p r h) (m : Int) (hx : r.b.length ≤ 140000000000000) : Fn Tryz.prog 147 [p, .int .i64 m] K [h] fun v hs' => ∃ h2, v = .int .i64 (belowF r m).1 ∧ IsRd p (belowF r m).2 h2 ∧ hs' = [h2] := by
  obtain ⟨b0, a, c, hb, rfl, rfl, ap, g1, g2⟩ := ho
  have hr := rdR_parts (b := b0) g1 g2
  obtain ⟨x, e⟩ := r
  simp only at ap g1 g2 hr hx ⊢
  refine Fn.imp (Imp.split0 ap) ?_
  by_cases he : e = 0
  case neg =>
    have hF : belowF ⟨x, e⟩ m = (0, ⟨x, e⟩) := by simp [belowF, he]
    rw [hF]
    refine Fn.enter Tryz.func147 rfl rfl ?_; simp only [Tryz.ntmps147, argEnv, Nat.reduceAdd]
    repeat refine goX ?_
    refine RO.call0 rfl rfl rfl Tryz.func107 rfl (by kernel_rfl) (dead_spec (hr.le (Le.sub (Sub.right _ _)))) ?_
    rintro v hs' ⟨rfl, rfl⟩
    simp only [he, decide_false, Bool.not_false]
    repeat refine goX ?_
    refine post_join (hs1 := [one b0 _, hb]) (junk := _) pmX fun hap => ?_
    refine post_ret (hs' := [_]) [_] rfl ⟨rfl, rfl⟩ slX ?_
    exact ⟨_, rfl, ⟨_, _, _, _, rfl, rfl, hap, g1, g2⟩, rfl⟩
  subst he
  have hok := peek_ok (x := x)
  refine Fn.enter Tryz.func147 rfl rfl ?_; simp only [Tryz.ntmps147, argEnv, Nat.reduceAdd]
  repeat refine goX ?_
  refine RO.call0 rfl rfl rfl Tryz.func107 rfl (by kernel_rfl) (dead_spec (hr.le (Le.sub (Sub.right _ _)))) ?_
  rintro v hs' ⟨rfl, rfl⟩
  simp only [decide_true, Bool.not_true]
  repeat refine goX ?_
  refine RO.call0 rfl rfl rfl Tryz.func126 rfl (by kernel_rfl) (peek_spec (hr.le (Le.sub (Sub.right _ _))) hx) ?_
  rintro v hs' ⟨rfl, rfl⟩
  have hF : belowF ⟨x, 0⟩ m = if (peekF x).2.2 ≠ 0 then (0, ⟨x, (peekF x).2.2⟩) else if (peekF x).1 < 0 ∨ m ≤ (peekF x).1 then (0, ⟨x, 11⟩) else ((peekF x).1, ⟨x.drop (peekF x).2.1, 0⟩) := by simp [belowF]
  simp only at hF ⊢
  generalize (peekF x).1 = n at *
  generalize (peekF x).2.1 = k at *
  generalize (peekF x).2.2 = e at *
  by_cases he : e = 0
  case neg =>
    rw [if_pos he] at hF
    repeat refine goX ?_
    refine RO.callF (hs1 := [one b0 _, hb]) (hs2 := []) rfl rfl rfl Tryz.func127 rfl (by kernel_rfl) (List.Perm.refl _) (fail_parts (r := ⟨x, 0⟩) g1 g2 e) ?_
    rintro v hs' ⟨h2, o2, rfl⟩
    repeat refine goX ?_
    refine post_ret (hs' := [h2]) [_] rfl ⟨rfl, rfl⟩ slX ?_
    rw [hF]
    exact ⟨_, rfl, o2, rfl⟩
  subst he
  obtain ⟨k1, k2⟩ := hok rfl
  rw [if_neg (by simp)] at hF
  by_cases hn : n < 0 ∨ m ≤ n
  · rw [if_pos hn] at hF
    have D : n < 0 ∨ (0 ≤ n ∧ m ≤ n) := by omega
    rcases D with D | ⟨D, D2⟩
    all_goals
      repeat refine goX ?_
      refine RO.callF (hs1 := [one b0 _, hb]) (hs2 := []) rfl rfl rfl Tryz.func127 rfl (by kernel_rfl) (List.Perm.refl _) (fail_parts (r := ⟨x, 0⟩) g1 g2 11) ?_
      rintro v hs' ⟨h2, o2, rfl⟩
      repeat refine goX ?_
      refine post_ret (hs' := [h2]) [_] rfl ⟨rfl, rfl⟩ slX ?_
      rw [hF]
      exact ⟨_, rfl, o2, rfl⟩
  have hn1 : 0 ≤ n := by omega
  have hn2 : n < m := by omega
  rw [if_neg hn] at hF
  repeat refine goX ?_
  refine o_sliceL tb (R := ByteR) (sz := 1) rfl rfl rfl rfl rfl g2 rfl g1 (by omega) (by omega) rfl ?_
  intro a7 c7 hc7 hS7
  rw [show Int.toNat (k : Int) = k from rfl] at hc7 hS7 ⊢
  repeat refine goX ?_
  refine post_join (hs1 := [one b0 _, hb]) (junk := _) pmX fun hap => ?_
  refine post_ret (hs' := [_]) [_] rfl ⟨rfl, rfl⟩ slX ?_
  rw [hF]
  exact ⟨_, rfl, ⟨_, _, _, _, rfl, rfl, hap, hc7, hS7⟩, rfl⟩

theorem rtruth_spec {p : Value} {r : Rd} {h : Hp} {K : List Hp} (ho : IsRd p r h) (hx : r.b.length ≤ 140000000000000) : Fn Tryz.prog 148 [p] K [h] fun v hs' => ∃ h2, v = .bool (truthF r).1 ∧ IsRd p (truthF r).2 h2 ∧ hs' = [h2] := by
  obtain ⟨b0, a, c, hb, rfl, rfl, ap, g1, g2⟩ := ho
  have hr := rdR_parts (b := b0) g1 g2
  obtain ⟨x, e⟩ := r
  simp only at ap g1 g2 hr hx ⊢
  refine Fn.imp (Imp.split0 ap) ?_
  by_cases he : e = 0
  case neg =>
    have hF : truthF ⟨x, e⟩ = (false, ⟨x, e⟩) := by simp [truthF, he]
    rw [hF]
    refine Fn.enter Tryz.func148 rfl rfl ?_; simp only [Tryz.ntmps148, argEnv, Nat.reduceAdd]
    repeat refine goX ?_
    refine RO.call0 rfl rfl rfl Tryz.func107 rfl (by kernel_rfl) (dead_spec (hr.le (Le.sub (Sub.right _ _)))) ?_
    rintro v hs' ⟨rfl, rfl⟩
    simp only [he, decide_false, Bool.not_false]
    repeat refine goX ?_
    refine post_join (hs1 := [one b0 _, hb]) (junk := _) pmX fun hap => ?_
    refine post_ret (hs' := [_]) [_] rfl ⟨rfl, rfl⟩ slX ?_
    exact ⟨_, rfl, ⟨_, _, _, _, rfl, rfl, hap, g1, g2⟩, rfl⟩
  subst he
  rcases Nat.eq_zero_or_pos x.length with h0 | h0
  · have hF : truthF ⟨x, 0⟩ = (false, ⟨x, 12⟩) := by rw [List.eq_nil_of_length_eq_zero h0]; simp [truthF]
    refine Fn.enter Tryz.func148 rfl rfl ?_; simp only [Tryz.ntmps148, argEnv, Nat.reduceAdd]
    repeat refine goX ?_
    refine RO.call0 rfl rfl rfl Tryz.func107 rfl (by kernel_rfl) (dead_spec (hr.le (Le.sub (Sub.right _ _)))) ?_
    rintro v hs' ⟨rfl, rfl⟩
    simp only [decide_true, Bool.not_true]
    repeat refine goX ?_
    refine RO.callF (hs1 := [one b0 _, hb]) (hs2 := []) rfl rfl rfl Tryz.func127 rfl (by kernel_rfl) (List.Perm.refl _) (fail_parts (r := ⟨x, 0⟩) g1 g2 12) ?_
    rintro v hs' ⟨h2, o2, rfl⟩
    repeat refine goX ?_
    refine post_ret (hs' := [h2]) [_] rfl ⟨rfl, rfl⟩ slX ?_
    rw [hF]
    exact ⟨_, rfl, o2, rfl⟩
  obtain ⟨k, hk⟩ : ∃ k, x[0]? = some k := ⟨_, List.getElem?_eq_getElem h0⟩
  have hxk : x = k :: x.drop 1 := by
    cases x with
    | nil => simp at h0
    | cons y ys => simp at hk; subst hk; rfl
  have hF : truthF ⟨x, 0⟩ = if 1 < k.toNat then (false, ⟨x, 11⟩) else (decide (k.toNat = 1), ⟨x.drop 1, 0⟩) := by
    conv => lhs; rw [hxk]
    simp only [truthF, ← hxk]
    simp
  obtain ⟨b1, off, vs, rfl, rfl, -, d0⟩ := g2.get hk
  unfold byteV at d0
  have d1 : CellsAt ([one b0 (.cells [.slice (some ⟨b1, off, none⟩) x.length c, .int .i64 0, .bool false].toArray 198 (0, 0)), hb]) ⟨b1, off + 0 * 1, none⟩ [Value.int .u8 (k.toNat : Int)] := d0.le (Le.sub (by intro g hg; simp at hg; simp [hg]))
  by_cases h1 : 1 < k.toNat
  · rw [if_pos h1] at hF
    refine Fn.enter Tryz.func148 rfl rfl ?_; simp only [Tryz.ntmps148, argEnv, Nat.reduceAdd]
    repeat refine goX ?_
    refine RO.call0 rfl rfl rfl Tryz.func107 rfl (by kernel_rfl) (dead_spec (hr.le (Le.sub (Sub.right _ _)))) ?_
    rintro v hs' ⟨rfl, rfl⟩
    simp only [decide_true, Bool.not_true]
    repeat refine goX ?_
    refine RO.callF (hs1 := [one b0 _, hb]) (hs2 := []) rfl rfl rfl Tryz.func127 rfl (by kernel_rfl) (List.Perm.refl _) (fail_parts (r := ⟨x, 0⟩) g1 g2 11) ?_
    rintro v hs' ⟨h2, o2, rfl⟩
    repeat refine goX ?_
    refine post_ret (hs' := [h2]) [_] rfl ⟨rfl, rfl⟩ slX ?_
    rw [hF]
    exact ⟨_, rfl, o2, rfl⟩
  · rw [if_neg h1] at hF
    refine Fn.enter Tryz.func148 rfl rfl ?_; simp only [Tryz.ntmps148, argEnv, Nat.reduceAdd]
    repeat refine goX ?_
    refine RO.call0 rfl rfl rfl Tryz.func107 rfl (by kernel_rfl) (dead_spec (hr.le (Le.sub (Sub.right _ _)))) ?_
    rintro v hs' ⟨rfl, rfl⟩
    simp only [decide_true, Bool.not_true]
    repeat refine goX ?_
    refine o_sliceL tb (R := ByteR) (sz := 1) rfl rfl rfl rfl rfl g2 rfl g1 (by omega) (by show 1 ≤ x.length; omega) rfl ?_
    intro a7 c7 hc7 hS7
    rw [show Int.toNat (1 : Int) = 1 from rfl] at hc7 hS7 ⊢
    repeat refine goX ?_
    refine post_join (hs1 := [one b0 _, hb]) (junk := _) pmX fun hap => ?_
    refine post_ret (hs' := [_]) [_] rfl ⟨rfl, rfl⟩ slX ?_
    rw [hF]
    refine ⟨_, ?_, ⟨_, _, _, _, rfl, rfl, hap, hc7, hS7⟩, rfl⟩
    simp only [pack]
    congr 1
    exact decide_eq_decide.2 (by omega)
end Go.Proofs.YtonnncdolofccaaGreat

namespace Go.Proofs.YtonnncdolofccaaGreat
attribute [local irreducible] RC RO EvE DR OpV Fn SlOf OwnSl postQ Src Rows Rdb CellsAt thenQ blockQ noGotoQ
set_option linter.unusedSimpArgs false
set_option linter.unusedVariables false

def failF (r : Rd) : Rd := if r.e = 0 then ⟨r.b, 11⟩ else r
def endF (r : Rd) : Int := if r.e ≠ 0 then r.e else if 0 < r.b.length then 11 else 0
theorem rFail_spec {p : Value} {r : Rd} {h : Hp} {K : List Hp} (ho : IsRd p r h) : Fn Tryz.prog 150 [p] K [h] fun v hs' => ∃ h2, IsRd p (failF r) h2 ∧ hs' = [h2] := by
  have hr := ho.rd
  obtain ⟨x, e⟩ := r
  by_cases he : e = 0
  · subst he
    have hF : failF ⟨x, 0⟩ = ⟨x, 11⟩ := by simp [failF]
    refine Fn.enter Tryz.func150 rfl rfl ?_; simp only [Tryz.ntmps150, argEnv, Nat.reduceAdd]
    repeat refine goX ?_
    refine RO.call0 rfl rfl rfl Tryz.func107 rfl (by kernel_rfl) (dead_spec (hr.le (Le.sub (Sub.right _ _)))) ?_
    rintro v hs' ⟨rfl, rfl⟩
    simp only [decide_true, Bool.not_true]
    repeat refine goX ?_
    refine RO.call1 0 rfl rfl rfl Tryz.func127 rfl (by kernel_rfl) rfl rfl (fail_spec ho 11) ?_
    rintro v hs' ⟨h2, o2, rfl⟩
    repeat refine goX ?_
    refine post_end (hs' := [h2]) [] rfl rfl slX ?_
    rw [hF]
    exact ⟨_, o2, rfl⟩
  · have hF : failF ⟨x, e⟩ = ⟨x, e⟩ := by simp [failF, he]
    refine Fn.enter Tryz.func150 rfl rfl ?_; simp only [Tryz.ntmps150, argEnv, Nat.reduceAdd]
    repeat refine goX ?_
    refine RO.call0 rfl rfl rfl Tryz.func107 rfl (by kernel_rfl) (dead_spec (hr.le (Le.sub (Sub.right _ _)))) ?_
    rintro v hs' ⟨rfl, rfl⟩
    simp only [he, decide_false, Bool.not_false]
    repeat refine goX ?_
    refine post_end (hs' := [h]) [] rfl rfl slX ?_
    rw [hF]
    exact ⟨_, ho, rfl⟩
theorem rFailed_spec {p : Value} {r : Rd} {K : List Hp} (h : RdR K p r) : Fn Tryz.prog 149 [p] K [] fun v hs' => v = .bool (!decide (r.e = 0)) ∧ hs' = [] := by
  refine Fn.enter Tryz.func149 rfl rfl ?_; simp only [Tryz.ntmps149, argEnv, Nat.reduceAdd]
  repeat refine goX ?_
  refine RO.call0 rfl rfl rfl Tryz.func107 rfl (by kernel_rfl) (dead_spec (h.le (Le.sub (Sub.left _ _)))) ?_
  rintro v hs' ⟨rfl, rfl⟩
  repeat refine goX ?_
  refine post_ret (hs' := []) [_] rfl ⟨rfl, rfl⟩ (List.nil_sublist _) ?_
  exact ⟨rfl, rfl⟩
theorem rEnd_spec {p : Value} {r : Rd} {K : List Hp} (h : RdR K p r) : Fn Tryz.prog 108 [p] K [] fun v hs' => v = .int .i64 (endF r) ∧ hs' = [] := by
  obtain ⟨b, a, c, rfl, c0, c1, c2, l, o⟩ := h
  obtain ⟨x, e⟩ := r
  simp only at c0 c1 l o ⊢
  by_cases he : e = 0
  · subst he
    rcases Nat.eq_zero_or_pos x.length with h0 | h0
    · have hF : endF ⟨x, 0⟩ = 0 := by simp [endF, h0]
      refine Fn.enter Tryz.func108 rfl rfl ?_; simp only [Tryz.ntmps108, argEnv, Nat.reduceAdd]
      repeat refine goX ?_
      refine post_ret (hs' := []) [_] rfl ⟨rfl, rfl⟩ (List.nil_sublist _) ?_
      rw [hF]; exact ⟨rfl, rfl⟩
    · have hF : endF ⟨x, 0⟩ = 11 := by simp only [endF]; rw [if_neg (by simp), if_pos h0]
      refine Fn.enter Tryz.func108 rfl rfl ?_; simp only [Tryz.ntmps108, argEnv, Nat.reduceAdd]
      repeat refine goX ?_
      refine post_ret (hs' := []) [_] rfl ⟨rfl, rfl⟩ (List.nil_sublist _) ?_
      rw [hF]; exact ⟨rfl, rfl⟩
  · have hF : endF ⟨x, e⟩ = e := by simp [endF, he]
    refine Fn.enter Tryz.func108 rfl rfl ?_; simp only [Tryz.ntmps108, argEnv, Nat.reduceAdd]
    repeat refine goX ?_
    refine post_ret (hs' := []) [_] rfl ⟨rfl, rfl⟩ (List.nil_sublist _) ?_
    rw [hF]; exact ⟨rfl, rfl⟩
theorem rLeft_spec {p : Value} {r : Rd} {K : List Hp} (h : RdR K p r) : Fn Tryz.prog 105 [p] K [] fun v hs' => v = .int .i64 (r.b.length : Int) ∧ hs' = [] := by
  obtain ⟨b, a, c, rfl, c0, c1, c2, l, o⟩ := h
  refine Fn.enter Tryz.func105 rfl rfl ?_; simp only [Tryz.ntmps105, argEnv, Nat.reduceAdd]
  repeat refine goX ?_
  refine post_ret (hs' := []) [_] rfl ⟨rfl, rfl⟩ (List.nil_sublist _) ?_
  exact ⟨rfl, rfl⟩

theorem rowF_len (r : Rd) : (rowF r).2.b.length ≤ r.b.length := by
  unfold rowF
  split
  · exact Nat.le_refl _
  split
  · exact Nat.le_refl _
  split
  · exact Nat.le_refl _
  split
  · exact Nat.le_refl _
  · simp only [List.length_drop]; omega
theorem belowF_len (r : Rd) (m : Int) : (belowF r m).2.b.length ≤ r.b.length := by
  unfold belowF
  split
  · exact Nat.le_refl _
  split
  · exact Nat.le_refl _
  split
  · exact Nat.le_refl _
  · simp only [List.length_drop]; omega
theorem truthF_len (r : Rd) : (truthF r).2.b.length ≤ r.b.length := by
  unfold truthF
  split
  · exact Nat.le_refl _
  split
  · exact Nat.le_refl _
  · rename_i h
    split
    · exact Nat.le_refl _
    · rw [h]; simp
def En.zero : En := ⟨[], Tg.zero, false, []⟩
def getF (r : Rd) : En × Rd :=
  let k := rowF r
  let s := belowF k.2 1099511627776
  let w := belowF s.2 1048576
  let o := belowF w.2 1048576
  let t := truthF o.2
  let v := if t.1 then rowF t.2 else ([], t.2)
  let e : En := ⟨k.1, ⟨s.1, w.1, o.1⟩, t.1, v.1⟩
  if v.2.e ≠ 0 ∨ right e = false then (En.zero, failF v.2) else (e, v.2)

theorem get_entry_spec {p : Value} {r : Rd} {h : Hp} {K : List Hp} (ho : IsRd p r h) (hx : r.b.length ≤ 140000000000000) : Fn Tryz.prog 128 [p] K [h] fun v hs' => ∃ h1 h2, OwnEn v (getF r).1 h1 ∧ IsRd p (getF r).2 h2 ∧ hs' = [h2, h1] := by
  obtain ⟨bp, rfl⟩ := ho.ptr
  have L1 := rowF_len r
  have L2 := belowF_len (rowF r).2 1099511627776
  have L3 := belowF_len (belowF (rowF r).2 1099511627776).2 1048576
  have L4 := belowF_len (belowF (belowF (rowF r).2 1099511627776).2 1048576).2 1048576
  have L5 := truthF_len (belowF (belowF (belowF (rowF r).2 1099511627776).2 1048576).2 1048576).2
  have hG : ∃ k s w o t, rowF r = k ∧ belowF k.2 1099511627776 = s ∧ belowF s.2 1048576 = w ∧ belowF w.2 1048576 = o ∧ truthF o.2 = t := ⟨_, _, _, _, _, rfl, rfl, rfl, rfl, rfl⟩
  obtain ⟨k, s, w, o, t, e1, e2, e3, e4, e5⟩ := hG
  simp only [getF, e1, e2, e3, e4, e5] at L1 L2 L3 L4 L5 ⊢
  refine Fn.enter Tryz.func128 rfl rfl ?_; simp only [Tryz.ntmps128, argEnv, Nat.reduceAdd]
  repeat (first | refine goX ?_ | refine alX fun b => ?_)
  refine RO.call1 2 rfl rfl rfl Tryz.func106 rfl (by kernel_rfl) rfl rfl (rrow_spec ho hx) ?_
  rw [e1]
  rintro v hs' ⟨h1, h2, o1, i1, rfl⟩
  have o1' := o1
  obtain ⟨a1, c1, rfl, hc1, hS1⟩ := OwnOf.rows o1'
  refine RO.ofV (v_toStr tb rfl o1.slV (by intro g hg; simp at hg; simp [hg]) rfl rfl rfl) rfl ?_
  repeat (first | refine goX ?_ | refine alX fun b => ?_)
  refine RO.call1 0 rfl rfl rfl Tryz.func147 rfl (by kernel_rfl) rfl rfl (rbelow_spec i1 _ (by omega)) ?_
  rw [e2]
  rintro v hs' ⟨h3, rfl, i2, rfl⟩
  repeat (first | refine goX ?_ | refine alX fun b => ?_)
  refine RO.call1 0 rfl rfl rfl Tryz.func147 rfl (by kernel_rfl) rfl rfl (rbelow_spec i2 _ (by omega)) ?_
  rw [e3]
  rintro v hs' ⟨h4, rfl, i3, rfl⟩
  repeat (first | refine goX ?_ | refine alX fun b => ?_)
  refine RO.call1 0 rfl rfl rfl Tryz.func147 rfl (by kernel_rfl) rfl rfl (rbelow_spec i3 _ (by omega)) ?_
  rw [e4]
  rintro v hs' ⟨h5, rfl, i4, rfl⟩
  repeat (first | refine goX ?_ | refine alX fun b => ?_)
  refine RO.call1 0 rfl rfl rfl Tryz.func148 rfl (by kernel_rfl) rfl rfl (rtruth_spec i4 (by omega)) ?_
  rw [e5]
  rintro v hs' ⟨h6, rfl, i5, rfl⟩
  repeat (first | refine goX ?_ | refine alX fun b => ?_)
  obtain ⟨tb, tr⟩ := t
  simp only at i5 L5 ⊢
  cases tb
  · simp only [Bool.false_eq_true, if_false]
    refine RC.imp ((Imp.emp _).trans (Imp.perm (List.Perm.swap _ _ _))) ?_
    obtain ⟨hv, ehv⟩ : ∃ hv : Hp, emp = hv := ⟨_, rfl⟩
    have ov : OwnB 5 (.slice none 0 0) [] hv := by rw [← ehv]; exact OwnOf.nil _ _
    have hcv : ([] : List UInt8).length ≤ 0 := Nat.le_refl _
    have hSv : SlOf [hv] ByteR 1 none ([] : List UInt8) := SlOf.nil _
    have ir := i5
    rw [ehv]
    repeat (first | refine goX ?_ | refine alX fun b => ?_)
    refine RO.call0 rfl rfl rfl Tryz.func149 rfl (by kernel_rfl) (rFailed_spec (ir.rd.le (Le.sub (by intro g hg; simp at hg; simp [hg])))) ?_
    rintro v hs' ⟨rfl, rfl⟩
    by_cases hz : tr.e = 0
    · simp only [hz, decide_true, Bool.not_true]
      repeat (first | refine goX ?_ | refine alX fun b => ?_)
      refine RO.call0 rfl rfl rfl Tryz.func32 rfl (by kernel_rfl) (right_spec ⟨k.1, ⟨s.1, w.1, o.1⟩, false, []⟩ _ _ ⟨_, rfl, _, _, rfl, hcv, hSv.sub (by intro g hg; simp at hg; simp [hg])⟩) ?_
      rintro v hs' ⟨rfl, rfl⟩
      by_cases hrt : right ⟨k.1, ⟨s.1, w.1, o.1⟩, false, []⟩ = true
      · simp only [hrt, if_true]
        repeat (first | refine goX ?_ | refine alX fun b => ?_)
        refine post_ret (hs' := [h6, hv]) [_] rfl ⟨res_cell 4 tb rfl rfl rfl rfl rfl, rfl⟩ slX ?_
        rw [if_neg (by simp [hz, hrt])]
        exact ⟨hv, h6, ⟨_, rfl, ov⟩, ir, rfl⟩
      · simp only [Bool.not_eq_true] at hrt
        simp only [hrt, Bool.false_eq_true, if_false]
        repeat (first | refine goX ?_ | refine alX fun b => ?_)
        refine RO.call1 0 rfl rfl rfl Tryz.func150 rfl (by kernel_rfl) rfl rfl (rFail_spec ir) ?_
        rintro v hs' ⟨h9, i9, rfl⟩
        repeat (first | refine goX ?_ | refine alX fun b => ?_)
        refine post_imp ((Imp.emp _).trans (Imp.perm (List.Perm.swap _ _ _))) ?_
        refine post_ret (hs' := [h9, emp]) [_] rfl ⟨res_cell 5 tb rfl rfl rfl rfl rfl, rfl⟩ slX ?_
        rw [if_pos (Or.inr (by first | exact hrt | trivial))]
        exact ⟨emp, h9, ⟨_, rfl, OwnOf.nil _ _⟩, i9, rfl⟩
    · simp only [hz, decide_false, Bool.not_false]
      repeat (first | refine goX ?_ | refine alX fun b => ?_)
      refine RO.call1 0 rfl rfl rfl Tryz.func150 rfl (by kernel_rfl) rfl rfl (rFail_spec ir) ?_
      rintro v hs' ⟨h9, i9, rfl⟩
      repeat (first | refine goX ?_ | refine alX fun b => ?_)
      refine post_imp ((Imp.emp _).trans (Imp.perm (List.Perm.swap _ _ _))) ?_
      refine post_ret (hs' := [h9, emp]) [_] rfl ⟨res_cell 5 tb rfl rfl rfl rfl rfl, rfl⟩ slX ?_
      rw [if_pos (.inl hz)]
      exact ⟨emp, h9, ⟨_, rfl, OwnOf.nil _ _⟩, i9, rfl⟩
  · simp only [if_true]
    repeat (first | refine goX ?_ | refine alX fun b => ?_)
    refine RO.call1 0 rfl rfl rfl Tryz.func106 rfl (by kernel_rfl) rfl rfl (rrow_spec i5 (by omega)) ?_
    generalize rowF tr = vv
    rintro v hs' ⟨hv, h6, ov, ir, rfl⟩
    have ov' := ov
    obtain ⟨av, cv, rfl, hcv, hSv⟩ := OwnOf.rows ov'
    repeat (first | refine goX ?_ | refine alX fun b => ?_)
    refine RO.call0 rfl rfl rfl Tryz.func149 rfl (by kernel_rfl) (rFailed_spec (ir.rd.le (Le.sub (by intro g hg; simp at hg; simp [hg])))) ?_
    rintro v hs' ⟨rfl, rfl⟩
    by_cases hz : vv.2.e = 0
    · simp only [hz, decide_true, Bool.not_true]
      repeat (first | refine goX ?_ | refine alX fun b => ?_)
      refine RO.call0 rfl rfl rfl Tryz.func32 rfl (by kernel_rfl) (right_spec ⟨k.1, ⟨s.1, w.1, o.1⟩, true, vv.1⟩ _ _ ⟨_, rfl, _, _, rfl, hcv, hSv.sub (by intro g hg; simp at hg; simp [hg])⟩) ?_
      rintro v hs' ⟨rfl, rfl⟩
      by_cases hrt : right ⟨k.1, ⟨s.1, w.1, o.1⟩, true, vv.1⟩ = true
      · simp only [hrt, if_true]
        repeat (first | refine goX ?_ | refine alX fun b => ?_)
        refine post_ret (hs' := [h6, hv]) [_] rfl ⟨res_cell 4 tb rfl rfl rfl rfl rfl, rfl⟩ slX ?_
        rw [if_neg (by simp [hz, hrt])]
        exact ⟨hv, h6, ⟨_, rfl, ov⟩, ir, rfl⟩
      · simp only [Bool.not_eq_true] at hrt
        simp only [hrt, Bool.false_eq_true, if_false]
        repeat (first | refine goX ?_ | refine alX fun b => ?_)
        refine RO.call1 0 rfl rfl rfl Tryz.func150 rfl (by kernel_rfl) rfl rfl (rFail_spec ir) ?_
        rintro v hs' ⟨h9, i9, rfl⟩
        repeat (first | refine goX ?_ | refine alX fun b => ?_)
        refine post_imp ((Imp.emp _).trans (Imp.perm (List.Perm.swap _ _ _))) ?_
        refine post_ret (hs' := [h9, emp]) [_] rfl ⟨res_cell 5 tb rfl rfl rfl rfl rfl, rfl⟩ slX ?_
        rw [if_pos (Or.inr (by first | exact hrt | trivial))]
        exact ⟨emp, h9, ⟨_, rfl, OwnOf.nil _ _⟩, i9, rfl⟩
    · simp only [hz, decide_false, Bool.not_false]
      repeat (first | refine goX ?_ | refine alX fun b => ?_)
      refine RO.call1 0 rfl rfl rfl Tryz.func150 rfl (by kernel_rfl) rfl rfl (rFail_spec ir) ?_
      rintro v hs' ⟨h9, i9, rfl⟩
      repeat (first | refine goX ?_ | refine alX fun b => ?_)
      refine post_imp ((Imp.emp _).trans (Imp.perm (List.Perm.swap _ _ _))) ?_
      refine post_ret (hs' := [h9, emp]) [_] rfl ⟨res_cell 5 tb rfl rfl rfl rfl rfl, rfl⟩ slX ?_
      rw [if_pos (.inl hz)]
      exact ⟨emp, h9, ⟨_, rfl, OwnOf.nil _ _⟩, i9, rfl⟩
end Go.Proofs.YtonnncdolofccaaGreat

namespace Go.Proofs.YtonnncdolofccaaGreat
attribute [local irreducible] RC RO EvE DR OpV Fn SlOf OwnSl postQ Src Rows Rdb CellsAt thenQ blockQ noGotoQ
set_option linter.unusedSimpArgs false
set_option linter.unusedVariables false

def readF (x : List UInt8) : En × Int := if endF (getF ⟨x, 0⟩).2 ≠ 0 then (En.zero, endF (getF ⟨x, 0⟩).2) else ((getF ⟨x, 0⟩).1, 0)
theorem read_spec {x : List UInt8} {v : Value} {K : List Hp} (hv : BytesV K v x) (hx : x.length ≤ 140000000000000) : Fn Tryz.prog 110 [v] K [] fun r hs' => ∃ u h, r = .tuple #[u, .int .i64 (readF x).2] ∧ OwnEn u (readF x).1 h ∧ hs' = [h] := by
  refine Fn.enter Tryz.func110 rfl rfl ?_; simp only [Tryz.ntmps110, argEnv, Nat.reduceAdd]
  repeat (first | refine goX ?_ | refine alX fun b => ?_)
  refine RO.call0 rfl rfl rfl Tryz.func104 rfl (by kernel_rfl) (rnew_spec (hv.sub (by intro g hg; simp [hg])) hx) ?_
  rintro v hs' ⟨hr, i1, rfl⟩
  repeat (first | refine goX ?_ | refine alX fun b => ?_)
  refine RO.call1 0 rfl rfl rfl Tryz.func128 rfl (by kernel_rfl) rfl rfl (get_entry_spec i1 hx) ?_
  rintro v hs' ⟨h1, h2, ⟨u, rfl, ou⟩, i2, rfl⟩
  have ou' := ou
  obtain ⟨a1, c1, rfl, hc1, hS1⟩ := OwnOf.rows ou'
  repeat (first | refine goX ?_ | refine alX fun b => ?_)
  refine RO.call0 rfl rfl rfl Tryz.func108 rfl (by kernel_rfl) (rEnd_spec (i2.rd.le (Le.sub (by intro g hg; simp at hg; simp [hg])))) ?_
  rintro v hs' ⟨rfl, rfl⟩
  unfold readF
  generalize getF ⟨x, 0⟩ = g at *
  by_cases he : endF g.2 = 0
  · simp only [he]
    repeat (first | refine goX ?_ | refine alX fun b => ?_)
    refine post_ret (hs' := [h1]) [_, _] rfl ⟨res_cell 3 tb rfl rfl rfl rfl rfl, rfl, rfl⟩ slX ?_
    exact ⟨_, _, rfl, ⟨_, rfl, ou⟩, rfl⟩
  · simp only [ne_eq, he, not_false_eq_true, if_true]
    repeat (first | refine goX ?_ | refine alX fun b => ?_)
    refine post_imp (Imp.emp _) ?_
    refine post_ret (hs' := [emp]) [_, _] rfl ⟨res_cell 4 tb rfl rfl rfl rfl rfl, rfl, rfl⟩ slX ?_
    exact ⟨_, _, rfl, ⟨_, rfl, OwnOf.nil _ _⟩, rfl⟩

theorem rowF_dec {r : Rd} (h : (rowF r).2.e = 0) : (rowF r).2.b.length < r.b.length := by
  unfold rowF at h ⊢
  by_cases h1 : r.e ≠ 0
  · rw [if_pos h1] at h; exact absurd h h1
  rw [if_neg h1] at h ⊢
  by_cases h2 : (peekF r.b).2.2 ≠ 0
  · rw [if_pos h2] at h; exact absurd h h2
  rw [if_neg h2] at h ⊢
  by_cases h3 : (peekF r.b).1 < 0 ∨ 65536 < (peekF r.b).1
  · rw [if_pos h3] at h; simp at h
  rw [if_neg h3] at h ⊢
  by_cases h4 : (r.b.length : Int) - ((peekF r.b).2.1 : Int) < (peekF r.b).1
  · rw [if_pos h4] at h; simp at h
  rw [if_neg h4]
  have := peek_ok (x := r.b) (by simpa using h2)
  simp only [List.length_drop]
  omega
def rowsF (r : Rd) : List (List UInt8) × Rd :=
  if r.b.length = 0 then ([], r) else if h : (rowF r).2.e ≠ 0 then ([], (rowF r).2) else ((rowF r).1 :: (rowsF (rowF r).2).1, (rowsF (rowF r).2).2)
termination_by r.b.length
decreasing_by all_goals exact rowF_dec (by simpa using h)
theorem rowsF_nil {r : Rd} (h : r.b.length = 0) : rowsF r = ([], r) := by rw [rowsF, if_pos h]
theorem rowsF_bad {r : Rd} (h : ¬ r.b.length = 0) (h2 : (rowF r).2.e ≠ 0) : rowsF r = ([], (rowF r).2) := by rw [rowsF, if_neg h, dif_pos h2]
theorem rowsF_step {r : Rd} (h : ¬ r.b.length = 0) (h2 : (rowF r).2.e = 0) : rowsF r = ((rowF r).1 :: (rowsF (rowF r).2).1, (rowsF (rowF r).2).2) := by rw [rowsF, if_neg h, dif_neg (by simpa using h2)]

theorem BsR.le {M M' : List Hp} (s : Le M M') {b : List UInt8} {vs : List Value} (h : BsR M b vs) : BsR M' b vs := let ⟨v, e, h⟩ := h; ⟨v, e, h.le s⟩

theorem rows_spec {x : List UInt8} {v : Value} {K : List Hp} (hv : BytesV K v x) (hx : x.length ≤ 100000000) : Fn Tryz.prog 78 [v] K [] fun r hs' =>
    if endF (rowsF ⟨x, 0⟩).2 = 0 then ∃ u ha hB, r = .tuple #[u, .int .i64 0] ∧ OwnOf (BsR [hB]) 33 1 u (rowsF ⟨x, 0⟩).1 ha ∧ hs' = [ha, hB] else r = .tuple #[.slice none 0 0, .int .i64 (endF (rowsF ⟨x, 0⟩).2)] ∧ hs' = [] := by
  refine Fn.enter Tryz.func78 rfl rfl ?_; simp only [Tryz.ntmps78, argEnv, Nat.reduceAdd]
  repeat (first | refine goX ?_ | refine bsX fun b => ?_)
  refine RO.call0 rfl rfl rfl Tryz.func104 rfl (by kernel_rfl) (rnew_spec (hv.sub (by intro g hg; simp [hg])) (by omega)) ?_
  rintro v hs' ⟨hr, i1, rfl⟩
  obtain ⟨bp, rfl⟩ := i1.ptr
  repeat (first | refine goX ?_ | refine bsX fun b => ?_)
  refine RC.emp (RC.emp ?_)
  refine RC.loopI (fun s : Rd × List (List UInt8) × Value × Hp × Hp × Hp => [(5, .pointer (some ⟨bp, 0, none⟩)), (4, s.2.2.1)]) (fun s => [s.2.2.2.1, s.2.2.2.2.1, s.2.2.2.2.2])
    (fun s => s.2.1.length + s.1.b.length ≤ x.length ∧ rowsF ⟨x, 0⟩ = (s.2.1 ++ (rowsF s.1).1, (rowsF s.1).2) ∧ IsRd (.pointer (some ⟨bp, 0, none⟩)) s.1 s.2.2.2.2.2 ∧ OwnOf (BsR [s.2.2.2.2.1]) 33 1 s.2.2.1 s.2.1 s.2.2.2.1) (fun s => s.1.b.length)
    (⟨x, 0⟩, [], _, emp, emp, hr) ⟨by simp, by simp, i1, OwnOf.nil _ _⟩ leX (Imp.sublist (List.Sublist.refl _)) ?_
  rintro ⟨r, l, u, ha, hB, hr⟩ ⟨hl, h2, ir, ou⟩
  simp only at hl h2 ir ou ⊢
  repeat (first | refine goX ?_ | refine bsX fun b => ?_)
  refine RO.call0 rfl rfl rfl Tryz.func105 rfl (by kernel_rfl) (rLeft_spec (ir.rd.le (Le.sub (by intro g hg; simp at hg; simp [hg])))) ?_
  rintro v hs' ⟨rfl, rfl⟩
  by_cases h0 : r.b.length = 0
  · rw [rowsF_nil h0] at h2
    repeat (first | refine goX ?_ | refine bsX fun b => ?_)
    refine RO.call0 rfl rfl rfl Tryz.func108 rfl (by kernel_rfl) (rEnd_spec (ir.rd.le (Le.sub (by intro g hg; simp at hg; simp [hg])))) ?_
    rintro v hs' ⟨rfl, rfl⟩
    by_cases he : endF r = 0
    · simp only [he]
      repeat (first | refine goX ?_ | refine bsX fun b => ?_)
      refine post_ret (hs' := [ha, hB]) [_, _] rfl ⟨rfl, rfl, rfl⟩ slX ?_
      rw [h2, if_pos he]
      exact ⟨_, _, _, rfl, by simpa using ou, rfl⟩
    · repeat (first | refine goX ?_ | refine bsX fun b => ?_)
      refine post_ret (hs' := []) [_, _] rfl ⟨rfl, rfl, rfl⟩ (List.nil_sublist _) ?_
      rw [h2, if_neg he]
      exact ⟨rfl, rfl⟩
  · repeat (first | refine goX ?_ | refine bsX fun b => ?_)
    refine RO.call1 2 rfl rfl rfl Tryz.func106 rfl (by kernel_rfl) rfl rfl (rrow_spec ir (by omega)) ?_
    rintro v hs' ⟨hy, hr2, oy, ir2, rfl⟩
    repeat (first | refine goX ?_ | refine bsX fun b => ?_)
    refine RO.call0 rfl rfl rfl Tryz.func107 rfl (by kernel_rfl) (dead_spec (ir2.rd.le (Le.sub (by intro g hg; simp at hg; simp [hg])))) ?_
    rintro v hs' ⟨rfl, rfl⟩
    by_cases hd : (rowF r).2.e = 0
    · have hdec := rowF_dec hd
      rw [rowsF_step h0 hd] at h2
      simp only [hd, decide_true, Bool.not_true]
      have oy' := oy
      obtain ⟨ay, cy, rfl, hcy, hSy⟩ := OwnOf.rows oy'
      repeat (first | refine goX ?_ | refine bsX fun b => ?_)
      refine RO.know fun hap => ?_
      have dd : Apart [hy, hB] := hap.of (junk := [_, _, _]) pmX
      have hsr : SlV [one b (.cells [.slice ay (rowF r).1.length cy].toArray 33 (0, 0))] (BsR [uni [hy, hB]]) 1 (.slice (some ⟨b, 0, none⟩) 1 1) [(rowF r).1] :=
        ⟨_, _, rfl, Nat.le_refl _, slOf_one (List.mem_singleton.2 rfl) (rows_c1 ⟨_, rfl, _, _, rfl, hcy, hSy.le ((Le.sub (by intro g hg; simp at hg; simp [hg])).trans (Le.join dd))⟩ rows_nil)⟩
      refine o_appendO 3 tb rfl rfl (ou.mono (R' := BsR [uni [hy, hB]]) fun _ _ h => BsR.le ((Le.sub (by intro g hg; simp at hg; simp [hg])).trans (Le.join dd)) h) rfl rfl rfl rfl rfl rfl hsr (by intro g hg; rw [List.mem_singleton.1 hg]; exact List.mem_append_right _ (List.mem_of_getElem? (i := 0) rfl)) (fun r vs h => BsR.one r vs h) ?_ rfl ?_
      · show (2 * (l.length + 1) + 192) * 24 ≤ _
        omega
      intro v' ha' o'
      repeat (first | refine goX ?_ | refine bsX fun b => ?_)
      refine ⟨((rowF r).2, l ++ [(rowF r).1], v', ha', uni [hy, hB], hr2), ⟨by simp only [List.length_append, List.length_singleton]; omega, by rw [h2]; simp, ir2, o'⟩, hdec, leX, ?_⟩
      exact (Imp.joinP (hs1 := [hy, hB]) (hs2 := [hr2, ha']) (junk := [_]) pmX).trans (Imp.take (junk := []) pmX)
    · rw [rowsF_bad h0 hd] at h2
      simp only [hd, decide_false, Bool.not_false]
      repeat (first | refine goX ?_ | refine bsX fun b => ?_)
      refine RO.call0 rfl rfl rfl Tryz.func108 rfl (by kernel_rfl) (rEnd_spec (ir2.rd.le (Le.sub (by intro g hg; simp at hg; simp [hg])))) ?_
      rintro v hs' ⟨rfl, rfl⟩
      have he : ¬ endF (rowF r).2 = 0 := by simp only [endF]; rw [if_pos hd]; exact hd
      repeat (first | refine goX ?_ | refine bsX fun b => ?_)
      refine post_ret (hs' := []) [_, _] rfl ⟨rfl, rfl, rfl⟩ (List.nil_sublist _) ?_
      rw [h2, if_neg he]
      exact ⟨rfl, rfl⟩
end Go.Proofs.YtonnncdolofccaaGreat

namespace Go.Proofs.YtonnncdolofccaaGreat

/-- a map's entries -/
def MpE (M : List Hp) : List En → List MapEntry → Prop
  | [], [] => True
  | e :: es, m :: ms => m.key = .string (str e.key) ∧ EnV M m.val e ∧ MpE M es ms
  | _, _ => False
theorem EnR.le {M M' : List Hp} (s : Le M M') {e : En} {vs : List Value} (h : EnR M e vs) : EnR M' e vs := let ⟨a, c, e1, l, h⟩ := h; ⟨a, c, e1, l, h.le s⟩
theorem EnV.le {M M' : List Hp} (s : Le M M') {e : En} {v : Value} (h : EnV M v e) : EnV M' v e := let ⟨v, e1, h⟩ := h; ⟨v, e1, h.le s⟩
theorem MpE.le {M M' : List Hp} (s : Le M M') : ∀ {es : List En} {ms : List MapEntry}, MpE M es ms → MpE M' es ms
  | [], [], _ => trivial
  | _ :: _, _ :: _, h => ⟨h.1, h.2.1.le s, h.2.2.le s⟩
/-- a map's entries, with their stamps -/
def MpR (M : List Hp) (es : List En) (ents : Array MapEntry) (clock : Nat) : Prop := MpE M es ents.toList ∧ MapKept.Stamped ents clock
theorem MpR.le {M M' : List Hp} (s : Le M M') {es : List En} {ents : Array MapEntry} {clock : Nat} (h : MpR M es ents clock) : MpR M' es ents clock := ⟨h.1.le s, h.2⟩
theorem MpR.nil (M : List Hp) : MpR M [] #[] 0 := ⟨trivial, MapKept.stamped_empty 0⟩
theorem MpE.len {M : List Hp} : ∀ {es : List En} {ms : List MapEntry}, MpE M es ms → es.length = ms.length
  | [], [], _ => rfl
  | _ :: _, _ :: _, h => by rw [List.length_cons, List.length_cons, MpE.len h.2.2]
theorem MpE.keys {M : List Hp} : ∀ {es : List En} {ms : List MapEntry}, MpE M es ms → ms.map (·.key) = es.map fun e => .string (str e.key)
  | [], [], _ => rfl
  | _ :: _, _ :: _, h => by rw [List.map_cons, List.map_cons, MpE.keys h.2.2, h.1]
theorem MpE.notIn {M : List Hp} : ∀ {es : List En} {ms : List MapEntry} {k : List UInt8}, MpE M es ms → es.find? (fun e => decide (e.key = k)) = none → ∀ m, m ∈ ms → m.key ≠ .string (str k)
  | [], [], _, _, _, _, hm => by cases hm
  | e :: es, m :: ms, k, h, hf, x, hx => by
    have hne : ¬ e.key = k := fun h2 => by simp [h2] at hf
    have hf2 : es.find? (fun e => decide (e.key = k)) = none := by simpa [hne] using hf
    rcases List.mem_cons.1 hx with rfl | hx
    · rw [h.1]; intro e2
      injection e2 with e2
      unfold str at e2
      injection e2 with e2
      exact hne (by simpa using congrArg Array.toList e2)
    · exact MpE.notIn h.2.2 hf2 x hx
def findE (es : List En) (k : List UInt8) : Option En := es.find? fun e => decide (e.key = k)
theorem str_inj {a b : List UInt8} (h : str a = str b) : a = b := by
  unfold str at h
  injection h with h
  have := congrArg Array.toList h
  simpa using this
theorem str_beq (a b : List UInt8) : (str a == str b) = decide (a = b) := by
  have h : (str a == str b) = (a.toArray == b.toArray) := rfl
  rw [h]
  by_cases e : a = b
  · subst e; simp
  · simp [e]
/-- where a key stands -/
theorem findNow_spec {M : List Hp} (k : List UInt8) : ∀ (es : List En) (ms : List MapEntry) (i : Nat), MpE M es ms →
    (findE es k = none ∧ Instr.findNow .string (.string (str k)) ms i = some none) ∨
    (∃ j e m, findE es k = some e ∧ Instr.findNow .string (.string (str k)) ms i = some (some (i + j, m.val)) ∧ es[j]? = some e ∧ ms[j]? = some m ∧ EnV M m.val e ∧ e.key = k ∧ m.key = .string (str k))
  | [], [], i, _ => .inl ⟨rfl, rfl⟩
  | e :: es, m :: ms, i, ⟨h1, h2, h3⟩ => by
    by_cases hk : e.key = k
    · refine .inr ⟨0, e, m, by simp [findE, hk], ?_, rfl, rfl, h2, hk, by rw [h1, hk]⟩
      simp only [Instr.findNow, h1, Instr.sameNow, str_beq, hk, decide_true, Nat.add_zero]
    · have hne : decide (k = e.key) = false := by simpa using fun h => hk h.symm
      rcases findNow_spec k es ms (i + 1) h3 with ⟨a1, a2⟩ | ⟨j, e', m', a1, a2, a3, a4, a5, a6, a7⟩
      · left
        refine ⟨by simpa [findE, hk] using a1, ?_⟩
        simp only [Instr.findNow, h1, Instr.sameNow, str_beq, hne]
        exact a2
      · right
        refine ⟨j + 1, e', m', by simpa [findE, hk] using a1, ?_, a3, a4, a5, a6, a7⟩
        simp only [Instr.findNow, h1, Instr.sameNow, str_beq, hne]
        rw [a2, show i + 1 + j = i + (j + 1) by omega]

section
variable {P : Program} {tab : Tab} {n : Nat} {ops : Array Oper} {rest : List Oper} {ρ : Env} {K hs M : List Hp} {Q : Env → List Hp → Prop} {d : Nat} {ty : TypeId} {pos : String} {after : Array Edge}
def lookV (ok : Bool) (v : Value) (b : Bool) : Value := if ok then .tuple #[v, .bool b] else v
def LookR (M : List Hp) (es : List En) (k : List UInt8) (z v : Value) : Prop := match findE es k with
  | some e => EnV M v e ∧ e.key = k
  | none => v = z
theorem run_getMap {M : List Hp} {b : Nat} {ents : Array MapEntry} {clock : Nat} (hr : Rdb M b (.map ents clock)) {w : World} (hm : MOk M w) : (getObj b).run P w = .ok (.map ents clock) w := by
  have e := hm b _ hr
  simp only [Go.getObj, Sem.run, e]
theorem ex_lookup (ht : TabOk P tab) {T Kt E : TypeId} {ie : TI} {x y : Operand} {b : Nat} {ents : Array MapEntry} {clock : Nat} {es : List En} {k : List UInt8} {ok : Bool} {M' : List Hp} (hx : evalO ρ x = some (.map (some b))) (hy : evalO ρ y = some (.string (str k)))
    (hT : undOf tab T = some (.map Kt E)) (hK : undOf tab Kt = some .string) (hE : lkT tab E = some ie) (hr : Rdb M b (.map ents clock)) (hm : MpR M' es ents clock) :
    ∃ v, LookR M' es k ie.zero v ∧ OpV P n ρ M ⟨some d, .lookup T x y ok, ty, pos, after, none⟩ (lookV ok v (findE es k).isSome) := by
  have key : ∀ v b', (∀ w, MOk M w → (Instr.lookup T (.map (some b)) (.string (str k)) ok).run P w = .ok (lookV ok v b') w) → OpV P n ρ M ⟨some d, .lookup T x y ok, ty, pos, after, none⟩ (lookV ok v b') := fun v b' h =>
    OpV.r (s := Instr.lookup T (.map (some b)) (.string (str k)) ok) (fun e he => by simp only [execOp, he.eval hx, he.eval hy]) h
  have hck0 : ∀ m em w, (Instr.checkKey em (m + 1) Kt (.string (str k))).run P w = .ok () w := fun m em w => by
    simp [Instr.checkKey, underlying, undOf_run ht hK]
  have hck : ∀ em w, (Instr.checkKey em 10000 Kt (.string (str k))).run P w = .ok () w := fun em w => hck0 9999 em w
  rcases findNow_spec k es ents.toList 0 hm.1 with ⟨a1, a2⟩ | ⟨j, e, m, a1, a2, a3, a4, a5, a6, a7⟩
  · refine ⟨ie.zero, by simp [LookR, a1], key _ _ fun w hw => ?_⟩
    have hg := run_getMap (P := P) hr hw
    have hz := (ht E ie hE).run_zero w
    simp only [a1, Option.isSome_none]
    cases ok <;> simp [Instr.lookup, Instr.findKey, underlying, undOf_run ht hT, undOf_run ht hK, hg, hck, a2, hz, lookV]
  · refine ⟨m.val, by simp [LookR, a1, a5, a6], key _ _ fun w hw => ?_⟩
    have hg := run_getMap (P := P) hr hw
    simp only [a1, Option.isSome_some]
    cases ok <;> simp [Instr.lookup, Instr.findKey, underlying, undOf_run ht hT, undOf_run ht hK, hg, hck, a2, lookV]
/-- an entry is laid -/
def updE : List En → En → List En
  | [], e => [e]
  | x :: xs, e => if x.key = e.key then e :: xs else x :: updE xs e
theorem updE_none {M : List Hp} {e : En} {m : MapEntry} (hk : m.key = .string (str e.key)) (hv : EnV M m.val e) : ∀ (es : List En) (ms : List MapEntry), MpE M es ms → findE es e.key = none → MpE M (updE es e) (ms ++ [m])
  | [], [], _, _ => ⟨hk, hv, trivial⟩
  | x :: es, m' :: ms, ⟨h1, h2, h3⟩, hf => by
    have hne : ¬ x.key = e.key := fun h => by simp [findE, h] at hf
    have hf2 : findE es e.key = none := by simpa [findE, hne] using hf
    simp only [updE, if_neg hne, List.cons_append]
    exact ⟨h1, h2, updE_none hk hv es ms h3 hf2⟩
theorem updE_some {M : List Hp} {e : En} {s : List UInt8} {v key : Value} (hs : s = e.key) (hk : key = .string (str s)) (hv : EnV M v e) : ∀ (es : List En) (ms : List MapEntry) (i j : Nat) (u : Value), MpE M es ms → Instr.findNow .string (.string (str s)) ms i = some (some (i + j, u)) → MpE M (updE es e) (ms.modify j fun m => { m with key := key, val := v })
  | [], [], i, j, u, _, hf => by simp [Instr.findNow] at hf
  | x :: es, m' :: ms, i, j, u, ⟨h1, h2, h3⟩, hf => by
    subst hs
    by_cases hx : x.key = e.key
    · simp only [Instr.findNow, h1, Instr.sameNow, str_beq, hx, decide_true, Option.some.injEq, Prod.mk.injEq] at hf
      have : j = 0 := by omega
      subst this
      simp only [updE, if_pos hx, List.modify_zero_cons]
      exact ⟨hk, hv, h3⟩
    · have hne : decide (e.key = x.key) = false := by simpa using fun h => hx h.symm
      simp only [Instr.findNow, h1, Instr.sameNow, str_beq, hne] at hf
      cases j with
      | zero =>
        exfalso
        rcases findNow_spec e.key es ms (i + 1) h3 with ⟨_, a2⟩ | ⟨j', _, _, _, a2, _⟩
        · rw [a2] at hf; cases hf
        · rw [a2] at hf
          simp only [Option.some.injEq, Prod.mk.injEq] at hf
          omega
      | succ j =>
        simp only [updE, if_neg hx, List.modify_succ_cons]
        exact ⟨h1, h2, updE_some rfl hk hv es ms (i + 1) j u h3 (by rw [hf, show i + 1 + j = i + (j + 1) by omega])⟩
theorem o_mapUpdate (j : Nat) (ht : TabOk P tab) {T Kt E : TypeId} {x y z : Operand} {b : Nat} {ents : Array MapEntry} {clock : Nat} {es : List En} {e : En} {v : Value} {M' : List Hp} (hx : evalO ρ x = some (.map (some b))) (hy : evalO ρ y = some (.string (str e.key))) (hz : evalO ρ z = some v)
    (hj : hs[j]? = some (one b (.map ents clock))) (hT : undOf tab T = some (.map Kt E)) (hK : undOf tab Kt = some .string) (hm : MpR M' es ents clock) (hv : EnV M' v e)
    (h : ∀ ents' clock', MpR M' (updE es e) ents' clock' → RO P n ops rest ρ K (hs.set j (one b (.map ents' clock'))) Q) :
    RO P n ops (⟨none, .mapUpdate T x y z, ty, pos, after, none⟩ :: rest) ρ K hs Q := by
  refine RO.act (s := Instr.mapUpdate T (.map (some b)) (.string (str e.key)) v) (fun a ha => by simp only [execOp, ha.eval hx, ha.eval hy, ha.eval hz]) ?_
  have hck0 : ∀ m em w, (Instr.checkKey em (m + 1) Kt (.string (str e.key))).run P w = .ok () w := fun m em w => by
    simp [Instr.checkKey, underlying, undOf_run ht hK]
  have hr : Rdb (K ++ hs) b (.map ents clock) := ⟨_, List.mem_append_right _ (List.mem_of_getElem? hj), one_self _ _⟩
  unfold Instr.mapUpdate
  refine .bind (.known (a := .map Kt E) (fun w => by simp [underlying, undOf_run ht hT]) ?_)
  refine .bind (.getObj hr (fun _ _ _ h => by cases h) ?_)
  refine .bind (.known (a := ()) (fun w => hck0 9999 false w) ?_)
  rcases findNow_spec e.key es ents.toList 0 hm.1 with ⟨a1, a2⟩ | ⟨i, e', m, a1, a2, a3, a4, a5, a6, a7⟩
  · refine .bind (.known (a := none) (fun w => by simp [Instr.findKey, underlying, undOf_run ht hK, a2]) ?_)
    refine SemT.setObj hj (fun _ _ _ h => by cases h) (h _ _ ?_)
    refine ⟨?_, MapKept.stamped_push hm.2 fun x hx => hm.1.notIn a1 x hx⟩
    rw [Array.toList_push]
    exact updE_none rfl hv es _ hm.1 a1
  · refine .bind (.known (a := some (0 + i, m.val)) (fun w => by simp [Instr.findKey, underlying, undOf_run ht hK, a2]) ?_)
    have hold : ((ents[0 + i]?).map (·.key)).getD (.string (str e.key)) = .string (str e.key) := by
      rw [Nat.zero_add, ← Array.getElem?_toList, a4]; simp [a7]
    simp only [hold]
    refine .bind (.known (a := .string (str e.key)) (fun w => by simp [Instr.keyThatStays, Instr.sameBits, str_beq]) ?_)
    refine SemT.setObj hj (fun _ _ _ h => by cases h) (h _ _ ?_)
    refine ⟨?_, MapKept.stamped_modify hm.2 _ _ (fun _ _ => rfl) fun x hx hix => ?_⟩
    · rw [Array.toList_modify]
      exact updE_some rfl rfl hv es _ 0 (0 + i) m.val hm.1 (by rw [a2]; simp)
    · rw [Nat.zero_add, ← Array.getElem?_toList, a4] at hix
      cases hix; exact a7.symm
theorem o_makeMap {T : TypeId} (hd : Nat.blt d n = true) (h : ∀ b, RO P n ops rest ((d, .map (some b)) :: ρ) K (one b (.map #[] 0) :: hs) Q) :
    RO P n ops (⟨some d, .makeMap T none, ty, pos, after, none⟩ :: rest) ρ K hs Q := by
  refine RO.val (s := Instr.makeMap T none) hd (fun e he => by simp only [execOp, Option.map_none]) ?_
  unfold Instr.makeMap
  refine .bind (.newObj fun b => ?_)
  exact .pure (h b)
end
end Go.Proofs.YtonnncdolofccaaGreat

namespace Go.Proofs.YtonnncdolofccaaGreat
section
variable {P : Program} {tab : Tab} {n : Nat} {ops : Array Oper} {rest : List Oper} {ρ : Env} {K hs M : List Hp} {Q : Env → List Hp → Prop} {d : Nat} {ty : TypeId} {pos : String} {after : Array Edge}
theorem RO.callExt {f : Nat} {args : List Operand} {vs : List Value} {ats : Array TypeId} {fn : Func} {e : Array Value → Sem Value} {x : Operand}
    (hx : evalO ρ x = some (.func (.func f) #[] #[])) (hd : Nat.blt d n = true) (hvs : evalL ρ args = some vs) (hf : P.funcs[f]? = some fn) (hb : fn.body.isNone = true) (hng : (fn.name == "runtime.NumGoroutine") = false) (hn : Extern.findNext fn = none) (he : Extern.find fn = some e)
    (h : SemT P K hs (e vs.toArray) fun v hs' => RO P n ops rest ((d, v) :: ρ) K hs' Q) :
    RO P n ops (⟨some d, .call ⟨.value x, args.toArray, ats⟩, ty, pos, after, none⟩ :: rest) ρ K hs Q := by
  intro a w F Z ha hK ho hz
  refine ⟨⟨hs, ho⟩, ?_⟩
  rw [if_pos (by simp [Region.wanted])]
  left
  have hargs : args.toArray.map a.eval = vs.toArray := by rw [List.map_toArray, ha.evals hvs]
  obtain ⟨v, w', hs', hrun, ho', hk, q⟩ := h w F hK ho
  have hrun2 : (execOp a.eval ⟨some d, .call ⟨.value x, args.toArray, ats⟩, ty, pos, after, none⟩).run P w = .ok (.value v) w' := by
    rw [execOp_call, ha.eval hx, hargs]
    have := run_callFunc_extern hf hng hb hn he vs.toArray w
    rw [hrun] at this
    simpa [Deferred.ofValue, invoke, Result.andThen] using this
  simp only [Oper.wp, hrun2, Oper.upon]
  exact q _ w' F Z (ha.put hd v) hK ho' fun a' w'' ρ' hs'' x y z q => hz a' w'' ρ' hs'' x y (hk.trans z) q
theorem v_makeIface (ht : TabOk P tab) {t : TypeId} {x : Operand} {v : Value} {u : TypeDesc} (hx : evalO ρ x = some v) (hu : undOf tab t = some u) (hn : ∀ y, u ≠ .interface y) : OpV P n ρ M ⟨some d, .makeInterface t x, ty, pos, after, none⟩ (.iface t v) :=
  OpV.r (s := Instr.makeInterface t v) (fun e he => by simp only [execOp, he.eval hx]) (fun w _ => by
    simp only [Instr.makeInterface, Sem.run_bind]
    have e1 : (underlying t).run P w = .ok u w := by simp [underlying, undOf_run ht hu]
    rw [e1]
    cases u <;> first | exact absurd rfl (hn _) | rfl)
theorem v_eqMs (ht : TabOk P tab) {t u k e : TypeId} {x y : Operand} {a : Nat} (hx : evalO ρ x = some (.map (some a))) (hy : evalO ρ y = some (.map none)) (hu : undOf tab t = some (.map k e)) : OpV P n ρ M ⟨some d, .binOp .eql t x y u, ty, pos, after, none⟩ (.bool false) :=
  OpV.r (s := (do eqGuard .eql t x y (.map (some a)) (.map none); binOp .eql t (.map (some a)) (.map none))) (fun e he => by simp only [execOp, he.eval hx, he.eval hy]) (fun w _ => by
    have e1 : ∀ m, (Op.equalIn (m + 1) t (.map (some a)) (.map none)).run P w = .ok false w := fun m => by simp [Op.equalIn, underlying, undOf_run ht hu]
    have e2 : (binOp .eql t (.map (some a)) (.map none)).run P w = .ok (.bool false) w := by
      simp only [binOp]
      simp [show Op.equal t (.map (some a)) (.map none) = Op.equalIn (9999 + 1) t (.map (some a)) (.map none) from rfl, e1 9999]
    have e3 : eqGuard .eql t x y (.map (some a)) (.map none) = pure () := rfl
    rw [e3]
    exact e2)
theorem v_tassert (ht : TabOk P tab) {t xT k e : TypeId} {x : Operand} {v : Value} (hx : evalO ρ x = some (.iface t v)) (hu : undOf tab t = some (.map k e)) : OpV P n ρ M ⟨some d, .typeAssert x xT t false, ty, pos, after, none⟩ v :=
  OpV.r (s := Instr.typeAssert (.iface t v) xT t false) (fun e he => by simp only [execOp, he.eval hx]) (fun w _ => by
    simp [Instr.typeAssert, underlying, undOf_run ht hu])
theorem semT_clone {T : TypeId} {b : Nat} {ents : Array MapEntry} {clock : Nat} {R : Value → List Hp → Prop} (hr : Rdb (K ++ hs) b (.map ents clock)) (h : ∀ b', R (.iface T (.map (some b'))) (one b' (.map ents clock) :: hs)) : SemT P K hs (Extern.MapsClone.clone #[.iface T (.map (some b))]) R := by
  have e : Extern.MapsClone.clone #[.iface T (.map (some b))] = (getObj b >>= fun o => match o with
      | .map entries clock => (newObj (.map entries clock) >>= fun n => pure (.iface T (.map (some n))))
      | _ => stuck "maps.clone: a map expected") := rfl
  rw [e]
  refine .bind (.getObj hr (fun _ _ _ h => by cases h) ?_)
  refine .bind (.newObj fun b' => ?_)
  exact .pure (h b')
theorem o_lookup (ht : TabOk P tab) {T Kt E : TypeId} {ie : TI} {x y : Operand} {b : Nat} {ents : Array MapEntry} {clock : Nat} {es : List En} {k : List UInt8} {ok : Bool} {M' : List Hp} (hx : evalO ρ x = some (.map (some b))) (hy : evalO ρ y = some (.string (str k)))
    (hT : undOf tab T = some (.map Kt E)) (hK : undOf tab Kt = some .string) (hE : lkT tab E = some ie) (hd : Nat.blt d n = true) (hr : Rdb (K ++ hs) b (.map ents clock)) (hm : MpR M' es ents clock)
    (h : ∀ v, LookR M' es k ie.zero v → RO P n ops rest ((d, lookV ok v (findE es k).isSome) :: ρ) K hs Q) : RO P n ops (⟨some d, .lookup T x y ok, ty, pos, after, none⟩ :: rest) ρ K hs Q := by
  obtain ⟨v, hl, hv⟩ := ex_lookup (P := P) (n := n) (M := K ++ hs) (d := d) (ty := ty) (pos := pos) (after := after) (ok := ok) ht hx hy hT hK hE hr hm
  exact RO.ofV hv hd (h v hl)
theorem e_lookup (ht : TabOk P tab) {T Kt E : TypeId} {ie : TI} {x y : Operand} {b : Nat} {ents : Array MapEntry} {clock : Nat} {es : List En} {k : List UInt8} {ok : Bool} {M' : List Hp} {N : Env → Prop} (hx : evalO ρ x = some (.map (some b))) (hy : evalO ρ y = some (.string (str k)))
    (hT : undOf tab T = some (.map Kt E)) (hK : undOf tab Kt = some .string) (hE : lkT tab E = some ie) (hd : Nat.blt d n = true) (hr : Rdb M b (.map ents clock)) (hm : MpR M' es ents clock)
    (h : ∀ v, LookR M' es k ie.zero v → EvE P n ops M ((d, lookV ok v (findE es k).isSome) :: ρ) rest N) : EvE P n ops M ρ (⟨some d, .lookup T x y ok, ty, pos, after, none⟩ :: rest) N := by
  obtain ⟨v, hl, hv⟩ := ex_lookup (P := P) (n := n) (M := M) (d := d) (ty := ty) (pos := pos) (after := after) (ok := ok) ht hx hy hT hK hE hr hm
  exact EvE.ofV hv hd (h v hl)
end
end Go.Proofs.YtonnncdolofccaaGreat

namespace Go.Proofs.YtonnncdolofccaaGreat
attribute [local irreducible] RC RO EvE DR OpV Fn SlOf OwnSl postQ Src Rows Rdb CellsAt thenQ blockQ noGotoQ
set_option linter.unusedSimpArgs false
set_option linter.unusedVariables false

theorem mclone_spec {b : Nat} {ents : Array MapEntry} {clock : Nat} {K : List Hp} (hr : Rdb K b (.map ents clock)) : Fn Tryz.prog 54 [.map (some b)] K [] fun r hs' => ∃ b', r = .map (some b') ∧ hs' = [one b' (.map ents clock)] := by
  refine Fn.enter Tryz.func54 rfl rfl ?_; simp only [Tryz.ntmps54, argEnv, Nat.reduceAdd]
  repeat refine goX ?_
  refine RO.ofV (v_eqMs tb rfl rfl rfl) rfl ?_
  repeat refine goX ?_
  refine RO.ofV (v_makeIface tb rfl rfl (fun _ h => by cases h)) rfl ?_
  refine RO.callExt rfl rfl rfl Tryz.func82 rfl rfl (by kernel_rfl) (by kernel_rfl) (semT_clone (hr.sub (Sub.left _ _)) fun b' => ?_)
  refine RO.ofV (v_tassert tb rfl rfl) rfl ?_
  repeat refine goX ?_
  refine post_ret (hs' := [_]) [_] rfl ⟨rfl, rfl⟩ slX ?_
  exact ⟨b', rfl, rfl⟩
end Go.Proofs.YtonnncdolofccaaGreat
