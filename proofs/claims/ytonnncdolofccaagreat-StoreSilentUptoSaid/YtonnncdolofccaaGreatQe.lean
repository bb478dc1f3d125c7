/- store: of, lay. Conditions: none.
   store: New, settle, Get, Newest, Waiting. Conditions: none.
   store: Waiting, Disk, Tick. Conditions: none.
   store: Put, refused. Conditions: none.
   store: Put, taken. Conditions: none.
   store: Put, a new entry. Conditions: none.
   store: read. Conditions: none.
   store: the closure of Recover, slices.IndexFunc, slices.ContainsFunc over it. Conditions: none.
   store: Recover. Conditions: none. -/
import Derived.Test.YtonnncdolofccaaGreatQd
namespace Go.Proofs.YtonnncdolofccaaGreat
attribute [local irreducible] RC RO EvE DR OpV Fn SlOf OwnSl postQ Src Rows Rdb CellsAt thenQ blockQ noGotoQ
set_option linter.unusedSimpArgs false
set_option linter.unusedVariables false

def ofE (es : List En) (k : List UInt8) : En := (findE es k).getD ⟨k, Tg.zero, false, []⟩
theorem findE_mem {es : List En} {k : List UInt8} {e : En} (h : findE es k = some e) : e ∈ es ∧ e.key = k := by
  refine ⟨List.mem_of_find?_eq_some h, ?_⟩
  simpa using List.find?_some h

theorem of_spec {b : Nat} {ents : Array MapEntry} {clock : Nat} {es : List En} {k : List UInt8} {K : List Hp} (hr : Rdb K b (.map ents clock)) (hm : MpR K es ents clock) (hb : ∀ e, e ∈ es → e.b.length ≤ 140000000000000) :
    Fn Tryz.prog 27 [.map (some b), .string (str k)] K [] fun r hs' => ∃ h, OwnEn r (ofE es k) h ∧ hs' = [h] := by
  refine Fn.enter Tryz.func27 rfl rfl ?_; simp only [Tryz.ntmps27, argEnv, Nat.reduceAdd]
  repeat (first | refine goX ?_ | refine alX fun b => ?_)
  refine o_lookup tb rfl rfl rfl rfl rfl rfl (hr.sub (Sub.left _ _)) hm ?_
  intro v hl
  unfold LookR at hl
  cases hf : findE es k with
  | none =>
    rw [hf] at hl
    simp only at hl
    subst hl
    simp only [lookV, if_true, Option.isSome_none]
    repeat (first | refine goX ?_ | refine alX fun b => ?_)
    refine post_imp (Imp.emp _) ?_
    refine post_ret (hs' := [emp]) [_] rfl ⟨res_cell 2 tb rfl rfl rfl rfl rfl, rfl⟩ slX ?_
    simp only [ofE, hf, Option.getD_none]
    exact ⟨_, ⟨_, rfl, OwnOf.nil _ _⟩, rfl⟩
  | some e =>
    rw [hf] at hl
    obtain ⟨⟨vs, rfl, a, c, rfl, hc, hS⟩, hk⟩ := hl
    have hb1 := hb e (findE_mem hf).1
    simp only [lookV, if_true, Option.isSome_some]
    repeat (first | refine goX ?_ | refine alX fun b => ?_)
    refine RO.call0 rfl rfl rfl Tryz.func52 rfl (by kernel_rfl) (copy_spec (e := e) ⟨_, rfl, a, c, rfl, hc, hS.sub (by intro g hg; simp [hg])⟩ hb1) ?_
    rintro v hs' ⟨hp, ⟨u, rfl, ou⟩, rfl⟩
    have ou' := ou
    obtain ⟨a1, c1, rfl, hc1, hS1⟩ := OwnOf.rows ou'
    repeat (first | refine goX ?_ | refine alX fun b => ?_)
    refine post_ret (hs' := [hp]) [_] rfl ⟨res_cell 2 tb rfl rfl rfl rfl rfl, rfl⟩ slX ?_
    simp only [ofE, hf, Option.getD_some]
    exact ⟨_, ⟨_, rfl, ou⟩, rfl⟩

theorem lookR_agg {M : List Hp} {es : List En} {k : List UInt8} {v : Value} (h : LookR M es k (.agg #[.string ⟨#[]⟩, .int .i64 0, .int .i64 0, .int .i64 0, .bool false, .slice none 0 0]) v) :
    ∃ s hb u, v = .agg #[.string s, .int .i64 (ofE es k).tag.seq, .int .i64 (ofE es k).tag.who, .int .i64 (ofE es k).tag.op, .bool hb, u] := by
  unfold LookR at h
  cases hf : findE es k with
  | none =>
    rw [hf] at h
    exact ⟨_, _, _, by simp only [ofE, hf, Option.getD_none]; exact h⟩
  | some e =>
    rw [hf] at h
    obtain ⟨⟨vs, rfl, a, c, rfl, -⟩, -⟩ := h
    exact ⟨str e.key, e.has, .slice a e.b.length c, by simp only [ofE, hf, Option.getD_some]⟩
def layE (es : List En) (e : En) : List En := if 0 ≤ cmpT e.tag (ofE es e.key).tag then updE es e else es
theorem lay_spec {bs mN : Nat} {pw vl va : Value} {ents : Array MapEntry} {clock : Nat} {es : List En} {e : En} {v : Value} {hE : Hp} {K : List Hp} (hv : EnV K v e) (hm : MpR [hE] es ents clock) (hb : e.b.length ≤ 140000000000000)
    (ap : Apart [one bs (.cells [pw, .map (some mN), vl, va].toArray 75 (0, 0)), one mN (.map ents clock), hE]) :
    Fn Tryz.prog 37 [.pointer (some ⟨bs, 0, none⟩), v] K [one bs (.cells [pw, .map (some mN), vl, va].toArray 75 (0, 0)), one mN (.map ents clock), hE] fun r hs' =>
      ∃ ents' clock' hE', MpR [hE'] (layE es e) ents' clock' ∧ Le [hE] [hE'] ∧ hs' = [one bs (.cells [pw, .map (some mN), vl, va].toArray 75 (0, 0)), one mN (.map ents' clock'), hE'] := by
  obtain ⟨vs, rfl, a, c, rfl, hc, hS⟩ := hv
  refine Fn.enter Tryz.func37 rfl rfl ?_; simp only [Tryz.ntmps37, argEnv, Nat.reduceAdd]
  repeat (first | refine goX ?_ | refine bxX fun b => ?_ | refine dwX 1 [([0, 1, 2, 3, 4, 5, 6, 7, 8, 9], [10, 11])] [] ?_ | refine dwX 2 [([0, 1, 2, 3, 4, 5, 6], [7])] [8] ?_)
  refine e_lookup tb rfl rfl rfl rfl rfl rfl (rdb_one (List.mem_append_right _ (List.mem_of_getElem? (i := 2) rfl))) hm ?_
  intro v hl
  obtain ⟨s1, hb1, u1, rfl⟩ := lookR_agg hl
  simp only [lookV, Bool.false_eq_true, if_false]
  repeat (first | refine goX ?_ | refine bxX fun b => ?_ | refine dwX 1 [([0, 1, 2, 3, 4, 5, 6, 7, 8, 9], [10, 11])] [] ?_ | refine dwX 2 [([0, 1, 2, 3, 4, 5, 6], [7])] [8] ?_)
  refine RO.call0 rfl rfl rfl Tryz.func34 rfl (by kernel_rfl) (compare_spec e.tag (ofE es e.key).tag _) ?_
  rintro v hs' ⟨rfl, rfl⟩
  unfold layE
  by_cases hc0 : 0 ≤ cmpT e.tag (ofE es e.key).tag
  · rw [if_pos hc0]
    repeat (first | refine goX ?_ | refine bxX fun b => ?_ | refine dwX 1 [([0, 1, 2, 3, 4, 5, 6, 7, 8, 9], [10, 11])] [] ?_ | refine dwX 2 [([0, 1, 2, 3, 4, 5, 6], [7])] [8] ?_)
    refine RO.call0 rfl rfl rfl Tryz.func52 rfl (by kernel_rfl) (copy_spec (e := e) ⟨_, rfl, a, c, rfl, hc, hS.sub (by intro g hg; simp [hg])⟩ hb) ?_
    rintro v hs' ⟨hp, oc, rfl⟩
    have oc' := oc
    obtain ⟨u, rfl, ou⟩ := oc'
    repeat (first | refine goX ?_ | refine bxX fun b => ?_ | refine dwX 1 [([0, 1, 2, 3, 4, 5, 6, 7, 8, 9], [10, 11])] [] ?_ | refine dwX 2 [([0, 1, 2, 3, 4, 5, 6], [7])] [8] ?_)
    refine RO.know fun hap => ?_
    have dd : Apart [hp, hE] := hap.of (junk := [_, _, _]) pmX
    have L1 : Le [hE] [uni [hp, hE]] := (Le.sub (by intro g hg; simp at hg; simp [hg])).trans (Le.join dd)
    have L2 : Le [hp] [uni [hp, hE]] := (Le.sub (by intro g hg; simp at hg; simp [hg])).trans (Le.join dd)
    refine o_mapUpdate 3 tb rfl rfl rfl rfl rfl rfl (hm.le L1) (oc.enV.le L2) ?_
    intro ents' clock' hm'
    repeat (first | refine goX ?_ | refine bxX fun b => ?_ | refine dwX 1 [([0, 1, 2, 3, 4, 5, 6, 7, 8, 9], [10, 11])] [] ?_ | refine dwX 2 [([0, 1, 2, 3, 4, 5, 6], [7])] [8] ?_)
    refine post_imp ((Imp.joinP (hs1 := [hp, hE]) (hs2 := [one bs _, one mN _]) (junk := [_]) pmX).trans (Imp.take (hs1 := [one bs _, one mN _, uni [hp, hE]]) (junk := []) pmX)) ?_
    refine post_end (hs' := [_, _, _]) [] rfl rfl slX ?_
    exact ⟨_, _, _, hm', L1, rfl⟩
  · rw [if_neg hc0]
    repeat (first | refine goX ?_ | refine bxX fun b => ?_ | refine dwX 1 [([0, 1, 2, 3, 4, 5, 6, 7, 8, 9], [10, 11])] [] ?_ | refine dwX 2 [([0, 1, 2, 3, 4, 5, 6], [7])] [8] ?_)
    refine post_end (hs' := [one bs _, one mN _, hE]) [] rfl rfl slX ?_
    exact ⟨_, _, _, hm, Le.refl _, rfl⟩
end Go.Proofs.YtonnncdolofccaaGreat

namespace Go.Proofs.YtonnncdolofccaaGreat
attribute [local irreducible] RC RO EvE DR OpV Fn SlOf OwnSl postQ Src Rows Rdb CellsAt thenQ blockQ noGotoQ
set_option linter.unusedSimpArgs false
set_option linter.unusedVariables false

/-- what acknowledges -/
structure Ak where
  who : Int
  key : List UInt8
  tag : Tg
  deriving DecidableEq
def AckR (a : Ak) (vs : List Value) : Prop := vs = [.int .i64 a.who, .string (str a.key), .int .i64 a.tag.seq, .int .i64 a.tag.who, .int .i64 a.tag.op]
/-- a store -/
structure St where
  g : Lg
  newer : List En
  lasts : List En
  acks : List Ak
def St.zero : St := ⟨⟨Dk.zero, [], 0⟩, [], [], []⟩
def IsS (p : Value) (s : St) (h : Hp) : Prop := ∃ b pl mN mL va eN cN eL cL hl hE ha, p = .pointer (some ⟨b, 0, none⟩) ∧
  h = uni [one b (.cells [pl, .map (some mN), .map (some mL), va].toArray 75 (0, 0)), hl, one mN (.map eN cN), one mL (.map eL cL), hE, ha] ∧
  Apart [one b (.cells [pl, .map (some mN), .map (some mL), va].toArray 75 (0, 0)), hl, one mN (.map eN cN), one mL (.map eL cL), hE, ha] ∧
  IsL pl s.g hl ∧ MpR [hE] s.newer eN cN ∧ MpR [hE] s.lasts eL cL ∧ OwnOf AckR 65 5 va s.acks ha

theorem empty_spec {p : Value} {g : Lg} {h : Hp} {K : List Hp} (ho : IsL p g h) : Fn Tryz.prog 24 [p] K [h] fun r hs' => ∃ h', IsS r ⟨g, [], [], []⟩ h' ∧ hs' = [h'] := by
  obtain ⟨bp, rfl⟩ := ho.ptr
  refine Fn.enter Tryz.func24 rfl rfl ?_; simp only [Tryz.ntmps24, argEnv, Nat.reduceAdd]
  repeat (first | refine goX ?_ | refine bxX fun b => ?_)
  refine o_makeMap rfl fun mN => ?_
  repeat (first | refine goX ?_ | refine bxX fun b => ?_)
  refine o_makeMap rfl fun mL => ?_
  repeat (first | refine goX ?_ | refine bxX fun b => ?_)
  refine post_imp (Imp.emp _) (post_imp (Imp.emp _) ?_)
  refine post_join (hs1 := [one b _, h, one mN _, one mL _, emp, emp]) (junk := _) pmX fun hap => ?_
  refine post_ret (hs' := [_]) [_] rfl ⟨rfl, rfl⟩ slX ?_
  exact ⟨_, ⟨_, _, _, _, _, _, _, _, _, _, _, _, rfl, rfl, hap, ho, MpR.nil _, MpR.nil _, OwnOf.nil _ _⟩, rfl⟩
theorem snew_spec {K : List Hp} : Fn Tryz.prog 8 [] K [] fun r hs' => ∃ h', IsS r St.zero h' ∧ hs' = [h'] := by
  refine Fn.enter Tryz.func8 rfl rfl ?_; simp only [Tryz.ntmps8, argEnv, Nat.reduceAdd]
  repeat refine goX ?_
  refine RO.call0 rfl rfl rfl Tryz.func25 rfl (by kernel_rfl) (wnew_spec _) ?_
  rintro v hs' ⟨h, o, rfl⟩
  obtain ⟨bp, rfl⟩ := o.ptr
  repeat refine goX ?_
  refine RO.call1 0 rfl rfl rfl Tryz.func24 rfl (by kernel_rfl) rfl rfl (empty_spec o) ?_
  rintro v hs' ⟨h', o', rfl⟩
  repeat refine goX ?_
  refine post_ret (hs' := [_]) [_] rfl ⟨rfl, rfl⟩ slX ?_
  exact ⟨_, o', rfl⟩

theorem settle_spec {p : Value} {s : St} {h : Hp} {K : List Hp} (ho : IsS p s h) : Fn Tryz.prog 29 [p] K [h] fun r hs' => ∃ h', IsS p ⟨s.g, s.newer, s.newer, s.acks⟩ h' ∧ hs' = [h'] := by
  obtain ⟨b, pl, mN, mL, va, eN, cN, eL, cL, hl, hE, ha, rfl, rfl, ap, ol, oN, oL, oa⟩ := ho
  obtain ⟨bl, rfl⟩ := ol.ptr
  have oa' := oa
  obtain ⟨aa, ca, rfl, _, _⟩ := OwnOf.rows oa'
  refine Fn.imp (Imp.split0 ap) ?_
  refine Fn.enter Tryz.func29 rfl rfl ?_; simp only [Tryz.ntmps29, argEnv, Nat.reduceAdd]
  repeat refine goX ?_
  refine RO.call0 rfl rfl rfl Tryz.func54 rfl (by kernel_rfl) (mclone_spec (rdb_one (List.mem_append_right _ (List.mem_of_getElem? (i := 2) rfl)))) ?_
  rintro v hs' ⟨b', rfl, rfl⟩
  repeat refine goX ?_
  refine post_joinN (hs1 := [one b _, hl, one mN _, one b' _, hE, ha]) (junk := _) pmX fun hap => ?_
  refine post_end (hs' := [_]) [] rfl rfl slX ?_
  exact ⟨_, ⟨_, _, _, _, _, _, _, _, _, _, _, _, rfl, rfl, hap, ol, oN, oN, oa⟩, rfl⟩

theorem sget_spec {p : Value} {s : St} {h : Hp} {k : List UInt8} {K : List Hp} (ho : IsS p s h) (hb : ∀ e, e ∈ s.lasts → e.b.length ≤ 140000000000000) : Fn Tryz.prog 10 [p, .string (str k)] K [h] fun r hs' => ∃ h1, OwnEn r (ofE s.lasts k) h1 ∧ hs' = [h, h1] := by
  obtain ⟨b0, pl, mN, mL, va, eN, cN, eL, cL, hl, hE, ha, rfl, rfl, ap, ol, oN, oL, oa⟩ := ho
  obtain ⟨bl, rfl⟩ := ol.ptr
  have oa' := oa
  obtain ⟨aa, ca, rfl, _, _⟩ := OwnOf.rows oa'
  refine Fn.imp (Imp.split0 ap) ?_
  refine Fn.enter Tryz.func10 rfl rfl ?_; simp only [Tryz.ntmps10, argEnv, Nat.reduceAdd]
  repeat (first | refine goX ?_ | refine alX fun b => ?_)
  refine RO.call0 rfl rfl rfl Tryz.func27 rfl (by kernel_rfl) (of_spec (es := s.lasts) (rdb_one (List.mem_append_right _ (List.mem_of_getElem? (i := 4) rfl))) (oL.le (Le.sub (by intro g hg; simp at hg; simp [hg]))) hb) ?_
  rintro v hs' ⟨h1, ⟨u, rfl, o1⟩, rfl⟩
  have o1' := o1
  obtain ⟨a1, c1, rfl, _, _⟩ := OwnOf.rows o1'
  repeat (first | refine goX ?_ | refine alX fun b => ?_)
  refine post_imp (Imp.take (hs1 := [one b0 _, hl, one mN _, one mL _, hE, ha, h1, one b _]) (junk := []) pmX) ?_
  refine post_imp (Imp.join (hs1 := [one b0 _, hl, one mN _, one mL _, hE, ha]) (hs2 := [h1, one b _]) (List.Perm.refl _)) ?_
  refine post_ret (hs' := [_, h1]) [_] rfl ⟨res_cell 2 tb rfl rfl rfl rfl rfl, rfl⟩ slX ?_
  exact ⟨_, ⟨_, rfl, o1⟩, rfl⟩

theorem snewest_spec {p : Value} {s : St} {h : Hp} {k : List UInt8} {K : List Hp} (ho : IsS p s h) (hb : ∀ e, e ∈ s.newer → e.b.length ≤ 140000000000000) : Fn Tryz.prog 11 [p, .string (str k)] K [h] fun r hs' => ∃ h1, OwnEn r (ofE s.newer k) h1 ∧ hs' = [h, h1] := by
  obtain ⟨b0, pl, mN, mL, va, eN, cN, eL, cL, hl, hE, ha, rfl, rfl, ap, ol, oN, oL, oa⟩ := ho
  obtain ⟨bl, rfl⟩ := ol.ptr
  have oa' := oa
  obtain ⟨aa, ca, rfl, _, _⟩ := OwnOf.rows oa'
  refine Fn.imp (Imp.split0 ap) ?_
  refine Fn.enter Tryz.func11 rfl rfl ?_; simp only [Tryz.ntmps11, argEnv, Nat.reduceAdd]
  repeat (first | refine goX ?_ | refine alX fun b => ?_)
  refine RO.call0 rfl rfl rfl Tryz.func27 rfl (by kernel_rfl) (of_spec (es := s.newer) (rdb_one (List.mem_append_right _ (List.mem_of_getElem? (i := 3) rfl))) (oN.le (Le.sub (by intro g hg; simp at hg; simp [hg]))) hb) ?_
  rintro v hs' ⟨h1, ⟨u, rfl, o1⟩, rfl⟩
  have o1' := o1
  obtain ⟨a1, c1, rfl, _, _⟩ := OwnOf.rows o1'
  repeat (first | refine goX ?_ | refine alX fun b => ?_)
  refine post_imp (Imp.take (hs1 := [one b0 _, hl, one mN _, one mL _, hE, ha, h1, one b _]) (junk := []) pmX) ?_
  refine post_imp (Imp.join (hs1 := [one b0 _, hl, one mN _, one mL _, hE, ha]) (hs2 := [h1, one b _]) (List.Perm.refl _)) ?_
  refine post_ret (hs' := [_, h1]) [_] rfl ⟨res_cell 2 tb rfl rfl rfl rfl rfl, rfl⟩ slX ?_
  exact ⟨_, ⟨_, rfl, o1⟩, rfl⟩
end Go.Proofs.YtonnncdolofccaaGreat

namespace Go.Proofs.YtonnncdolofccaaGreat
attribute [local irreducible] RC RO EvE DR OpV Fn SlOf OwnSl postQ Src Rows Rdb CellsAt thenQ blockQ noGotoQ
set_option linter.unusedSimpArgs false
set_option linter.unusedVariables false

theorem waiting_spec {p : Value} {s : St} {h : Hp} {K : List Hp} (ho : IsS p s h) : Fn Tryz.prog 13 [p] K [h] fun r hs' => r = .int .i64 (s.acks.length : Int) ∧ hs' = [h] := by
  obtain ⟨b0, pl, mN, mL, va, eN, cN, eL, cL, hl, hE, ha, rfl, rfl, ap, ol, oN, oL, oa⟩ := ho
  obtain ⟨bl, rfl⟩ := ol.ptr
  have oa' := oa
  obtain ⟨aa, ca, rfl, _, _⟩ := OwnOf.rows oa'
  refine Fn.imp (Imp.split0 ap) ?_
  refine Fn.enter Tryz.func13 rfl rfl ?_; simp only [Tryz.ntmps13, argEnv, Nat.reduceAdd]
  repeat refine goX ?_
  refine post_join (hs1 := [one b0 _, hl, one mN _, one mL _, hE, ha]) (junk := _) pmX fun hap => ?_
  refine post_ret (hs' := [_]) [_] rfl ⟨rfl, rfl⟩ slX ?_
  exact ⟨rfl, rfl⟩
theorem sdisk_spec {p : Value} {s : St} {h : Hp} {K : List Hp} (ho : IsS p s h) (hg : s.g.ok) : Fn Tryz.prog 42 [p] K [h] fun r hs' => ∃ h1, IsD r s.g.d h1 ∧ hs' = [h, h1] := by
  obtain ⟨b0, pl, mN, mL, va, eN, cN, eL, cL, hl, hE, ha, rfl, rfl, ap, ol, oN, oL, oa⟩ := ho
  obtain ⟨bl, rfl⟩ := ol.ptr
  have oa' := oa
  obtain ⟨aa, ca, rfl, _, _⟩ := OwnOf.rows oa'
  refine Fn.imp (Imp.split0 ap) ?_
  refine Fn.enter Tryz.func42 rfl rfl ?_; simp only [Tryz.ntmps42, argEnv, Nat.reduceAdd]
  repeat refine goX ?_
  refine RO.call0 rfl rfl rfl Tryz.func49 rfl (by kernel_rfl) (wdisk_spec (g := s.g) (ol.rd.le (Le.sub (by intro g hg; simp at hg; simp [hg]))) hg) ?_
  rintro v hs' ⟨h1, o1, rfl⟩
  repeat refine goX ?_
  refine post_imp (Imp.take (hs1 := [one b0 _, hl, one mN _, one mL _, hE, ha, h1]) (junk := []) pmX) ?_
  refine post_imp (Imp.join (hs1 := [one b0 _, hl, one mN _, one mL _, hE, ha]) (hs2 := [h1]) (List.Perm.refl _)) ?_
  refine post_ret (hs' := [_, h1]) [_] rfl ⟨rfl, rfl⟩ slX ?_
  exact ⟨_, o1, rfl⟩

theorem settle_parts {b0 mN : Nat} {pl vl va : Value} {eN : Array MapEntry} {cN : Nat} {K : List Hp} : Fn Tryz.prog 29 [.pointer (some ⟨b0, 0, none⟩)] K [one b0 (.cells [pl, .map (some mN), vl, va].toArray 75 (0, 0)), one mN (.map eN cN)] fun r hs' =>
    ∃ b', hs' = [one b0 (.cells [pl, .map (some mN), .map (some b'), va].toArray 75 (0, 0)), one mN (.map eN cN), one b' (.map eN cN)] := by
  refine Fn.enter Tryz.func29 rfl rfl ?_; simp only [Tryz.ntmps29, argEnv, Nat.reduceAdd]
  repeat refine goX ?_
  refine RO.call0 rfl rfl rfl Tryz.func54 rfl (by kernel_rfl) (mclone_spec (rdb_one (List.mem_append_right _ (List.mem_of_getElem? (i := 1) rfl)))) ?_
  rintro v hs' ⟨b', rfl, rfl⟩
  repeat refine goX ?_
  refine post_imp (Imp.take (hs1 := [one b0 _, one mN _, one b' _]) (junk := []) pmX) ?_
  refine post_end (hs' := [_, _, _]) [] rfl rfl slX ?_
  exact ⟨b', rfl⟩

theorem stick_spec {p : Value} {s : St} {h : Hp} {K : List Hp} (ho : IsS p s h) (hg : s.g.ok) : Fn Tryz.prog 14 [p] K [h] fun r hs' => ∃ va n h1 h2, r = .tuple #[va, .int .i64 0] ∧ IsS p ⟨⟨⟨s.g.d.l ++ s.g.d.t, [], n⟩, s.g.rs, s.g.rs.length⟩, s.newer, s.newer, []⟩ h1 ∧ OwnOf AckR 65 5 va s.acks h2 ∧ hs' = [h1, h2] := by
  obtain ⟨b0, pl, mN, mL, va, eN, cN, eL, cL, hl, hE, ha, rfl, rfl, ap, ol, oN, oL, oa⟩ := ho
  obtain ⟨bl, rfl⟩ := ol.ptr
  have oa' := oa
  obtain ⟨aa, ca, rfl, _, _⟩ := OwnOf.rows oa'
  refine Fn.imp (Imp.split0 ap) ?_
  refine Fn.enter Tryz.func14 rfl rfl ?_; simp only [Tryz.ntmps14, argEnv, Nat.reduceAdd]
  repeat refine goX ?_
  refine RO.call1 1 rfl rfl rfl Tryz.func28 rfl (by kernel_rfl) rfl rfl (wsync_spec ol hg) ?_
  rintro v hs' ⟨rfl, hl', n, ol', rfl⟩
  repeat refine goX ?_
  refine RO.callF (hs1 := [one b0 _, one mN _]) (hs2 := [hl', one mL _, hE, ha]) rfl rfl rfl Tryz.func29 rfl (by kernel_rfl) pmX settle_parts ?_
  rintro v hs' ⟨b', rfl⟩
  repeat refine goX ?_
  refine post_imp (Imp.emp _) ?_
  refine post_know fun hap => post_imp (Imp.joinP (hs1 := [one b0 _, hl', one mN _, one b' _, hE, emp]) (hs2 := [ha]) (junk := [_]) pmX) ?_
  refine post_ret (hs' := [_, ha]) [_, _] rfl ⟨rfl, rfl, rfl⟩ slX ?_
  exact ⟨_, n, _, _, rfl, ⟨_, _, _, _, _, _, _, _, _, _, _, _, rfl, rfl, hap.of (junk := [_, _]) pmX, ol', oN, oN, OwnOf.nil _ _⟩, oa, rfl⟩
end Go.Proofs.YtonnncdolofccaaGreat

namespace Go.Proofs.YtonnncdolofccaaGreat
attribute [local irreducible] RC RO EvE DR OpV Fn SlOf OwnSl postQ Src Rows Rdb CellsAt thenQ blockQ noGotoQ
set_option linter.unusedSimpArgs false
set_option linter.unusedVariables false

theorem put_refused {p : Value} {s : St} {h : Hp} {e : En} {v : Value} {who : Int} {K : List Hp} (ho : IsS p s h) (hv : EnV K v e) (hr : right e = false ∨ e.tag.seq = 0 ∨ who < 0 ∨ 1048575 < who) : Fn Tryz.prog 17 [p, v, .int .i64 who] K [h] fun r hs' => r = .int .i64 2 ∧ hs' = [h] := by
  obtain ⟨b0, pl, mN, mL, va, eN, cN, eL, cL, hl, hE, ha, rfl, -⟩ := ho
  obtain ⟨vs, rfl, a, c, rfl, hc, hS⟩ := hv
  refine Fn.enter Tryz.func17 rfl rfl ?_; simp only [Tryz.ntmps17, argEnv, Nat.reduceAdd]
  repeat (first | refine goX ?_ | refine bxX fun b => ?_ | refine bsX fun b => ?_ | refine dwX 5 [([0, 1, 2, 3, 4, 5, 6, 7, 8, 9], [10, 11])] [] ?_ | refine dwX 11 [([0, 1, 2, 3, 4, 5, 6, 7, 8, 9], [10, 11, 12])] [13, 14, 15] ?_)
  refine RO.call0 rfl rfl rfl Tryz.func32 rfl (by kernel_rfl) (right_spec e _ _ ⟨_, rfl, a, c, rfl, hc, hS.sub (by intro g hg; simp [hg])⟩) ?_
  rintro v hs' ⟨rfl, rfl⟩
  by_cases h1 : right e = false
  · simp only [h1, Bool.false_eq_true, if_false]
    repeat (first | refine goX ?_ | refine bxX fun b => ?_ | refine bsX fun b => ?_ | refine dwX 5 [([0, 1, 2, 3, 4, 5, 6, 7, 8, 9], [10, 11])] [] ?_ | refine dwX 11 [([0, 1, 2, 3, 4, 5, 6, 7, 8, 9], [10, 11, 12])] [13, 14, 15] ?_)
    refine post_ret (hs' := [h]) [_] rfl ⟨rfl, rfl⟩ slX ?_
    exact ⟨rfl, rfl⟩
  · have h1' : right e = true := by simpa using h1
    simp only [h1', if_true]
    repeat (first | refine goX ?_ | refine bxX fun b => ?_ | refine bsX fun b => ?_ | refine dwX 5 [([0, 1, 2, 3, 4, 5, 6, 7, 8, 9], [10, 11])] [] ?_ | refine dwX 11 [([0, 1, 2, 3, 4, 5, 6, 7, 8, 9], [10, 11, 12])] [13, 14, 15] ?_)
    refine RO.call0 rfl rfl rfl Tryz.func33 rfl (by kernel_rfl) (none_spec _ _ _ _) ?_
    rintro v hs' ⟨rfl, rfl⟩
    by_cases h2 : e.tag.seq = 0
    · simp only [h2, decide_true]
      repeat (first | refine goX ?_ | refine bxX fun b => ?_ | refine bsX fun b => ?_ | refine dwX 5 [([0, 1, 2, 3, 4, 5, 6, 7, 8, 9], [10, 11])] [] ?_ | refine dwX 11 [([0, 1, 2, 3, 4, 5, 6, 7, 8, 9], [10, 11, 12])] [13, 14, 15] ?_)
      refine post_ret (hs' := [h]) [_] rfl ⟨rfl, rfl⟩ slX ?_
      exact ⟨rfl, rfl⟩
    · simp only [h2, decide_false]
      have D : who < 0 ∨ (0 ≤ who ∧ 1048575 < who) := by
        rcases hr with hr | hr | hr | hr
        · exact absurd hr h1
        · exact absurd hr h2
        · exact .inl hr
        · exact .inr ⟨by omega, hr⟩
      rcases D with D | ⟨D, D2⟩
      all_goals
        repeat (first | refine goX ?_ | refine bxX fun b => ?_ | refine bsX fun b => ?_ | refine dwX 5 [([0, 1, 2, 3, 4, 5, 6, 7, 8, 9], [10, 11])] [] ?_ | refine dwX 11 [([0, 1, 2, 3, 4, 5, 6, 7, 8, 9], [10, 11, 12])] [13, 14, 15] ?_)
        refine post_ret (hs' := [h]) [_] rfl ⟨rfl, rfl⟩ slX ?_
        exact ⟨rfl, rfl⟩
end Go.Proofs.YtonnncdolofccaaGreat

namespace Go.Proofs.YtonnncdolofccaaGreat
attribute [local irreducible] RC RO EvE DR OpV Fn SlOf OwnSl postQ Src Rows Rdb CellsAt thenQ blockQ noGotoQ
set_option linter.unusedSimpArgs false
set_option linter.unusedVariables false

theorem enB_len {e : En} (h : right e = true) : (enB e).length ≤ 60400 := by
  have hR : (0 < e.key.length ∧ e.key.length ≤ 250) ∧ e.b.length ≤ 60000 := by
    simp only [right, tagOk, decide_eq_true_eq] at h
    omega
  have h1 := numB_len e.key.length
  have h2 := numB_len e.tag.seq.toNat
  have h3 := numB_len e.tag.who.toNat
  have h4 := numB_len e.tag.op.toNat
  have h5 := numB_len e.b.length
  cases hh : e.has <;> simp [enB, rowB, truB, hh] <;> omega

def fits (s : St) (e : En) : Prop := s.g.d.l.length + s.g.d.t.length + (frameB 1 (enB e)).length ≤ 4194304
theorem AckR.one (r : Ak) (vs : List Value) (h : AckR r vs) (u : Value) (m : u ∈ vs) : u.oneCell' = true := by
  rw [show vs = _ from h] at m
  simp only [List.mem_cons, List.not_mem_nil, or_false] at m
  rcases m with rfl | rfl | rfl | rfl | rfl <;> rfl
theorem ack_src {b : Nat} {who : Int} {k : List UInt8} {t : Tg} : SlV [one b (.cells [.int .i64 who, .string (str k), .int .i64 t.seq, .int .i64 t.who, .int .i64 t.op].toArray 65 (0, 0))] AckR 5 (.slice (some ⟨b, 0, none⟩) 1 1) [(⟨who, k, t⟩ : Ak)] :=
  ⟨_, _, rfl, Nat.le_refl _, slOf_one (List.mem_singleton.2 rfl) (by
    have := rows_cons (R := AckR) (x := (⟨who, k, t⟩ : Ak)) (sz := 5) (vs := [.int .i64 who, .string (str k), .int .i64 t.seq, .int .i64 t.who, .int .i64 t.op]) rfl rfl rows_nil
    simpa using this)⟩
theorem put_old {p : Value} {s : St} {h : Hp} {e : En} {v : Value} {who : Int} {K : List Hp} (ho : IsS p s h) (hv : EnV K v e) (hr : right e = true ∧ e.tag.seq ≠ 0 ∧ 0 ≤ who ∧ who ≤ 1048575) (ha : s.acks.length ≤ 100000000) (hc0 : ¬ 0 < cmpT e.tag (ofE s.newer e.key).tag) :
    Fn Tryz.prog 17 [p, v, .int .i64 who] K [h] fun r hs' => r = .int .i64 0 ∧ ∃ h', IsS p ⟨s.g, s.newer, s.lasts, s.acks ++ [⟨who, e.key, e.tag⟩]⟩ h' ∧ hs' = [h'] := by
  obtain ⟨b0, pl, mN, mL, va, eN, cN, eL, cL, hl, hE, ha', rfl, rfl, ap, ol, oN, oL, oa⟩ := ho
  obtain ⟨bl, rfl⟩ := ol.ptr
  have oa' := oa
  obtain ⟨aa, ca, rfl, _, _⟩ := OwnOf.rows oa'
  obtain ⟨vs, rfl, a, c, rfl, hc, hS⟩ := hv
  obtain ⟨r1, r2, r3, r4⟩ := hr
  refine Fn.imp (Imp.split0 ap) ?_
  refine Fn.enter Tryz.func17 rfl rfl ?_; simp only [Tryz.ntmps17, argEnv, Nat.reduceAdd]
  repeat (first | refine goX ?_ | refine bxX fun b => ?_ | refine bsX fun b => ?_ | refine dwX 5 [([0, 1, 2, 3, 4, 5, 6, 7, 8, 9], [10, 11])] [] ?_ | refine dwX 11 [([0, 1, 2, 3, 4, 5, 6, 7, 8, 9], [10, 11, 12])] [13, 14, 15] ?_)
  refine RO.call0 rfl rfl rfl Tryz.func32 rfl (by kernel_rfl) (right_spec e _ _ ⟨_, rfl, a, c, rfl, hc, hS.sub (by intro g hg; simp [hg])⟩) ?_
  rintro v hs' ⟨rfl, rfl⟩
  simp only [r1, if_true]
  repeat (first | refine goX ?_ | refine bxX fun b => ?_ | refine bsX fun b => ?_ | refine dwX 5 [([0, 1, 2, 3, 4, 5, 6, 7, 8, 9], [10, 11])] [] ?_ | refine dwX 11 [([0, 1, 2, 3, 4, 5, 6, 7, 8, 9], [10, 11, 12])] [13, 14, 15] ?_)
  refine RO.call0 rfl rfl rfl Tryz.func33 rfl (by kernel_rfl) (none_spec _ _ _ _) ?_
  rintro v hs' ⟨rfl, rfl⟩
  simp only [r2, decide_false]
  repeat (first | refine goX ?_ | refine bxX fun b => ?_ | refine bsX fun b => ?_ | refine dwX 5 [([0, 1, 2, 3, 4, 5, 6, 7, 8, 9], [10, 11])] [] ?_ | refine dwX 11 [([0, 1, 2, 3, 4, 5, 6, 7, 8, 9], [10, 11, 12])] [13, 14, 15] ?_)
  refine e_lookup tb rfl rfl rfl rfl rfl rfl (rdb_one (List.mem_append_right _ (List.mem_of_getElem? (i := 3) rfl))) oN ?_
  intro v hlk
  obtain ⟨s1, hb1, u1, rfl⟩ := lookR_agg hlk
  simp only [lookV, Bool.false_eq_true, if_false]
  repeat (first | refine goX ?_ | refine bxX fun b => ?_ | refine bsX fun b => ?_ | refine dwX 5 [([0, 1, 2, 3, 4, 5, 6, 7, 8, 9], [10, 11])] [] ?_ | refine dwX 11 [([0, 1, 2, 3, 4, 5, 6, 7, 8, 9], [10, 11, 12])] [13, 14, 15] ?_)
  refine RO.call0 rfl rfl rfl Tryz.func34 rfl (by kernel_rfl) (compare_spec e.tag (ofE s.newer e.key).tag _) ?_
  rintro v hs' ⟨rfl, rfl⟩
  repeat (first | refine goX ?_ | refine bxX fun b => ?_ | refine bsX fun b => ?_ | refine dwX 5 [([0, 1, 2, 3, 4, 5, 6, 7, 8, 9], [10, 11])] [] ?_)
  rename Nat => bx
  refine RC.draw (id := 11) (ps := [([0, 1, 2, 3, 4, 5, 6, 7, 8, 9], [10, 11, 12])]) (c2 := [13, 14, 15]) (hs1 := [ha']) (hsL := [one bx _, one b0 _, hl, one mN _, one mL _, hE]) mixed (by kernel_rfl) pmX ?_
  repeat (first | refine goX ?_ | refine bxX fun b => ?_ | refine bsX fun b => ?_ | refine dwX 5 [([0, 1, 2, 3, 4, 5, 6, 7, 8, 9], [10, 11])] [] ?_ | refine dwX 11 [([0, 1, 2, 3, 4, 5, 6, 7, 8, 9], [10, 11, 12])] [13, 14, 15] ?_)
  refine o_appendO 1 tb rfl rfl oa rfl rfl rfl rfl rfl rfl ack_src (by intro g hg; rw [List.mem_singleton.1 hg]; exact List.mem_append_right _ (List.mem_of_getElem? (i := 0) rfl)) AckR.one ?_ rfl ?_
  · show (2 * (s.acks.length + 1) + 192) * 48 ≤ _
    omega
  intro v' ha2 o2
  have o3 := o2
  obtain ⟨a5, c5, rfl, _, _⟩ := OwnOf.rows o3
  repeat (first | refine goX ?_ | refine bxX fun b => ?_ | refine bsX fun b => ?_ | refine dwX 5 [([0, 1, 2, 3, 4, 5, 6, 7, 8, 9], [10, 11])] [] ?_ | refine dwX 11 [([0, 1, 2, 3, 4, 5, 6, 7, 8, 9], [10, 11, 12])] [13, 14, 15] ?_)
  refine post_join (hs1 := [one b0 _, hl, one mN _, one mL _, hE, ha2]) (junk := _) pmX fun hap => ?_
  refine post_ret (hs' := [_]) [_] rfl ⟨rfl, rfl⟩ slX ?_
  exact ⟨rfl, _, ⟨_, _, _, _, _, _, _, _, _, _, _, _, rfl, rfl, hap, ol, oN, oL, o2⟩, rfl⟩
end Go.Proofs.YtonnncdolofccaaGreat

namespace Go.Proofs.YtonnncdolofccaaGreat
attribute [local irreducible] RC RO EvE DR OpV Fn SlOf OwnSl postQ Src Rows Rdb CellsAt thenQ blockQ noGotoQ
set_option linter.unusedSimpArgs false
set_option linter.unusedVariables false

theorem put_new {p : Value} {s : St} {h : Hp} {e : En} {v : Value} {who : Int} {K : List Hp} (ho : IsS p s h) (hv : EnV K v e) (hr : right e = true ∧ e.tag.seq ≠ 0 ∧ 0 ≤ who ∧ who ≤ 1048575) (ha : s.acks.length ≤ 100000000) (hc0 : 0 < cmpT e.tag (ofE s.newer e.key).tag) (hg : s.g.ok) :
    Fn Tryz.prog 17 [p, v, .int .i64 who] K [h] fun r hs' => if s.g.d.l.length + s.g.d.t.length + (frameB 1 (enB e)).length ≤ 4194304 then r = .int .i64 0 ∧ ∃ h', IsS p ⟨⟨⟨s.g.d.l, s.g.d.t ++ frameB 1 (enB e), s.g.d.n⟩, s.g.rs ++ [⟨1, enB e⟩], s.g.last⟩, layE s.newer e, s.lasts, s.acks ++ [⟨who, e.key, e.tag⟩]⟩ h' ∧ hs' = [h'] else r = .int .i64 3 ∧ ∃ h', IsS p s h' ∧ hs' = [h'] := by
  obtain ⟨b0, pl, mN, mL, va, eN, cN, eL, cL, hl, hE, ha', rfl, rfl, ap, ol, oN, oL, oa⟩ := ho
  obtain ⟨bl, rfl⟩ := ol.ptr
  have oa' := oa
  obtain ⟨aa, ca, rfl, _, _⟩ := OwnOf.rows oa'
  obtain ⟨vs, rfl, a, c, rfl, hc, hS⟩ := hv
  obtain ⟨r1, r2, r3, r4⟩ := hr
  refine Fn.imp (Imp.split0 ap) ?_
  refine Fn.enter Tryz.func17 rfl rfl ?_; simp only [Tryz.ntmps17, argEnv, Nat.reduceAdd]
  repeat (first | refine goX ?_ | refine bxX fun b => ?_ | refine bsX fun b => ?_ | refine dwX 5 [([0, 1, 2, 3, 4, 5, 6, 7, 8, 9], [10, 11])] [] ?_ | refine dwX 11 [([0, 1, 2, 3, 4, 5, 6, 7, 8, 9], [10, 11, 12])] [13, 14, 15] ?_)
  refine RO.call0 rfl rfl rfl Tryz.func32 rfl (by kernel_rfl) (right_spec e _ _ ⟨_, rfl, a, c, rfl, hc, hS.sub (by intro g hg; simp [hg])⟩) ?_
  rintro v hs' ⟨rfl, rfl⟩
  simp only [r1, if_true]
  repeat (first | refine goX ?_ | refine bxX fun b => ?_ | refine bsX fun b => ?_ | refine dwX 5 [([0, 1, 2, 3, 4, 5, 6, 7, 8, 9], [10, 11])] [] ?_ | refine dwX 11 [([0, 1, 2, 3, 4, 5, 6, 7, 8, 9], [10, 11, 12])] [13, 14, 15] ?_)
  refine RO.call0 rfl rfl rfl Tryz.func33 rfl (by kernel_rfl) (none_spec _ _ _ _) ?_
  rintro v hs' ⟨rfl, rfl⟩
  simp only [r2, decide_false]
  repeat (first | refine goX ?_ | refine bxX fun b => ?_ | refine bsX fun b => ?_ | refine dwX 5 [([0, 1, 2, 3, 4, 5, 6, 7, 8, 9], [10, 11])] [] ?_ | refine dwX 11 [([0, 1, 2, 3, 4, 5, 6, 7, 8, 9], [10, 11, 12])] [13, 14, 15] ?_)
  refine e_lookup tb rfl rfl rfl rfl rfl rfl (rdb_one (List.mem_append_right _ (List.mem_of_getElem? (i := 3) rfl))) oN ?_
  intro v hlk
  obtain ⟨s1, hb1, u1, rfl⟩ := lookR_agg hlk
  simp only [lookV, Bool.false_eq_true, if_false]
  repeat (first | refine goX ?_ | refine bxX fun b => ?_ | refine bsX fun b => ?_ | refine dwX 5 [([0, 1, 2, 3, 4, 5, 6, 7, 8, 9], [10, 11])] [] ?_ | refine dwX 11 [([0, 1, 2, 3, 4, 5, 6, 7, 8, 9], [10, 11, 12])] [13, 14, 15] ?_)
  refine RO.call0 rfl rfl rfl Tryz.func34 rfl (by kernel_rfl) (compare_spec e.tag (ofE s.newer e.key).tag _) ?_
  rintro v hs' ⟨rfl, rfl⟩
  have hbl := enB_len r1
  have hel : e.b.length ≤ 60000 := by
    simp only [right, tagOk, decide_eq_true_eq] at r1
    omega
  repeat (first | refine goX ?_ | refine bxX fun b => ?_ | refine bsX fun b => ?_ | refine dwX 5 [([0, 1, 2, 3, 4, 5, 6, 7, 8, 9], [10, 11])] [] ?_)
  rename Nat => bx
  refine RO.call0 rfl rfl rfl Tryz.func35 rfl (by kernel_rfl) (bytes_spec (e := e) ⟨_, rfl, a, c, rfl, hc, hS.sub (by intro g hg; simp [hg])⟩ r1) ?_
  rintro v hs' ⟨u, hp, rfl, ob, rfl⟩
  have ob' := ob
  obtain ⟨a6, c6, rfl, hc6, hS6⟩ := OwnOf.rows ob'
  repeat (first | refine goX ?_ | refine bxX fun b => ?_ | refine bsX fun b => ?_ | refine dwX 5 [([0, 1, 2, 3, 4, 5, 6, 7, 8, 9], [10, 11])] [] ?_)
  have hsx : ∀ K', Sub [one b (.cells [.slice a6 (enB e).length c6].toArray 33 (0, 0)), hp] K' → SlOf K' (BsR K') 1 (some ⟨b, 0, none⟩) [enB e] := fun K' sb =>
    slOf_one (sb _ List.mem_cons_self) (rows_c1 ⟨_, rfl, _, _, rfl, hc6, hS6.sub (fun g hg => sb g (by simp at hg; simp [hg]))⟩ rows_nil)
  refine RO.call1 4 rfl rfl rfl Tryz.func36 rfl (by kernel_rfl) rfl rfl (wappend_spec (x := enB e) ol hg (hsx _ ?_) (by omega)) ?_
  · intro g hg
    simp only [List.mem_cons, List.not_mem_nil, or_false] at hg
    rcases hg with rfl | rfl
    · exact List.mem_append_right _ (List.mem_of_getElem? (i := 0) rfl)
    · exact List.mem_append_right _ (List.mem_of_getElem? (i := 1) rfl)
  by_cases hfit : s.g.d.l.length + s.g.d.t.length + (frameB 1 (enB e)).length ≤ 4194304
  case neg =>
    simp only [if_neg hfit]
    rintro v hs' ⟨rfl, hl', ol', rfl⟩
    repeat (first | refine goX ?_ | refine bxX fun b => ?_ | refine bsX fun b => ?_ | refine dwX 5 [([0, 1, 2, 3, 4, 5, 6, 7, 8, 9], [10, 11])] [] ?_)
    refine post_join (hs1 := [one b0 _, hl', one mN _, one mL _, hE, ha']) (junk := _) pmX fun hap => ?_
    refine post_ret (hs' := [_]) [_] rfl ⟨rfl, rfl⟩ slX ?_
    exact ⟨rfl, _, ⟨_, _, _, _, _, _, _, _, _, _, _, _, rfl, rfl, hap, ol', oN, oL, oa⟩, rfl⟩
  simp only [if_pos hfit]
  rintro v hs' ⟨rfl, hl', ol', rfl⟩
  repeat (first | refine goX ?_ | refine bxX fun b => ?_ | refine bsX fun b => ?_ | refine dwX 5 [([0, 1, 2, 3, 4, 5, 6, 7, 8, 9], [10, 11])] [] ?_)
  refine RO.know fun hap => ?_
  refine RO.callF (hs1 := [one b0 _, one mN _, hE]) (hs2 := [hl', one b _, hp, one bx _, one mL _, ha']) rfl rfl rfl Tryz.func37 rfl (by kernel_rfl) pmX (lay_spec (e := e) ⟨_, rfl, a, c, rfl, hc, hS.sub (Sub.left _ _)⟩ oN (by omega) (hap.of (junk := _) pmX)) ?_
  rintro v hs' ⟨eN', cN', hE', oN', lE, rfl⟩
  repeat (first | refine goX ?_ | refine bxX fun b => ?_ | refine bsX fun b => ?_ | refine dwX 5 [([0, 1, 2, 3, 4, 5, 6, 7, 8, 9], [10, 11])] [] ?_)
  refine RC.imp (Imp.take (hs1 := [ha', one bx _, one b0 _, hl', one mN _, one mL _, hE']) (junk := _) pmX) ?_
  refine RC.draw (id := 11) (ps := [([0, 1, 2, 3, 4, 5, 6, 7, 8, 9], [10, 11, 12])]) (c2 := [13, 14, 15]) (hs1 := [ha']) (hsL := [one bx _, one b0 _, hl', one mN _, one mL _, hE']) mixed (by kernel_rfl) pmX ?_
  repeat (first | refine goX ?_ | refine bxX fun b => ?_ | refine bsX fun b => ?_ | refine dwX 5 [([0, 1, 2, 3, 4, 5, 6, 7, 8, 9], [10, 11])] [] ?_ | refine dwX 11 [([0, 1, 2, 3, 4, 5, 6, 7, 8, 9], [10, 11, 12])] [13, 14, 15] ?_)
  refine o_appendO 1 tb rfl rfl oa rfl rfl rfl rfl rfl rfl ack_src (by intro g hg; rw [List.mem_singleton.1 hg]; exact List.mem_append_right _ (List.mem_of_getElem? (i := 0) rfl)) AckR.one ?_ rfl ?_
  · show (2 * (s.acks.length + 1) + 192) * 48 ≤ _
    omega
  intro v' ha2 o2
  have o3 := o2
  obtain ⟨a5, c5, rfl, _, _⟩ := OwnOf.rows o3
  repeat (first | refine goX ?_ | refine bxX fun b => ?_ | refine bsX fun b => ?_ | refine dwX 5 [([0, 1, 2, 3, 4, 5, 6, 7, 8, 9], [10, 11])] [] ?_ | refine dwX 11 [([0, 1, 2, 3, 4, 5, 6, 7, 8, 9], [10, 11, 12])] [13, 14, 15] ?_)
  refine post_join (hs1 := [one b0 _, hl', one mN _, one mL _, hE', ha2]) (junk := _) pmX fun hap => ?_
  refine post_ret (hs' := [_]) [_] rfl ⟨rfl, rfl⟩ slX ?_
  exact ⟨rfl, _, ⟨_, _, _, _, _, _, _, _, _, _, _, _, rfl, rfl, hap, ol', oN', oL.le lE, o2⟩, rfl⟩
end Go.Proofs.YtonnncdolofccaaGreat

namespace Go.Proofs.YtonnncdolofccaaGreat
attribute [local irreducible] RC RO EvE DR OpV Fn SlOf OwnSl postQ Src Rows Rdb CellsAt thenQ blockQ noGotoQ
set_option linter.unusedSimpArgs false
set_option linter.unusedVariables false

theorem sread_spec {bs mN : Nat} {pw vl va : Value} {ents : Array MapEntry} {clock : Nat} {es : List En} {x : List UInt8} {v : Value} {none : Bool} {hE : Hp} {K : List Hp} (hv : BytesV K v x) (hm : MpR [hE] es ents clock) (hx : x.length ≤ 100000000) (hbl : (readF x).1.b.length ≤ 140000000000000) :
    Fn Tryz.prog 81 [.pointer (some ⟨bs, 0, Option.none⟩), v, .bool none] K [one bs (.cells [pw, .map (some mN), vl, va].toArray 75 (0, 0)), one mN (.map ents clock), hE] fun r hs' =>
      if (readF x).2 = 0 ∧ (none = true ∨ (readF x).1.tag.seq ≠ 0) then r = .bool true ∧ ∃ ents' clock' hE', MpR [hE'] (layE es (readF x).1) ents' clock' ∧ Le [hE] [hE'] ∧ hs' = [one bs (.cells [pw, .map (some mN), vl, va].toArray 75 (0, 0)), one mN (.map ents' clock'), hE']
      else r = .bool false ∧ hs' = [one bs (.cells [pw, .map (some mN), vl, va].toArray 75 (0, 0)), one mN (.map ents clock), hE] := by
  refine Fn.enter Tryz.func81 rfl rfl ?_; simp only [Tryz.ntmps81, argEnv, Nat.reduceAdd]
  repeat (first | refine goX ?_ | refine alX fun b => ?_)
  refine RO.call0 rfl rfl rfl Tryz.func110 rfl (by kernel_rfl) (read_spec (hv.sub (Sub.left _ _)) (by omega)) ?_
  generalize readF x = g at *
  obtain ⟨e, er⟩ := g
  simp only at hbl ⊢
  rintro w hs' ⟨u, hp, rfl, ⟨u2, rfl, ou⟩, rfl⟩
  have ou' := ou
  obtain ⟨a6, c6, rfl, hc6, hS6⟩ := OwnOf.rows ou'
  by_cases he : er = 0
  case neg =>
    repeat (first | refine goX ?_ | refine alX fun b => ?_)
    refine post_ret (hs' := [one bs _, one mN _, hE]) [_] rfl ⟨rfl, rfl⟩ slX ?_
    rw [if_neg (fun h => he h.1)]
    exact ⟨rfl, rfl⟩
  subst he
  cases none
  · repeat (first | refine goX ?_ | refine alX fun b => ?_)
    refine RO.call0 rfl rfl rfl Tryz.func33 rfl (by kernel_rfl) (none_spec _ _ _ _) ?_
    rintro v hs' ⟨rfl, rfl⟩
    by_cases h0 : e.tag.seq = 0
    · simp only [h0, decide_true]
      repeat (first | refine goX ?_ | refine alX fun b => ?_)
      refine post_ret (hs' := [one bs _, one mN _, hE]) [_] rfl ⟨rfl, rfl⟩ slX ?_
      rw [if_neg (by simp [h0])]
      exact ⟨rfl, rfl⟩
    · simp only [h0, decide_false]
      repeat (first | refine goX ?_ | refine alX fun b => ?_)
      refine RO.know fun hap => ?_
      refine RO.callF (hs1 := [one bs _, one mN _, hE]) (hs2 := [one b _, hp]) rfl rfl rfl Tryz.func37 rfl (by kernel_rfl) pmX (lay_spec (e := e) ⟨_, rfl, a6, c6, rfl, hc6, hS6.sub (by intro g hg; simp at hg; simp [hg])⟩ hm hbl (hap.of (junk := _) pmX)) ?_
      rintro v hs' ⟨eN', cN', hE', oN', lE, rfl⟩
      repeat (first | refine goX ?_ | refine alX fun b => ?_)
      refine post_ret (hs' := [one bs _, one mN _, hE']) [_] rfl ⟨rfl, rfl⟩ slX ?_
      rw [if_pos (by simp [h0])]
      exact ⟨rfl, _, _, _, oN', lE, rfl⟩
  · repeat (first | refine goX ?_ | refine alX fun b => ?_)
    refine RO.know fun hap => ?_
    refine RO.callF (hs1 := [one bs _, one mN _, hE]) (hs2 := [one b _, hp]) rfl rfl rfl Tryz.func37 rfl (by kernel_rfl) pmX (lay_spec (e := e) ⟨_, rfl, a6, c6, rfl, hc6, hS6.sub (by intro g hg; simp at hg; simp [hg])⟩ hm hbl (hap.of (junk := _) pmX)) ?_
    rintro v hs' ⟨eN', cN', hE', oN', lE, rfl⟩
    repeat (first | refine goX ?_ | refine alX fun b => ?_)
    refine post_ret (hs' := [one bs _, one mN _, hE']) [_] rfl ⟨rfl, rfl⟩ slX ?_
    rw [if_pos (by simp)]
    exact ⟨rfl, _, _, _, oN', lE, rfl⟩
end Go.Proofs.YtonnncdolofccaaGreat

namespace Go.Proofs.YtonnncdolofccaaGreat
attribute [local irreducible] RC RO EvE DR OpV Fn SlOf OwnSl postQ Src Rows Rdb CellsAt thenQ blockQ noGotoQ
set_option linter.unusedSimpArgs false
set_option linter.unusedVariables false

theorem failF_e (r : Rd) : (failF r).e ≠ 0 := by
  unfold failF; split
  · show (11 : Int) ≠ 0
    decide
  · assumption
theorem getF_cases (r : Rd) : ((getF r).1 = En.zero ∧ (getF r).2.e ≠ 0) ∨ right (getF r).1 = true := by
  unfold getF
  dsimp only
  repeat' split
  all_goals first
    | exact .inl ⟨rfl, failF_e _⟩
    | (rename_i h; right; simp only [not_or, Bool.not_eq_false] at h; exact h.2)
theorem readF_right {x : List UInt8} (h : (readF x).2 = 0) : right (readF x).1 = true := by
  unfold readF at h ⊢
  split at h
  · rename_i h2; exact absurd h h2
  · rename_i h2
    rw [if_neg h2]
    rcases getF_cases ⟨x, 0⟩ with h3 | h3
    · exfalso; apply h2
      unfold endF; rw [if_pos h3.2]; exact h3.2
    · exact h3
theorem right_blen {e : En} (h : right e = true) : e.b.length ≤ 60000 ∧ 0 < e.key.length ∧ e.key.length ≤ 250 := by
  simp only [right, decide_eq_true_eq] at h
  omega
theorem readF_blen (x : List UInt8) : (readF x).1.b.length ≤ 60000 := by
  unfold readF
  split
  · exact Nat.zero_le _
  · rcases getF_cases ⟨x, 0⟩ with h3 | h3
    · rw [h3.1]; exact Nat.zero_le _
    · exact (right_blen h3).1

/-- an entry that is read is laid -/
def readOk (none : Bool) (x : List UInt8) : Prop := (readF x).2 = 0 ∧ (none = true ∨ (readF x).1.tag.seq ≠ 0)
instance (none : Bool) (x : List UInt8) : Decidable (readOk none x) := inferInstanceAs (Decidable (_ ∧ _))
def layRows : List En → List (List UInt8) → Option (List En)
  | es, [] => some es
  | es, x :: xs => if readOk true x then layRows (layE es (readF x).1) xs else none
def layRecs : List En → List Rc → Option (List En)
  | es, [] => some es
  | es, r :: rs => if r.kind = 1 ∧ readOk false r.b then layRecs (layE es (readF r.b).1) rs else none

/-- the parts of a store that is being recovered -/
def isR (bs mN : Nat) (pw vl va : Value) (es : List En) (hs : List Hp) : Prop := ∃ ents clock hE, MpR [hE] es ents clock ∧ hs = [one bs (.cells [pw, .map (some mN), vl, va].toArray 75 (0, 0)), one mN (.map ents clock), hE]

theorem rec1_spec {b8 bs mN : Nat} {pw vl va : Value} {es : List En} {x : List UInt8} {v : Value} {hs : List Hp} {K : List Hp} (hb : Rdb K b8 (.cells [.pointer (some ⟨bs, 0, none⟩)].toArray 25 (0, 0))) (hv : BytesV K v x) (hR : isR bs mN pw vl va es hs) (hx : x.length ≤ 100000000) :
    Fn Tryz.prog 80 [v, .pointer (some ⟨b8, 0, none⟩)] K hs fun r hs' => (readOk true x ∧ r = .bool false ∧ isR bs mN pw vl va (layE es (readF x).1) hs') ∨ (¬ readOk true x ∧ r = .bool true ∧ isR bs mN pw vl va es hs') := by
  obtain ⟨ents, clock, hE, hm, rfl⟩ := hR
  have hcell : CellsAt K ⟨b8, 0, none⟩ [.pointer (some ⟨bs, 0, none⟩)] := cellsAt_of hb rfl
  refine Fn.enter Tryz.func80 rfl rfl ?_; simp only [Tryz.ntmps80, argEnv, Nat.reduceAdd]
  repeat refine goX ?_
  refine RO.callF (hs1 := [one bs _, one mN _, hE]) (hs2 := []) rfl rfl rfl Tryz.func81 rfl (by kernel_rfl) (by rw [List.append_nil]) (sread_spec (x := x) (none := true) (hv.sub (Sub.left _ _)) hm hx (by have := readF_blen x; omega)) ?_
  intro r hs' h
  by_cases hok : readOk true x
  · have hok' := hok
    unfold readOk at hok'
    rw [if_pos hok'] at h
    obtain ⟨rfl, e2, c2, hE2, hm2, -, rfl⟩ := h
    repeat refine goX ?_
    refine post_ret (hs' := [_, _, _]) [_] rfl ⟨rfl, rfl⟩ slX ?_
    exact .inl ⟨hok, rfl, _, _, _, hm2, rfl⟩
  · have hok' := hok
    unfold readOk at hok'
    rw [if_neg hok'] at h
    obtain ⟨rfl, rfl⟩ := h
    repeat refine goX ?_
    refine post_ret (hs' := [_, _, _]) [_] rfl ⟨rfl, rfl⟩ slX ?_
    exact .inr ⟨hok, rfl, _, _, _, hm, rfl⟩

theorem layRows_snoc : ∀ (xs : List (List UInt8)) (es : List En) (x : List UInt8), layRows es (xs ++ [x]) = (layRows es xs).bind fun es' => if readOk true x then some (layE es' (readF x).1) else none
  | [], es, x => by simp [layRows]
  | y :: ys, es, x => by
    simp only [List.cons_append, layRows]
    split
    · exact layRows_snoc ys _ x
    · rfl
theorem layRows_bad : ∀ (xs ys : List (List UInt8)) (es : List En), layRows es xs = none → layRows es (xs ++ ys) = none
  | [], _, _, h => by simp [layRows] at h
  | x :: xs, ys, es, h => by
    simp only [List.cons_append, layRows] at h ⊢
    split
    · rename_i h1
      rw [if_pos h1] at h
      exact layRows_bad xs ys _ h
    · rfl
theorem layRecs_snoc : ∀ (xs : List Rc) (es : List En) (x : Rc), layRecs es (xs ++ [x]) = (layRecs es xs).bind fun es' => if x.kind = 1 ∧ readOk false x.b then some (layE es' (readF x.b).1) else none
  | [], es, x => by simp [layRecs]
  | y :: ys, es, x => by
    simp only [List.cons_append, layRecs]
    split
    · exact layRecs_snoc ys _ x
    · rfl
theorem layRecs_bad : ∀ (xs ys : List Rc) (es : List En), layRecs es xs = none → layRecs es (xs ++ ys) = none
  | [], _, _, h => by simp [layRecs] at h
  | x :: xs, ys, es, h => by
    simp only [List.cons_append, layRecs] at h ⊢
    split
    · rename_i h1
      rw [if_pos h1] at h
      exact layRecs_bad xs ys _ h
    · rfl
theorem take_succ_eq {α : Type} {l : List α} {i : Nat} {x : α} (h : l[i]? = some x) : l.take (i + 1) = l.take i ++ [x] := by rw [List.take_add_one, h]; rfl
theorem take_drop_eq {α : Type} {l : List α} {i : Nat} {x : α} (h : l[i]? = some x) : l = (l.take i ++ [x]) ++ l.drop (i + 1) := by rw [← take_succ_eq h, List.take_append_drop]

theorem index_spec {b8 bs mN : Nat} {pw vl va : Value} {a : Option Addr} {c : Nat} {rows : List (List UInt8)} {hs : List Hp} {K M : List Hp} (hb : Rdb K b8 (.cells [.pointer (some ⟨bs, 0, none⟩)].toArray 25 (0, 0))) (hS : SlOf K (BsR M) 1 a rows) (hM : Le M K) (hc : rows.length ≤ c) (hR : isR bs mN pw vl va [] hs) (hl : rows.length ≤ 100000000) (hx : ∀ x, x ∈ rows → x.length ≤ 100000000) :
    Fn Tryz.prog 109 [.slice a rows.length c, .func (.func 80) #[] #[.pointer (some ⟨b8, 0, none⟩)]] K hs fun r hs' => (∃ es, layRows [] rows = some es ∧ r = .int .i64 (-1) ∧ isR bs mN pw vl va es hs') ∨ (layRows [] rows = none ∧ ∃ i : Nat, r = .int .i64 (i : Int)) := by
  refine Fn.enter Tryz.func109 rfl rfl ?_; simp only [Tryz.ntmps109, argEnv, Nat.reduceAdd]
  repeat refine goX ?_
  refine RC.loopI (fun s : Nat × List En × List Hp => [(8, .int .i64 (s.1 : Int)), (7, .int .i64 (rows.length : Int)), (1, .func (.func 80) #[] #[.pointer (some ⟨b8, 0, none⟩)]), (0, .slice a rows.length c)]) (fun s => s.2.2)
    (fun s => s.1 ≤ rows.length ∧ layRows [] (rows.take s.1) = some s.2.1 ∧ isR bs mN pw vl va s.2.1 s.2.2) (fun s => rows.length - s.1) (0, [], hs) ⟨Nat.zero_le _, rfl, hR⟩ leX (Imp.sublist (List.Sublist.refl _)) ?_
  rintro ⟨i, es, hs1⟩ ⟨hi, hlr, hR1⟩
  simp only at hi hlr hR1 ⊢
  by_cases h1 : i = rows.length
  · subst h1
    rw [List.take_length] at hlr
    repeat refine goX ?_
    refine post_ret (hs' := hs1) [_] rfl ⟨rfl, rfl⟩ slX ?_
    exact .inl ⟨es, hlr, rfl, hR1⟩
  · have hi2 : i < rows.length := by omega
    have hx1 : rows[i]? = some rows[i] := List.getElem?_eq_getElem hi2
    have hxi := hx _ (List.mem_of_getElem? hx1)
    generalize rows[i] = x at *
    repeat refine goX ?_
    refine o_indexAddr tb (R := _) (sz := 1) rfl rfl rfl rfl rfl hS (by omega) (by omega) (by first | exact hx1 | simpa using hx1) rfl ?_
    rintro b' off vs ⟨v, rfl, hv⟩ _ hcell
    repeat refine goX ?_
    refine RO.callF (hs1 := hs1) (hs2 := []) rfl rfl rfl Tryz.func80 rfl (by kernel_rfl) (by rw [List.append_nil]) (rec1_spec (x := x) (hb.sub (Sub.left _ _)) (hv.le (hM.trans (Le.sub (Sub.left _ _)))) hR1 hxi) ?_
    rintro r hs' (⟨hok, rfl, hR2⟩ | ⟨hok, rfl, hR2⟩)
    · rw [List.append_nil]
      repeat refine goX ?_
      refine ⟨(i + 1, layE es (readF x).1, hs'), ⟨by simp only; omega, ?_, hR2⟩, by simp only; omega, leX, Imp.sublist (List.Sublist.refl _)⟩
      simp only
      rw [take_succ_eq hx1, layRows_snoc, hlr, Option.bind_some, if_pos hok]
    · repeat refine goX ?_
      refine post_ret (hs' := []) [_] rfl ⟨rfl, rfl⟩ (List.nil_sublist _) ?_
      refine .inr ⟨?_, i, rfl⟩
      rw [take_drop_eq hx1]
      refine layRows_bad _ _ _ ?_
      rw [layRows_snoc, hlr, Option.bind_some, if_neg hok]

theorem contains_spec {b8 bs mN : Nat} {pw vl va : Value} {a : Option Addr} {c : Nat} {rows : List (List UInt8)} {hs : List Hp} {K M : List Hp} (hb : Rdb K b8 (.cells [.pointer (some ⟨bs, 0, none⟩)].toArray 25 (0, 0))) (hS : SlOf K (BsR M) 1 a rows) (hM : Le M K) (hc : rows.length ≤ c) (hR : isR bs mN pw vl va [] hs) (hl : rows.length ≤ 100000000) (hx : ∀ x, x ∈ rows → x.length ≤ 100000000) :
    Fn Tryz.prog 79 [.slice a rows.length c, .func (.func 80) #[] #[.pointer (some ⟨b8, 0, none⟩)]] K hs fun r hs' => (∃ es, layRows [] rows = some es ∧ r = .bool false ∧ isR bs mN pw vl va es hs') ∨ (layRows [] rows = none ∧ r = .bool true) := by
  refine Fn.enter Tryz.func79 rfl rfl ?_; simp only [Tryz.ntmps79, argEnv, Nat.reduceAdd]
  repeat refine goX ?_
  refine RO.callF (hs1 := hs) (hs2 := []) rfl rfl rfl Tryz.func109 rfl (by kernel_rfl) (by rw [List.append_nil]) (index_spec (rows := rows) (M := M) (hb.sub (Sub.left _ _)) (hS.sub (Sub.left _ _)) (hM.trans (Le.sub (Sub.left _ _))) hc hR hl hx) ?_
  rintro r hs' (⟨es, hl, rfl, hR2⟩ | ⟨hl, i, rfl⟩)
  · rw [List.append_nil]
    repeat refine goX ?_
    refine post_ret (hs' := hs') [_] rfl ⟨rfl, rfl⟩ slX ?_
    exact .inl ⟨es, hl, rfl, hR2⟩
  · repeat refine goX ?_
    refine post_ret (hs' := []) [_] rfl ⟨rfl, rfl⟩ (List.nil_sublist _) ?_
    exact .inr ⟨hl, rfl⟩
end Go.Proofs.YtonnncdolofccaaGreat

namespace Go.Proofs.YtonnncdolofccaaGreat
attribute [local irreducible] RC RO EvE DR OpV Fn SlOf OwnSl postQ Src Rows Rdb CellsAt thenQ blockQ noGotoQ
set_option linter.unusedSimpArgs false
set_option linter.unusedVariables false

theorem scan_rec {b : List UInt8} {r : Rc} (h : r ∈ (scan b).1) : r.b.length ≤ 65536 := by
  generalize hn : b.length = n
  induction n using Nat.strongRecOn generalizing b with
  | _ n ih =>
    cases hx : next b with
    | none => rw [scan_none hx] at h; cases h
    | some x =>
      obtain ⟨k, y, m⟩ := x
      have hf := next_facts hx
      rw [scan_some hx] at h
      rcases List.mem_cons.1 h with rfl | h
      · exact hf.2.2
      · exact ih (b.drop m).length (by rw [List.length_drop]; omega) h rfl
theorem lastG_facts (rs : List Rc) : ∀ i, ((lastG rs i).1 = [] ∨ ∃ r, r ∈ rs ∧ (lastG rs i).1 = r.b) ∧ (lastG rs i).2.length ≤ rs.length ∧ ∀ r, r ∈ (lastG rs i).2 → r ∈ rs
  | 0 => ⟨.inl rfl, Nat.le_refl _, fun _ h => h⟩
  | i + 1 => by
    unfold lastG
    split
    · rename_i r hr
      split
      · refine ⟨.inr ⟨r, List.mem_of_getElem? hr, rfl⟩, ?_, fun _ h => List.mem_of_mem_drop h⟩
        simp only [List.length_drop]; omega
      · exact lastG_facts rs i
    · exact lastG_facts rs i
theorem lastF_len {b : List UInt8} : (lastF (scan b).1).1.length ≤ 65536 := by
  rcases (lastG_facts (scan b).1 (scan b).1.length).1 with h | ⟨r, hr, h⟩
  · unfold lastF; rw [h]; exact Nat.zero_le _
  · unfold lastF; rw [h]; exact scan_rec hr
theorem rowsF_len (r : Rd) : (rowsF r).1.length ≤ r.b.length ∧ ∀ x, x ∈ (rowsF r).1 → x.length ≤ r.b.length := by
  generalize hn : r.b.length = n
  induction n using Nat.strongRecOn generalizing r with
  | _ n ih =>
    by_cases h0 : r.b.length = 0
    · rw [rowsF_nil h0]; exact ⟨Nat.zero_le _, fun _ h => by cases h⟩
    · by_cases h1 : (rowF r).2.e = 0
      · have hd := rowF_dec h1
        obtain ⟨i1, i2⟩ := ih _ (by omega) (rowF r).2 rfl
        rw [rowsF_step h0 h1]
        refine ⟨by simp only [List.length_cons]; omega, fun x hx => ?_⟩
        rcases List.mem_cons.1 hx with rfl | hx
        · have : (rowF r).1.length ≤ r.b.length := by
            unfold rowF
            repeat' split
            all_goals first
              | exact Nat.zero_le _
              | (simp only [List.length_drop, List.length_take]; omega)
          omega
        · have := i2 x hx; omega
      · rw [rowsF_bad h0 h1]; exact ⟨Nat.zero_le _, fun _ h => by cases h⟩

theorem empty_parts {p : Value} {bp : Nat} (hp : p = .pointer (some ⟨bp, 0, none⟩)) {K : List Hp} : Fn Tryz.prog 24 [p] K [] fun r hs' => ∃ bs mN mL, r = .pointer (some ⟨bs, 0, none⟩) ∧ hs' = [one bs (.cells [p, .map (some mN), .map (some mL), .slice none 0 0].toArray 75 (0, 0)), one mN (.map #[] 0), one mL (.map #[] 0)] := by
  subst hp
  refine Fn.enter Tryz.func24 rfl rfl ?_; simp only [Tryz.ntmps24, argEnv, Nat.reduceAdd]
  repeat (first | refine goX ?_ | refine bxX fun b => ?_)
  refine o_makeMap rfl fun mN => ?_
  repeat (first | refine goX ?_ | refine bxX fun b => ?_)
  refine o_makeMap rfl fun mL => ?_
  repeat (first | refine goX ?_ | refine bxX fun b => ?_)
  refine post_imp (Imp.take (hs1 := [one b _, one mN _, one mL _]) (junk := []) pmX) ?_
  refine post_ret (hs' := [_, _, _]) [_] rfl ⟨rfl, rfl⟩ slX ?_
  exact ⟨_, _, _, rfl, rfl⟩

def recoverF (x : List UInt8) : Option (List En) :=
  if endF (rowsF ⟨(lastF (scan x).1).1, 0⟩).2 = 0 then (layRows [] (rowsF ⟨(lastF (scan x).1).1, 0⟩).1).bind fun es => layRecs es (lastF (scan x).1).2 else none

theorem recover_spec {p : Value} {d : Dk} {K : List Hp} (h : RdD K p d) (hd : d.ok) : Fn Tryz.prog 51 [p] K [] fun r hs' => match recoverF (d.l ++ d.t) with
    | some es => ∃ u n h, r = .tuple #[u, .int .i64 n, .int .i64 0] ∧ IsS u ⟨⟨⟨(d.l ++ d.t).take (scan (d.l ++ d.t)).2, [], d.n⟩, (scan (d.l ++ d.t)).1, (scan (d.l ++ d.t)).1.length⟩, es, es, []⟩ h ∧ hs' = [h]
    | none => r = .tuple #[.pointer none, .int .i64 0, .int .i64 11] ∧ hs' = [] := by
  have hd2 : d.l.length + d.t.length ≤ 4194304 := hd
  have hl : (d.l ++ d.t).length ≤ 4194304 := by rw [List.length_append]; omega
  have hsc := scan_le (b := d.l ++ d.t)
  have hsr : ∀ r, r ∈ (scan (d.l ++ d.t)).1 → r.b.length ≤ 65536 := fun r hr => scan_rec hr
  have hlf := lastF_len (b := d.l ++ d.t)
  have hlg := lastG_facts (scan (d.l ++ d.t)).1 (scan (d.l ++ d.t)).1.length
  unfold recoverF
  refine Fn.enter Tryz.func51 rfl rfl ?_; simp only [Tryz.ntmps51, argEnv, Nat.reduceAdd]
  repeat (first | refine goX ?_ | refine alX fun b => ?_)
  refine RO.call0 rfl rfl rfl Tryz.func76 rfl (by kernel_rfl) (wopen_spec (h.le (Le.sub (Sub.left _ _))) hd) ?_
  generalize hxe : d.l ++ d.t = x at *
  rintro v hs' ⟨u, n, hL, rfl, oL, rfl⟩
  have hrd := oL.rd
  obtain ⟨bl, rfl⟩ := oL.ptr
  repeat (first | refine goX ?_ | refine alX fun b => ?_)
  refine RO.call0 rfl rfl rfl Tryz.func24 rfl (by kernel_rfl) (empty_parts rfl) ?_
  rintro v hs' ⟨bs, mN, mL, rfl, rfl⟩
  repeat (first | refine goX ?_ | refine alX fun b => ?_)
  rename Nat => b8
  refine RO.call0 rfl rfl rfl Tryz.func77 rfl (by kernel_rfl) (wlast_spec (g := ⟨⟨x.take (scan x).2, [], d.n⟩, (scan x).1, (scan x).1.length⟩) (hrd.le (Le.sub (by intro g hg; simp at hg; simp [hg]))) (by simp only; omega) (fun r hr => by have := hsr r hr; omega)) ?_
  rintro v hs' ⟨u2, v2, ha, hB, rfl, hu2, hv2, rfl⟩
  simp only at hu2 hv2
  change (_ ∨ _) ∧ (lastF (scan x).1).2.length ≤ _ ∧ (∀ r, r ∈ (lastF (scan x).1).2 → _) at hlg
  generalize lastF (scan x).1 = sl at *
  obtain ⟨snap, recs⟩ := sl
  simp only at hu2 hv2 hlf hlg ⊢
  obtain ⟨a9, c9, rfl, hc9, hS9⟩ := hu2
  obtain ⟨a10, c10, rfl, hc10, hS10⟩ := hv2
  repeat (first | refine goX ?_ | refine alX fun b => ?_)
  refine RO.call0 rfl rfl rfl Tryz.func78 rfl (by kernel_rfl) (rows_spec (x := snap) ⟨_, _, rfl, hc9, hS9.sub sbX⟩ (by omega)) ?_
  have hrl := rowsF_len ⟨snap, 0⟩
  generalize rowsF ⟨snap, 0⟩ = rw0 at *
  obtain ⟨rows, rd⟩ := rw0
  simp only at hrl ⊢
  by_cases he : endF rd = 0
  case neg =>
    simp only [if_neg he]
    rintro v hs' ⟨rfl, rfl⟩
    repeat (first | refine goX ?_ | refine alX fun b => ?_)
    refine post_ret (hs' := []) [_, _, _] rfl ⟨rfl, rfl, rfl, rfl⟩ (List.nil_sublist _) ?_
    exact ⟨rfl, rfl⟩
  simp only [if_pos he]
  rintro v hs' ⟨u3, hr1, hr2, rfl, orow, rfl⟩
  obtain ⟨a11, c11, rfl, hc11, hS11⟩ := OwnOf.rows orow
  repeat (first | refine goX ?_ | refine alX fun b => ?_)
  refine RO.emp ?_
  refine RO.callF (hs1 := [one bs _, one mN _, emp]) (hs2 := [hr1, hr2, one b8 _, hB, ha, one mL _, hL]) rfl rfl rfl Tryz.func79 rfl (by kernel_rfl) pmX (contains_spec (rows := rows) (M := [hr2]) (rdb_one (List.mem_append_right _ (List.mem_of_getElem? (i := 2) rfl))) (hS11.sub sbX) (Le.sub sbX) hc11 ⟨#[], 0, emp, MpR.nil _, rfl⟩ (by have := hrl.1; omega) (fun x hx => by have := hrl.2 x hx; omega)) ?_
  rintro v hs' (⟨es, hes, rfl, ents, clock, hE, hm, rfl⟩ | ⟨hes, rfl⟩)
  case inr =>
    simp only [hes, Option.bind_none]
    repeat (first | refine goX ?_ | refine alX fun b => ?_)
    refine post_ret (hs' := []) [_, _, _] rfl ⟨rfl, rfl, rfl, rfl⟩ (List.nil_sublist _) ?_
    exact ⟨rfl, rfl⟩
  simp only [hes, Option.bind_some]
  repeat (first | refine goX ?_ | refine alX fun b => ?_)
  refine RC.loopI (fun s : Nat × List En × Array MapEntry × Nat × Hp => [(45, .int .i64 (s.1 : Int)), (44, .int .i64 (recs.length : Int)), (43, .slice a10 recs.length c10), (12, .bool true), (8, .pointer (some ⟨b8, 0, none⟩)), (6, .int .i64 n)])
    (fun s => [one bs (.cells [.pointer (some ⟨bl, 0, none⟩), .map (some mN), .map (some mL), .slice none 0 0].toArray 75 (0, 0)), one mN (.map s.2.2.1 s.2.2.2.1), s.2.2.2.2, one b8 (.cells [.pointer (some ⟨bs, 0, none⟩)].toArray 25 (0, 0)), hB, ha, hL])
    (fun s => s.1 ≤ recs.length ∧ layRecs es (recs.take s.1) = some s.2.1 ∧ MpR [s.2.2.2.2] s.2.1 s.2.2.1 s.2.2.2.1) (fun s => recs.length - s.1) (0, es, ents, clock, hE) ⟨Nat.zero_le _, rfl, hm⟩ leX (Imp.take (junk := _) pmX) ?_
  rintro ⟨i, es1, e1, c1, hE1⟩ ⟨hi, hlr, hm1⟩
  simp only at hi hlr hm1 ⊢
  by_cases h1 : i = recs.length
  · subst h1
    rw [List.take_length] at hlr
    simp only [hlr]
    repeat (first | refine goX ?_ | refine alX fun b => ?_)
    refine RO.callF (hs1 := [one bs _, one mN _]) (hs2 := [hE1, one b8 _, hB, ha, hL]) rfl rfl rfl Tryz.func29 rfl (by kernel_rfl) pmX settle_parts ?_
    rintro v hs' ⟨b', rfl⟩
    repeat (first | refine goX ?_ | refine alX fun b => ?_)
    refine post_imp (Imp.emp _) ?_
    refine post_join (hs1 := [one bs _, hL, one mN _, one b' _, hE1, emp]) (junk := _) pmX fun hap => ?_
    refine post_ret (hs' := [_]) [_, _, _] rfl ⟨rfl, rfl, rfl, rfl⟩ slX ?_
    exact ⟨_, _, _, rfl, ⟨_, _, _, _, _, _, _, _, _, _, _, _, rfl, rfl, hap, oL, hm1, hm1, OwnOf.nil _ _⟩, rfl⟩
  · have hi2 : i < recs.length := by omega
    have hx1 : recs[i]? = some recs[i] := List.getElem?_eq_getElem hi2
    have hxi := hsr _ (hlg.2.2 _ (List.mem_of_getElem? hx1))
    generalize recs[i] = r at *
    obtain ⟨k, y⟩ := r
    simp only at hxi
    repeat (first | refine goX ?_ | refine alX fun b => ?_)
    refine o_indexAddr tb (R := _) (sz := 2) rfl rfl rfl rfl rfl hS10 (by omega) (by omega) (by first | exact hx1 | simpa using hx1) rfl ?_
    rintro b' off vs ⟨av, cv, rfl, hcv, hSv⟩ _ hcell
    repeat (first | refine goX ?_ | refine alX fun b => ?_)
    by_cases hk : k = 1
    case neg =>
      have hk' : ¬ (k.toNat : Int) = 1 := fun e => hk (UInt8.toNat_inj.1 (show k.toNat = 1 by exact_mod_cast e))
      have hbad : layRecs es recs = none := by
        rw [take_drop_eq hx1]
        refine layRecs_bad _ _ _ ?_
        rw [layRecs_snoc, hlr, Option.bind_some, if_neg (fun h => hk h.1)]
      simp only [hbad, hk', decide_false]
      repeat (first | refine goX ?_ | refine alX fun b => ?_)
      refine post_ret (hs' := []) [_, _, _] rfl ⟨rfl, rfl, rfl, rfl⟩ (List.nil_sublist _) ?_
      exact ⟨rfl, rfl⟩
    have hk' : (k.toNat : Int) = 1 := by rw [hk]; rfl
    simp only [hk', decide_true]
    repeat (first | refine goX ?_ | refine alX fun b => ?_)
    refine RO.callF (hs1 := [one bs _, one mN _, hE1]) (hs2 := [one b _, one b8 _, hB, ha, hL]) rfl rfl rfl Tryz.func81 rfl (by kernel_rfl) pmX (sread_spec (x := y) (none := false) ⟨_, _, rfl, hcv, hSv.sub sbX⟩ hm1 (by omega) (by have := readF_blen y; omega)) ?_
    intro r hs' h
    by_cases hok : readOk false y
    · have hok' := hok
      unfold readOk at hok'
      rw [if_pos hok'] at h
      obtain ⟨rfl, e2, c2, hE2, hm2, -, rfl⟩ := h
      repeat (first | refine goX ?_ | refine alX fun b => ?_)
      refine ⟨(i + 1, layE es1 (readF y).1, e2, c2, hE2), ⟨by simp only; omega, ?_, hm2⟩, by simp only; omega, leX, Imp.take (junk := _) pmX⟩
      simp only
      rw [take_succ_eq hx1, layRecs_snoc, hlr, Option.bind_some, if_pos ⟨hk, hok⟩]
    · have hok' := hok
      unfold readOk at hok'
      rw [if_neg hok'] at h
      obtain ⟨rfl, rfl⟩ := h
      have hbad : layRecs es recs = none := by
        rw [take_drop_eq hx1]
        refine layRecs_bad _ _ _ ?_
        rw [layRecs_snoc, hlr, Option.bind_some, if_neg (fun h => hok h.2)]
      simp only [hbad]
      repeat (first | refine goX ?_ | refine alX fun b => ?_)
      refine post_ret (hs' := []) [_, _, _] rfl ⟨rfl, rfl, rfl, rfl⟩ (List.nil_sublist _) ?_
      exact ⟨rfl, rfl⟩
end Go.Proofs.YtonnncdolofccaaGreat
