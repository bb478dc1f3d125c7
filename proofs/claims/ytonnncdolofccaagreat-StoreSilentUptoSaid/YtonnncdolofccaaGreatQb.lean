/- The frame of our walks: its last words. Conditions: none.
   The frame of our walks: elements of one's own slices; shorter rules. Conditions: none.
   The frame of our walks: parts joined and parted. Conditions: none.
   The frame of our walks: a range over a function. Conditions: none.
   The frame of our walks: many small steps at once. Conditions: none.
   Plain words: tags, entries, and the bytes of these. Conditions: none. -/
import Derived.Test.YtonnncdolofccaaGreatQt
import Derived.RangeFuncRecord
namespace Go.Proofs.YtonnncdolofccaaGreat
section
variable {N : Env → List Hp → Prop} {Q : Exit → Env → List Hp → Prop} {ρ : Env} {hs : List Hp} {i id : Nat}
theorem q_then (h : N ρ hs) : thenQ N Q .normal ρ hs := h
theorem q_thenX (h : Q (.exit i) ρ hs) : thenQ N Q (.exit i) ρ hs := h
theorem q_thenR (h : Q .ret ρ hs) : thenQ N Q .ret ρ hs := h
theorem q_blk (h : Q .normal ρ hs) : blockQ id Q .normal ρ hs := h
theorem q_blkR (h : Q .ret ρ hs) : blockQ id Q .ret ρ hs := h
theorem q_blkX (e : Nat.beq i id = true) (h : Q .normal ρ hs) : blockQ id Q (.exit i) ρ hs := by simp only [blockQ]; rw [e]; exact h
theorem q_blkY (e : Nat.beq i id = false) (h : Q (.exit i) ρ hs) : blockQ id Q (.exit i) ρ hs := by simp only [blockQ]; rw [e]; exact h
end
/-- a body within a scope of labels -/
def noGotoQ (Q : Exit → Env → List Hp → Prop) : Exit → Env → List Hp → Prop
  | .goto _, _, _ => False
  | e, ρ, hs => Q e ρ hs
theorem RC.scope {P : Program} {n : Nat} {ρ : Env} {K hs : List Hp} {Q : Exit → Env → List Hp → Prop} {c : Code} (h : RC P n c ρ K hs (noGotoQ Q)) : RC P n (.scope c) ρ K hs Q := by
  intro r a w F ha hK ho b k cs hro hb hr
  have h0 : (lone (b.atR a (.code (.scope c) :: k)) cs w).fenced P (fen r) := fenced_calm hb hr rfl
  have st : step P (lone (b.atR a (.code (.scope c) :: k)) cs w) = .next (lone (b.atR a (.code c :: .inScope c :: k)) cs w) := step_lone_go (by simp [stepG, stepG.exec, Frame.atR])
  obtain ⟨e, a1, w1, ⟨np, ρ', hs', x, y, z, q⟩, harr⟩ := h r a w F ha hK ho b (.inScope c :: k) cs hro hb hr
  cases e with
  | normal =>
    have st2 : step P (lone (b.atR a1 (.inScope c :: k)) cs w1) = .next (lone (b.atR a1 k) cs w1) := step_lone_go (by simp [stepG, stepG.exec, Frame.atR])
    exact ⟨.normal, a1, w1, ⟨np, ρ', hs', x, y, z, q⟩, .head h0 st (StepsIn.trans harr (.one (fenced_calm hb hr rfl) st2))⟩
  | exit id =>
    exact ⟨.exit id, a1, w1, ⟨np, ρ', hs', x, y, z, q⟩, .of_steps (.one h0 st) ⟨fun k' hk => harr.1 k' (by simp [exitTo, hk]), fun hr' hk => harr.2 hr' (by simp [exitTo, hk])⟩⟩
  | goto l => exact q.elim
  | ret => exact ⟨_, a1, w1, ⟨np, ρ', hs', x, y, z, q⟩, .of_steps (.one h0 st) harr⟩
  | panic ch => exact absurd rfl (np.np ch)
  | outgrown => exact absurd rfl np.no
section
variable {Q : Exit → Env → List Hp → Prop} {ρ : Env} {hs : List Hp} {i : Nat}
theorem q_ng (h : Q .normal ρ hs) : noGotoQ Q .normal ρ hs := h
theorem q_ngR (h : Q .ret ρ hs) : noGotoQ Q .ret ρ hs := h
theorem q_ngX (h : Q (.exit i) ρ hs) : noGotoQ Q (.exit i) ρ hs := h
end
theorem EvE.nil {P : Program} {n : Nat} {ops : Array Oper} {M : List Hp} {ρ : Env} {N : Env → Prop} (h : N ρ) : EvE P n ops M ρ [] N := h

section
variable {P : Program} {tab : Tab} {n : Nat} {ρ : Env} {M : List Hp} {d : Nat} {ty : TypeId} {pos : String} {after : Array Edge}

theorem run_part (ht : TabOk P tab) {T : TypeId} {i : TI} (hT : lkT tab T = some i) {l vs : List Value} {off : Nat} {v : Value} (hr : takeRow l off i.size = some vs) (hv : ofCells i.und vs = some v) (w : World) : (part T l.toArray off).run P w = .ok v w := by
  have hA := (ht T i hT).run_isAgg w
  have hS := (ht T i hT).run_size w
  obtain ⟨h1, h2⟩ := takeRow_spec l off _ vs hr
  unfold ofCells at hv
  simp only [part, Sem.run_bind, hA, Result.andThen_ok]
  cases e : TypeDesc.agg i.und with
  | true =>
    rw [e] at hv
    simp only [Option.some.injEq] at hv
    subst hv
    simp only [if_true, Sem.run_bind, hS, Result.andThen_ok, Sem.run_pure, Result.ok.injEq, Value.agg.injEq, and_true]
    apply Array.ext'
    simp only [List.extract_toArray, List.extract_eq_take_drop]
    have e2 : off + i.size - off = i.size := by omega
    rw [e2]
    apply List.ext_getElem?
    intro j
    rw [List.getElem?_take, List.getElem?_drop]
    split
    · rename_i hj
      have hj' : j < vs.length := by omega
      rw [List.getElem?_eq_getElem hj']
      exact h2 j _ (List.getElem?_eq_getElem hj')
    · rename_i hj
      rw [List.getElem?_eq_none (by omega)]
  | false =>
    rw [e] at hv
    cases vs with
    | nil => cases hv
    | cons x vs =>
      simp only [Option.some.injEq] at hv
      subst hv
      have := h2 0 x rfl
      rw [Nat.add_zero] at this
      simp [this]

theorem v_field (ht : TabOk P tab) {x : Operand} {S T : TypeId} {f off : Nat} {i : TI} {l vs : List Value} {v : Value} (hx : evalO ρ x = some (.agg l.toArray)) (hf : fieldAt tab S f = some (off, T)) (hT : lkT tab T = some i) (hr : takeRow l off i.size = some vs) (hv : ofCells i.und vs = some v) :
    OpV P n ρ M ⟨some d, .field S x f, ty, pos, after, none⟩ v :=
  OpV.r (s := Instr.field S (.agg l.toArray) f) (fun a ha => by simp only [execOp, ha.eval hx]) (by
    intro w _
    obtain ⟨fs, fl, hu, hfl, rfl, rfl, _⟩ := fieldAt_spec ht hf
    have h1 : (underlying S).run P w = .ok (.struct fs) w := by simp [underlying, hu]
    simp only [Instr.field, Sem.run_bind, h1, Result.andThen_ok, hfl, asAgg, Sem.run_pure, run_part ht hT hr hv w])

/-- a struct of parts -/
def buildL (tab : Tab) (S : TypeId) (ρ : Env) : List Value → List (Nat × Operand) → Option (List Value)
  | l, [] => some l
  | l, (f, x) :: ps => match fieldAt tab S f, evalO ρ x with
    | some (off, T), some v => match lkT tab T with
      | some i => match Nat.beq (cellsL v).length i.size, putRow l off (cellsL v) with
        | true, some l' => buildL tab S ρ l' ps
        | _, _ => none
      | none => none
    | _, _ => none

/-- all fields' types are known -/
def fieldsIn (tab : Tab) : List Field → Bool
  | [] => true
  | f :: fs => (match lkT tab f.type with
    | some _ => true
    | none => false) && fieldsIn tab fs

theorem run_places (ht : TabOk P tab) (w : World) : ∀ fs : List Field, fieldsIn tab fs = true → (fs.mapM (m := Sem) fun f => do pure (f.offset, ← sizeOf f.type)).run P w = .ok (fs.map fun f => (f.offset, match lkT tab f.type with | some i => i.size | none => 0)) w := by
  intro fs
  induction fs with
  | nil => intro _; rfl
  | cons f fs ih =>
    intro h
    simp only [fieldsIn, Bool.and_eq_true] at h
    cases hl : lkT tab f.type with
    | none => rw [hl] at h; cases h.1
    | some i =>
      simp only [List.mapM_cons, Sem.run_bind, (ht _ i hl).run_size w, Result.andThen_ok, Sem.run_pure, ih h.2, List.map_cons, hl]

theorem fill_build (ht : TabOk P tab) {a : Act} (he : EnvOk n ρ a) {S : TypeId} {fs : Array Field} (hS : P.underlying S = some (.struct fs)) (place : Nat → Option (Nat × Nat)) (hp : ∀ (f : Nat) fl, fs[f]? = some fl → ∀ j, lkT tab fl.type = some j → place f = some (fl.offset, j.size)) :
    ∀ (ps : List (Nat × Operand)) (l l' : List Value), buildL tab S ρ l ps = some l' → Instr.fill place l.toArray (ps.map fun p => (p.1, a.eval p.2)) = some l'.toArray := by
  intro ps
  induction ps with
  | nil => intro l l' h; simp only [buildL, Option.some.injEq] at h; subst h; rfl
  | cons p ps ih =>
    obtain ⟨f, x⟩ := p
    intro l l' h
    simp only [buildL] at h
    split at h
    · rename_i off T v hf hx
      split at h
      · rename_i j hj
        split at h
        · rename_i l2 hlen hput
          have hlen' := Nat.eq_of_beq_eq_true hlen
          obtain ⟨p1, p2⟩ := putRow_eq _ _ _ _ hput
          obtain ⟨fs', fl, hu, hfl, rfl, rfl, _⟩ := fieldAt_spec ht hf
          obtain rfl : fs = fs' := by rw [hS] at hu; cases hu; rfl
          simp only [List.map_cons, Instr.fill, he.eval hx, cells_eq, hp f fl hfl j hj]
          have hb : ¬ ((cellsL v).toArray.size ≠ j.size || decide (fl.offset + (cellsL v).toArray.size > l.toArray.size)) = true := by
            simp [hlen']; omega
          rw [if_neg (by simpa using hb)]
          have hz : (cellsL v).toArray.zipIdx.foldl (fun cs (x : Value × Nat) => cs.setIfInBounds (fl.offset + x.2) x.1) l.toArray = l2.toArray := by
            rw [← Array.foldl_toList, Array.toList_zipIdx]
            rw [zip_fold fl.offset (cellsL v) 0 l (by omega), p2, Nat.add_zero]
          rw [← ih l2 l' h, ← hz]
        · cases h
      · cases h
    · cases h

theorem v_build (ht : TabOk P tab) {S : TypeId} {i : TI} {fs : Array Field} {ps : List (Nat × Operand)} {l : List Value} (hS : lkT tab S = some i) (hu : i.und = .struct fs) (hf : fieldsIn tab fs.toList = true) (hl : buildL tab S ρ (cellsL i.zero) ps = some l) :
    OpV P n ρ M ⟨some d, .build S ps.toArray, ty, pos, after, none⟩ (.agg l.toArray) := by
  intro a w ha _
  have h1 := (ht S i hS).run_und w
  have h2 := (ht S i hS).run_zero w
  rw [hu] at h1
  have hp := run_places ht w fs.toList hf
  have hfill := fill_build ht ha (by rw [(ht S i hS).und, hu]) (fun k => (fs.toList.map fun f => (f.offset, match lkT tab f.type with | some i => i.size | none => 0)).toArray[k]?) (by
    intro f fl hfl j hj
    have : fs.toList[f]? = some fl := by simpa using hfl
    simp [this, hj]) ps _ l hl
  have e : execOp a.eval ⟨some d, .build S ps.toArray, ty, pos, after, none⟩ = (do pure (.value (← Instr.build S (ps.map fun p => (p.1, a.eval p.2)).toArray))) := by
    simp [execOp]
  rw [e]
  have hm : (fs.mapM (m := Sem) fun f => do pure (f.offset, ← sizeOf f.type)).run P w = .ok (fs.toList.map fun f => (f.offset, match lkT tab f.type with | some i => i.size | none => 0)).toArray w := by
    have := congrArg (fun r : Result (List (Nat × Nat)) => r.andThen fun l w' => .ok l.toArray w') hp
    rw [Array.mapM_eq_mapM_toList, Sem.run_map, hp]; rfl
  simp only [Instr.build, Sem.run_bind, h2, Result.andThen_ok, Sem.run_pure, h1, hm, cells_eq, hfill]
end
section
variable {P : Program} {tab : Tab} {n : Nat} {ops : Array Oper} {rest : List Oper} {ρ : Env} {K hs : List Hp} {Q : Env → List Hp → Prop} {d : Nat} {ty : TypeId} {pos : String} {after : Array Edge}
theorem v_load0 (ht : TabOk P tab) {x : Operand} {T T' : TypeId} {i : TI} {b off : Nat} {l vs : List Value} {fz : Nat × Nat} {v : Value} (hx : evalO ρ x = some (.pointer (some ⟨b, off, none⟩))) (hj : hs[0]? = some (one b (.cells l.toArray T' fz)))
    (hT : lkT tab T = some i) (hr : takeRow l off i.size = some vs) (hv : ofCells i.und vs = some v) : OpV P n ρ (K ++ hs) ⟨some d, .load T x, ty, pos, after, none⟩ v := v_load 0 ht hx hj hT hr hv
theorem v_load1 (ht : TabOk P tab) {x : Operand} {T T' : TypeId} {i : TI} {b off : Nat} {l vs : List Value} {fz : Nat × Nat} {v : Value} (hx : evalO ρ x = some (.pointer (some ⟨b, off, none⟩))) (hj : hs[1]? = some (one b (.cells l.toArray T' fz)))
    (hT : lkT tab T = some i) (hr : takeRow l off i.size = some vs) (hv : ofCells i.und vs = some v) : OpV P n ρ (K ++ hs) ⟨some d, .load T x, ty, pos, after, none⟩ v := v_load 1 ht hx hj hT hr hv
theorem v_load2 (ht : TabOk P tab) {x : Operand} {T T' : TypeId} {i : TI} {b off : Nat} {l vs : List Value} {fz : Nat × Nat} {v : Value} (hx : evalO ρ x = some (.pointer (some ⟨b, off, none⟩))) (hj : hs[2]? = some (one b (.cells l.toArray T' fz)))
    (hT : lkT tab T = some i) (hr : takeRow l off i.size = some vs) (hv : ofCells i.und vs = some v) : OpV P n ρ (K ++ hs) ⟨some d, .load T x, ty, pos, after, none⟩ v := v_load 2 ht hx hj hT hr hv
theorem v_load3 (ht : TabOk P tab) {x : Operand} {T T' : TypeId} {i : TI} {b off : Nat} {l vs : List Value} {fz : Nat × Nat} {v : Value} (hx : evalO ρ x = some (.pointer (some ⟨b, off, none⟩))) (hj : hs[3]? = some (one b (.cells l.toArray T' fz)))
    (hT : lkT tab T = some i) (hr : takeRow l off i.size = some vs) (hv : ofCells i.und vs = some v) : OpV P n ρ (K ++ hs) ⟨some d, .load T x, ty, pos, after, none⟩ v := v_load 3 ht hx hj hT hr hv
theorem v_load4 (ht : TabOk P tab) {x : Operand} {T T' : TypeId} {i : TI} {b off : Nat} {l vs : List Value} {fz : Nat × Nat} {v : Value} (hx : evalO ρ x = some (.pointer (some ⟨b, off, none⟩))) (hj : hs[4]? = some (one b (.cells l.toArray T' fz)))
    (hT : lkT tab T = some i) (hr : takeRow l off i.size = some vs) (hv : ofCells i.und vs = some v) : OpV P n ρ (K ++ hs) ⟨some d, .load T x, ty, pos, after, none⟩ v := v_load 4 ht hx hj hT hr hv
theorem v_load5 (ht : TabOk P tab) {x : Operand} {T T' : TypeId} {i : TI} {b off : Nat} {l vs : List Value} {fz : Nat × Nat} {v : Value} (hx : evalO ρ x = some (.pointer (some ⟨b, off, none⟩))) (hj : hs[5]? = some (one b (.cells l.toArray T' fz)))
    (hT : lkT tab T = some i) (hr : takeRow l off i.size = some vs) (hv : ofCells i.und vs = some v) : OpV P n ρ (K ++ hs) ⟨some d, .load T x, ty, pos, after, none⟩ v := v_load 5 ht hx hj hT hr hv
theorem v_load6 (ht : TabOk P tab) {x : Operand} {T T' : TypeId} {i : TI} {b off : Nat} {l vs : List Value} {fz : Nat × Nat} {v : Value} (hx : evalO ρ x = some (.pointer (some ⟨b, off, none⟩))) (hj : hs[6]? = some (one b (.cells l.toArray T' fz)))
    (hT : lkT tab T = some i) (hr : takeRow l off i.size = some vs) (hv : ofCells i.und vs = some v) : OpV P n ρ (K ++ hs) ⟨some d, .load T x, ty, pos, after, none⟩ v := v_load 6 ht hx hj hT hr hv
theorem v_load7 (ht : TabOk P tab) {x : Operand} {T T' : TypeId} {i : TI} {b off : Nat} {l vs : List Value} {fz : Nat × Nat} {v : Value} (hx : evalO ρ x = some (.pointer (some ⟨b, off, none⟩))) (hj : hs[7]? = some (one b (.cells l.toArray T' fz)))
    (hT : lkT tab T = some i) (hr : takeRow l off i.size = some vs) (hv : ofCells i.und vs = some v) : OpV P n ρ (K ++ hs) ⟨some d, .load T x, ty, pos, after, none⟩ v := v_load 7 ht hx hj hT hr hv
theorem o_store0 (ht : TabOk P tab) {x y : Operand} {T T' : TypeId} {i : TI} {b off : Nat} {l l' vs : List Value} {v : Value} (hx : evalO ρ x = some (.pointer (some ⟨b, off, none⟩))) (hy : evalO ρ y = some v) (hj : hs[0]? = some (one b (.cells l.toArray T' (0, 0))))
    (hT : lkT tab T = some i) (hl : cellsL v = vs) (h1 : vs.all Value.oneCell' = true) (hn : vs.length = i.size) (hp : putRow l off vs = some l') (h : RO P n ops rest ρ K (hs.set 0 (one b (.cells l'.toArray T' (0, 0)))) Q) :
    RO P n ops (⟨none, .store T x y, ty, pos, after, none⟩ :: rest) ρ K hs Q := o_store 0 ht hx hy hj hT hl h1 hn hp h
theorem o_store1 (ht : TabOk P tab) {x y : Operand} {T T' : TypeId} {i : TI} {b off : Nat} {l l' vs : List Value} {v : Value} (hx : evalO ρ x = some (.pointer (some ⟨b, off, none⟩))) (hy : evalO ρ y = some v) (hj : hs[1]? = some (one b (.cells l.toArray T' (0, 0))))
    (hT : lkT tab T = some i) (hl : cellsL v = vs) (h1 : vs.all Value.oneCell' = true) (hn : vs.length = i.size) (hp : putRow l off vs = some l') (h : RO P n ops rest ρ K (hs.set 1 (one b (.cells l'.toArray T' (0, 0)))) Q) :
    RO P n ops (⟨none, .store T x y, ty, pos, after, none⟩ :: rest) ρ K hs Q := o_store 1 ht hx hy hj hT hl h1 hn hp h
theorem o_store2 (ht : TabOk P tab) {x y : Operand} {T T' : TypeId} {i : TI} {b off : Nat} {l l' vs : List Value} {v : Value} (hx : evalO ρ x = some (.pointer (some ⟨b, off, none⟩))) (hy : evalO ρ y = some v) (hj : hs[2]? = some (one b (.cells l.toArray T' (0, 0))))
    (hT : lkT tab T = some i) (hl : cellsL v = vs) (h1 : vs.all Value.oneCell' = true) (hn : vs.length = i.size) (hp : putRow l off vs = some l') (h : RO P n ops rest ρ K (hs.set 2 (one b (.cells l'.toArray T' (0, 0)))) Q) :
    RO P n ops (⟨none, .store T x y, ty, pos, after, none⟩ :: rest) ρ K hs Q := o_store 2 ht hx hy hj hT hl h1 hn hp h
theorem o_store3 (ht : TabOk P tab) {x y : Operand} {T T' : TypeId} {i : TI} {b off : Nat} {l l' vs : List Value} {v : Value} (hx : evalO ρ x = some (.pointer (some ⟨b, off, none⟩))) (hy : evalO ρ y = some v) (hj : hs[3]? = some (one b (.cells l.toArray T' (0, 0))))
    (hT : lkT tab T = some i) (hl : cellsL v = vs) (h1 : vs.all Value.oneCell' = true) (hn : vs.length = i.size) (hp : putRow l off vs = some l') (h : RO P n ops rest ρ K (hs.set 3 (one b (.cells l'.toArray T' (0, 0)))) Q) :
    RO P n ops (⟨none, .store T x y, ty, pos, after, none⟩ :: rest) ρ K hs Q := o_store 3 ht hx hy hj hT hl h1 hn hp h
theorem o_store4 (ht : TabOk P tab) {x y : Operand} {T T' : TypeId} {i : TI} {b off : Nat} {l l' vs : List Value} {v : Value} (hx : evalO ρ x = some (.pointer (some ⟨b, off, none⟩))) (hy : evalO ρ y = some v) (hj : hs[4]? = some (one b (.cells l.toArray T' (0, 0))))
    (hT : lkT tab T = some i) (hl : cellsL v = vs) (h1 : vs.all Value.oneCell' = true) (hn : vs.length = i.size) (hp : putRow l off vs = some l') (h : RO P n ops rest ρ K (hs.set 4 (one b (.cells l'.toArray T' (0, 0)))) Q) :
    RO P n ops (⟨none, .store T x y, ty, pos, after, none⟩ :: rest) ρ K hs Q := o_store 4 ht hx hy hj hT hl h1 hn hp h
theorem o_store5 (ht : TabOk P tab) {x y : Operand} {T T' : TypeId} {i : TI} {b off : Nat} {l l' vs : List Value} {v : Value} (hx : evalO ρ x = some (.pointer (some ⟨b, off, none⟩))) (hy : evalO ρ y = some v) (hj : hs[5]? = some (one b (.cells l.toArray T' (0, 0))))
    (hT : lkT tab T = some i) (hl : cellsL v = vs) (h1 : vs.all Value.oneCell' = true) (hn : vs.length = i.size) (hp : putRow l off vs = some l') (h : RO P n ops rest ρ K (hs.set 5 (one b (.cells l'.toArray T' (0, 0)))) Q) :
    RO P n ops (⟨none, .store T x y, ty, pos, after, none⟩ :: rest) ρ K hs Q := o_store 5 ht hx hy hj hT hl h1 hn hp h
theorem o_store6 (ht : TabOk P tab) {x y : Operand} {T T' : TypeId} {i : TI} {b off : Nat} {l l' vs : List Value} {v : Value} (hx : evalO ρ x = some (.pointer (some ⟨b, off, none⟩))) (hy : evalO ρ y = some v) (hj : hs[6]? = some (one b (.cells l.toArray T' (0, 0))))
    (hT : lkT tab T = some i) (hl : cellsL v = vs) (h1 : vs.all Value.oneCell' = true) (hn : vs.length = i.size) (hp : putRow l off vs = some l') (h : RO P n ops rest ρ K (hs.set 6 (one b (.cells l'.toArray T' (0, 0)))) Q) :
    RO P n ops (⟨none, .store T x y, ty, pos, after, none⟩ :: rest) ρ K hs Q := o_store 6 ht hx hy hj hT hl h1 hn hp h
theorem o_store7 (ht : TabOk P tab) {x y : Operand} {T T' : TypeId} {i : TI} {b off : Nat} {l l' vs : List Value} {v : Value} (hx : evalO ρ x = some (.pointer (some ⟨b, off, none⟩))) (hy : evalO ρ y = some v) (hj : hs[7]? = some (one b (.cells l.toArray T' (0, 0))))
    (hT : lkT tab T = some i) (hl : cellsL v = vs) (h1 : vs.all Value.oneCell' = true) (hn : vs.length = i.size) (hp : putRow l off vs = some l') (h : RO P n ops rest ρ K (hs.set 7 (one b (.cells l'.toArray T' (0, 0)))) Q) :
    RO P n ops (⟨none, .store T x y, ty, pos, after, none⟩ :: rest) ρ K hs Q := o_store 7 ht hx hy hj hT hl h1 hn hp h
end

/-! ### comparisons that are decided -/
def intP (op : BinOp) (a b : Int) : Option Prop :=
  match op with
  | .eql => some (a = b)
  | .neq => some (a ≠ b)
  | .lss => some (a < b)
  | .leq => some (a ≤ b)
  | .gtr => some (b < a)
  | .geq => some (b ≤ a)
  | _ => none

section
variable {P : Program} {tab : Tab} {n : Nat} {ρ : Env} {M : List Hp} {d : Nat} {ty : TypeId} {pos : String} {after : Array Edge}
theorem v_cT {op : BinOp} {t u : TypeId} {x y : Operand} {k : IntKind} {a b : Int} {p : Prop} (hx : evalO ρ x = some (.int k a)) (hy : evalO ρ y = some (.int k b)) (hr : intP op a b = some p) (hp : p) : OpV P n ρ M ⟨some d, .binOp op t x y u, ty, pos, after, none⟩ (.bool true) :=
  v_int hx hy (by cases op <;> simp only [intP, Option.some.injEq, reduceCtorEq] at hr <;> subst hr <;> simp [intBin, hp])
theorem v_cF {op : BinOp} {t u : TypeId} {x y : Operand} {k : IntKind} {a b : Int} {p : Prop} (hx : evalO ρ x = some (.int k a)) (hy : evalO ρ y = some (.int k b)) (hr : intP op a b = some p) (hp : ¬ p) : OpV P n ρ M ⟨some d, .binOp op t x y u, ty, pos, after, none⟩ (.bool false) :=
  v_int hx hy (by cases op <;> simp only [intP, Option.some.injEq, reduceCtorEq] at hr <;> subst hr <;> simp [intBin] <;> omega)
theorem v_notT {t : TypeId} {x : Operand} (hx : evalO ρ x = some (.bool true)) : OpV P n ρ M ⟨some d, .unOp .not t x, ty, pos, after, none⟩ (.bool false) := v_not hx
theorem v_notF {t : TypeId} {x : Operand} (hx : evalO ρ x = some (.bool false)) : OpV P n ρ M ⟨some d, .unOp .not t x, ty, pos, after, none⟩ (.bool true) := v_not hx
theorem v_eqPs (ht : TabOk P tab) {t u e : TypeId} {x y : Operand} {a : Addr} (hx : evalO ρ x = some (.pointer (some a))) (hy : evalO ρ y = some (.pointer none)) (hu : undOf tab t = some (.pointer e)) : OpV P n ρ M ⟨some d, .binOp .eql t x y u, ty, pos, after, none⟩ (.bool false) := v_eqP ht hx hy hu
theorem v_eqPn (ht : TabOk P tab) {t u e : TypeId} {x y : Operand} (hx : evalO ρ x = some (.pointer none)) (hy : evalO ρ y = some (.pointer none)) (hu : undOf tab t = some (.pointer e)) : OpV P n ρ M ⟨some d, .binOp .eql t x y u, ty, pos, after, none⟩ (.bool true) := v_eqP ht hx hy hu
theorem v_nePs (ht : TabOk P tab) {t u e : TypeId} {x y : Operand} {a : Addr} (hx : evalO ρ x = some (.pointer (some a))) (hy : evalO ρ y = some (.pointer none)) (hu : undOf tab t = some (.pointer e)) : OpV P n ρ M ⟨some d, .binOp .neq t x y u, ty, pos, after, none⟩ (.bool true) := v_neP ht hx hy hu
theorem v_nePn (ht : TabOk P tab) {t u e : TypeId} {x y : Operand} (hx : evalO ρ x = some (.pointer none)) (hy : evalO ρ y = some (.pointer none)) (hu : undOf tab t = some (.pointer e)) : OpV P n ρ M ⟨some d, .binOp .neq t x y u, ty, pos, after, none⟩ (.bool false) := v_neP ht hx hy hu

/-! ### structs of plain cells, compared -/
/-- what '==' says of two values of a type, of their cells; oks: the struct types that are looked through -/
def eqT (tab : Tab) (oks : List TypeId) : Nat → TypeId → List Value → List Value → Option Bool
  | 0, _, _, _ => none
  | k + 1, T, xs, ys => match lkT tab T with
    | none => none
    | some i => match i.und with
      | .int _ => match xs, ys with
        | [.int j a], [.int j' b] => if j = j' then some (decide (a = b)) else none
        | _, _ => none
      | .string => match xs, ys with
        | [.string a], [.string b] => some (decide (a = b))
        | _, _ => none
      | .bool => match xs, ys with
        | [.bool a], [.bool b] => some (a == b)
        | _, _ => none
      | .struct _ => if oks.contains T then eqF (eqT tab oks k) i.flds xs ys else none
      | _ => none
where eqF (rec : TypeId → List Value → List Value → Option Bool) : List (Nat × TypeId) → List Value → List Value → Option Bool
  | [], _, _ => some true
  | (off, U) :: fs, xs, ys => match lkT tab U with
    | none => none
    | some j => match takeRow xs off j.size, takeRow ys off j.size with
      | some a, some b => match rec U a b, eqF rec fs xs ys with
        | some r, some r' => some (r && r')
        | _, _ => none
      | _, _ => none

/-- what is asked of the struct types -/
def oksOk (P : Program) (oks : List TypeId) : Bool := oks.all fun T => !P.stoodInHeld T && !P.eqGuardType P.depth T && (match P.underlying T with
  | some (.struct fs) => fs.toList.all fun f => f.name != "_"
  | _ => false)

theorem takeRow_agg {i : TI} {l vs : List Value} {off : Nat} (h : takeRow l off i.size = some vs) (hu : (∃ fs, i.und = .struct fs) ∨ vs.length = 1) : ∃ v, ofCells i.und vs = some v := by
  unfold ofCells
  rcases hu with ⟨fs, e⟩ | e
  · rw [e]; exact ⟨_, rfl⟩
  · cases TypeDesc.agg i.und
    · match vs, e with
      | [v], _ => exact ⟨v, rfl⟩
    · exact ⟨_, rfl⟩

theorem run_eqT (ht : TabOk P tab) {oks : List TypeId} (hok : oksOk P oks = true) : ∀ (k : Nat) (T : TypeId) (i : TI) (xs ys : List Value) (r : Bool) (dd : Nat), eqT tab oks k T xs ys = some r → lkT tab T = some i → k ≤ dd →
    ∃ vx vy, ofCells i.und xs = some vx ∧ ofCells i.und ys = some vy ∧ ∀ w, (Op.equalIn dd T vx vy).run P w = .ok r w := by
  intro k
  induction k with
  | zero => intro T i xs ys r dd h; cases h
  | succ k ih =>
    intro T i xs ys r dd he hT hd
    obtain ⟨dd, rfl⟩ : ∃ m, dd = m + 1 := ⟨dd - 1, by omega⟩
    have hu := (ht T i hT).und
    simp only [eqT, hT] at he
    split at he
    · rename_i kk hund
      split at he
      · rename_i j a j' b
        split at he
        · rename_i hj
          simp only [Option.some.injEq] at he
          subst hj; subst he
          refine ⟨.int j a, .int j b, by rw [hund]; rfl, by rw [hund]; rfl, fun w => ?_⟩
          rw [run_equalIn_int w dd T j kk a b (by rw [hu, hund])]
          rw [Bool.beq_eq_decide_eq]
        · cases he
      · cases he
    · rename_i hund
      split at he
      · rename_i a b
        simp only [Option.some.injEq] at he
        subst he
        refine ⟨.string a, .string b, by rw [hund]; rfl, by rw [hund]; rfl, fun w => ?_⟩
        rw [run_equalIn_string w dd T a b (by rw [hu, hund]), beqS]
      · cases he
    · rename_i hund
      split at he
      · rename_i a b
        simp only [Option.some.injEq] at he
        subst he
        refine ⟨.bool a, .bool b, by rw [hund]; rfl, by rw [hund]; rfl, fun w => ?_⟩
        rw [run_equalIn_bool' w dd T a b (by rw [hu, hund])]
      · cases he
    · rename_i fs hund
      split at he
      · rename_i hc
        have hk := List.all_eq_true.1 hok T (by simpa using hc)
        rw [hu, hund] at hk
        simp only [Bool.and_eq_true, Bool.not_eq_true'] at hk
        have hfo : P.fieldsOf T = fs := by simp [Program.fieldsOf, hu, hund]
        refine ⟨.agg xs.toArray, .agg ys.toArray, by rw [hund]; rfl, by rw [hund]; rfl, fun w => ?_⟩
        rw [run_equalIn_struct w dd T _ _ (by rw [hu, hund, hfo]) hk.1.1, hfo]
        rw [(ht T i hT).flds fs hund] at he
        have hn := List.all_eq_true.1 hk.2
        clear hk hfo hc
        revert he hn
        generalize fs.toList = fl
        intro he hn
        induction fl generalizing r with
        | nil =>
          simp only [List.map_nil, eqT.eqF, Option.some.injEq] at he
          subst he; rfl
        | cons f fl ihf =>
          simp only [List.map_cons, eqT.eqF] at he
          split at he
          · cases he
          · rename_i j hj
            split at he
            · rename_i a b ha hb
              split at he
              · rename_i r1 r2 e1 e2
                simp only [Option.some.injEq] at he
                subst he
                obtain ⟨vx, vy, o1, o2, hrun⟩ := ih f.type j a b r1 dd e1 hj (by omega)
                have hnm : f.name ≠ "_" := by simpa using hn f List.mem_cons_self
                have hrest := ihf r2 e2 (fun g hg => hn g (List.mem_cons_of_mem _ hg))
                simp only [Op.eqFields, hnm, ne_eq, not_false_eq_true, if_true, Sem.run_bind, run_part ht hj ha o1 w, run_part ht hj hb o2 w, Result.andThen_ok, hrun w]
                cases r1
                · simp
                · simpa using hrest
              · cases he
            · cases he
      · cases he
    · cases he

theorem v_eqS (ht : TabOk P tab) {oks : List TypeId} (hok : oksOk P oks = true) {t u : TypeId} {i : TI} {x y : Operand} {xs ys : List Value} {r : Bool} (hx : evalO ρ x = some (.agg xs.toArray)) (hy : evalO ρ y = some (.agg ys.toArray)) (hT : lkT tab t = some i) (hA : TypeDesc.agg i.und = true) (hm : oks.contains t = true) (hr : eqT tab oks 6 t xs ys = some r) :
    OpV P n ρ M ⟨some d, .binOp .eql t x y u, ty, pos, after, none⟩ (.bool r) :=
  OpV.r (s := (do eqGuard .eql t x y (.agg xs.toArray) (.agg ys.toArray); binOp .eql t (.agg xs.toArray) (.agg ys.toArray))) (fun e he => by simp only [execOp, he.eval hx, he.eval hy]) (fun w _ => by
    obtain ⟨vx, vy, o1, o2, hrun⟩ := run_eqT ht hok 6 t i xs ys r 10000 hr hT (by omega)
    simp only [ofCells, hA, Option.some.injEq] at o1 o2
    subst o1; subst o2
    have hk := List.all_eq_true.1 hok t (by simpa using hm)
    simp only [Bool.and_eq_true, Bool.not_eq_true'] at hk
    rw [Sem.run_bind, run_eqGuard_agg w .eql t x y _ _ hk.1.2, Result.andThen_ok, run_eql_struct, hrun w]; rfl)
theorem v_neS (ht : TabOk P tab) {oks : List TypeId} (hok : oksOk P oks = true) {t u : TypeId} {i : TI} {x y : Operand} {xs ys : List Value} {r : Bool} (hx : evalO ρ x = some (.agg xs.toArray)) (hy : evalO ρ y = some (.agg ys.toArray)) (hT : lkT tab t = some i) (hA : TypeDesc.agg i.und = true) (hm : oks.contains t = true) (hr : eqT tab oks 6 t xs ys = some r) :
    OpV P n ρ M ⟨some d, .binOp .neq t x y u, ty, pos, after, none⟩ (.bool (!r)) :=
  OpV.r (s := (do eqGuard .neq t x y (.agg xs.toArray) (.agg ys.toArray); binOp .neq t (.agg xs.toArray) (.agg ys.toArray))) (fun e he => by simp only [execOp, he.eval hx, he.eval hy]) (fun w _ => by
    obtain ⟨vx, vy, o1, o2, hrun⟩ := run_eqT ht hok 6 t i xs ys r 10000 hr hT (by omega)
    simp only [ofCells, hA, Option.some.injEq] at o1 o2
    subst o1; subst o2
    have hk := List.all_eq_true.1 hok t (by simpa using hm)
    simp only [Bool.and_eq_true, Bool.not_eq_true'] at hk
    rw [Sem.run_bind, run_eqGuard_agg w .neq t x y _ _ hk.1.2, Result.andThen_ok, run_neq_struct, hrun w]; rfl)
end
/-- a loop, by what its slots hold at the head: x tells it -/
theorem RC.loopE {P : Program} {n : Nat} {c : Code} {ρ : Env} {K hs : List Hp} {Q : Exit → Env → List Hp → Prop} {σ : Type} (ρI : σ → Env) (hsI : σ → List Hp) (G : σ → Prop) (μ : σ → Nat) (x0 : σ) (h0 : G x0) (le0 : EnvLe (ρI x0) ρ) (p0 : (hsI x0).Sublist hs)
    (round : ∀ x, G x → RC P n c (ρI x) K (hsI x) (thenQ (fun ρ' hs' => ∃ y, G y ∧ μ y < μ x ∧ EnvLe (ρI y) ρ' ∧ (hsI y).Sublist hs') Q)) : RC P n (.loop c) ρ K hs Q := by
  intro r a w F ha hK ho
  refine RC.loop (fun x ρ hs => G x ∧ ρ = ρI x ∧ hs = hsI x) μ x0 ⟨h0, rfl, rfl⟩ ?_ r a w F (ha.le le0) hK (ho.sublist p0)
  rintro x ρ1 hs1 ⟨hG, rfl, rfl⟩
  intro r1 a1 w1 F1 ha1 hK1 ho1
  refine wpIn_mono (round x hG r1 a1 w1 F1 ha1 hK1 ho1) fun e a' w' ⟨np, ρ', hs', ha', ho', hk, q⟩ => ?_
  cases e with
  | normal =>
    obtain ⟨y, hy, hm, hle, hsub⟩ := q
    exact ⟨np, ρI y, hsI y, ha'.le hle, ho'.sublist hsub, hk, y, ⟨hy, rfl, rfl⟩, hm⟩
  | exit id => exact ⟨np, ρ', hs', ha', ho', hk, q⟩
  | goto l => exact ⟨np, ρ', hs', ha', ho', hk, q⟩
  | ret => exact ⟨np, ρ', hs', ha', ho', hk, q⟩
  | panic ch => exact ⟨np, ρ', hs', ha', ho', hk, q⟩
  | outgrown => exact ⟨np, ρ', hs', ha', ho', hk, q⟩
section
variable {P : Program} {tab : Tab} {n : Nat} {ops : Array Oper} {rest : List Oper} {ρ : Env} {K hs : List Hp} {Q : Env → List Hp → Prop} {d : Nat} {ty : TypeId} {pos : String} {after : Array Edge}
theorem o_buildS (ht : TabOk P tab) {T E : TypeId} {ie : TI} {len : Nat} {ps : List (Nat × Operand)} {l : List Value} (hT : undOf tab T = some (.slice E)) (hE : lkT tab E = some ie) (hl : partCells ρ ie.size 0 ps = some l) (hlen : Nat.beq ps.length len = true) (hsm : Nat.ble (len * ie.size) 1000 = true) (hd : Nat.blt d n = true)
    (h : ∀ b, RO P n ops rest ((d, .slice (some ⟨b, 0, none⟩) len len) :: ρ) K (one b (.cells l.toArray E (0, 0)) :: hs) Q) :
    RO P n ops (⟨some d, .buildSlice T len ps.toArray, ty, pos, after, none⟩ :: rest) ρ K hs Q := o_buildSlice ht hT hE (Nat.beq_refl _) hl hlen hsm hd h
end
/-- a part of plain cells is a row that is read -/
theorem slOf_one {M : List Hp} {α : Type} {R : α → List Value → Prop} {sz b : Nat} {T : TypeId} {fz : Nat × Nat} {xs : List α} {l : List Value} (hm : one b (.cells l.toArray T fz) ∈ M) (h : Rows R sz xs l) : SlOf M R sz (some ⟨b, 0, none⟩) xs :=
  ⟨l, h, .inr ⟨b, 0, rfl, rfl, fun j v e => ⟨rfl, l.toArray, T, fz, ⟨_, hm, one_self _ _⟩, by simpa using e⟩⟩⟩
theorem rows_cons {α : Type} {R : α → List Value → Prop} {sz : Nat} {x : α} {xs : List α} {vs cs : List Value} (h : R x vs) (hl : vs.length = sz) (r : Rows R sz xs cs) : Rows R sz (x :: xs) (vs ++ cs) := ⟨vs, cs, rfl, hl, h, r⟩
theorem rows_nil {α : Type} {R : α → List Value → Prop} {sz : Nat} : Rows R sz ([] : List α) [] := rfl
theorem rows_c1 {α : Type} {R : α → List Value → Prop} {x : α} {xs : List α} {v : Value} {cs : List Value} (h : R x [v]) (r : Rows R 1 xs cs) : Rows R 1 (x :: xs) (v :: cs) := ⟨[v], cs, rfl, rfl, h, r⟩
section
variable {P : Program} {tab : Tab} {n : Nat} {ρ : Env} {M : List Hp} {d : Nat} {ty : TypeId} {pos : String} {after : Array Edge}
theorem v_cu64 (ht : TabOk P tab) {s t : TypeId} {us : TypeDesc} {x : Operand} {k : IntKind} {a : Int} (hx : evalO ρ x = some (.int k a)) (hs' : undOf tab s = some us) (hu : undOf tab t = some (.int .u64)) (h1 : 0 ≤ a) (h2 : a ≤ 18446744073709551615) : OpV P n ρ M ⟨some d, .convert s t x, ty, pos, after, none⟩ (.int .u64 a) := by
  rw [← wrap_u64 h1 h2]; exact v_conv ht hx hs' hu
theorem v_cu32 (ht : TabOk P tab) {s t : TypeId} {us : TypeDesc} {x : Operand} {k : IntKind} {a : Int} (hx : evalO ρ x = some (.int k a)) (hs' : undOf tab s = some us) (hu : undOf tab t = some (.int .u32)) (h1 : 0 ≤ a) (h2 : a ≤ 4294967295) : OpV P n ρ M ⟨some d, .convert s t x, ty, pos, after, none⟩ (.int .u32 a) := by
  rw [← wrap_u32 h1 h2]; exact v_conv ht hx hs' hu
theorem v_cu8 (ht : TabOk P tab) {s t : TypeId} {us : TypeDesc} {x : Operand} {k : IntKind} {a : Int} (hx : evalO ρ x = some (.int k a)) (hs' : undOf tab s = some us) (hu : undOf tab t = some (.int .u8)) (h1 : 0 ≤ a) (h2 : a ≤ 255) : OpV P n ρ M ⟨some d, .convert s t x, ty, pos, after, none⟩ (.int .u8 a) := by
  rw [← wrap_u8 h1 h2]; exact v_conv ht hx hs' hu
theorem v_quo64 {t u : TypeId} {x y : Operand} {a b : Int} (hx : evalO ρ x = some (.int .i64 a)) (hy : evalO ρ y = some (.int .i64 b)) (h0 : 0 ≤ a) (h1 : a ≤ 9223372036854775807) (h2 : 0 < b) : OpV P n ρ M ⟨some d, .binOp .quo t x y u, ty, pos, after, none⟩ (.int .i64 (a / b)) := v_quo hx hy h0 h1 h2
end
theorem oksok : oksOk Tryz.prog oks = true := by kernel_rfl
end Go.Proofs.YtonnncdolofccaaGreat

namespace Go.Proofs.YtonnncdolofccaaGreat

theorem OwnSl.pos {E : TypeId} {sz : Nat} {v : Value} {n : Nat} {cs : List Value} {h : Hp} (o : OwnSl E sz v n cs h) (hn : 0 < n) :
    ∃ b cap rest fz, v = .slice (some ⟨b, 0, none⟩) n cap ∧ n ≤ cap ∧ h = one b (.cells (cs ++ rest).toArray E fz) ∧ (cs ++ rest).length = cap * sz ∧ okfz fz (cap * sz) ∧ cs.length = n * sz := by
  rcases o.2 with ⟨_, h, _⟩ | ⟨b, cap, rest, fz, h1, h2, h3, h4, h5⟩
  · omega
  · exact ⟨b, cap, rest, fz, h1, h2, h3, h4, h5, o.1⟩
theorem OwnSl.mk {E : TypeId} {sz b cap n : Nat} {cs rest : List Value} {fz : Nat × Nat} (h1 : n ≤ cap) (h2 : (cs ++ rest).length = cap * sz) (h3 : okfz fz (cap * sz)) (h4 : cs.length = n * sz) : OwnSl E sz (.slice (some ⟨b, 0, none⟩) n cap) n cs (one b (.cells (cs ++ rest).toArray E fz)) :=
  ⟨h4, .inr ⟨b, cap, rest, fz, rfl, h1, rfl, h2, h3⟩⟩
theorem own_emp {E : TypeId} {sz : Nat} {h : Hp} {v : Value} {cs : List Value} (o : OwnSl E sz v 0 cs h) : cs = [] := List.eq_nil_of_length_eq_zero (by have := o.1; omega)
theorem ownB_built {E : TypeId} {b : Nat} {bs : List UInt8} {len : Nat} {l : List Value} (hl : l = bs.map byteV) (hn : len = bs.length) : OwnB E (.slice (some ⟨b, 0, none⟩) len len) bs (one b (.cells l.toArray E (0, 0))) := by
  subst hl; subst hn
  exact ⟨_, rows_bytes.2 rfl, own_built (by simp)⟩
theorem OwnOf.rows {α : Type} {R : α → List Value → Prop} {E : TypeId} {sz : Nat} {v : Value} {xs : List α} {h : Hp} (o : OwnOf R E sz v xs h) : ∃ a c, v = .slice a xs.length c ∧ xs.length ≤ c ∧ SlOf [h] R sz a xs := by
  obtain ⟨a, c, h1, h2, h3⟩ := o.slV
  exact ⟨a, c, h1, h2, h3⟩

/-- a result that lies in a cell of one's own -/
theorem res_cell {P : Program} {tab : Tab} {ρ : Env} {K hs : List Hp} {t : Nat} (j : Nat) (ht : TabOk P tab) {T T' : TypeId} {i : TI} {b off : Nat} {l vs : List Value} {fz : Nat × Nat} {v : Value} (hx : lk ρ t = some (.pointer (some ⟨b, off, none⟩))) (hj : hs[j]? = some (one b (.cells l.toArray T' fz)))
    (hT : lkT tab T = some i) (hr : takeRow l off i.size = some vs) (hv : ofCells i.und vs = some v) : ∃ a, lk ρ t = some (.pointer (some a)) ∧ Reads P (K ++ hs) (loadVar T a) v :=
  ⟨_, hx, reads_loadVar (ht T i hT) (takeRow_spec l off _ vs hr).1 hv (CellsAt.own hj hr)⟩
section
variable {P : Program} {tab : Tab} {n : Nat} {ops : Array Oper} {rest : List Oper} {ρ : Env} {K hs : List Hp} {Q : Env → List Hp → Prop} {d : Nat} {ty : TypeId} {pos : String} {after : Array Edge}
/-- one cell of a part of one's own is written -/
theorem o_storeC (j : Nat) (ht : TabOk P tab) {x y : Operand} {T T' : TypeId} {i : TI} {b off : Nat} {l : List Value} {v : Value} {fz : Nat × Nat} (hx : evalO ρ x = some (.pointer (some ⟨b, off, none⟩))) (hy : evalO ρ y = some v) (hj : hs[j]? = some (one b (.cells l.toArray T' fz)))
    (hT : lkT tab T = some i) (hn : Nat.beq i.size 1 = true) (h1 : v.oneCell' = true) (hoff : off < l.length) (hfz : okfz fz l.length) (h : RO P n ops rest ρ K (hs.set j (one b (.cells (l.set off v).toArray T' fz))) Q) :
    RO P n ops (⟨none, .store T x y, ty, pos, after, none⟩ :: rest) ρ K hs Q :=
  RO.act (s := storeVar T ⟨b, off, none⟩ v) (fun a ha => by simp only [execOp, ha.eval hx, ha.eval hy, Instr.storeAt, Instr.sureAddr, pure_bind]) (by
    unfold storeVar
    refine .bind (.known (fun w => (ht T i hT).run_size w) ?_)
    have hc : v.cells = #[v] := by cases v <;> first | rfl | cases h1
    have hsz : ¬ v.cells.size ≠ i.size := by rw [hc, Nat.eq_of_beq_eq_true hn]; simp
    rw [if_neg hsz, hc]
    refine SemT.storeCells [v] hs l off 0 hj (by intro u hu; obtain rfl := List.mem_singleton.1 hu; exact h1) (by simp; omega) hfz ?_
    have e : l.take (off + 0) ++ [v] ++ l.drop (off + 0 + [v].length) = l.set off v := by
      rw [Nat.add_zero, List.length_singleton, List.set_eq_take_append_cons_drop, if_pos hoff]; simp
    rw [e]; exact h)
end
/-! slices in a drawn region -/
section
variable {P : Program} {tab : Tab} {n : Nat} {ops : Array Oper} {rest : List Oper} {ρ : Env} {Ms : List Hp} {N : Env → Prop} {d : Nat} {ty : TypeId} {pos : String} {after : Array Edge}
theorem e_slice (ht : TabOk P tab) {α : Type} {R : α → List Value → Prop} {sz : Nat} {M : List Hp} {xs : List α} {x : Operand} {lo hi : Option Operand} {lov hiv : Option Value} {T E : TypeId} {ie : TI} {a : Option Addr} {len c l k : Nat}
    (hx : evalO ρ x = some (.slice a len c)) (hu : undOf tab T = some (.slice E)) (hE : lkT tab E = some ie) (hsz : Nat.beq ie.size sz = true) (hS : SlOf M R sz a xs) (_hlen : len = xs.length) (hc : xs.length ≤ c)
    (elo : ∀ a, EnvOk n ρ a → lo.map a.eval = lov) (ehi : ∀ a, EnvOk n ρ a → hi.map a.eval = hiv)
    (hlo : lov = none ∧ l = 0 ∨ ∃ kk, lov = some (.int kk l)) (hhi : hiv = none ∧ k = len ∨ ∃ kk, hiv = some (.int kk k)) (hlk : l ≤ k) (hk : k ≤ xs.length) (hd : Nat.blt d n = true)
    (h : ∀ a' c', k - l ≤ c' → SlOf M R sz a' ((xs.take k).drop l) → EvE P n ops Ms ((d, .slice a' (k - l) c') :: ρ) rest N) : EvE P n ops Ms ρ (⟨some d, .slice T x lo hi none, ty, pos, after, none⟩ :: rest) N := by
  have hsz' := Nat.eq_of_beq_eq_true hsz
  refine EvE.ofV (v_slice (u := .slice (if c = l then a else a.map (·.add (l * sz))) (k - l) (c - l)) hx elo ehi (fun w => run_sliceAt ht hu hE hsz' a len c l k lov hiv hlo hhi hlk (by omega) w)) hd ?_
  · refine h _ _ (by omega) ?_
    split
    · rename_i e
      have : (xs.take k).drop l = [] := List.drop_eq_nil_of_le (by rw [List.length_take]; omega)
      rw [this]; exact SlOf.nil _
    · exact hS.part l k
theorem e_sliceL (ht : TabOk P tab) {α : Type} {R : α → List Value → Prop} {sz : Nat} {M : List Hp} {xs : List α} {x y : Operand} {T E : TypeId} {ie : TI} {a : Option Addr} {len c : Nat} {kk : IntKind} {l : Int}
    (hx : evalO ρ x = some (.slice a len c)) (hy : evalO ρ y = some (.int kk l)) (hu : undOf tab T = some (.slice E)) (hE : lkT tab E = some ie) (hsz : Nat.beq ie.size sz = true) (hS : SlOf M R sz a xs) (hlen : len = xs.length) (hc : xs.length ≤ c)
    (h0 : 0 ≤ l) (hlk : l.toNat ≤ xs.length) (hd : Nat.blt d n = true)
    (h : ∀ a' c', (xs.drop l.toNat).length ≤ c' → SlOf M R sz a' (xs.drop l.toNat) → EvE P n ops Ms ((d, .slice a' (xs.drop l.toNat).length c') :: ρ) rest N) : EvE P n ops Ms ρ (⟨some d, .slice T x (some y) none none, ty, pos, after, none⟩ :: rest) N :=
  e_slice ht (lov := some (.int kk l)) (hiv := none) (l := l.toNat) (k := len) hx hu hE hsz hS hlen hc (fun e he => by simp [he.eval hy]) (fun _ _ => rfl) (.inr ⟨kk, by rw [Int.toNat_of_nonneg h0]⟩) (.inl ⟨rfl, rfl⟩) (by omega) (by omega) hd (by
    intro a' c' h1 h2
    rw [hlen] at h1 h2 ⊢
    rw [List.take_length] at h2
    have e : xs.length - l.toNat = (xs.drop l.toNat).length := by rw [List.length_drop]
    rw [e] at h1 ⊢; exact h a' c' h1 h2)
theorem e_sliceH (ht : TabOk P tab) {α : Type} {R : α → List Value → Prop} {sz : Nat} {M : List Hp} {xs : List α} {x y : Operand} {T E : TypeId} {ie : TI} {a : Option Addr} {len c : Nat} {kk : IntKind} {k : Int}
    (hx : evalO ρ x = some (.slice a len c)) (hy : evalO ρ y = some (.int kk k)) (hu : undOf tab T = some (.slice E)) (hE : lkT tab E = some ie) (hsz : Nat.beq ie.size sz = true) (hS : SlOf M R sz a xs) (hlen : len = xs.length) (hc : xs.length ≤ c)
    (h0 : 0 ≤ k) (hlk : k.toNat ≤ xs.length) (hd : Nat.blt d n = true)
    (h : ∀ a' c', (xs.take k.toNat).length ≤ c' → SlOf M R sz a' (xs.take k.toNat) → EvE P n ops Ms ((d, .slice a' (xs.take k.toNat).length c') :: ρ) rest N) : EvE P n ops Ms ρ (⟨some d, .slice T x none (some y) none, ty, pos, after, none⟩ :: rest) N :=
  e_slice ht (hiv := some (.int kk k)) (lov := none) (k := k.toNat) (l := 0) hx hu hE hsz hS hlen hc (fun _ _ => rfl) (fun e he => by simp [he.eval hy]) (.inl ⟨rfl, rfl⟩) (.inr ⟨kk, by rw [Int.toNat_of_nonneg h0]⟩) (by omega) (by omega) hd (by
    intro a' c' h1 h2
    have e : k.toNat - 0 = (xs.take k.toNat).length := by rw [List.length_take]; omega
    rw [e] at h1 ⊢; exact h a' c' h1 (by simpa using h2))
theorem e_sliceLH (ht : TabOk P tab) {α : Type} {R : α → List Value → Prop} {sz : Nat} {M : List Hp} {xs : List α} {x y z : Operand} {T E : TypeId} {ie : TI} {a : Option Addr} {len c : Nat} {kk kk2 : IntKind} {l k : Int}
    (hx : evalO ρ x = some (.slice a len c)) (hy : evalO ρ y = some (.int kk l)) (hz : evalO ρ z = some (.int kk2 k)) (hu : undOf tab T = some (.slice E)) (hE : lkT tab E = some ie) (hsz : Nat.beq ie.size sz = true) (hS : SlOf M R sz a xs) (hlen : len = xs.length) (hc : xs.length ≤ c)
    (h0 : 0 ≤ l) (hlk : l ≤ k) (hk : k.toNat ≤ xs.length) (hd : Nat.blt d n = true)
    (h : ∀ a' c', ((xs.take k.toNat).drop l.toNat).length ≤ c' → SlOf M R sz a' ((xs.take k.toNat).drop l.toNat) → EvE P n ops Ms ((d, .slice a' ((xs.take k.toNat).drop l.toNat).length c') :: ρ) rest N) : EvE P n ops Ms ρ (⟨some d, .slice T x (some y) (some z) none, ty, pos, after, none⟩ :: rest) N :=
  e_slice ht (lov := some (.int kk l)) (hiv := some (.int kk2 k)) (l := l.toNat) (k := k.toNat) hx hu hE hsz hS hlen hc (fun e he => by simp [he.eval hy]) (fun e he => by simp [he.eval hz]) (.inr ⟨kk, by rw [Int.toNat_of_nonneg h0]⟩) (.inr ⟨kk2, by rw [Int.toNat_of_nonneg (by omega)]⟩) (by omega) (by omega) hd (by
    intro a' c' h1 h2
    have e : k.toNat - l.toNat = ((xs.take k.toNat).drop l.toNat).length := by rw [List.length_drop, List.length_take]; omega
    rw [e] at h1 ⊢; exact h a' c' h1 h2)
end
end Go.Proofs.YtonnncdolofccaaGreat

namespace Go.Proofs.YtonnncdolofccaaGreat

/-- the parts are apart -/
abbrev Apart (hs : List Hp) : Prop := hs.Pairwise Hp.dis

theorem Owned.split {F : Hp} {w : World} {hs1 hs2 : List Hp} (d : Apart hs1) (ho : Owned F (uni hs1 :: hs2) w) : Owned F (hs1 ++ hs2) w := by
  obtain ⟨d1, d2⟩ := List.pairwise_cons.1 ho.dis
  have hin : ∀ h, h ∈ hs1 → ∀ b o, h b = some o → uni hs1 b = some o := fun h m b o e => uni_mem d m e
  have hd : ∀ (g : Hp), Hp.dis g (uni hs1) → ∀ h, h ∈ hs1 → Hp.dis g h := fun g hg h m b => by
    rcases hg b with x | x
    · exact .inl x
    · exact .inr (uni_none.1 x h m)
  refine ⟨fun g m => ?_, List.pairwise_append.2 ⟨d, d2, fun h m g m' => (hd g (d1 g m').symm h m).symm⟩, ho.subF, fun g m => ?_⟩
  · rcases List.mem_append.1 m with m | m
    · exact hd F (ho.disF _ List.mem_cons_self) g m
    · exact ho.disF g (List.mem_cons_of_mem _ m)
  · rcases List.mem_append.1 m with m | m
    · exact fun b o e => ho.sub _ List.mem_cons_self b o (hin g m b o e)
    · exact ho.sub g (List.mem_cons_of_mem _ m)

/-- the parts may be read as others -/
def Imp (hs hs' : List Hp) : Prop := ∀ F w, Owned F hs w → Owned F hs' w
theorem Imp.perm {hs hs' : List Hp} (p : hs.Perm hs') : Imp hs hs' := fun _ _ h => h.perm p
theorem Imp.sublist {hs hs' : List Hp} (s : hs'.Sublist hs) : Imp hs hs' := fun _ _ h => h.sublist s
theorem Imp.trans {a b c : List Hp} (h : Imp a b) (k : Imp b c) : Imp a c := fun F w o => k F w (h F w o)
theorem Imp.join {hs hs1 hs2 : List Hp} (p : hs.Perm (hs1 ++ hs2)) : Imp hs (uni hs1 :: hs2) := fun _ _ h => (h.perm p).join
theorem Imp.joinP {hs hs1 hs2 junk : List Hp} (p : hs.Perm (hs1 ++ (hs2 ++ junk))) : Imp hs (uni hs1 :: hs2) := fun _ _ h => by
  have h2 := (h.perm p).sublist (hs' := hs1 ++ hs2) (List.Sublist.append (List.Sublist.refl _) (List.sublist_append_left ..))
  exact h2.join
theorem Imp.split {hs1 hs2 : List Hp} (d : Apart hs1) : Imp (uni hs1 :: hs2) (hs1 ++ hs2) := fun _ _ h => h.split d
theorem Imp.split0 {hs1 : List Hp} (d : Apart hs1) : Imp [uni hs1] hs1 := fun _ _ h => by have := h.split d; rwa [List.append_nil] at this
theorem Imp.splitAt {hs hs1 hs2 : List Hp} (j : Nat) {h : Hp} (hj : hs[j]? = some h) (e : h = uni hs1) (he : hs.eraseIdx j = hs2) (d : Apart hs1) : Imp hs (hs1 ++ hs2) := by
  subst e; subst he
  exact (Imp.perm (perm_erase hs j _ hj)).trans (Imp.split d)

section
variable {P : Program} {n : Nat} {ops : Array Oper} {l : List Oper} {c : Code} {ρ : Env} {K hs hs' : List Hp}
theorem RO.imp {Q : Env → List Hp → Prop} (i : Imp hs hs') (h : RO P n ops l ρ K hs' Q) : RO P n ops l ρ K hs Q := fun a w F Z ha hK ho hz => h a w F Z ha hK (i F w ho) hz
theorem RC.imp {Q : Exit → Env → List Hp → Prop} (i : Imp hs hs') (h : RC P n c ρ K hs' Q) : RC P n c ρ K hs Q := fun r a w F ha hK ho => h r a w F ha hK (i F w ho)
theorem RO.know {Q : Env → List Hp → Prop} (h : Apart hs → RO P n ops l ρ K hs Q) : RO P n ops l ρ K hs Q := fun a w F Z ha hK ho hz => h ho.dis a w F Z ha hK ho hz
theorem RC.know {Q : Exit → Env → List Hp → Prop} (h : Apart hs → RC P n c ρ K hs Q) : RC P n c ρ K hs Q := fun r a w F ha hK ho => h ho.dis r a w F ha hK ho
theorem RC.emp {Q : Exit → Env → List Hp → Prop} (h : RC P n c ρ K (emp :: hs) Q) : RC P n c ρ K hs Q := fun r a w F ha hK ho => h r a w F ha hK ho.emp
theorem Fn.imp {f : FuncId} {args : List Value} {R : Value → List Hp → Prop} (i : Imp hs hs') (h : Fn P f args K hs' R) : Fn P f args K hs R := fun w F hK ho => h w F hK (i F w ho)
theorem Fn.know {f : FuncId} {args : List Value} {R : Value → List Hp → Prop} (h : Apart hs → Fn P f args K hs R) : Fn P f args K hs R := fun w F hK ho => h ho.dis w F hK ho
/-- what a function leaves may be read as other parts -/
theorem post_imp {fn : Func} {R : Value → List Hp → Prop} {e : Exit} (i : Imp hs hs') (h : postQ P K fn R e ρ hs') : postQ P K fn R e ρ hs := by
  unfold postQ at h ⊢
  cases e <;> first | exact h | exact fun w F a x y z => h w F a x y (i F w z)
theorem post_know {fn : Func} {R : Value → List Hp → Prop} (h : Apart hs → postQ P K fn R .ret ρ hs) : postQ P K fn R .ret ρ hs := by
  unfold postQ at h ⊢
  exact fun w F a x y z => h z.dis w F a x y z
theorem post_knowN {fn : Func} {R : Value → List Hp → Prop} (h : Apart hs → postQ P K fn R .normal ρ hs) : postQ P K fn R .normal ρ hs := by
  unfold postQ at h ⊢
  exact fun w F a x y z => h z.dis w F a x y z
end

/-! what is read in these is read in those -/
def Le (M M' : List Hp) : Prop := ∀ b o, Rdb M b o → Rdb M' b o
theorem Le.refl (M : List Hp) : Le M M := fun _ _ h => h
theorem Le.trans {A B C : List Hp} (h : Le A B) (k : Le B C) : Le A C := fun b o x => k b o (h b o x)
theorem Le.sub {M M' : List Hp} (s : Sub M M') : Le M M' := fun _ _ h => h.sub s
theorem Le.mem {M M' : List Hp} (h : ∀ g, g ∈ M → Le [g] M') : Le M M' := fun b o ⟨g, m, e⟩ => h g m b o ⟨g, List.mem_singleton.2 rfl, e⟩
/-- a part of a union -/
theorem Le.join {hs : List Hp} (d : Apart hs) : Le hs [uni hs] := fun _ _ ⟨_, m, e⟩ => ⟨_, List.mem_singleton.2 rfl, uni_mem d m e⟩
theorem Le.part (hs : List Hp) : Le [uni hs] hs := fun _ _ ⟨_, m, e⟩ => by
  rw [List.mem_singleton.1 m] at e
  obtain ⟨g, m2, e2⟩ := uni_some e
  exact ⟨g, m2, e2⟩
theorem CellIn.le {M M' : List Hp} (s : Le M M') {a : Addr} {v : Value} (h : CellIn M a v) : CellIn M' a v := let ⟨x, c, T, fz, r, e⟩ := h; ⟨x, c, T, fz, s _ _ r, e⟩
theorem CellsAt.le {M M' : List Hp} (s : Le M M') {a : Addr} {vs : List Value} (h : CellsAt M a vs) : CellsAt M' a vs := ⟨h.1, fun j v e => (h.2 j v e).le s⟩
theorem SlOf.le {M M' : List Hp} {α : Type} {R : α → List Value → Prop} {sz : Nat} (s : Le M M') {a : Option Addr} {xs : List α} (h : SlOf M R sz a xs) : SlOf M' R sz a xs := by
  obtain ⟨ds, hr, h⟩ := h
  refine ⟨ds, hr, h.imp id ?_⟩
  rintro ⟨b, off, e, hc⟩
  exact ⟨b, off, e, hc.le s⟩
theorem SlV.le {M M' : List Hp} {α : Type} {R : α → List Value → Prop} {sz : Nat} (s : Le M M') {v : Value} {xs : List α} (h : SlV M R sz v xs) : SlV M' R sz v xs := let ⟨a, c, e, l, h⟩ := h; ⟨a, c, e, l, h.le s⟩

/-- a loop whose rounds may end with other parts, knowing that these are apart -/
theorem RC.loopI {P : Program} {n : Nat} {c : Code} {ρ : Env} {K hs : List Hp} {Q : Exit → Env → List Hp → Prop} {σ : Type} (ρI : σ → Env) (hsI : σ → List Hp) (G : σ → Prop) (μ : σ → Nat) (x0 : σ) (h0 : G x0) (le0 : EnvLe (ρI x0) ρ) (p0 : Imp hs (hsI x0))
    (round : ∀ x, G x → RC P n c (ρI x) K (hsI x) (thenQ (fun ρ' hs' => ∃ y, G y ∧ μ y < μ x ∧ EnvLe (ρI y) ρ' ∧ Imp hs' (hsI y)) Q)) : RC P n (.loop c) ρ K hs Q := by
  intro r a w F ha hK ho
  refine RC.loop (fun x ρ hs => G x ∧ ρ = ρI x ∧ hs = hsI x) μ x0 ⟨h0, rfl, rfl⟩ ?_ r a w F (ha.le le0) hK (p0 F w ho)
  rintro x ρ1 hs1 ⟨hG, rfl, rfl⟩
  intro r1 a1 w1 F1 ha1 hK1 ho1
  refine wpIn_mono (round x hG r1 a1 w1 F1 ha1 hK1 ho1) fun e a' w' ⟨np, ρ', hs', ha', ho', hk, q⟩ => ?_
  cases e with
  | normal =>
    obtain ⟨y, hy, hm, hle, hi⟩ := q
    exact ⟨np, ρI y, hsI y, ha'.le hle, hi F1 w' ho', hk, y, ⟨hy, rfl, rfl⟩, hm⟩
  | _ => exact ⟨np, ρ', hs', ha', ho', hk, q⟩

theorem rows_one {α : Type} {R : α → List Value → Prop} {sz : Nat} (h1 : ∀ x vs, R x vs → ∀ u, u ∈ vs → u.oneCell' = true) : ∀ (xs : List α) (ds : List Value), Rows R sz xs ds → ∀ u, u ∈ ds → u.oneCell' = true
  | [], ds, h, u, m => by rw [show ds = [] from h] at m; cases m
  | x :: xs, ds, h, u, m => by
    obtain ⟨vs, rest, rfl, _, hr, h⟩ := h
    rcases List.mem_append.1 m with m | m
    · exact h1 x vs hr u m
    · exact rows_one h1 xs rest h u m
theorem OwnOf.mono {α : Type} {R R' : α → List Value → Prop} {E : TypeId} {sz : Nat} {v : Value} {xs : List α} {h : Hp} (hr : ∀ x vs, R x vs → R' x vs) (o : OwnOf R E sz v xs h) : OwnOf R' E sz v xs h :=
  let ⟨cs, r, o⟩ := o; ⟨cs, r.mono hr, o⟩
section
variable {P : Program} {tab : Tab} {n : Nat} {ops : Array Oper} {rest : List Oper} {ρ : Env} {K hs : List Hp} {Q : Env → List Hp → Prop} {d : Nat} {ty : TypeId} {pos : String} {after : Array Edge}
/-- append to elements of one's own -/
theorem o_appendO (j : Nat) (ht : TabOk P tab) {α : Type} {R : α → List Value → Prop} {x y : Operand} {T U E : TypeId} {ie : TI} {sz : Nat} {v u : Value} {xs ys : List α} {hp : Hp} {M : List Hp} (hx : evalO ρ x = some v) (hy : evalO ρ y = some u)
    (ho : OwnOf R E sz v xs hp) (hj : hs[j]? = some hp) (hT : undOf tab T = some (.slice E)) (hU : strOrSl tab U = true) (hE : lkT tab E = some ie) (hsz : Nat.beq ie.size sz = true) (hb0 : Nat.ble 1 ie.bytes = true)
    (hsrc : SlV M R sz u ys) (hM : Sub M (K ++ hs)) (h1 : ∀ x vs, R x vs → ∀ u, u ∈ vs → u.oneCell' = true) (hroom : (2 * (xs.length + ys.length) + 192) * ie.bytes ≤ 281474976710656) (hd : Nat.blt d n = true)
    (h : ∀ v' hp', OwnOf R E sz v' (xs ++ ys) hp' → RO P n ops rest ((d, v') :: ρ) K (hs.set j hp') Q) :
    RO P n ops (⟨some d, .call ⟨.builtin .append, #[x, y], #[T, U]⟩, ty, pos, after, none⟩ :: rest) ρ K hs Q := by
  obtain ⟨cs, hr, ho⟩ := ho
  obtain ⟨ds, hr2, hs2⟩ := hsrc.src
  refine o_append j ht hx hy ho hj hT hU hE hsz hb0 hs2 hM (rows_one h1 _ _ hr2) hroom hd (fun v' hp' o => h v' hp' ⟨_, hr.append hr2, ?_⟩)
  rw [List.length_append]; exact o
end

theorem Apart.of {hs hs1 junk : List Hp} (d : Apart hs) (p : hs.Perm (hs1 ++ junk)) : Apart hs1 :=
  (List.pairwise_append.1 (p.pairwise d (fun h => h.symm))).1
theorem Imp.emp (hs : List Hp) : Imp hs (emp :: hs) := fun _ _ h => h.emp
/-- at the end the parts are joined -/
theorem post_join {P : Program} {ρ : Env} {K hs : List Hp} {fn : Func} {R : Value → List Hp → Prop} {hs1 junk : List Hp} (p : hs.Perm (hs1 ++ junk)) (h : Apart hs1 → postQ P K fn R .ret ρ [uni hs1]) : postQ P K fn R .ret ρ hs :=
  post_know fun d => post_imp (Imp.joinP (hs2 := []) (junk := junk) p) (h (d.of p))
theorem post_joinN {P : Program} {ρ : Env} {K hs : List Hp} {fn : Func} {R : Value → List Hp → Prop} {hs1 junk : List Hp} (p : hs.Perm (hs1 ++ junk)) (h : Apart hs1 → postQ P K fn R .normal ρ [uni hs1]) : postQ P K fn R .normal ρ hs :=
  post_knowN fun d => post_imp (Imp.joinP (hs2 := []) (junk := junk) p) (h (d.of p))
theorem cellsAt_of {M : List Hp} {b j : Nat} {l : List Value} {T : TypeId} {fz : Nat × Nat} {v : Value} (hr : Rdb M b (.cells l.toArray T fz)) (hj : l[j]? = some v) : CellsAt M ⟨b, j, none⟩ [v] :=
  ⟨rfl, fun i u e => by
    match i, e with
    | 0, e =>
      simp only [List.getElem?_cons_zero, Option.some.injEq] at e
      subst e
      exact ⟨rfl, l.toArray, T, fz, hr, by simpa using hj⟩⟩
theorem rdb_one {M : List Hp} {b : Nat} {o : Obj} (h : one b o ∈ M) : Rdb M b o := ⟨_, h, one_self _ _⟩
theorem Rdb.le {M M' : List Hp} (s : Le M M') {b : Nat} {o : Obj} (h : Rdb M b o) : Rdb M' b o := s b o h
theorem OwnOf.any {α β : Type} {R : α → List Value → Prop} {R' : β → List Value → Prop} {E : TypeId} {sz : Nat} {v : Value} {h : Hp} (o : OwnOf R E sz v [] h) : OwnOf R' E sz v [] h := let ⟨cs, r, o⟩ := o; ⟨cs, r, o⟩
theorem Imp.take {hs hs1 junk : List Hp} (p : hs.Perm (hs1 ++ junk)) : Imp hs hs1 := fun _ _ h => (h.perm p).sublist (List.sublist_append_left ..)
end Go.Proofs.YtonnncdolofccaaGreat

namespace Go.Proofs.YtonnncdolofccaaGreat

/-- yield of loop l, called so, with these parts of the heap its own -/
def Yt (P : Program) (l : Nat) (args : List Value) (K hs : List Hp) (R : Value → List Hp → Prop) : Prop :=
  ∀ w F, KIn K F → Owned F hs w → ∃ f tmps assign body, (Instr.yield l args.toArray).run P w = .ok (.round l f tmps assign body) w ∧
    RoundIn Fence.wide 0 P l f tmps assign body w fun e w' => ∃ v hs', e = .returned v ∧ Owned F hs' w' ∧ Keeps w w' ∧ R v hs'
theorem Yt.mono {P : Program} {l : Nat} {args : List Value} {K hs : List Hp} {R R' : Value → List Hp → Prop} (h : Yt P l args K hs R) (hr : ∀ v hs', R v hs' → R' v hs') : Yt P l args K hs R' :=
  fun w F hK ho => let ⟨f, t, a, b, e, r⟩ := h w F hK ho; ⟨f, t, a, b, e, r.mono fun _ _ ⟨v, hs', e, o, k, r⟩ => ⟨v, hs', e, o, k, hr _ _ r⟩⟩
theorem Yt.imp {P : Program} {l : Nat} {args : List Value} {K hs hs1 : List Hp} {R : Value → List Hp → Prop} (i : Imp hs hs1) (h : Yt P l args K hs1 R) : Yt P l args K hs R :=
  fun w F hK ho => h w F hK (i F w ho)
theorem Yt.frame {P : Program} {l : Nat} {args : List Value} {K hs1 hs2 : List Hp} {R : Value → List Hp → Prop} (h : Yt P l args (K ++ hs2) hs1 R) :
    Yt P l args K (hs1 ++ hs2) fun v hs' => ∃ hs1', hs' = hs1' ++ hs2 ∧ R v hs1' := by
  intro w F hK ho
  obtain ⟨ho', hK'⟩ := ho.lend hK
  obtain ⟨f, t, a, b, e, r⟩ := h w _ hK' ho'
  exact ⟨f, t, a, b, e, r.mono fun e w' ⟨v, hs1', he, o, k, r⟩ => ⟨v, hs1' ++ hs2, he, ho.back o, k, hs1', rfl, r⟩⟩

/-! ### regions that call yield -/
def RI (P : Program) (n : Nat) (ops : Array Oper) (l : List Oper) (ρ : Env) (K hs : List Hp) (Q : Env → List Hp → Prop) : Prop :=
  ∀ r a w F Z, ¬ LetsOut Z → EnvOk n ρ a → KIn K F → Owned F hs w → (∀ a' w' ρ' hs', EnvD a.defers n ρ' a' → Owned F hs' w' → Keeps w w' → Q ρ' hs' → Z .normal a' w') → wpListIn (fen r) 0 P ops Z l a w

section
variable {P : Program} {n : Nat} {ops : Array Oper} {l rest : List Oper} {ρ : Env} {K hs : List Hp} {Q : Env → List Hp → Prop}
theorem RI.ofRO (hd : noDf l = true) (h : RO P n ops l ρ K hs Q) : RI P n ops l ρ K hs Q :=
  fun _ a w F Z hl ha hK ho hz => wpList_toIn hl l a w hd (wpListS.list _ _ _ (h a w F Z ha hK ho hz))
theorem wpIn_monoQ {r : Option Nat} {o : Oper} {a : Act} {w : World} {N : Act → World → Prop} {Z Z' : Exit → Act → World → Prop} (hp : ∀ c a w, Z (.panic c) a w → Z' (.panic c) a w) (hl : LetsOut Z → LetsOut Z') (h : o.wpIn (fen r) 0 P a w N Z) : o.wpIn (fen r) 0 P a w N Z' := by
  refine ⟨h.1, ?_⟩
  have h := h.2
  generalize (o.semAt (fen r).round a.eval).run P w = x at *
  cases x with
  | ok nx w' =>
    cases nx <;> simp only [Oper.uponIn] at h ⊢ <;> try exact h
    · exact ⟨h.1, h.2.mono fun e w'' he => by
        cases e with
        | returned u => exact he
        | panicked c => exact hp _ _ _ he
        | outgrown => exact hl he⟩
    · exact ⟨h.1, h.2.mono fun e w'' he => by
        cases e with
        | returned u => exact he
        | panicked c => exact hp _ _ _ he
        | outgrown => exact hl he⟩
  | halt y w' =>
    cases y <;> simp only [Oper.uponIn] at h ⊢ <;> try exact h
    exact hp _ _ _ h
theorem wpListIn_app {r : Option Nat} {Z : Exit → Act → World → Prop} (l2 : List Oper) : ∀ (l1 : List Oper) (a : Act) (w : World), wpListIn (fen r) 0 P ops (fun e a w => match e with
    | .normal => wpListIn (fen r) 0 P ops Z l2 a w
    | e => Z e a w) l1 a w → wpListIn (fen r) 0 P ops Z (l1 ++ l2) a w
  | [], _, _, h => h
  | o :: l1, a, w, h => by
    rw [List.cons_append]
    unfold wpListIn at h ⊢
    split
    · rename_i hw
      rw [if_pos hw] at h
      have h2 := wpIn_monoQ (Z' := Z) (fun c a w h => h) (fun ⟨a, w, h⟩ => ⟨a, w, h⟩) h
      refine ⟨h2.1, ?_⟩
      have h3 := h2.2
      generalize (o.semAt (fen r).round a.eval).run P w = x at *
      cases x with
      | ok nx w' =>
        cases nx <;> simp only [Oper.uponIn] at h3 ⊢ <;> try exact wpListIn_app l2 l1 _ _ h3
        · exact ⟨h3.1, h3.2.mono fun e w'' he => by
            cases e with
            | returned u => exact wpListIn_app l2 l1 _ _ he
            | panicked c => exact he
            | outgrown => exact he⟩
        · exact ⟨h3.1, h3.2.mono fun e w'' he => by
            cases e with
            | returned u => exact wpListIn_app l2 l1 _ _ he
            | panicked c => exact he
            | outgrown => exact he⟩
        · exact ⟨h3.1, h3.2.mono fun _ _ he => wpListIn_app l2 l1 _ _ he⟩
      | halt y w' => cases y <;> simp only [Oper.uponIn] at h3 ⊢ <;> exact h3
    · rename_i hw
      rw [if_neg hw] at h
      exact ⟨h.1, wpListIn_app l2 l1 _ w h.2⟩
/-- the first k of them call no yield -/
theorem RI.pre (k : Nat) (hd : noDf (l.take k) = true) (h : RO P n ops (l.take k) ρ K hs fun ρ' hs' => RI P n ops (l.drop k) ρ' K hs' Q) : RI P n ops l ρ K hs Q := by
  intro r a w F Z hl ha hK ho hz
  have := wpListIn_app (P := P) (ops := ops) (r := r) (Z := Z) (l.drop k) (l.take k) a w ?_
  · rwa [List.take_append_drop] at this
  refine wpList_toIn (Z := fun e a w => match e with
    | .normal => wpListIn (fen r) 0 P ops Z (l.drop k) a w
    | e => Z e a w) (fun ⟨a, w, h⟩ => hl ⟨a, w, h⟩) _ a w hd (wpListS.list _ _ _ (h a w F _ ha hK ho fun a' w' ρ' hs' x y z q => ?_))
  exact q r a' w' F Z hl x.ok hK y fun a2 w2 ρ2 hs2 x2 y2 z2 q2 => hz a2 w2 ρ2 hs2 ⟨x2.ok, x2.df.trans x.df⟩ y2 (z.trans z2) q2
theorem RI.yield {d l : Nat} {args : List Operand} {vs : List Value} {ats : Array TypeId} {ty : TypeId} {pos : String} {after : Array Edge} {x : Operand} {R : Value → List Hp → Prop}
    (hx : evalO ρ x = some (.func (.yield l) #[] #[])) (hd : Nat.blt d n = true) (hvs : evalL ρ args = some vs) (h : Yt P l vs K hs R) (k : ∀ v hs', R v hs' → RI P n ops rest ((d, v) :: ρ) K hs' Q) :
    RI P n ops (⟨some d, .call ⟨.value x, args.toArray, ats⟩, ty, pos, after, none⟩ :: rest) ρ K hs Q := by
  intro r a w F Z hl ha hK ho hz
  unfold wpListIn
  rw [if_pos (by simp [Region.wanted])]
  have hargs : args.toArray.map a.eval = vs.toArray := by rw [List.map_toArray, ha.evals hvs]
  obtain ⟨f, tmps, assign, body, e, hr⟩ := h w F hK ho
  have hrun : (execOp a.eval ⟨some d, .call ⟨.value x, args.toArray, ats⟩, ty, pos, after, none⟩).run P w = .ok (.round l f tmps assign body) w := by
    rw [execOp_call, ha.eval hx, hargs]
    simpa [Deferred.ofValue, invoke] using e
  refine ⟨fun _ _ => trivial, ?_⟩
  rw [Oper.semAt_eq _ _ _ (by intro c h; cases h), hrun]
  simp only [Oper.uponIn]
  refine ⟨(fun e => by cases e), hr.mono fun e w' ⟨v, hs', he, ho', hk, hR⟩ => ?_⟩
  subst he
  exact k v hs' hR r _ w' F Z hl (ha.put hd v) hK ho' fun a' w'' ρ' hs'' x y z q => hz a' w'' ρ' hs'' x y (hk.trans z) q
theorem RC.regionI {id : Nat} {l : List Oper} {Q : Exit → Env → List Hp → Prop} (h : RI P n l.toArray l ρ K hs fun ρ' hs' => Q .normal ρ' hs') : RC P n (.region id l.toArray false) ρ K hs Q := by
  intro r a w F ha hK ho
  refine wpIn_region_lit (h r a w F _ ?_ ha hK ho fun a' w' ρ' hs' x y z q => ⟨⟨x.df, (fun _ e => by cases e), (fun e => by cases e)⟩, ρ', hs', x.ok, y, z, q⟩)
  exact fun ⟨_, _, x, _⟩ => x.no rfl
end

/-! ### one round -/
theorem Imp.cons {hs hs' : List Hp} (i : Imp hs hs') {x : Hp} : Imp (x :: hs) (x :: hs') := fun F w ho => by
  have ho2 : Owned F (hs ++ [x]) w := ho.perm (List.perm_append_comm (l₁ := [x]))
  have ho3 := i _ w (ho2.lend (K := []) (fun _ h => by cases h)).1
  exact (ho2.back ho3).perm List.perm_append_comm
def psEnv : List Nat → List Value → Env → Env
  | p :: ps, v :: vs, ρ => psEnv ps vs ((p, v) :: ρ)
  | _, _, ρ => ρ
theorem psEnv_ok {n : Nat} : ∀ (ps : List Nat) (vs : List Value) (ρ : Env) (a : Act), (ps.all fun p => Nat.blt p n) = true → EnvOk n ρ a → EnvOk n (psEnv ps vs ρ) ⟨(ps.zip vs).foldl (fun t x => t.setIfInBounds x.1 x.2) a.tmps, a.defers⟩
  | [], _, _, _, _, h => ⟨h.size, h.get⟩
  | _ :: _, [], _, _, _, h => ⟨h.size, h.get⟩
  | p :: ps, v :: vs, ρ, a, hb, h => by
    simp only [List.all_cons, Bool.and_eq_true] at hb
    exact psEnv_ok ps vs ((p, v) :: ρ) (a.put (some p) v) hb.2 (h.put hb.1 v)

/-- how a round may be left -/
def roundQ (L : LoopState → Option Code → Hp) (R : Value → List Hp → Prop) : Exit → Env → List Hp → Prop
  | .normal, _, hs => ∃ hs', Imp hs hs' ∧ R (.bool true) (L .ready none :: hs')
  | .ret, _, hs => ∃ hs', Imp hs hs' ∧ R (.bool false) (L .done (some .ret) :: hs')
  | .exit id, _, hs => ∃ hs', Imp hs hs' ∧ R (.bool false) (L .done (some (.exit id)) :: hs')
  | _, _, _ => False
/-- what one round of a loop is to do -/
def RoundOk (P : Program) (n : Nat) (ps : List Nat) (assign body : Code) (ρ : Env) (L : LoopState → Option Code → Hp) (vs : List Value) (K hs : List Hp) (R : Value → List Hp → Prop) : Prop :=
  RC P n assign (psEnv ps vs ρ) K hs fun e ρ' hs' => e = .normal ∧ RC P n body ρ' K hs' (roundQ L R)

theorem Owned.putLoop {F : Hp} {hs : List Hp} {w : World} {l : Nat} {o o' : Obj} (ho : Owned F (one l o :: hs) w) : Owned F (one l o' :: hs) (w.putObj l o') := by
  have e := ho.sub _ List.mem_cons_self l o (one_self l o)
  have := ho.upd (w' := w.putObj l o') (i := 0) (b := l) (o := o) (o' := o') rfl (World.putObj_heap_same (Array.getElem?_eq_some_iff.1 e).1) (fun k hk => World.putObj_heap_other hk)
  simpa using this
theorem Keeps.putObj (w : World) (l : Nat) (o : Obj) : Keeps w (w.putObj l o) := ⟨rfl, rfl, rfl, by simp⟩
theorem Owned.at0 {F : Hp} {hs : List Hp} {w : World} {l : Nat} {o : Obj} (ho : Owned F (one l o :: hs) w) : w.heap[l]? = some o := ho.sub _ List.mem_cons_self l o (one_self l o)

theorem yt_round {P : Program} {n l : Nat} {ρ : Env} {K hs : List Hp} {R : Value → List Hp → Prop} {rec : LoopState → Option Code → Loop} {ps : List Nat} {a : Act} {vs : List Value}
    (hrec : ∀ s p, (rec s p) = { rec .ready none with state := s, pending := p }) (hps : (rec .ready none).params = ps.toArray) (htm : (rec .ready none).tmps = a.tmps) (ha : EnvOk n ρ a) (hpb : (ps.all fun p => Nat.blt p n) = true) (hlen : vs.length = ps.length)
    (h : RoundOk P n ps (rec .ready none).assign (rec .ready none).body ρ (fun s p => one l (.loop (rec s p))) vs K hs R) : Yt P l vs K (one l (.loop (rec .ready none)) :: hs) R := by
  intro w F hK ho
  have hl := ho.at0
  have hst : (rec .ready none).state = .ready := by rw [hrec]
  have hy := run_yield (P := P) (args := vs.toArray) hl (by rw [hps]; simp [hlen])
  rw [hps, htm] at hy
  refine ⟨_, _, _, _, hy, roundIn_of_wpIn trivial ?_⟩
  have he := psEnv_ok ps vs ρ a hpb ha
  have hz : (ps.toArray.zip vs.toArray).foldl (fun tmps (x : Nat × Value) => tmps.setIfInBounds x.1 x.2) a.tmps = (ps.zip vs).foldl (fun t x => t.setIfInBounds x.1 x.2) a.tmps := by
    rw [List.zip_toArray, List.foldl_toArray]
  have run1 : ∀ (hs1 : List Hp) (o : Obj) (w1 : World) (c : Code) (ρ1 : Env) (a1 : Act) (Q : Exit → Env → List Hp → Prop) (Z : Exit → Act → World → Prop), RC P n c ρ1 K hs1 Q → EnvOk n ρ1 a1 → a1.defers = [] → Owned F (one l o :: hs1) w1 →
      (∀ e a2 w2 ρ2 hs2, a2.defers = [] → (∀ ch, e ≠ .panic ch) → e ≠ .outgrown → EnvOk n ρ2 a2 → Owned F (one l o :: hs2) w2 → Keeps w1 w2 → Q e ρ2 hs2 → Z e a2 w2) → c.wpIn (Fence.wide.inRound l) 0 P Z a1 w1 := by
    intro hs1 o w1 c ρ1 a1 Q Z hc ha1 hd ho1 hZ
    have ho2 : Owned F (hs1 ++ [one l o]) w1 := ho1.perm (List.perm_append_comm (l₁ := [one l o]))
    obtain ⟨ho3, hK3⟩ := ho2.lend hK
    refine wpIn_mono (hc (some l) a1 w1 (uni (F :: [one l o])) ha1 (fun g hg => hK3 g (List.mem_append_left _ hg)) ho3) ?_
    rintro e a2 w2 ⟨np, ρ2, hs2, x, y, z, q⟩
    exact hZ e a2 w2 ρ2 hs2 (np.df.trans hd) np.np np.no x ((ho2.back y).perm List.perm_append_comm) z q
  refine run1 hs _ w _ _ _ _ _ h (by rw [hz]; exact ⟨he.size, he.get⟩) rfl ho ?_
  rintro e a2 w2 ρ2 hs2 hd2 - - x y z ⟨rfl, hb⟩
  refine ⟨_, run_beginRound y.at0 hst, ?_⟩
  rw [show (Loop.mk .busy (rec .ready none).pending (rec .ready none).fn (rec .ready none).tmps (rec .ready none).params (rec .ready none).assign (rec .ready none).body (rec .ready none).defers) = rec .busy none from by
    rw [hrec .busy none]
    have : (rec .ready none).pending = none := by rw [hrec]
    rw [this]]
  refine run1 hs2 _ _ _ _ _ _ _ hb x hd2 (y.putLoop (o' := .loop (rec .busy none))) ?_
  rintro e a3 w3 ρ3 hs3 hd3 np no x3 y3 z3 q3
  have kk : Keeps w w3 := (z.trans (Keeps.putObj w2 _ _)).trans z3
  have fin : ∀ jump : Option Code, (Instr.endRound l jump).run P w3 = .ok (.bool jump.isNone) (w3.putObj l (.loop (rec (if jump.isNone then .ready else .done) jump))) := fun jump => by
    rw [run_endRound jump y3.at0]
    have e : ({ rec .busy none with state := if jump.isNone then .ready else .done, pending := jump } : Loop) = rec (if jump.isNone then .ready else .done) jump := by
      rw [hrec (if jump.isNone then .ready else .done) jump, hrec .busy none]
    rw [e]
  cases e with
  | normal => obtain ⟨hs4, i4, q4⟩ := q3; exact ⟨_, _, fin none, _, _, rfl, (i4.cons F w3 y3).putLoop, kk.trans (Keeps.putObj _ _ _), q4⟩
  | ret => obtain ⟨hs4, i4, q4⟩ := q3; exact ⟨_, _, fin (some .ret), _, _, rfl, (i4.cons F w3 y3).putLoop, kk.trans (Keeps.putObj _ _ _), q4⟩
  | exit id => obtain ⟨hs4, i4, q4⟩ := q3; exact ⟨_, _, fin (some (.exit id)), _, _, rfl, (i4.cons F w3 y3).putLoop, kk.trans (Keeps.putObj _ _ _), q4⟩
  | goto t => exact q3.elim
  | panic ch => exact absurd rfl (np ch)
  | outgrown => exact absurd rfl no

/-! ### the statement -/
def markOf (D : Nat) : Deferred := { target := .collected D, args := #[] }
def markH (D : Nat) : Hp := one D (.deferred (some []))
/-- as RC, in a plain frame; marks of loops may come to the deferred calls -/
def RM (P : Program) (n : Nat) (c : Code) (ρ : Env) (K hs : List Hp) (Q : Exit → Env → List Hp → Prop) : Prop :=
  ∀ a w F, EnvOk n ρ a → KIn K F → Owned F hs w → c.wpIn (fen none) 0 P (fun e a' w' => ((∀ ch, e ≠ .panic ch) ∧ e ≠ .outgrown) ∧ ∃ (ρ' : Env) (hs' : List Hp) (Ds : List Nat), a'.defers = Ds.map markOf ++ a.defers ∧ EnvOk n ρ' a' ∧ Owned F (hs' ++ Ds.map markH) w' ∧ Keeps w w' ∧ Q e ρ' hs') a w

section
variable {P : Program} {n : Nat} {ρ : Env} {K hs : List Hp} {Q : Exit → Env → List Hp → Prop}
theorem RM.of {c : Code} (h : RC P n c ρ K hs Q) : RM P n c ρ K hs Q :=
  fun a w F ha hK ho => wpIn_mono (h none a w F ha hK ho) fun _ _ _ ⟨np, ρ', hs', x, y, z, q⟩ => ⟨⟨np.np, np.no⟩, ρ', hs', [], np.df, x, by simpa using y, z, q⟩
theorem RM.imp {c : Code} {hs' : List Hp} (i : Imp hs hs') (h : RM P n c ρ K hs' Q) : RM P n c ρ K hs Q := fun a w F ha hK ho => h a w F ha hK (i F w ho)
theorem RM.know {c : Code} (h : Apart hs → RM P n c ρ K hs Q) : RM P n c ρ K hs Q := fun a w F ha hK ho => h ho.dis a w F ha hK ho
theorem RM.seq {x y : Code} (h : RM P n x ρ K hs (thenQ (fun ρ' hs' => RM P n y ρ' K hs' Q) Q)) : RM P n (.seq x y) ρ K hs Q := by
  intro a w F ha hK ho
  refine wpIn_seq (wpIn_mono (h a w F ha hK ho) fun e a' w' ⟨np, ρ', hs', Ds, hd, ha', ho', hk, q⟩ => ?_)
  cases e with
  | normal =>
    obtain ⟨ho2, hK2⟩ := ho'.lend hK
    refine wpIn_mono (q a' w' _ ha' (fun g hg => hK2 g (List.mem_append_left _ hg)) ho2) fun e2 a2 w2 ⟨np2, ρ2, hs2, Ds2, hd2, x, y, z, q2⟩ => ?_
    refine ⟨np2, ρ2, hs2, Ds2 ++ Ds, by rw [hd2, hd]; simp, x, ?_, hk.trans z, q2⟩
    have := ho'.back y
    simpa using this
  | exit id => exact ⟨np, ρ', hs', Ds, hd, ha', ho', hk, q⟩
  | goto l => exact ⟨np, ρ', hs', Ds, hd, ha', ho', hk, q⟩
  | ret => exact ⟨np, ρ', hs', Ds, hd, ha', ho', hk, q⟩
  | panic c => exact absurd rfl (np.1 c)
  | outgrown => exact absurd rfl np.2
theorem RM.block {id : Nat} {c : Code} (h : RM P n c ρ K hs (blockQ id Q)) : RM P n (.block id c) ρ K hs Q := by
  intro a w F ha hK ho
  refine wpIn_block (wpIn_mono (h a w F ha hK ho) fun e a' w' ⟨np, ρ', hs', Ds, hd, ha', ho', hk, q⟩ => ?_)
  cases e with
  | exit i =>
    simp only [blockQ] at q
    simp only [Exit.inBlock]
    by_cases e : i = id
    · subst e
      rw [Nat.beq_refl] at q
      rw [if_pos rfl]; exact ⟨⟨(fun _ e => by cases e), (fun e => by cases e)⟩, ρ', hs', Ds, hd, ha', ho', hk, q⟩
    · rw [beq_no e] at q
      rw [if_neg e]; exact ⟨np, ρ', hs', Ds, hd, ha', ho', hk, q⟩
  | normal => exact ⟨np, ρ', hs', Ds, hd, ha', ho', hk, q⟩
  | goto l => exact ⟨np, ρ', hs', Ds, hd, ha', ho', hk, q⟩
  | ret => exact ⟨np, ρ', hs', Ds, hd, ha', ho', hk, q⟩
  | panic c => exact absurd rfl (np.1 c)
  | outgrown => exact absurd rfl np.2
theorem RM.cond {c : Operand} {x y : Code} {t : Bool} (hc : evalO ρ c = some (.bool t)) (ht : t = true → RM P n x ρ K hs Q) (hf : t = false → RM P n y ρ K hs Q) : RM P n (.cond c x y) ρ K hs Q := by
  intro a w F ha hK ho
  exact wpIn_cond_split (ha.eval hc) (fun e => ht e a w F ha hK ho) (fun e => hf e a w F ha hK ho)
end

/-- where the loop's jump leads -/
def jumpE : Option Code → Option Exit
  | none => some .normal
  | some .ret => some .ret
  | some (.exit id) => some (.exit id)
  | _ => none
/-- A RANGE OVER A FUNCTION that is a closure: its contract, at a yield whose rounds do as they are to -/
theorem RM.rangeFunc {P : Program} {n : Nat} {ρ : Env} {K hs : List Hp} {Q : Exit → Env → List Hp → Prop} {g : Operand} {ps : List Nat} {assign body : Code} {gf : Nat} {cap : Array Value} {fn : Func} {c : Code}
    (hg : evalO ρ g = some (.func (.func gf) #[] cap)) (hf : P.funcs[gf]? = some fn) (hb : fn.body = some c) (hng : (fn.name == "runtime.NumGoroutine") = false) (hpb : (ps.all fun p => Nat.blt p n) = true)
    (h : ∀ (l : Nat) (L : LoopState → Option Code → Hp), (∀ vs K' hs' R, vs.length = ps.length → RoundOk P n ps assign body ρ L vs K' hs' R → Yt P l vs K' (L .ready none :: hs') R) →
      Fn P gf (.func (.yield l) #[] #[] :: cap.toList) K (L .ready none :: hs) fun _ hs' => ∃ st jump hs2 e, hs' = L st jump :: hs2 ∧ st ≠ .busy ∧ jumpE jump = some e ∧ Q e ρ hs2) :
    RM P n (.rangeFunc g ps.toArray assign body) ρ K hs Q := by
  intro a w F ha hK ho
  refine wpIn_rangeFunc fun fnid _ => ?_
  obtain ⟨rec, hrec⟩ : ∃ rec : LoopState → Option Code → Loop, rec = fun st pe => { state := st, pending := pe, fn := fnid, tmps := a.tmps, params := ps.toArray, assign, body, defers := w.heap.size } := ⟨_, rfl⟩
  have ho1 := ho.alloc (.deferred (some []))
  have ho2 := ho1.alloc (.loop (rec .ready none))
  rw [World.size_alloc] at ho2
  obtain ⟨W1, hW1⟩ : ∃ W1, (w.alloc (.deferred (some []))).alloc (.loop (rec .ready none)) = W1 := ⟨_, rfl⟩
  have k0 : Keeps w W1 := by rw [← hW1]; exact ⟨rfl, rfl, rfl, by simp; omega⟩
  have hen : (Instr.enterLoop fnid a.tmps ps.toArray assign body none).run P w = .ok (w.heap.size + 1, [markOf w.heap.size]) W1 := by
    rw [run_enterLoop_outer, ← hW1, hrec]; rfl
  rw [hW1] at ho2
  have key := h (w.heap.size + 1) (fun s p => one (w.heap.size + 1) (.loop (rec s p))) (fun vs K' hs' R hl hr => yt_round (a := a) (ps := ps) (by rw [hrec]; intros; rfl) (by rw [hrec]) (by rw [hrec]) ha hpb hl (by rw [hrec] at hr ⊢; exact hr))
  have ho3 : Owned F ((one (w.heap.size + 1) (.loop (rec .ready none)) :: hs) ++ [one w.heap.size (.deferred (some []))]) W1 :=
    ho2.perm ((List.perm_append_comm (l₁ := [one w.heap.size (.deferred (some []))]) (l₂ := hs)).cons (one (w.heap.size + 1) (.loop (rec .ready none))))
  obtain ⟨ho4, hK4⟩ := ho3.lend hK
  have call := key W1 _ (fun g hg => hK4 g (List.mem_append_left _ hg)) ho4
  refine ⟨w.heap.size + 1, [markOf w.heap.size], W1, { target := .fn (.func gf) cap, args := #[.func (.yield (w.heap.size + 1)) #[] #[]] }, W1, gf, #[.func (.yield (w.heap.size + 1)) #[] #[]] ++ cap, W1, hen, ?_, fun _ _ => trivial, ?_, (fun e => by cases e), callsIn_wide.2 ?_⟩
  · have hgv : a.eval g = .func (.func gf) #[] cap := ha.eval hg
    simp only [resolve, hgv]
    simp [Deferred.ofValue, Act.eval]
  · have hng' : ¬ fn.name = "runtime.NumGoroutine" := by simpa using hng
    simp [invoke, callFunc, hf, hb, hng']
  · have e : (Value.func (.yield (w.heap.size + 1)) #[] #[] :: cap.toList).toArray = #[.func (.yield (w.heap.size + 1)) #[] #[]] ++ cap := by
      apply Array.ext'; simp
    rw [← e]
    refine call.mono ?_
    rintro e w3 ⟨v, hs3, rfl, ho5, hk5, st, jump, hs2, e2, rfl, hst, hj, hq⟩
    have ho6 := ho3.back ho5
    have hl6 : w3.heap[w.heap.size + 1]? = some (.loop (rec st jump)) := Owned.at0 (by simpa using ho6)
    have hend := run_endLoop (P := P) hl6 (by rw [hrec]; exact hst)
    have hend := hend.trans (congrArg (fun j => Result.ok j (w3.putObj (w.heap.size + 1) (.loop { rec st jump with state := .exhausted }))) (show (rec st jump).pending = jump from by rw [hrec]))
    have ho7 := Owned.putLoop (o' := .loop { rec st jump with state := .exhausted }) (hs := hs2 ++ [one w.heap.size (.deferred (some []))]) (by simpa using ho6)
    have ho8 := ho7.tail
    have kk := (k0.trans hk5).trans (Keeps.putObj w3 (w.heap.size + 1) (.loop { rec st jump with state := .exhausted }))
    have goal : ((∀ ch, e2 ≠ .panic ch) ∧ e2 ≠ .outgrown) ∧ ∃ (ρ' : Env) (hs' : List Hp) (Ds : List Nat), ({ a with defers := [markOf w.heap.size] ++ a.defers } : Act).defers = Ds.map markOf ++ a.defers ∧ EnvOk n ρ' { a with defers := [markOf w.heap.size] ++ a.defers } ∧ Owned F (hs' ++ Ds.map markH) (w3.putObj (w.heap.size + 1) (.loop { rec st jump with state := .exhausted })) ∧ Keeps w (w3.putObj (w.heap.size + 1) (.loop { rec st jump with state := .exhausted })) ∧ Q e2 ρ' hs' := by
      refine ⟨?_, ρ, hs2, [w.heap.size], rfl, ⟨ha.size, ha.get⟩, ho8, kk, hq⟩
      unfold jumpE at hj
      split at hj <;> first | (cases hj; exact ⟨(fun _ e => by cases e), (fun e => by cases e)⟩) | cases hj
    refine ⟨jump, _, hend, ?_⟩
    unfold jumpE at hj
    split at hj
    · cases hj; exact goal
    · cases hj; exact wpIn_ret goal
    · cases hj; exact wpIn_exit goal
    · cases hj

theorem takeMarks {P : Program} {F : Hp} {fn : Func} {tmps : Array Value} {R : Ending → World → Prop} : ∀ (Ds : List Nat) (hs : List Hp) (w : World), Owned F (hs ++ Ds.map markH) w → (∀ w', Owned F hs w' → Keeps w w' → LeavesInM Fence.wide 0 P fn tmps R [] .returning w') → LeavesInM Fence.wide 0 P fn tmps R (Ds.map markOf) .returning w
  | [], hs, w, ho, h => h w (by simpa using ho) (Keeps.refl w)
  | D :: Ds, hs, w, ho, h => by
    have ho1 : Owned F (markH D :: (hs ++ Ds.map markH)) w := ho.perm (by
      rw [List.map_cons]; exact List.perm_middle)
    refine ⟨(fun e => by cases e), .inl ⟨D, _, rfl, run_takeDeferred ho1.at0, takeMarks Ds hs _ (ho1.putLoop (o' := .deferred none)).tail fun w' o k => h w' o ((Keeps.putObj w D _).trans k)⟩⟩

theorem Fn.enterM {P : Program} {f : FuncId} {fn : Func} {c : Code} {args : List Value} {K hs : List Hp} {R : Value → List Hp → Prop} (hf : P.funcs[f]? = some fn) (hb : fn.body = some c)
    (hn : Nat.ble args.length fn.ntmps = true) (h : RM P fn.ntmps c (argEnv 0 args) K hs (postQ P K fn R)) : Fn P f args K hs R := by
  intro w F hK ho
  have hn' : args.length ≤ fn.ntmps := by simpa [Nat.ble_eq] using hn
  refine callsIn_wide.1 (callsIn_of_wp_marks (n := 0) hf hb trivial (wpIn_mono (h _ w F ⟨?_, ?_⟩ hK ho) fun e a' w' ⟨np, ρ', hs', Ds, hd, ha', ho', hk, q⟩ => ?_))
  · simp; omega
  · intro t v e
    obtain ⟨_, e⟩ := argEnv_lk _ _ _ _ e
    simp only [Nat.sub_zero] at e
    have hlt := (List.getElem?_eq_some_iff.1 e).1
    rw [Array.getD_eq_getD_getElem?, Array.getElem?_append_left (by simpa using hlt)]
    simp [e]
  · rw [List.append_nil] at hd
    have fin : ∀ q' : (∀ w F a, EnvOk fn.ntmps ρ' a → KIn K F → Owned F hs' w → ∃ v hs', (results fn a.tmps).run P w = .ok v w ∧ Owned F hs' w ∧ R v hs'), LeavesInM Fence.wide 0 P fn a'.tmps (fun e w' => ∃ v hs', e = .returned v ∧ Owned F hs' w' ∧ Keeps w w' ∧ R v hs') a'.defers .returning w' := fun q' => by
      rw [hd]
      refine takeMarks Ds hs' w' ho' fun w2 o2 k2 => ?_
      obtain ⟨v, hs2, hr, ho2, hR⟩ := q' w2 F a' ha' hK o2
      exact ⟨v, hr, v, hs2, rfl, ho2, hk.trans k2, hR⟩
    cases e with
    | normal => exact fin q
    | ret => exact fin q
    | exit _ => exact q.elim
    | goto _ => exact q.elim
    | panic _ => exact q.elim
    | outgrown => exact q.elim
theorem v_makeFunc {P : Program} {n : Nat} {ρ : Env} {M : List Hp} {d : Nat} {ty : TypeId} {pos : String} {after : Array Edge} {f : Go.Fn} {fs cs : List Operand} {us vs : List Value} (hf : evalL ρ fs = some us) (hv : evalL ρ cs = some vs) :
    OpV P n ρ M ⟨some d, .makeFunc f fs.toArray cs.toArray, ty, pos, after, none⟩ (.func f us.toArray vs.toArray) :=
  OpV.p fun a ha => by
    simp only [execOp, Instr.makeFunc, List.map_toArray, ha.evals hf, ha.evals hv]; rfl
end Go.Proofs.YtonnncdolofccaaGreat

namespace Go.Proofs.YtonnncdolofccaaGreat
/-- the steps of a walk up to the next that asks for a word -/
structure HidX (p : Prop) : Prop where
  out : p
theorem goX {G H : Prop} (h : H) (k : HidX H → G := by (intro h; (first | (apply RO.ofV; (first | (apply v_move; exact rfl) | (apply v_assign; exact rfl) | (apply v_fieldAddr tb; (iterate 4 exact rfl)) | (apply v_load0 tb; (iterate 5 exact rfl)) | (apply v_load1 tb; (iterate 5 exact rfl)) | (apply v_nilCheck; exact rfl) | (apply v_makeFunc; exact rfl; exact rfl) | (apply v_extract; (iterate 2 exact rfl)) | (apply v_pickT; (iterate 2 exact rfl)) | (apply v_pickF; (iterate 2 exact rfl)) | (apply v_add; (iterate 2 exact rfl); omega; omega) | (apply v_sub; (iterate 2 exact rfl); omega; omega) | (apply v_cT; (iterate 3 exact rfl); omega) | (apply v_cF; (iterate 3 exact rfl); omega) | (apply v_int; (iterate 3 exact rfl)) | (apply v_lenA tb; (iterate 2 exact rfl)) | (apply v_lenS tb; (iterate 2 exact rfl)) | (apply v_conv64 tb; (iterate 3 exact rfl); omega; omega) | (apply v_cu64 tb; (iterate 3 exact rfl); omega; omega) | (apply v_cu8 tb; (iterate 3 exact rfl); omega; omega) | (apply v_cu32 tb; (iterate 3 exact rfl); omega; omega) | (apply v_shr; (iterate 2 exact rfl); omega) | (apply v_shl; (iterate 2 exact rfl); omega) | (apply v_quo64; (iterate 2 exact rfl); omega; omega; omega) | (apply v_rem; (iterate 2 exact rfl); omega; omega) | (apply v_str; (iterate 3 exact rfl)) | (apply v_eqPs tb; (iterate 3 exact rfl)) | (apply v_nePs tb; (iterate 3 exact rfl)) | (apply v_eqPn tb; (iterate 3 exact rfl)) | (apply v_nePn tb; (iterate 3 exact rfl)) | (apply v_notT; exact rfl) | (apply v_notF; exact rfl) | (apply v_not; exact rfl) | (apply v_eqB tb; (iterate 3 exact rfl)) | (apply v_neB tb; (iterate 3 exact rfl)) | (apply v_eqS tb oksok; (iterate 6 exact rfl)) | (apply v_neS tb oksok; (iterate 6 exact rfl)) | (apply v_conv tb; (iterate 3 exact rfl)) | (apply v_field tb; (iterate 5 exact rfl)) | (apply v_build tb; (iterate 4 exact rfl)) | (apply v_indexAddr tb; (iterate 4 exact rfl); omega; omega) | (apply v_load2 tb; (iterate 5 exact rfl)) | (apply v_load3 tb; (iterate 5 exact rfl)) | (apply v_load4 tb; (iterate 5 exact rfl)) | (apply v_load5 tb; (iterate 5 exact rfl)) | (apply v_load6 tb; (iterate 5 exact rfl)) | (apply v_load7 tb; (iterate 5 exact rfl)) | (apply v_loadk tb; exact rfl; assumption; (first | exact Sub.refl _ | exact Sub.left _ _ | exact Sub.nil _ | (intro g hg; simp only [List.mem_append, List.mem_cons, List.not_mem_nil, or_false, false_or] at hg ⊢; first | simp only [hg, true_or, or_true] | grind)); exact rfl; exact rfl; exact rfl)); exact rfl) | apply RO.nil | apply q_then | apply RC.seq | (apply RC.region; exact rfl) | apply q_blk | (apply RC.condT; exact rfl) | (apply RC.condF; exact rfl) | apply RC.block | apply RC.skip | apply RC.exit | apply q_thenX | (apply q_blkX; exact rfl) | (apply q_blkY; exact rfl) | apply RC.ret | apply q_thenR | apply q_blkR | apply RC.label | apply RC.scope | apply q_ng | apply q_ngR | apply q_ngX | (apply o_store0 tb; (iterate 8 exact rfl)) | (apply o_store1 tb; (iterate 8 exact rfl)) | (apply o_store2 tb; (iterate 8 exact rfl)) | (apply o_store3 tb; (iterate 8 exact rfl)) | (apply o_store4 tb; (iterate 8 exact rfl)) | (apply o_store5 tb; (iterate 8 exact rfl)) | (apply o_store6 tb; (iterate 8 exact rfl)) | (apply o_store7 tb; (iterate 8 exact rfl)) | (apply RO.take; (iterate 4 exact rfl)) | (apply RO.leave; (iterate 6 exact rfl)) | (apply RO.leaveU; (iterate 6 exact rfl)) | (apply EvE.ofV; (first | (apply v_move; exact rfl) | (apply v_assign; exact rfl) | (apply v_fieldAddr tb; (iterate 4 exact rfl)) | (apply v_load0 tb; (iterate 5 exact rfl)) | (apply v_load1 tb; (iterate 5 exact rfl)) | (apply v_nilCheck; exact rfl) | (apply v_makeFunc; exact rfl; exact rfl) | (apply v_extract; (iterate 2 exact rfl)) | (apply v_pickT; (iterate 2 exact rfl)) | (apply v_pickF; (iterate 2 exact rfl)) | (apply v_add; (iterate 2 exact rfl); omega; omega) | (apply v_sub; (iterate 2 exact rfl); omega; omega) | (apply v_cT; (iterate 3 exact rfl); omega) | (apply v_cF; (iterate 3 exact rfl); omega) | (apply v_int; (iterate 3 exact rfl)) | (apply v_lenA tb; (iterate 2 exact rfl)) | (apply v_lenS tb; (iterate 2 exact rfl)) | (apply v_conv64 tb; (iterate 3 exact rfl); omega; omega) | (apply v_cu64 tb; (iterate 3 exact rfl); omega; omega) | (apply v_cu8 tb; (iterate 3 exact rfl); omega; omega) | (apply v_cu32 tb; (iterate 3 exact rfl); omega; omega) | (apply v_shr; (iterate 2 exact rfl); omega) | (apply v_shl; (iterate 2 exact rfl); omega) | (apply v_quo64; (iterate 2 exact rfl); omega; omega; omega) | (apply v_rem; (iterate 2 exact rfl); omega; omega) | (apply v_str; (iterate 3 exact rfl)) | (apply v_eqPs tb; (iterate 3 exact rfl)) | (apply v_nePs tb; (iterate 3 exact rfl)) | (apply v_eqPn tb; (iterate 3 exact rfl)) | (apply v_nePn tb; (iterate 3 exact rfl)) | (apply v_notT; exact rfl) | (apply v_notF; exact rfl) | (apply v_not; exact rfl) | (apply v_eqB tb; (iterate 3 exact rfl)) | (apply v_neB tb; (iterate 3 exact rfl)) | (apply v_eqS tb oksok; (iterate 6 exact rfl)) | (apply v_neS tb oksok; (iterate 6 exact rfl)) | (apply v_conv tb; (iterate 3 exact rfl)) | (apply v_field tb; (iterate 5 exact rfl)) | (apply v_build tb; (iterate 4 exact rfl)) | (apply v_indexAddr tb; (iterate 4 exact rfl); omega; omega) | (apply v_load2 tb; (iterate 5 exact rfl)) | (apply v_load3 tb; (iterate 5 exact rfl)) | (apply v_load4 tb; (iterate 5 exact rfl)) | (apply v_load5 tb; (iterate 5 exact rfl)) | (apply v_load6 tb; (iterate 5 exact rfl)) | (apply v_load7 tb; (iterate 5 exact rfl)) | (apply v_loadk tb; exact rfl; assumption; (first | exact Sub.refl _ | exact Sub.left _ _ | exact Sub.nil _ | (intro g hg; simp only [List.mem_append, List.mem_cons, List.not_mem_nil, or_false, false_or] at hg ⊢; first | simp only [hg, true_or, or_true] | grind)); exact rfl; exact rfl; exact rfl)); exact rfl) | apply EvE.nil | apply DR.cons | apply DR.nil | (apply EvE.take; exact rfl; exact rfl; exact rfl; (first | (apply v_move; exact rfl) | (apply v_assign; exact rfl) | (apply v_fieldAddr tb; (iterate 4 exact rfl)) | (apply v_load0 tb; (iterate 5 exact rfl)) | (apply v_load1 tb; (iterate 5 exact rfl)) | (apply v_nilCheck; exact rfl) | (apply v_makeFunc; exact rfl; exact rfl) | (apply v_extract; (iterate 2 exact rfl)) | (apply v_pickT; (iterate 2 exact rfl)) | (apply v_pickF; (iterate 2 exact rfl)) | (apply v_add; (iterate 2 exact rfl); omega; omega) | (apply v_sub; (iterate 2 exact rfl); omega; omega) | (apply v_cT; (iterate 3 exact rfl); omega) | (apply v_cF; (iterate 3 exact rfl); omega) | (apply v_int; (iterate 3 exact rfl)) | (apply v_lenA tb; (iterate 2 exact rfl)) | (apply v_lenS tb; (iterate 2 exact rfl)) | (apply v_conv64 tb; (iterate 3 exact rfl); omega; omega) | (apply v_cu64 tb; (iterate 3 exact rfl); omega; omega) | (apply v_cu8 tb; (iterate 3 exact rfl); omega; omega) | (apply v_cu32 tb; (iterate 3 exact rfl); omega; omega) | (apply v_shr; (iterate 2 exact rfl); omega) | (apply v_shl; (iterate 2 exact rfl); omega) | (apply v_quo64; (iterate 2 exact rfl); omega; omega; omega) | (apply v_rem; (iterate 2 exact rfl); omega; omega) | (apply v_str; (iterate 3 exact rfl)) | (apply v_eqPs tb; (iterate 3 exact rfl)) | (apply v_nePs tb; (iterate 3 exact rfl)) | (apply v_eqPn tb; (iterate 3 exact rfl)) | (apply v_nePn tb; (iterate 3 exact rfl)) | (apply v_notT; exact rfl) | (apply v_notF; exact rfl) | (apply v_not; exact rfl) | (apply v_eqB tb; (iterate 3 exact rfl)) | (apply v_neB tb; (iterate 3 exact rfl)) | (apply v_eqS tb oksok; (iterate 6 exact rfl)) | (apply v_neS tb oksok; (iterate 6 exact rfl)) | (apply v_conv tb; (iterate 3 exact rfl)) | (apply v_field tb; (iterate 5 exact rfl)) | (apply v_build tb; (iterate 4 exact rfl)) | (apply v_indexAddr tb; (iterate 4 exact rfl); omega; omega) | (apply v_load2 tb; (iterate 5 exact rfl)) | (apply v_load3 tb; (iterate 5 exact rfl)) | (apply v_load4 tb; (iterate 5 exact rfl)) | (apply v_load5 tb; (iterate 5 exact rfl)) | (apply v_load6 tb; (iterate 5 exact rfl)) | (apply v_load7 tb; (iterate 5 exact rfl)) | (apply v_loadk tb; exact rfl; assumption; (first | exact Sub.refl _ | exact Sub.left _ _ | exact Sub.nil _ | (intro g hg; simp only [List.mem_append, List.mem_cons, List.not_mem_nil, or_false, false_or] at hg ⊢; first | simp only [hg, true_or, or_true] | grind)); exact rfl; exact rfl; exact rfl)); exact rfl) | (apply EvE.leave; (iterate 4 exact rfl)) | (apply EvE.leaveU; (iterate 4 exact rfl))); (repeat (first | (apply RO.ofV; (first | (apply v_move; exact rfl) | (apply v_assign; exact rfl) | (apply v_fieldAddr tb; (iterate 4 exact rfl)) | (apply v_load0 tb; (iterate 5 exact rfl)) | (apply v_load1 tb; (iterate 5 exact rfl)) | (apply v_nilCheck; exact rfl) | (apply v_makeFunc; exact rfl; exact rfl) | (apply v_extract; (iterate 2 exact rfl)) | (apply v_pickT; (iterate 2 exact rfl)) | (apply v_pickF; (iterate 2 exact rfl)) | (apply v_add; (iterate 2 exact rfl); omega; omega) | (apply v_sub; (iterate 2 exact rfl); omega; omega) | (apply v_cT; (iterate 3 exact rfl); omega) | (apply v_cF; (iterate 3 exact rfl); omega) | (apply v_int; (iterate 3 exact rfl)) | (apply v_lenA tb; (iterate 2 exact rfl)) | (apply v_lenS tb; (iterate 2 exact rfl)) | (apply v_conv64 tb; (iterate 3 exact rfl); omega; omega) | (apply v_cu64 tb; (iterate 3 exact rfl); omega; omega) | (apply v_cu8 tb; (iterate 3 exact rfl); omega; omega) | (apply v_cu32 tb; (iterate 3 exact rfl); omega; omega) | (apply v_shr; (iterate 2 exact rfl); omega) | (apply v_shl; (iterate 2 exact rfl); omega) | (apply v_quo64; (iterate 2 exact rfl); omega; omega; omega) | (apply v_rem; (iterate 2 exact rfl); omega; omega) | (apply v_str; (iterate 3 exact rfl)) | (apply v_eqPs tb; (iterate 3 exact rfl)) | (apply v_nePs tb; (iterate 3 exact rfl)) | (apply v_eqPn tb; (iterate 3 exact rfl)) | (apply v_nePn tb; (iterate 3 exact rfl)) | (apply v_notT; exact rfl) | (apply v_notF; exact rfl) | (apply v_not; exact rfl) | (apply v_eqB tb; (iterate 3 exact rfl)) | (apply v_neB tb; (iterate 3 exact rfl)) | (apply v_eqS tb oksok; (iterate 6 exact rfl)) | (apply v_neS tb oksok; (iterate 6 exact rfl)) | (apply v_conv tb; (iterate 3 exact rfl)) | (apply v_field tb; (iterate 5 exact rfl)) | (apply v_build tb; (iterate 4 exact rfl)) | (apply v_indexAddr tb; (iterate 4 exact rfl); omega; omega) | (apply v_load2 tb; (iterate 5 exact rfl)) | (apply v_load3 tb; (iterate 5 exact rfl)) | (apply v_load4 tb; (iterate 5 exact rfl)) | (apply v_load5 tb; (iterate 5 exact rfl)) | (apply v_load6 tb; (iterate 5 exact rfl)) | (apply v_load7 tb; (iterate 5 exact rfl)) | (apply v_loadk tb; exact rfl; assumption; (first | exact Sub.refl _ | exact Sub.left _ _ | exact Sub.nil _ | (intro g hg; simp only [List.mem_append, List.mem_cons, List.not_mem_nil, or_false, false_or] at hg ⊢; first | simp only [hg, true_or, or_true] | grind)); exact rfl; exact rfl; exact rfl)); exact rfl) | apply RO.nil | apply q_then | apply RC.seq | (apply RC.region; exact rfl) | apply q_blk | (apply RC.condT; exact rfl) | (apply RC.condF; exact rfl) | apply RC.block | apply RC.skip | apply RC.exit | apply q_thenX | (apply q_blkX; exact rfl) | (apply q_blkY; exact rfl) | apply RC.ret | apply q_thenR | apply q_blkR | apply RC.label | apply RC.scope | apply q_ng | apply q_ngR | apply q_ngX | (apply o_store0 tb; (iterate 8 exact rfl)) | (apply o_store1 tb; (iterate 8 exact rfl)) | (apply o_store2 tb; (iterate 8 exact rfl)) | (apply o_store3 tb; (iterate 8 exact rfl)) | (apply o_store4 tb; (iterate 8 exact rfl)) | (apply o_store5 tb; (iterate 8 exact rfl)) | (apply o_store6 tb; (iterate 8 exact rfl)) | (apply o_store7 tb; (iterate 8 exact rfl)) | (apply RO.take; (iterate 4 exact rfl)) | (apply RO.leave; (iterate 6 exact rfl)) | (apply RO.leaveU; (iterate 6 exact rfl)) | (apply EvE.ofV; (first | (apply v_move; exact rfl) | (apply v_assign; exact rfl) | (apply v_fieldAddr tb; (iterate 4 exact rfl)) | (apply v_load0 tb; (iterate 5 exact rfl)) | (apply v_load1 tb; (iterate 5 exact rfl)) | (apply v_nilCheck; exact rfl) | (apply v_makeFunc; exact rfl; exact rfl) | (apply v_extract; (iterate 2 exact rfl)) | (apply v_pickT; (iterate 2 exact rfl)) | (apply v_pickF; (iterate 2 exact rfl)) | (apply v_add; (iterate 2 exact rfl); omega; omega) | (apply v_sub; (iterate 2 exact rfl); omega; omega) | (apply v_cT; (iterate 3 exact rfl); omega) | (apply v_cF; (iterate 3 exact rfl); omega) | (apply v_int; (iterate 3 exact rfl)) | (apply v_lenA tb; (iterate 2 exact rfl)) | (apply v_lenS tb; (iterate 2 exact rfl)) | (apply v_conv64 tb; (iterate 3 exact rfl); omega; omega) | (apply v_cu64 tb; (iterate 3 exact rfl); omega; omega) | (apply v_cu8 tb; (iterate 3 exact rfl); omega; omega) | (apply v_cu32 tb; (iterate 3 exact rfl); omega; omega) | (apply v_shr; (iterate 2 exact rfl); omega) | (apply v_shl; (iterate 2 exact rfl); omega) | (apply v_quo64; (iterate 2 exact rfl); omega; omega; omega) | (apply v_rem; (iterate 2 exact rfl); omega; omega) | (apply v_str; (iterate 3 exact rfl)) | (apply v_eqPs tb; (iterate 3 exact rfl)) | (apply v_nePs tb; (iterate 3 exact rfl)) | (apply v_eqPn tb; (iterate 3 exact rfl)) | (apply v_nePn tb; (iterate 3 exact rfl)) | (apply v_notT; exact rfl) | (apply v_notF; exact rfl) | (apply v_not; exact rfl) | (apply v_eqB tb; (iterate 3 exact rfl)) | (apply v_neB tb; (iterate 3 exact rfl)) | (apply v_eqS tb oksok; (iterate 6 exact rfl)) | (apply v_neS tb oksok; (iterate 6 exact rfl)) | (apply v_conv tb; (iterate 3 exact rfl)) | (apply v_field tb; (iterate 5 exact rfl)) | (apply v_build tb; (iterate 4 exact rfl)) | (apply v_indexAddr tb; (iterate 4 exact rfl); omega; omega) | (apply v_load2 tb; (iterate 5 exact rfl)) | (apply v_load3 tb; (iterate 5 exact rfl)) | (apply v_load4 tb; (iterate 5 exact rfl)) | (apply v_load5 tb; (iterate 5 exact rfl)) | (apply v_load6 tb; (iterate 5 exact rfl)) | (apply v_load7 tb; (iterate 5 exact rfl)) | (apply v_loadk tb; exact rfl; assumption; (first | exact Sub.refl _ | exact Sub.left _ _ | exact Sub.nil _ | (intro g hg; simp only [List.mem_append, List.mem_cons, List.not_mem_nil, or_false, false_or] at hg ⊢; first | simp only [hg, true_or, or_true] | grind)); exact rfl; exact rfl; exact rfl)); exact rfl) | apply EvE.nil | apply DR.cons | apply DR.nil | (apply EvE.take; exact rfl; exact rfl; exact rfl; (first | (apply v_move; exact rfl) | (apply v_assign; exact rfl) | (apply v_fieldAddr tb; (iterate 4 exact rfl)) | (apply v_load0 tb; (iterate 5 exact rfl)) | (apply v_load1 tb; (iterate 5 exact rfl)) | (apply v_nilCheck; exact rfl) | (apply v_makeFunc; exact rfl; exact rfl) | (apply v_extract; (iterate 2 exact rfl)) | (apply v_pickT; (iterate 2 exact rfl)) | (apply v_pickF; (iterate 2 exact rfl)) | (apply v_add; (iterate 2 exact rfl); omega; omega) | (apply v_sub; (iterate 2 exact rfl); omega; omega) | (apply v_cT; (iterate 3 exact rfl); omega) | (apply v_cF; (iterate 3 exact rfl); omega) | (apply v_int; (iterate 3 exact rfl)) | (apply v_lenA tb; (iterate 2 exact rfl)) | (apply v_lenS tb; (iterate 2 exact rfl)) | (apply v_conv64 tb; (iterate 3 exact rfl); omega; omega) | (apply v_cu64 tb; (iterate 3 exact rfl); omega; omega) | (apply v_cu8 tb; (iterate 3 exact rfl); omega; omega) | (apply v_cu32 tb; (iterate 3 exact rfl); omega; omega) | (apply v_shr; (iterate 2 exact rfl); omega) | (apply v_shl; (iterate 2 exact rfl); omega) | (apply v_quo64; (iterate 2 exact rfl); omega; omega; omega) | (apply v_rem; (iterate 2 exact rfl); omega; omega) | (apply v_str; (iterate 3 exact rfl)) | (apply v_eqPs tb; (iterate 3 exact rfl)) | (apply v_nePs tb; (iterate 3 exact rfl)) | (apply v_eqPn tb; (iterate 3 exact rfl)) | (apply v_nePn tb; (iterate 3 exact rfl)) | (apply v_notT; exact rfl) | (apply v_notF; exact rfl) | (apply v_not; exact rfl) | (apply v_eqB tb; (iterate 3 exact rfl)) | (apply v_neB tb; (iterate 3 exact rfl)) | (apply v_eqS tb oksok; (iterate 6 exact rfl)) | (apply v_neS tb oksok; (iterate 6 exact rfl)) | (apply v_conv tb; (iterate 3 exact rfl)) | (apply v_field tb; (iterate 5 exact rfl)) | (apply v_build tb; (iterate 4 exact rfl)) | (apply v_indexAddr tb; (iterate 4 exact rfl); omega; omega) | (apply v_load2 tb; (iterate 5 exact rfl)) | (apply v_load3 tb; (iterate 5 exact rfl)) | (apply v_load4 tb; (iterate 5 exact rfl)) | (apply v_load5 tb; (iterate 5 exact rfl)) | (apply v_load6 tb; (iterate 5 exact rfl)) | (apply v_load7 tb; (iterate 5 exact rfl)) | (apply v_loadk tb; exact rfl; assumption; (first | exact Sub.refl _ | exact Sub.left _ _ | exact Sub.nil _ | (intro g hg; simp only [List.mem_append, List.mem_cons, List.not_mem_nil, or_false, false_or] at hg ⊢; first | simp only [hg, true_or, or_true] | grind)); exact rfl; exact rfl; exact rfl)); exact rfl) | (apply EvE.leave; (iterate 4 exact rfl)) | (apply EvE.leaveU; (iterate 4 exact rfl)))); exact h.out)) : G := k ⟨h⟩
/-- the same, but for regions -/
theorem goN {G H : Prop} (h : H) (k : HidX H → G := by (intro h; (first | (apply RO.ofV; (first | (apply v_move; exact rfl) | (apply v_assign; exact rfl) | (apply v_fieldAddr tb; (iterate 4 exact rfl)) | (apply v_load0 tb; (iterate 5 exact rfl)) | (apply v_load1 tb; (iterate 5 exact rfl)) | (apply v_nilCheck; exact rfl) | (apply v_makeFunc; exact rfl; exact rfl) | (apply v_extract; (iterate 2 exact rfl)) | (apply v_pickT; (iterate 2 exact rfl)) | (apply v_pickF; (iterate 2 exact rfl)) | (apply v_add; (iterate 2 exact rfl); omega; omega) | (apply v_sub; (iterate 2 exact rfl); omega; omega) | (apply v_cT; (iterate 3 exact rfl); omega) | (apply v_cF; (iterate 3 exact rfl); omega) | (apply v_int; (iterate 3 exact rfl)) | (apply v_lenA tb; (iterate 2 exact rfl)) | (apply v_lenS tb; (iterate 2 exact rfl)) | (apply v_conv64 tb; (iterate 3 exact rfl); omega; omega) | (apply v_cu64 tb; (iterate 3 exact rfl); omega; omega) | (apply v_cu8 tb; (iterate 3 exact rfl); omega; omega) | (apply v_cu32 tb; (iterate 3 exact rfl); omega; omega) | (apply v_shr; (iterate 2 exact rfl); omega) | (apply v_shl; (iterate 2 exact rfl); omega) | (apply v_quo64; (iterate 2 exact rfl); omega; omega; omega) | (apply v_rem; (iterate 2 exact rfl); omega; omega) | (apply v_str; (iterate 3 exact rfl)) | (apply v_eqPs tb; (iterate 3 exact rfl)) | (apply v_nePs tb; (iterate 3 exact rfl)) | (apply v_eqPn tb; (iterate 3 exact rfl)) | (apply v_nePn tb; (iterate 3 exact rfl)) | (apply v_notT; exact rfl) | (apply v_notF; exact rfl) | (apply v_not; exact rfl) | (apply v_eqB tb; (iterate 3 exact rfl)) | (apply v_neB tb; (iterate 3 exact rfl)) | (apply v_eqS tb oksok; (iterate 6 exact rfl)) | (apply v_neS tb oksok; (iterate 6 exact rfl)) | (apply v_conv tb; (iterate 3 exact rfl)) | (apply v_field tb; (iterate 5 exact rfl)) | (apply v_build tb; (iterate 4 exact rfl)) | (apply v_indexAddr tb; (iterate 4 exact rfl); omega; omega) | (apply v_load2 tb; (iterate 5 exact rfl)) | (apply v_load3 tb; (iterate 5 exact rfl)) | (apply v_load4 tb; (iterate 5 exact rfl)) | (apply v_load5 tb; (iterate 5 exact rfl)) | (apply v_load6 tb; (iterate 5 exact rfl)) | (apply v_load7 tb; (iterate 5 exact rfl)) | (apply v_loadk tb; exact rfl; assumption; (first | exact Sub.refl _ | exact Sub.left _ _ | exact Sub.nil _ | (intro g hg; simp only [List.mem_append, List.mem_cons, List.not_mem_nil, or_false, false_or] at hg ⊢; first | simp only [hg, true_or, or_true] | grind)); exact rfl; exact rfl; exact rfl)); exact rfl) | apply RO.nil | apply q_then | apply RC.seq | apply q_blk | (apply RC.condT; exact rfl) | (apply RC.condF; exact rfl) | apply RC.block | apply RC.skip | apply RC.exit | apply q_thenX | (apply q_blkX; exact rfl) | (apply q_blkY; exact rfl) | apply RC.ret | apply q_thenR | apply q_blkR | apply RC.label | apply RC.scope | apply q_ng | apply q_ngR | apply q_ngX | (apply o_store0 tb; (iterate 8 exact rfl)) | (apply o_store1 tb; (iterate 8 exact rfl)) | (apply o_store2 tb; (iterate 8 exact rfl)) | (apply o_store3 tb; (iterate 8 exact rfl)) | (apply o_store4 tb; (iterate 8 exact rfl)) | (apply o_store5 tb; (iterate 8 exact rfl)) | (apply o_store6 tb; (iterate 8 exact rfl)) | (apply o_store7 tb; (iterate 8 exact rfl)) | (apply RO.take; (iterate 4 exact rfl)) | (apply RO.leave; (iterate 6 exact rfl)) | (apply RO.leaveU; (iterate 6 exact rfl)) | (apply EvE.ofV; (first | (apply v_move; exact rfl) | (apply v_assign; exact rfl) | (apply v_fieldAddr tb; (iterate 4 exact rfl)) | (apply v_load0 tb; (iterate 5 exact rfl)) | (apply v_load1 tb; (iterate 5 exact rfl)) | (apply v_nilCheck; exact rfl) | (apply v_makeFunc; exact rfl; exact rfl) | (apply v_extract; (iterate 2 exact rfl)) | (apply v_pickT; (iterate 2 exact rfl)) | (apply v_pickF; (iterate 2 exact rfl)) | (apply v_add; (iterate 2 exact rfl); omega; omega) | (apply v_sub; (iterate 2 exact rfl); omega; omega) | (apply v_cT; (iterate 3 exact rfl); omega) | (apply v_cF; (iterate 3 exact rfl); omega) | (apply v_int; (iterate 3 exact rfl)) | (apply v_lenA tb; (iterate 2 exact rfl)) | (apply v_lenS tb; (iterate 2 exact rfl)) | (apply v_conv64 tb; (iterate 3 exact rfl); omega; omega) | (apply v_cu64 tb; (iterate 3 exact rfl); omega; omega) | (apply v_cu8 tb; (iterate 3 exact rfl); omega; omega) | (apply v_cu32 tb; (iterate 3 exact rfl); omega; omega) | (apply v_shr; (iterate 2 exact rfl); omega) | (apply v_shl; (iterate 2 exact rfl); omega) | (apply v_quo64; (iterate 2 exact rfl); omega; omega; omega) | (apply v_rem; (iterate 2 exact rfl); omega; omega) | (apply v_str; (iterate 3 exact rfl)) | (apply v_eqPs tb; (iterate 3 exact rfl)) | (apply v_nePs tb; (iterate 3 exact rfl)) | (apply v_eqPn tb; (iterate 3 exact rfl)) | (apply v_nePn tb; (iterate 3 exact rfl)) | (apply v_notT; exact rfl) | (apply v_notF; exact rfl) | (apply v_not; exact rfl) | (apply v_eqB tb; (iterate 3 exact rfl)) | (apply v_neB tb; (iterate 3 exact rfl)) | (apply v_eqS tb oksok; (iterate 6 exact rfl)) | (apply v_neS tb oksok; (iterate 6 exact rfl)) | (apply v_conv tb; (iterate 3 exact rfl)) | (apply v_field tb; (iterate 5 exact rfl)) | (apply v_build tb; (iterate 4 exact rfl)) | (apply v_indexAddr tb; (iterate 4 exact rfl); omega; omega) | (apply v_load2 tb; (iterate 5 exact rfl)) | (apply v_load3 tb; (iterate 5 exact rfl)) | (apply v_load4 tb; (iterate 5 exact rfl)) | (apply v_load5 tb; (iterate 5 exact rfl)) | (apply v_load6 tb; (iterate 5 exact rfl)) | (apply v_load7 tb; (iterate 5 exact rfl)) | (apply v_loadk tb; exact rfl; assumption; (first | exact Sub.refl _ | exact Sub.left _ _ | exact Sub.nil _ | (intro g hg; simp only [List.mem_append, List.mem_cons, List.not_mem_nil, or_false, false_or] at hg ⊢; first | simp only [hg, true_or, or_true] | grind)); exact rfl; exact rfl; exact rfl)); exact rfl) | apply EvE.nil | apply DR.cons | apply DR.nil | (apply EvE.take; exact rfl; exact rfl; exact rfl; (first | (apply v_move; exact rfl) | (apply v_assign; exact rfl) | (apply v_fieldAddr tb; (iterate 4 exact rfl)) | (apply v_load0 tb; (iterate 5 exact rfl)) | (apply v_load1 tb; (iterate 5 exact rfl)) | (apply v_nilCheck; exact rfl) | (apply v_makeFunc; exact rfl; exact rfl) | (apply v_extract; (iterate 2 exact rfl)) | (apply v_pickT; (iterate 2 exact rfl)) | (apply v_pickF; (iterate 2 exact rfl)) | (apply v_add; (iterate 2 exact rfl); omega; omega) | (apply v_sub; (iterate 2 exact rfl); omega; omega) | (apply v_cT; (iterate 3 exact rfl); omega) | (apply v_cF; (iterate 3 exact rfl); omega) | (apply v_int; (iterate 3 exact rfl)) | (apply v_lenA tb; (iterate 2 exact rfl)) | (apply v_lenS tb; (iterate 2 exact rfl)) | (apply v_conv64 tb; (iterate 3 exact rfl); omega; omega) | (apply v_cu64 tb; (iterate 3 exact rfl); omega; omega) | (apply v_cu8 tb; (iterate 3 exact rfl); omega; omega) | (apply v_cu32 tb; (iterate 3 exact rfl); omega; omega) | (apply v_shr; (iterate 2 exact rfl); omega) | (apply v_shl; (iterate 2 exact rfl); omega) | (apply v_quo64; (iterate 2 exact rfl); omega; omega; omega) | (apply v_rem; (iterate 2 exact rfl); omega; omega) | (apply v_str; (iterate 3 exact rfl)) | (apply v_eqPs tb; (iterate 3 exact rfl)) | (apply v_nePs tb; (iterate 3 exact rfl)) | (apply v_eqPn tb; (iterate 3 exact rfl)) | (apply v_nePn tb; (iterate 3 exact rfl)) | (apply v_notT; exact rfl) | (apply v_notF; exact rfl) | (apply v_not; exact rfl) | (apply v_eqB tb; (iterate 3 exact rfl)) | (apply v_neB tb; (iterate 3 exact rfl)) | (apply v_eqS tb oksok; (iterate 6 exact rfl)) | (apply v_neS tb oksok; (iterate 6 exact rfl)) | (apply v_conv tb; (iterate 3 exact rfl)) | (apply v_field tb; (iterate 5 exact rfl)) | (apply v_build tb; (iterate 4 exact rfl)) | (apply v_indexAddr tb; (iterate 4 exact rfl); omega; omega) | (apply v_load2 tb; (iterate 5 exact rfl)) | (apply v_load3 tb; (iterate 5 exact rfl)) | (apply v_load4 tb; (iterate 5 exact rfl)) | (apply v_load5 tb; (iterate 5 exact rfl)) | (apply v_load6 tb; (iterate 5 exact rfl)) | (apply v_load7 tb; (iterate 5 exact rfl)) | (apply v_loadk tb; exact rfl; assumption; (first | exact Sub.refl _ | exact Sub.left _ _ | exact Sub.nil _ | (intro g hg; simp only [List.mem_append, List.mem_cons, List.not_mem_nil, or_false, false_or] at hg ⊢; first | simp only [hg, true_or, or_true] | grind)); exact rfl; exact rfl; exact rfl)); exact rfl) | (apply EvE.leave; (iterate 4 exact rfl)) | (apply EvE.leaveU; (iterate 4 exact rfl))); (repeat (first | (apply RO.ofV; (first | (apply v_move; exact rfl) | (apply v_assign; exact rfl) | (apply v_fieldAddr tb; (iterate 4 exact rfl)) | (apply v_load0 tb; (iterate 5 exact rfl)) | (apply v_load1 tb; (iterate 5 exact rfl)) | (apply v_nilCheck; exact rfl) | (apply v_makeFunc; exact rfl; exact rfl) | (apply v_extract; (iterate 2 exact rfl)) | (apply v_pickT; (iterate 2 exact rfl)) | (apply v_pickF; (iterate 2 exact rfl)) | (apply v_add; (iterate 2 exact rfl); omega; omega) | (apply v_sub; (iterate 2 exact rfl); omega; omega) | (apply v_cT; (iterate 3 exact rfl); omega) | (apply v_cF; (iterate 3 exact rfl); omega) | (apply v_int; (iterate 3 exact rfl)) | (apply v_lenA tb; (iterate 2 exact rfl)) | (apply v_lenS tb; (iterate 2 exact rfl)) | (apply v_conv64 tb; (iterate 3 exact rfl); omega; omega) | (apply v_cu64 tb; (iterate 3 exact rfl); omega; omega) | (apply v_cu8 tb; (iterate 3 exact rfl); omega; omega) | (apply v_cu32 tb; (iterate 3 exact rfl); omega; omega) | (apply v_shr; (iterate 2 exact rfl); omega) | (apply v_shl; (iterate 2 exact rfl); omega) | (apply v_quo64; (iterate 2 exact rfl); omega; omega; omega) | (apply v_rem; (iterate 2 exact rfl); omega; omega) | (apply v_str; (iterate 3 exact rfl)) | (apply v_eqPs tb; (iterate 3 exact rfl)) | (apply v_nePs tb; (iterate 3 exact rfl)) | (apply v_eqPn tb; (iterate 3 exact rfl)) | (apply v_nePn tb; (iterate 3 exact rfl)) | (apply v_notT; exact rfl) | (apply v_notF; exact rfl) | (apply v_not; exact rfl) | (apply v_eqB tb; (iterate 3 exact rfl)) | (apply v_neB tb; (iterate 3 exact rfl)) | (apply v_eqS tb oksok; (iterate 6 exact rfl)) | (apply v_neS tb oksok; (iterate 6 exact rfl)) | (apply v_conv tb; (iterate 3 exact rfl)) | (apply v_field tb; (iterate 5 exact rfl)) | (apply v_build tb; (iterate 4 exact rfl)) | (apply v_indexAddr tb; (iterate 4 exact rfl); omega; omega) | (apply v_load2 tb; (iterate 5 exact rfl)) | (apply v_load3 tb; (iterate 5 exact rfl)) | (apply v_load4 tb; (iterate 5 exact rfl)) | (apply v_load5 tb; (iterate 5 exact rfl)) | (apply v_load6 tb; (iterate 5 exact rfl)) | (apply v_load7 tb; (iterate 5 exact rfl)) | (apply v_loadk tb; exact rfl; assumption; (first | exact Sub.refl _ | exact Sub.left _ _ | exact Sub.nil _ | (intro g hg; simp only [List.mem_append, List.mem_cons, List.not_mem_nil, or_false, false_or] at hg ⊢; first | simp only [hg, true_or, or_true] | grind)); exact rfl; exact rfl; exact rfl)); exact rfl) | apply RO.nil | apply q_then | apply RC.seq | apply q_blk | (apply RC.condT; exact rfl) | (apply RC.condF; exact rfl) | apply RC.block | apply RC.skip | apply RC.exit | apply q_thenX | (apply q_blkX; exact rfl) | (apply q_blkY; exact rfl) | apply RC.ret | apply q_thenR | apply q_blkR | apply RC.label | apply RC.scope | apply q_ng | apply q_ngR | apply q_ngX | (apply o_store0 tb; (iterate 8 exact rfl)) | (apply o_store1 tb; (iterate 8 exact rfl)) | (apply o_store2 tb; (iterate 8 exact rfl)) | (apply o_store3 tb; (iterate 8 exact rfl)) | (apply o_store4 tb; (iterate 8 exact rfl)) | (apply o_store5 tb; (iterate 8 exact rfl)) | (apply o_store6 tb; (iterate 8 exact rfl)) | (apply o_store7 tb; (iterate 8 exact rfl)) | (apply RO.take; (iterate 4 exact rfl)) | (apply RO.leave; (iterate 6 exact rfl)) | (apply RO.leaveU; (iterate 6 exact rfl)) | (apply EvE.ofV; (first | (apply v_move; exact rfl) | (apply v_assign; exact rfl) | (apply v_fieldAddr tb; (iterate 4 exact rfl)) | (apply v_load0 tb; (iterate 5 exact rfl)) | (apply v_load1 tb; (iterate 5 exact rfl)) | (apply v_nilCheck; exact rfl) | (apply v_makeFunc; exact rfl; exact rfl) | (apply v_extract; (iterate 2 exact rfl)) | (apply v_pickT; (iterate 2 exact rfl)) | (apply v_pickF; (iterate 2 exact rfl)) | (apply v_add; (iterate 2 exact rfl); omega; omega) | (apply v_sub; (iterate 2 exact rfl); omega; omega) | (apply v_cT; (iterate 3 exact rfl); omega) | (apply v_cF; (iterate 3 exact rfl); omega) | (apply v_int; (iterate 3 exact rfl)) | (apply v_lenA tb; (iterate 2 exact rfl)) | (apply v_lenS tb; (iterate 2 exact rfl)) | (apply v_conv64 tb; (iterate 3 exact rfl); omega; omega) | (apply v_cu64 tb; (iterate 3 exact rfl); omega; omega) | (apply v_cu8 tb; (iterate 3 exact rfl); omega; omega) | (apply v_cu32 tb; (iterate 3 exact rfl); omega; omega) | (apply v_shr; (iterate 2 exact rfl); omega) | (apply v_shl; (iterate 2 exact rfl); omega) | (apply v_quo64; (iterate 2 exact rfl); omega; omega; omega) | (apply v_rem; (iterate 2 exact rfl); omega; omega) | (apply v_str; (iterate 3 exact rfl)) | (apply v_eqPs tb; (iterate 3 exact rfl)) | (apply v_nePs tb; (iterate 3 exact rfl)) | (apply v_eqPn tb; (iterate 3 exact rfl)) | (apply v_nePn tb; (iterate 3 exact rfl)) | (apply v_notT; exact rfl) | (apply v_notF; exact rfl) | (apply v_not; exact rfl) | (apply v_eqB tb; (iterate 3 exact rfl)) | (apply v_neB tb; (iterate 3 exact rfl)) | (apply v_eqS tb oksok; (iterate 6 exact rfl)) | (apply v_neS tb oksok; (iterate 6 exact rfl)) | (apply v_conv tb; (iterate 3 exact rfl)) | (apply v_field tb; (iterate 5 exact rfl)) | (apply v_build tb; (iterate 4 exact rfl)) | (apply v_indexAddr tb; (iterate 4 exact rfl); omega; omega) | (apply v_load2 tb; (iterate 5 exact rfl)) | (apply v_load3 tb; (iterate 5 exact rfl)) | (apply v_load4 tb; (iterate 5 exact rfl)) | (apply v_load5 tb; (iterate 5 exact rfl)) | (apply v_load6 tb; (iterate 5 exact rfl)) | (apply v_load7 tb; (iterate 5 exact rfl)) | (apply v_loadk tb; exact rfl; assumption; (first | exact Sub.refl _ | exact Sub.left _ _ | exact Sub.nil _ | (intro g hg; simp only [List.mem_append, List.mem_cons, List.not_mem_nil, or_false, false_or] at hg ⊢; first | simp only [hg, true_or, or_true] | grind)); exact rfl; exact rfl; exact rfl)); exact rfl) | apply EvE.nil | apply DR.cons | apply DR.nil | (apply EvE.take; exact rfl; exact rfl; exact rfl; (first | (apply v_move; exact rfl) | (apply v_assign; exact rfl) | (apply v_fieldAddr tb; (iterate 4 exact rfl)) | (apply v_load0 tb; (iterate 5 exact rfl)) | (apply v_load1 tb; (iterate 5 exact rfl)) | (apply v_nilCheck; exact rfl) | (apply v_makeFunc; exact rfl; exact rfl) | (apply v_extract; (iterate 2 exact rfl)) | (apply v_pickT; (iterate 2 exact rfl)) | (apply v_pickF; (iterate 2 exact rfl)) | (apply v_add; (iterate 2 exact rfl); omega; omega) | (apply v_sub; (iterate 2 exact rfl); omega; omega) | (apply v_cT; (iterate 3 exact rfl); omega) | (apply v_cF; (iterate 3 exact rfl); omega) | (apply v_int; (iterate 3 exact rfl)) | (apply v_lenA tb; (iterate 2 exact rfl)) | (apply v_lenS tb; (iterate 2 exact rfl)) | (apply v_conv64 tb; (iterate 3 exact rfl); omega; omega) | (apply v_cu64 tb; (iterate 3 exact rfl); omega; omega) | (apply v_cu8 tb; (iterate 3 exact rfl); omega; omega) | (apply v_cu32 tb; (iterate 3 exact rfl); omega; omega) | (apply v_shr; (iterate 2 exact rfl); omega) | (apply v_shl; (iterate 2 exact rfl); omega) | (apply v_quo64; (iterate 2 exact rfl); omega; omega; omega) | (apply v_rem; (iterate 2 exact rfl); omega; omega) | (apply v_str; (iterate 3 exact rfl)) | (apply v_eqPs tb; (iterate 3 exact rfl)) | (apply v_nePs tb; (iterate 3 exact rfl)) | (apply v_eqPn tb; (iterate 3 exact rfl)) | (apply v_nePn tb; (iterate 3 exact rfl)) | (apply v_notT; exact rfl) | (apply v_notF; exact rfl) | (apply v_not; exact rfl) | (apply v_eqB tb; (iterate 3 exact rfl)) | (apply v_neB tb; (iterate 3 exact rfl)) | (apply v_eqS tb oksok; (iterate 6 exact rfl)) | (apply v_neS tb oksok; (iterate 6 exact rfl)) | (apply v_conv tb; (iterate 3 exact rfl)) | (apply v_field tb; (iterate 5 exact rfl)) | (apply v_build tb; (iterate 4 exact rfl)) | (apply v_indexAddr tb; (iterate 4 exact rfl); omega; omega) | (apply v_load2 tb; (iterate 5 exact rfl)) | (apply v_load3 tb; (iterate 5 exact rfl)) | (apply v_load4 tb; (iterate 5 exact rfl)) | (apply v_load5 tb; (iterate 5 exact rfl)) | (apply v_load6 tb; (iterate 5 exact rfl)) | (apply v_load7 tb; (iterate 5 exact rfl)) | (apply v_loadk tb; exact rfl; assumption; (first | exact Sub.refl _ | exact Sub.left _ _ | exact Sub.nil _ | (intro g hg; simp only [List.mem_append, List.mem_cons, List.not_mem_nil, or_false, false_or] at hg ⊢; first | simp only [hg, true_or, or_true] | grind)); exact rfl; exact rfl; exact rfl)); exact rfl) | (apply EvE.leave; (iterate 4 exact rfl)) | (apply EvE.leaveU; (iterate 4 exact rfl)))); exact h.out)) : G := k ⟨h⟩
theorem pmX {α : Type} {l l' : List α} (h : l.Perm l' := by (repeat (first | exact List.Perm.refl _ | refine (perm_erase _ 0 _ rfl).trans (List.Perm.cons _ ?_) | refine (perm_erase _ 1 _ rfl).trans (List.Perm.cons _ ?_) | refine (perm_erase _ 2 _ rfl).trans (List.Perm.cons _ ?_) | refine (perm_erase _ 3 _ rfl).trans (List.Perm.cons _ ?_) | refine (perm_erase _ 4 _ rfl).trans (List.Perm.cons _ ?_) | refine (perm_erase _ 5 _ rfl).trans (List.Perm.cons _ ?_) | refine (perm_erase _ 6 _ rfl).trans (List.Perm.cons _ ?_) | refine (perm_erase _ 7 _ rfl).trans (List.Perm.cons _ ?_) | refine (perm_erase _ 8 _ rfl).trans (List.Perm.cons _ ?_) | refine (perm_erase _ 9 _ rfl).trans (List.Perm.cons _ ?_) | refine (perm_erase _ 10 _ rfl).trans (List.Perm.cons _ ?_) | refine (perm_erase _ 11 _ rfl).trans (List.Perm.cons _ ?_) | refine (perm_erase _ 12 _ rfl).trans (List.Perm.cons _ ?_) | refine (perm_erase _ 13 _ rfl).trans (List.Perm.cons _ ?_)))) : l.Perm l' := h
theorem slX {α : Type} {l l' : List α} (h : l.Sublist l' := by (repeat (first | exact List.Sublist.refl _ | exact List.Sublist.slnil | exact List.nil_sublist _ | refine List.Sublist.cons_cons _ ?_ | refine List.Sublist.cons _ ?_))) : l.Sublist l' := h
theorem sbX {M M' : List Hp} (h : Sub M M' := by (intro g hg; simp only [List.mem_append, List.mem_cons, List.not_mem_nil, or_false, false_or, List.append_nil, List.nil_append, List.cons_append, List.set_cons_zero, List.set_cons_succ, List.eraseIdx_cons_zero, List.eraseIdx_cons_succ] at hg ⊢; first | exact hg | (simp only [hg, true_or, or_true]) | grind)) : Sub M M' := h
theorem leX {ρ ρ' : Env} (h : EnvLe ρ ρ' := by (repeat (first | exact EnvLe.nil _ | refine EnvLe.cons rfl ?_))) : EnvLe ρ ρ' := h
section
variable {P : Program} {n : Nat} {ops : Array Oper} {rest : List Oper} {ρ : Env} {K hs : List Hp} {Q : Env → List Hp → Prop} {d : Nat} {ty : TypeId} {pos : String} {after : Array Edge}
theorem bxX {x : Operand} {T : TypeId} {v : Value} {l : List Value} (h : ∀ b, RO P n ops rest ((d, .pointer (some ⟨b, 0, none⟩)) :: ρ) K (one b (.cells l.toArray T (0, 0)) :: hs) Q) (hx : evalO ρ x = some v := by exact rfl) (hl : cellsL v = l := by exact rfl) (hd : Nat.blt d n = true := by exact rfl) :
    RO P n ops (⟨some d, .box T x, ty, pos, after, none⟩ :: rest) ρ K hs Q := o_box hx hl hd h
theorem alX {T : TypeId} {i : TI} {l : List Value} (h : ∀ b, RO Tryz.prog n ops rest ((d, .pointer (some ⟨b, 0, none⟩)) :: ρ) K (one b (.cells l.toArray T (0, 0)) :: hs) Q) (hT : lkT tab T = some i := by exact rfl) (hl : cellsL i.zero = l := by exact rfl) (hd : Nat.blt d n = true := by exact rfl) :
    RO Tryz.prog n ops (⟨some d, .alloc T, ty, pos, after, none⟩ :: rest) ρ K hs Q := o_alloc tb hT hl hd h
theorem bsX {T E : TypeId} {ie : TI} {len : Nat} {ps : List (Nat × Operand)} {l : List Value}
    (h : ∀ b, RO Tryz.prog n ops rest ((d, .slice (some ⟨b, 0, none⟩) len len) :: ρ) K (one b (.cells l.toArray E (0, 0)) :: hs) Q) (hT : undOf tab T = some (.slice E) := by exact rfl) (hE : lkT tab E = some ie := by exact rfl) (hl : partCells ρ ie.size 0 ps = some l := by exact rfl) (hlen : Nat.beq ps.length len = true := by exact rfl) (hsm : Nat.ble (len * ie.size) 1000 = true := by exact rfl) (hd : Nat.blt d n = true := by exact rfl) :
    RO Tryz.prog n ops (⟨some d, .buildSlice T len ps.toArray, ty, pos, after, none⟩ :: rest) ρ K hs Q := o_buildS tb hT hE hl hlen hsm hd h
end
theorem rgX {n : Nat} {ρ : Env} {K hs : List Hp} {Q : Exit → Env → List Hp → Prop} (id : Nat) {l : List Oper} (h : RO Tryz.prog n l.toArray l ρ K hs fun ρ' hs' => Q .normal ρ' hs') (hd : noDf l = true := by exact rfl) : RC Tryz.prog n (.region id l.toArray false) ρ K hs Q := RC.region hd h
theorem dwX {n : Nat} {ρ : Env} {K hs : List Hp} {Q : Exit → Env → List Hp → Prop} (id : Nat) {l : List Oper} (ps : List (List Nat × List Nat)) (c2 : List Nat)
    (h : DR Tryz.prog n l (K ++ hs) ps ρ [] fun ρ2 hs2 => RO Tryz.prog n l.toArray (pick l c2) ρ2 K (hs2 ++ hs) fun ρ3 hs3 => Q .normal ρ3 hs3) (hplan : planOk l.toArray ps c2 = true := by kernel_rfl) :
    RC Tryz.prog n (.region id l.toArray true) ρ K hs Q := RC.draw mixed hplan (List.Perm.refl _) h
end Go.Proofs.YtonnncdolofccaaGreat

namespace Go.Proofs.YtonnncdolofccaaGreat

def cmpI (a b : Int) : Int := if a < b then -1 else if b < a then 1 else 0
def orI (a b c : Int) : Int := if a ≠ 0 then a else if b ≠ 0 then b else c

structure Tg where
  seq : Int
  who : Int
  op : Int
  deriving DecidableEq
structure En where
  key : List UInt8
  tag : Tg
  has : Bool
  b : List UInt8
  deriving DecidableEq
def Tg.zero : Tg := ⟨0, 0, 0⟩
def cmpT (t u : Tg) : Int := orI (cmpI t.seq u.seq) (cmpI t.who u.who) (cmpI t.op u.op)
def tagOk (t : Tg) : Bool := decide (0 ≤ t.seq ∧ t.seq ≤ 1099511627775 ∧ 0 ≤ t.who ∧ t.who ≤ 1048575 ∧ 0 ≤ t.op ∧ t.op ≤ 1048575 ∧ (t.seq = 0 → t.who = 0 ∧ t.op = 0))
def right (e : En) : Bool := decide (0 < e.key.length ∧ e.key.length ≤ 250 ∧ e.b.length ≤ 60000 ∧ (e.has = false → e.b = []) ∧ tagOk e.tag = true ∧ (e.tag.seq = 0 → e.has = false))

/-! ### pack -/
/-- the eight bytes of a number, the highest first -/
def b8 (n : Nat) : List UInt8 := [UInt8.ofNat (n / 72057594037927936), UInt8.ofNat (n / 281474976710656), UInt8.ofNat (n / 1099511627776), UInt8.ofNat (n / 4294967296), UInt8.ofNat (n / 16777216), UInt8.ofNat (n / 65536), UInt8.ofNat (n / 256), UInt8.ofNat n]
def digs (n : Nat) : List UInt8 := (b8 n).dropWhile (· == 0)
def numB (n : Nat) : List UInt8 := UInt8.ofNat (digs n).length :: digs n
def rowB (b : List UInt8) : List UInt8 := numB b.length ++ b
def truB (t : Bool) : List UInt8 := [if t then 1 else 0]
def enB (e : En) : List UInt8 := rowB e.key ++ numB e.tag.seq.toNat ++ numB e.tag.who.toNat ++ numB e.tag.op.toNat ++ truB e.has ++ (if e.has then rowB e.b else [])

theorem dropWhile_snoc {α : Type} (p : α → Bool) (l : List α) (c : α) : (l ++ [c]).dropWhile p = if (l.dropWhile p).isEmpty then (if p c then [] else [c]) else l.dropWhile p ++ [c] := by
  induction l with
  | nil => simp [List.dropWhile]; split <;> simp_all
  | cons a l ih =>
    simp only [List.cons_append, List.dropWhile_cons]
    split
    · exact ih
    · simp
theorem dropWhile_len {α : Type} (p : α → Bool) (l : List α) : (l.dropWhile p).length ≤ l.length := by
  induction l with
  | nil => simp
  | cons a l ih => simp only [List.dropWhile_cons]; split <;> simp <;> omega
theorem digs_len (n : Nat) : (digs n).length ≤ 8 := dropWhile_len _ _
theorem numB_len (n : Nat) : (numB n).length ≤ 9 := by have := digs_len n; simp [numB]; omega
end Go.Proofs.YtonnncdolofccaaGreat
