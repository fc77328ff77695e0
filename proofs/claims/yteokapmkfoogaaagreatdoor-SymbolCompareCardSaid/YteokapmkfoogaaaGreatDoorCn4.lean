/- The canonical calculus, part 4: numbers, strings, equality, building, slicing. -/
import Derived.Test.YteokapmkfoogaaaGreatDoorCn3
set_option linter.unusedVariables false
set_option linter.unusedSimpArgs false
noncomputable section
namespace Go.Cn

section
variable {P : Program} {E : Env}

/-! ### numbers, strings, equality -/
theorem eqGuard_plain {op : BinOp} {t : TypeId} {x y : Operand} {a b : Value} {w : World} (h1 : a ≠ .nilIface) (h2 : ∀ cs, a ≠ .agg cs) : (eqGuard op t x y a b).run P w = .ok () w := by
  unfold eqGuard
  cases op <;> simp <;> (split <;> simp_all)

/-- the value of a number, a bool, a text -/
def toV : CV → Value
  | .bool b => .bool b
  | .int k n => .int k n
  | .str s => .string ⟨⟨s⟩⟩
  | _ => undef

def plainV : CV → Bool
  | .bool _ => true
  | .int _ _ => true
  | .str _ => true
  | _ => false

theorem toV_sound {x : CV} (h : plainV x = true) : VR E x (toV x) := by
  cases x <;> first | (simp [plainV] at h; done) | constructor

theorem cint_sound {op : BinOp} {k : IntKind} {a b : Int} {x : CV} {t : TypeId} {w : World} (h1 : op ≠ .shl) (h2 : op ≠ .shr) (h : cint op k a b = some x) :
    (binOp op t (.int k a) (.int k b)).run P w = .ok (toV x) w ∧ plainV x = true := by
  cases op <;> simp only [cint, reduceCtorEq, Option.some.injEq, ne_eq] at h h1 h2 <;>
    first
    | (subst h; exact ⟨by simp [binOp, Op.intArith, Op.intBits, Op.intCmp, toV], rfl⟩)
    | (split at h <;> simp only [Option.some.injEq, reduceCtorEq] at h; next hb => subst h; exact ⟨by simp [binOp, Op.intDiv, hb, toV], rfl⟩)

theorem bytes_toList (x : List UInt8) : (⟨⟨x⟩⟩ : ByteArray).toList = x := by
  have h : ∀ (n i : Nat) (l : List UInt8), x.length - i = n → ByteArray.toList.loop ⟨⟨x⟩⟩ i l = l.reverse ++ x.drop i := by
    intro n
    induction n with
    | zero =>
      intro i l hi
      unfold ByteArray.toList.loop
      have : ¬ i < (⟨⟨x⟩⟩ : ByteArray).size := by simp [ByteArray.size]; omega
      simp [this, List.drop_eq_nil_of_le (show x.length ≤ i by omega)]
    | succ n ih =>
      intro i l hi
      unfold ByteArray.toList.loop
      have hi' : i < x.length := by omega
      have : i < (⟨⟨x⟩⟩ : ByteArray).size := by simpa [ByteArray.size] using hi'
      rw [if_pos this, ih (i + 1) _ (by omega), List.drop_eq_getElem_cons hi']
      simp [ByteArray.get!, hi']
  have := h x.length 0 [] (by omega)
  simpa [ByteArray.toList] using this

theorem cstr_sound {op : BinOp} {a b : List UInt8} {x : CV} {t : TypeId} {w : World} (h : cstr op a b = some x) :
    (binOp op t (.string ⟨⟨a⟩⟩) (.string ⟨⟨b⟩⟩)).run P w = .ok (toV x) w ∧ plainV x = true := by
  cases op <;> simp only [cstr, Option.some.injEq, reduceCtorEq] at h
  · split at h <;> simp only [Option.some.injEq, reduceCtorEq] at h
    next hle =>
    subst h
    have hle' : a.length + b.length ≤ 4611686018427387904 := Nat.le_of_ble_eq_true hle
    have hs : (a.length : Int) + (b.length : Int) ≤ 9223372036854775807 := by omega
    have hsz : ((ByteArray.size ⟨⟨a⟩⟩ : Nat) : Int) = a.length := by simp [ByteArray.size]
    have hsz' : ((ByteArray.size ⟨⟨b⟩⟩ : Nat) : Int) = b.length := by simp [ByteArray.size]
    have happ : (⟨⟨a⟩⟩ : ByteArray) ++ ⟨⟨b⟩⟩ = ⟨⟨a ++ b⟩⟩ := by
      apply ByteArray.ext
      simp [ByteArray.data_append]
    exact ⟨by simp [binOp, Op.stringOp, hsz, hsz', hs, happ, toV], rfl⟩
  · subst h; exact ⟨by simp [binOp, Op.stringOp, bytes_toList, toV], rfl⟩
  · subst h; exact ⟨by simp [binOp, Op.stringOp, bytes_toList, toV], rfl⟩

theorem equal_of {t : TypeId} {x y : Value} {w : World} {r : Result Bool} (h : ∀ d, (Op.equalIn (d + 1 + 1) t x y).run P w = r) : (Op.equal t x y).run P w = r := h 9998

theorem get_of_rel {xs : List CV} {vs : Array Value} {i : Nat} {x : CV} (h : xs[i]? = some x) (hs : vs.size = xs.length) : ∃ v, vs[i]? = some v := by
  have hj : i < xs.length := by
    rcases Nat.lt_or_ge i xs.length with h' | h'
    · exact h'
    · rw [List.getElem?_eq_none h'] at h; simp at h
  exact ⟨vs[i], Array.getElem?_eq_getElem (by omega)⟩

def eqBody (d : Nat) (vs us : Array Value) (f : Field) : Sem (ForInStep (Option Bool × Unit)) :=
  if f.name ≠ "_" then do
    let __do_lift ← part f.type vs f.offset
    let __do_lift_1 ← part f.type us f.offset
    let __do_lift ← Op.equalIn d f.type __do_lift __do_lift_1
    if (!__do_lift) = true then pure (ForInStep.done (some false, ()))
      else pure (ForInStep.yield (none, ()))
  else pure (ForInStep.yield (none, ()))

theorem run_part_one {w : World} {t : TypeId} {vs : Array Value} {i : Nat} {v : Value} {d : TypeDesc} (hd : P.underlying t = some d) (h1 : ∀ fs, d ≠ .struct fs) (h2 : ∀ n e, d ≠ .array n e) (hv : vs[i]? = some v) :
    (part t vs i).run P w = .ok v w := by
  unfold part isAgg
  simp only [Sem.run_bind, run_underlying hd, Result.andThen_ok]
  cases d <;> simp_all

theorem ceqs_sound {w : World} (d : Nat) {xs ys : List CV} {vs us : Array Value} (h1 : vs.size = xs.length) (h2 : us.size = ys.length)
    (h3 : ∀ (i : Nat) x v, xs[i]? = some x → vs[i]? = some v → VR E x v) (h4 : ∀ (i : Nat) x v, ys[i]? = some x → us[i]? = some v → VR E x v) : ∀ (fs : List Field) (b : Bool), ceqs P fs xs ys = some b →
    (forIn fs ((none : Option Bool), ()) fun f _ => eqBody (d + 1) vs us f).run P w = .ok (if b then (none, ()) else (some false, ())) w := by
  intro fs
  induction fs with
  | nil => intro b h; simp [ceqs] at h; subst h; simp
  | cons f fs ih =>
    intro b h
    simp only [ceqs] at h
    split at h <;> try (simp at h; done)
    next hn =>
    have step : ∀ (e : Bool), (eqBody (d + 1) vs us f).run P w = .ok (if e then ForInStep.yield (none, ()) else ForInStep.done (some false, ())) w → (if e then ceqs P fs xs ys else some false) = some b →
        (forIn (f :: fs) ((none : Option Bool), ()) fun f _ => eqBody (d + 1) vs us f).run P w = .ok (if b then (none, ()) else (some false, ())) w := by
      intro e he hb
      rw [List.forIn_cons, Sem.run_bind, he, Result.andThen_ok]
      cases e with
      | true => exact ih b hb
      | false => simp at hb; subst hb; simp
    split at h
    · next k0 k a k' a' hu hx hy =>
      split at h <;> try (simp at h; done)
      next hk =>
      subst hk
      obtain ⟨v, hv⟩ := get_of_rel hx h1
      obtain ⟨u, hu'⟩ := get_of_rel hy h2
      have r1 := h3 _ _ _ hx hv
      have r2 := h4 _ _ _ hy hu'
      cases r1; cases r2
      refine step (a == a') ?_ (by simpa [beq_iff_eq] using h)
      unfold eqBody
      rw [if_pos hn]
      simp only [Sem.run_bind, run_part_one hu (by simp) (by simp) hv, run_part_one hu (by simp) (by simp) hu', Result.andThen_ok, Op.equalIn, run_underlying hu]
      by_cases e : a = a' <;> simp [e]
    · next a a' hu hx hy =>
      obtain ⟨v, hv⟩ := get_of_rel hx h1
      obtain ⟨u, hu'⟩ := get_of_rel hy h2
      have r1 := h3 _ _ _ hx hv
      have r2 := h4 _ _ _ hy hu'
      cases r1; cases r2
      refine step (a == a') ?_ (by simpa [beq_iff_eq] using h)
      unfold eqBody
      rw [if_pos hn]
      simp only [Sem.run_bind, run_part_one hu (by simp) (by simp) hv, run_part_one hu (by simp) (by simp) hu', Result.andThen_ok, Op.equalIn, run_underlying hu]
      by_cases e : a = a' <;> simp [e]
    · simp at h

theorem ceq_sound {w : World} {t : TypeId} {x y : CV} {v u : Value} {xo yo : Operand} {op : BinOp} {b : Bool} (hx : VR E x v) (hy : VR E y u) (h : ceq P t x y = some b) :
    (eqGuard op t xo yo v u).run P w = .ok () w ∧ (Op.equal t v u).run P w = .ok b w := by
  unfold ceq at h
  split at h <;> try (simp at h; done)
  · next a a' =>
    split at h <;> simp only [Option.some.injEq, reduceCtorEq] at h
    next hu =>
    cases hx; cases hy
    subst h
    refine ⟨eqGuard_plain (by simp) (by simp), ?_⟩
    refine equal_of fun d => ?_
    simp [Op.equalIn, run_underlying hu]
  · next xs ys =>
    split at h <;> try (simp at h; done)
    next fs hu =>
    split at h <;> try (simp at h; done)
    next hg =>
    simp only [Bool.or_eq_true, not_or, Bool.not_eq_true] at hg
    cases hx with
    | agg _ vs h1 h2 =>
    cases hy with
    | agg _ us h3 h4 =>
    refine ⟨?_, ?_⟩
    · unfold eqGuard
      cases op <;> simp [hg.1]
    · refine equal_of fun d => ?_
      unfold Op.equalIn
      simp only [Sem.run_bind, run_underlying hu, Result.andThen_ok, run_program, hg.2, Bool.false_eq_true, if_false]
      have := ceqs_sound (w := w) d h1 h3 h2 h4 fs.toList b h
      rw [Array.forIn_toList] at this
      unfold eqBody at this
      rw [this]
      cases b <;> simp

end
end Go.Cn
