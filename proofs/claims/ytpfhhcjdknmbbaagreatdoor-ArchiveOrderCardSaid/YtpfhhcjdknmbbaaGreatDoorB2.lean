/-
  The tables' checks.
-/
import Derived.Test.YtpfhhcjdknmbbaaGreatDoorB1
set_option linter.all false
set_option linter.unusedSimpArgs false
set_option linter.unusedVariables false
namespace Go.DM
open Go.Proofs

def fnOk (E : Env) (f : Nat) : Bool := match E.P.funcs[f]? with
  | some fn => (match fn.body with
    | some c => !(fn.name == "runtime.NumGoroutine") && codeOk E f c
    | none => true)
  | none => true
theorem all_ok : okL.all (fnOk TE) = true := by kernel_rfl

theorem eqVals_str {ks : List LK} {xs ys : List Value} {b : Bool} (h : eqVals (.str :: ks) xs ys = some b) : ∃ a xs' c ys' b', xs = .string a :: xs' ∧ ys = .string c :: ys' ∧ eqVals ks xs' ys' = some b' ∧ b = ((a.data == c.data) && b') := by
  match xs, ys, h with
  | x :: xs', y :: ys', h =>
    simp only [eqVals, Option.bind_eq_some_iff] at h
    obtain ⟨b1, h1, b2, h2, h3⟩ := h
    cases x <;> cases y <;> simp [eqVal] at h1
    rename_i a c
    refine ⟨a, xs', c, ys', b2, rfl, rfl, h2, ?_⟩
    rw [← Option.some.inj h3, ← h1]
theorem eqVals_nil {xs ys : List Value} {b : Bool} (h : eqVals [] xs ys = some b) : xs = [] ∧ ys = [] ∧ b = true := by
  match xs, ys, h with
  | [], [], h => simp [eqVals] at h; exact ⟨rfl, rfl, h⟩
theorem eq55 : EqFlat TE.P 55 [.str, .str, .str, .str] := by
  intro w cs ds b h op e x y he
  obtain ⟨a0, xs0, c0, ys0, b0, h1, h2, k0, rfl⟩ := eqVals_str h
  obtain ⟨a1, xs1, c1, ys1, b1, rfl, rfl, k1, rfl⟩ := eqVals_str k0
  obtain ⟨a2, xs2, c2, ys2, b2, rfl, rfl, k2, rfl⟩ := eqVals_str k1
  obtain ⟨a3, xs3, c3, ys3, b3, rfl, rfl, k3, rfl⟩ := eqVals_str k2
  obtain ⟨rfl, rfl, rfl⟩ := eqVals_nil k3
  have hc : cs = #[.string a0, .string a1, .string a2, .string a3] := by rw [← Array.toArray_toList (xs := cs), h1]
  have hd : ds = #[.string c0, .string c1, .string c2, .string c3] := by rw [← Array.toArray_toList (xs := ds), h2]
  subst hc hd
  have hg : (TE.P.eqGuardType TE.P.depth 55) = false := by kernel_rfl
  have hh : (TE.P.stoodInHeld 55) = false := by kernel_rfl
  have guard : (eqGuard op 55 x y (.agg #[.string a0, .string a1, .string a2, .string a3]) (.agg #[.string c0, .string c1, .string c2, .string c3])).run TE.P w = .ok () w := by
    unfold eqGuard
    cases op <;> simp [hg]
  have hs : ∀ (d : Nat) (p q : ByteArray), (Op.equalIn (d + 1) 9 (.string p) (.string q)).run TE.P w = .ok (p.data == q.data) w := by
    intro d p q
    have hu : TE.P.underlying 9 = some .string := by kernel_rfl
    have e : (p == q) = (p.data == q.data) := by cases p; cases q; rfl
    simp only [Op.equalIn, Sem.run_bind, run_underlying hu, Result.andThen_ok, Sem.run_pure, e]
  have hu : TE.P.underlying 55 = some (.struct #[{ name := "Network", type := 9, offset := 0, embedded := false, tag := "", pkgPath := "", byteOffset := 0 },
        { name := "Station", type := 9, offset := 1, embedded := false, tag := "", pkgPath := "", byteOffset := 16 },
        { name := "Location", type := 9, offset := 2, embedded := false, tag := "", pkgPath := "", byteOffset := 32 },
        { name := "Channel", type := 9, offset := 3, embedded := false, tag := "", pkgPath := "", byteOffset := 48 }]) := by kernel_rfl
  have hp : ∀ (p : ByteArray) (xs : Array Value) (o : Nat), xs[o]? = some (.string p) → (part 9 xs o).run TE.P w = .ok (.string p) w := by
    intro p xs o ho
    have hu9 : TE.P.underlying 9 = some .string := by kernel_rfl
    have ha : tAgg TE.P 9 = some false := by kernel_rfl
    simp [part, run_isAgg ha, ho]
  have heq : ∀ d, (Op.equalIn (d + 1 + 1) 55 (.agg #[.string a0, .string a1, .string a2, .string a3]) (.agg #[.string c0, .string c1, .string c2, .string c3])).run TE.P w = .ok (a0.data == c0.data && (a1.data == c1.data && (a2.data == c2.data && (a3.data == c3.data && true)))) w := by
    intro d
    rw [Op.equalIn]
    simp [run_underlying hu, hh, hp a0 #[.string a0, .string a1, .string a2, .string a3] 0 rfl, hp a1 #[.string a0, .string a1, .string a2, .string a3] 1 rfl, hp a2 #[.string a0, .string a1, .string a2, .string a3] 2 rfl,
      hp a3 #[.string a0, .string a1, .string a2, .string a3] 3 rfl, hp c0 #[.string c0, .string c1, .string c2, .string c3] 0 rfl, hp c1 #[.string c0, .string c1, .string c2, .string c3] 1 rfl, hp c2 #[.string c0, .string c1, .string c2, .string c3] 2 rfl,
      hp c3 #[.string c0, .string c1, .string c2, .string c3] 3 rfl, hs]
    by_cases e0 : a0.data = c0.data <;> by_cases e1 : a1.data = c1.data <;> by_cases e2 : a2.data = c2.data <;> by_cases e3 : a3.data = c3.data <;> simp [e0, e1, e2, e3]
  rw [Sem.run_bind, guard]
  exact run_equal (heq 9998) op e he (by cases op <;> simp [isEqOp] at he <;> subst he <;> rfl)

theorem eqVals_int {kd : IntKind} {ks : List LK} {xs ys : List Value} {b : Bool} (h : eqVals (.int kd :: ks) xs ys = some b) : ∃ a xs' c ys' b', xs = .int kd a :: xs' ∧ ys = .int kd c :: ys' ∧ eqVals ks xs' ys' = some b' ∧ b = ((a == c) && b') := by
  match xs, ys, h with
  | x :: xs', y :: ys', h =>
    simp only [eqVals, Option.bind_eq_some_iff] at h
    obtain ⟨b1, h1, b2, h2, h3⟩ := h
    cases x <;> cases y <;> simp [eqVal] at h1
    rename_i k1 a k2 c
    obtain ⟨⟨rfl, rfl⟩, h4⟩ := h1
    refine ⟨a, xs', c, ys', b2, rfl, rfl, h2, ?_⟩
    rw [← Option.some.inj h3, ← h4]

theorem eqInt2 {t : TypeId} {f0 f1 : Field} (hg : (TE.P.eqGuardType TE.P.depth t) = false) (hh : (TE.P.stoodInHeld t) = false) (hu : TE.P.underlying t = some (.struct #[f0, f1]))
    (h0 : f0.type = 3 ∧ f0.offset = 0 ∧ f0.name ≠ "_") (h1 : f1.type = 3 ∧ f1.offset = 1 ∧ f1.name ≠ "_") : EqFlat TE.P t [.int .i64, .int .i64] := by
  intro w cs ds b h op e x y he
  obtain ⟨a0, xs0, c0, ys0, b0, h2, h3, k0, rfl⟩ := eqVals_int h
  obtain ⟨a1, xs1, c1, ys1, b1, rfl, rfl, k1, rfl⟩ := eqVals_int k0
  obtain ⟨rfl, rfl, rfl⟩ := eqVals_nil k1
  have hc : cs = #[.int .i64 a0, .int .i64 a1] := by rw [← Array.toArray_toList (xs := cs), h2]
  have hd : ds = #[.int .i64 c0, .int .i64 c1] := by rw [← Array.toArray_toList (xs := ds), h3]
  subst hc hd
  have guard : (eqGuard op t x y (.agg #[.int .i64 a0, .int .i64 a1]) (.agg #[.int .i64 c0, .int .i64 c1])).run TE.P w = .ok () w := by
    unfold eqGuard
    cases op <;> simp [hg]
  have hu3 : TE.P.underlying 3 = some (.int .i64) := by kernel_rfl
  have hs : ∀ (d : Nat) (p q : Int), (Op.equalIn (d + 1) 3 (.int .i64 p) (.int .i64 q)).run TE.P w = .ok (p == q) w := by
    intro d p q
    simp [Op.equalIn, run_underlying hu3]
  have ha : tAgg TE.P 3 = some false := by kernel_rfl
  have hp : ∀ (p : Int) (xs : Array Value) (o : Nat), xs[o]? = some (.int .i64 p) → (part 3 xs o).run TE.P w = .ok (.int .i64 p) w := by
    intro p xs o ho
    simp [part, run_isAgg ha, ho]
  have heq : ∀ d, (Op.equalIn (d + 1 + 1) t (.agg #[.int .i64 a0, .int .i64 a1]) (.agg #[.int .i64 c0, .int .i64 c1])).run TE.P w = .ok (a0 == c0 && (a1 == c1 && true)) w := by
    intro d
    rw [Op.equalIn]
    simp [run_underlying hu, hh, h0, h1, hp a0 #[.int .i64 a0, .int .i64 a1] 0 rfl, hp a1 #[.int .i64 a0, .int .i64 a1] 1 rfl, hp c0 #[.int .i64 c0, .int .i64 c1] 0 rfl, hp c1 #[.int .i64 c0, .int .i64 c1] 1 rfl, hs]
    by_cases e0 : a0 = c0 <;> by_cases e1 : a1 = c1 <;> simp [e0, e1]
  rw [Sem.run_bind, guard]
  exact run_equal (heq 9998) op e he (by cases op <;> simp [isEqOp] at he <;> subst he <;> rfl)
theorem eq57 : EqFlat TE.P 57 [.int .i64, .int .i64] :=
  eqInt2 (f0 := { name := "Num", type := 3, offset := 0, embedded := false, tag := "", pkgPath := "", byteOffset := 0 }) (f1 := { name := "Den", type := 3, offset := 1, embedded := false, tag := "", pkgPath := "", byteOffset := 8 }) (by kernel_rfl) (by kernel_rfl) (by kernel_rfl) ⟨rfl, rfl, by decide⟩ ⟨rfl, rfl, by decide⟩
theorem eq107 : EqFlat TE.P 107 [.int .i64, .int .i64] :=
  eqInt2 (f0 := { name := "From", type := 3, offset := 0, embedded := false, tag := "", pkgPath := "", byteOffset := 0 }) (f1 := { name := "To", type := 3, offset := 1, embedded := false, tag := "", pkgPath := "", byteOffset := 8 }) (by kernel_rfl) (by kernel_rfl) (by kernel_rfl) ⟨rfl, rfl, by decide⟩ ⟨rfl, rfl, by decide⟩

/-- What is owed for slices.Insert. -/
def InsOk : Prop := ∀ args H v H', insH TE.P 60 args H = some (v, H') → ∀ (F : Bool → Nat → Prop) (M : Mu) (w : World) (cs : Array Value), M.lam = (fun _ => none) → SimH F M w H → RList (RX F M w) args cs →
    CallsF TE.P 58 cs w fun e w' => ∃ c M', e = .returned c ∧ Fr M M' w w' ∧ M'.lam = (fun _ => none) ∧ SimH F M' w' H' ∧ RV F M' w' v c
theorem te_ext {f kd : Nat} (h : TE.ext f = some kd) : (f = 300 ∧ kd = 0) ∨ (f = 335 ∧ kd = 1) ∨ (f = 58 ∧ kd = 60) := by
  simp only [TE, extL, List.map_cons, List.map_nil, lk] at h
  cases h1 : Nat.beq 300 f <;> rw [h1] at h <;> simp only [cond_true, cond_false] at h
  · cases h2 : Nat.beq 335 f <;> rw [h2] at h <;> simp only [cond_true, cond_false] at h
    · cases h3 : Nat.beq 58 f <;> rw [h3] at h <;> simp only [cond_true, cond_false] at h
      · cases h
      · exact .inr (.inr ⟨(Nat.eq_of_beq_eq_true h3).symm, (Option.some.inj h).symm⟩)
    · exact .inr (.inl ⟨(Nat.eq_of_beq_eq_true h2).symm, (Option.some.inj h).symm⟩)
  · exact .inl ⟨(Nat.eq_of_beq_eq_true h1).symm, (Option.some.inj h).symm⟩
theorem te_full (hins : InsOk) : EnvFull TE where
  eq := fun t ks h => by
    simp only [TE, eqL, List.map_cons, List.map_nil, lk] at h
    cases h1 : Nat.beq 55 t <;> rw [h1] at h <;> simp only [cond_true, cond_false] at h
    · cases h2 : Nat.beq 57 t <;> rw [h2] at h <;> simp only [cond_true, cond_false] at h
      · cases h3 : Nat.beq 107 t <;> rw [h3] at h <;> simp only [cond_true, cond_false] at h
        · cases h
        · rw [← Nat.eq_of_beq_eq_true h3, ← Option.some.inj h]; exact eq107
      · rw [← Nat.eq_of_beq_eq_true h2, ← Option.some.inj h]; exact eq57
    · rw [← Nat.eq_of_beq_eq_true h1, ← Option.some.inj h]; exact eq55
  ext := fun f kd h hk => by
    rcases te_ext h with ⟨rfl, rfl⟩ | ⟨rfl, rfl⟩ | ⟨rfl, rfl⟩
    · exact ⟨Tryz.f300, Tryz.func300, by kernel_rfl, by kernel_rfl, by kernel_rfl, .inl ⟨rfl, by kernel_rfl⟩⟩
    · exact ⟨Tryz.f335, Tryz.func335, by kernel_rfl, by kernel_rfl, by kernel_rfl, .inr ⟨rfl, by kernel_rfl⟩⟩
    · omega
  ins := fun f kd h hk => by
    rcases te_ext h with ⟨rfl, rfl⟩ | ⟨rfl, rfl⟩ | ⟨rfl, rfl⟩
    · omega
    · omega
    · exact hins
  mixed := by kernel_rfl
  code := fun f hf fn hfn c hc => by
    have hm : f ∈ okL := by
      simp only [TE, List.any_eq_true] at hf
      obtain ⟨g, hg, he⟩ := hf
      have := Nat.eq_of_beq_eq_true he
      subst this
      exact hg
    have := all_ok
    rw [List.all_eq_true] at this
    have := this f hm
    simp only [fnOk, hfn, hc, Bool.and_eq_true, Bool.not_eq_true'] at this
    exact this
end Go.DM
