/-
  More depth changes nothing: a call that has come to something comes to the same at every greater depth. Loops over frames of which some slots are told, calls by what is known of their results, numbers within bounds. Rules for guarded operations and built-in functions. A function's law from a walk over its text, with what is asked at its end kept out of the walk's way. Plain facts: records in order, archives as ordered lists of ordered lists, one archive for each set of records.
-/
import Derived.Test.YtpfhhcjdknmbbaaGreatDoorA5
import Derived.IntWalk
set_option linter.all false
set_option linter.unusedSimpArgs false
set_option linter.unusedVariables false
namespace Go.DM
section
variable {E : Env} {C : Ctx} {Φ Φ' : Oracle}

theorem opX_mono (hΦ : ∀ lim f args h r, Φ lim f args h = some r → Φ' lim f args h = some r) {o : Oper} {st : St} {r : V × St} (h : opX E C Φ o st = some r) : opX E C Φ' o st = some r := by
  cases ho : o.op with
  | call c =>
    simp only [opX, ho] at h ⊢
    cases hc : c.callee with
    | value f =>
      simp only [hc] at h ⊢
      cases hf : ev st.s f with
      | fn g caps =>
        simp only [hf] at h ⊢
        cases hs : (c.args.toList.map (ev st.s)).all V.storable with
        | true =>
          simp only [hs, cond_true] at h ⊢
          cases hq : Φ (C.nv, C.na) g (c.args.toList.map (ev st.s) ++ caps) st.h with
          | none => rw [hq] at h; simp at h
          | some q => rw [hΦ _ _ _ _ _ hq]; rw [hq] at h; exact h
        | false => simp [hs] at h
      | _ => rw [hf] at h; simp at h
    | _ => simp only [hc] at h ⊢; exact h
  | _ => simp only [opX, ho] at h ⊢; exact h

theorem opStep_mono (hΦ : ∀ lim f args h r, Φ lim f args h = some r → Φ' lim f args h = some r) {an : Option (List (Nat × Nat × Bool))} {ops : Array Oper} {i : Nat} {st st' : St} (h : opStep E C Φ an ops i st = some st') : opStep E C Φ' an ops i st = some st' := by
  unfold opStep at *
  cases ho : ops[i]? with
  | none => rw [ho] at h; exact h
  | some o =>
    rw [ho] at h
    simp only at h ⊢
    cases hw : wantedV ops o st.s with
    | none => rw [hw] at h; simp at h
    | some w =>
      rw [hw] at h
      simp only [Option.bind_some] at h ⊢
      cases w with
      | false => exact h
      | true =>
        simp only [cond_true] at h ⊢
        cases hp : preOk an i o st.s with
        | false => simp [hp] at h
        | true =>
          simp only [hp, cond_true] at h ⊢
          cases hx : opX E C Φ o st with
          | none => rw [hx] at h; simp at h
          | some r => rw [opX_mono hΦ hx]; rw [hx] at h; exact h

theorem opsRun_mono (hΦ : ∀ lim f args h r, Φ lim f args h = some r → Φ' lim f args h = some r) {an : Option (List (Nat × Nat × Bool))} {ops : Array Oper} : ∀ {l : List Nat} {st st' : St}, opsRun E C Φ an ops l st = some st' → opsRun E C Φ' an ops l st = some st'
  | [], _, _, h => h
  | i :: l, st, st', h => by
    simp only [opsRun] at h ⊢
    cases hx : opStep E C Φ an ops i st with
    | none => rw [hx] at h; simp at h
    | some r => rw [opStep_mono hΦ hx]; rw [hx] at h; exact opsRun_mono hΦ h

theorem iter_mono {f f' : St → Option (Ex × St)} (hf : ∀ st r, f st = some r → f' st = some r) : ∀ n m, n ≤ m → ∀ st r, iter f n st = some r → iter f' m st = some r
  | 0, _, _, st, r, h => by simp [iter] at h
  | n + 1, 0, hm, _, _, _ => absurd hm (by omega)
  | n + 1, m + 1, hm, st, r, h => by
    simp only [iter] at h ⊢
    cases hq : f st with
    | none => rw [hq] at h; simp at h
    | some q =>
      rw [hq] at h; rw [hf _ _ hq]
      obtain ⟨x, st'⟩ := q
      simp only [Option.bind_some] at h ⊢
      cases x with
      | normal => exact iter_mono hf n m (by omega) st' r h
      | exit id => exact h
      | ret => exact h

theorem exec_mono (hΦ : ∀ lim f args h r, Φ lim f args h = some r → Φ' lim f args h = some r) {k k' : Nat} (hk : k ≤ k') : ∀ (c : Code) (st : St) (r : Ex × St), exec E C Φ k c st = some r → exec E C Φ' k' c st = some r := by
  intro c
  induction c with
  | region id ops draw =>
    intro st r h
    simp only [exec] at h ⊢
    cases hx : opsRun E C Φ (bif draw then some (E.ann C.fn id) else none) ops (List.range ops.size) st with
    | none => rw [hx] at h; simp at h
    | some q => rw [opsRun_mono hΦ hx]; rw [hx] at h; exact h
  | seq a b iha ihb =>
    intro st r h
    simp only [exec] at h ⊢
    cases hx : exec E C Φ k a st with
    | none => rw [hx] at h; simp at h
    | some q =>
      rw [iha _ _ hx]; rw [hx] at h
      obtain ⟨x, st'⟩ := q
      simp only [Option.bind_some] at h ⊢
      cases x with
      | normal => exact ihb _ _ h
      | exit id => exact h
      | ret => exact h
  | cond c a b iha ihb =>
    intro st r h
    simp only [exec] at h ⊢
    cases hv : ev st.s c <;> rw [hv] at h <;> simp only at h ⊢
    all_goals first | (rename_i t; cases t; exact ihb _ _ h; exact iha _ _ h) | (simp at h)
  | block id c ih =>
    intro st r h
    simp only [exec] at h ⊢
    cases hx : exec E C Φ k c st with
    | none => rw [hx] at h; simp at h
    | some q => rw [ih _ _ hx]; rw [hx] at h; exact h
  | loop c ih =>
    intro st r h
    simp only [exec] at h ⊢
    exact iter_mono ih k k' hk st r h
  | _ => exact fun st r h => by simp only [exec] at h ⊢; exact h

theorem callBody_mono (hΦ : ∀ lim f args h r, Φ lim f args h = some r → Φ' lim f args h = some r) {k k' : Nat} (hk : k ≤ k') {lim : Nat × Nat} {f : Nat} {args : List V} {h : Heap} {r : V × Heap} (hr : callBody E Φ k lim f args h = some r) : callBody E Φ' k' lim f args h = some r := by
  unfold callBody at *
  cases hok : E.ok f with
  | false => simp [hok] at hr
  | true =>
    simp only [hok, cond_true] at hr ⊢
    cases hf : E.P.funcs[f]? with
    | none => rw [hf] at hr; simp at hr
    | some fn =>
      rw [hf] at hr
      simp only [Option.bind_some] at hr ⊢
      cases hb : fn.body with
      | none => rw [hb] at hr; simp at hr
      | some c =>
        rw [hb] at hr
        simp only [Option.bind_some] at hr ⊢
        cases hx : exec E ⟨f, lim.1, lim.2⟩ Φ k c ⟨args ++ List.replicate (fn.ntmps - args.length) undefV, h⟩ with
        | none => rw [hx] at hr; simp at hr
        | some q => rw [exec_mono hΦ hk _ _ _ hx]; rw [hx] at hr; exact hr

theorem callN_mono : ∀ n m, n ≤ m → ∀ lim lim' f args h r, callN E n lim f args h = some r → callN E m lim' f args h = some r
  | 0, _, _, _, _, _, _, _, _, h => by simp [callN] at h
  | n + 1, 0, hm, _, _, _, _, _, _, _ => absurd hm (by omega)
  | n + 1, m + 1, hm, lim, lim', f, args, h, r, hr => by
    have hk : n ≤ m := by omega
    have ih := fun lim f args h r => callN_mono n m hk lim lim f args h r
    simp only [callN] at hr ⊢
    cases hx : E.ext f with
    | some kd => rw [hx] at hr; exact hr
    | none =>
      rw [hx] at hr
      simp only at hr ⊢
      cases hm : E.mode f with
      | raw => rw [hm] at hr; exact callBody_mono ih hk hr
      | pure =>
        rw [hm] at hr
        simp only at hr ⊢
        cases ha : mapO (brw h) args with
        | none => rw [ha] at hr; simp at hr
        | some args' =>
          rw [ha] at hr
          simp only [Option.bind_some] at hr ⊢
          cases hb : callBody E (callN E n) n (0, 0) f args' ⟨[], []⟩ with
          | none => rw [hb] at hr; simp at hr
          | some q => rw [callBody_mono ih hk hb]; rw [hb] at hr; exact hr
      | shared =>
        rw [hm] at hr
        simp only at hr ⊢
        cases hb : callBody E (callN E n) n (0, 0) f args h with
        | none => rw [hb] at hr; simp at hr
        | some q => rw [callBody_mono ih hk hb]; rw [hb] at hr; exact hr
end

/-- One run is enough. -/
theorem ev_of_run {E : Env} {n : Nat} {f : Nat} {args : List V} {h h' : Heap} {v : V} (hr : callN E n (0, 0) f args h = some (v, h')) : Ev E f args h v h' :=
  ⟨n, fun m hm lim => callN_mono n m hm _ _ _ _ _ _ hr⟩
end Go.DM
namespace Go.DM

/-- The frame s0 with other values in the slots D (ascending). -/
def dirtyAt (f : Nat → V) : List Nat → Nat → List V → List V
  | _, _, [] => []
  | [], _, l => l
  | d :: D, i, v :: l => bif Nat.beq d i then f i :: dirtyAt f D (i + 1) l else v :: dirtyAt f (d :: D) (i + 1) l

def slot (s : List V) : Nat → V := fun i => s.getD i undefV

theorem dirtyAt_self : ∀ (D : List Nat) (i : Nat) (s : List V) (f : Nat → V), (∀ j, j < s.length → f (i + j) = s.getD j undefV) → dirtyAt f D i s = s
  | [], _, [], _, _ => rfl
  | [], _, _ :: _, _, _ => rfl
  | _ :: _, _, [], _, _ => rfl
  | d :: D, i, v :: l, f, h => by
    have h0 : f i = v := by simpa using h 0 (by simp)
    have h1 : ∀ j, j < l.length → f (i + 1 + j) = l.getD j undefV := fun j hj => by
      have := h (j + 1) (by simpa using hj)
      rw [show i + 1 + j = i + (j + 1) by omega, this]; simp
    unfold dirtyAt
    cases Nat.beq d i
    · rw [cond_false, dirtyAt_self (d :: D) (i + 1) l f h1]
    · rw [cond_true, h0, dirtyAt_self D (i + 1) l f h1]

theorem dirtyAt_slot (D : List Nat) (s : List V) : dirtyAt (slot s) D 0 s = s := dirtyAt_self D 0 s _ fun j _ => by rw [Nat.zero_add]; rfl

def loopK (D : List Nat) (s0 : List V) (I : Nat → (Nat → V) → Heap → Prop) (m : Nat) (Q : Ex → St → Prop) : Ex → St → Prop
  | .normal, st => st.s = dirtyAt (slot st.s) D 0 s0 ∧ ∃ m', m' < m ∧ I m' (slot st.s) st.h
  | .exit id, st => Q (.exit id) st
  | .ret, st => Q .ret st

section
variable {E : Env} {fn : Nat} {Q : Ex → St → Prop} {k : List Todo} {D : List Nat} {s0 : List V} {I : Nat → (Nat → V) → Heap → Prop} {m : Nat} {s : List V} {h : Heap}

theorem loopK_exit {P : Ex → St → Prop} {id : Nat} {st : St} : loopK D s0 I m P (.exit id) st = P (.exit id) st := rfl
theorem loopK_ret {P : Ex → St → Prop} {st : St} : loopK D s0 I m P .ret st = P .ret st := rfl
theorem loopK_normal {P : Ex → St → Prop} (hs : s = dirtyAt (slot s) D 0 s0) (m' : Nat) (hm : m' < m) (hI : I m' (slot s) h) : loopK D s0 I m P .normal ⟨s, h⟩ := ⟨hs, m', hm, hI⟩

theorem wLp_ind {c : Code} {h0 : Heap} (D : List Nat) (I : Nat → (Nat → V) → Heap → Prop) (m0 : Nat) (hI : I m0 (slot s0) h0)
    (round : ∀ m f h, I m f h → wS E fn c [] ⟨dirtyAt f D 0 s0, h⟩ (loopK D s0 I m (kont E fn Q k))) : wLp E fn c k ⟨s0, h0⟩ Q := by
  refine LoopP.indC (fun m st => ∃ f, st.s = dirtyAt f D 0 s0 ∧ I m f st.h) (fun m st ⟨f, hs, hI⟩ => ?_) m0 ⟨s0, h0⟩ ⟨slot s0, (dirtyAt_slot D s0).symm, hI⟩
  obtain ⟨s, h⟩ := st
  simp only at hs hI
  subst hs
  refine wC_mono (round m f h hI) fun x st h1 => ?_
  cases x with
  | normal => obtain ⟨h2, m', h3, h4⟩ := h1; exact ⟨m', h3, _, h2, h4⟩
  | exit id => exact h1
  | ret => exact h1

variable {an : Option (List (Nat × Nat × Bool))} {ops : Array Oper} {l : List Oper} {i : Nat} {d : Option Nat}
/-- A call of which something is known. -/
theorem wK_spec {g : Nat} {args : List V} (P : V → Heap → Prop) (hs : ∃ v h', Ev E g args h v h' ∧ P v h') (hk : ∀ v h', P v h' → resOk v = true ∧ callOk an i h h' = true ∧ wR E fn an ops l (i + 1) k ⟨putV s d v, h'⟩ Q) : wK E fn an ops l i k d s g args h Q := by
  obtain ⟨v, h', he, hp⟩ := hs
  exact ⟨v, h', he, hk v h' hp⟩
end

theorem wrap_id {x : Int} (h1 : -9223372036854775808 ≤ x) (h2 : x < 9223372036854775808) : IntKind.i64.wrap x = x := by
  rw [IntKind.wrap_i64]; omega

theorem mapO_map {α : Type} {f : V → Option V} {g g' : α → V} : ∀ {l : List α}, (∀ x ∈ l, f (g x) = some (g' x)) → mapO f (l.map g) = some (l.map g')
  | [], _ => rfl
  | x :: l, h => by
    simp only [List.map_cons, mapO, h x (by simp), Option.bind_some, mapO_map (l := l) fun y hy => h y (by simp [hy])]
theorem mapO_id {f : V → Option V} : ∀ {l : List V}, (∀ x ∈ l, f x = some x) → mapO f l = some l
  | [], _ => rfl
  | x :: l, h => by
    simp only [mapO, h x (by simp), Option.bind_some, mapO_id (l := l) fun y hy => h y (by simp [hy])]
end Go.DM
namespace Go.DM
section
variable {E : Env} {fn : Nat} {Q : Ex → St → Prop} {k : List Todo} {s : List V} {h : Heap} {an : Option (List (Nat × Nat × Bool))} {ops : Array Oper} {l : List Oper} {i : Nat} {d : Option Nat} {ty : TypeId} {pos : String} {af : Array Edge}

def wG (o : Option Bool) (A B : Prop) : Prop :=
  match o with
  | none => False
  | some w => (w = true → A) ∧ (w = false → B)
@[congr] theorem wG_congr {o o' : Option Bool} (ho : o = o') {A B : Prop} : wG o A B = wG o' A B := by rw [ho]
theorem wG_true {A B : Prop} : wG (some true) A B = A := by simp [wG]
theorem wG_false {A B : Prop} : wG (some false) A B = B := by simp [wG]
theorem wG_some {w : Bool} {A B : Prop} : wG (some w) A B = ((w = true → A) ∧ (w = false → B)) := rfl
def wantedG (ops : Array Oper) (j : Nat) (want : Bool) (s : List V) : Option Bool :=
  match ((ops[j]?).bind (·.dst)).bind (s[·]?) with
  | some (.bool b) => some (b == want)
  | some .any => none
  | _ => some false
theorem wR_guard {op : Op} {j : Nat} {want : Bool} : wR E fn an ops (⟨d, op, ty, pos, af, some (j, want)⟩ :: l) i k ⟨s, h⟩ Q =
    wG (wantedG ops j want s) (wR E fn an ops (⟨d, op, ty, pos, af, none⟩ :: l) i k ⟨s, h⟩ Q) (wR E fn an ops l (i + 1) k ⟨putV s d undefV, h⟩ Q) := by
  have hO : ∀ K, wO E fn an i ⟨d, op, ty, pos, af, some (j, want)⟩ ⟨s, h⟩ K = wO E fn an i ⟨d, op, ty, pos, af, none⟩ ⟨s, h⟩ K := by
    intro K
    unfold wO wX preOk postOk opX
    rfl
  simp only [wR, wL, wantedV, hO]
  unfold wG wantedG
  split <;> split <;> simp_all [optP]

theorem wR_callF {g : Nat} {as : Array Operand} {ts : Array TypeId} : wR E fn an ops (⟨d, .call ⟨.value (.func g), as, ts⟩, ty, pos, af, none⟩ :: l) i k ⟨s, h⟩ Q = ((as.toList.map (ev s)).all V.storable = true ∧ wK E fn an ops l i k d s g (as.toList.map (ev s)) h Q) := by
  rw [wR_call rfl rfl, List.append_nil]
/-- A call of a function value. -/
def wCl (E : Env) (fn : Nat) (an : Option (List (Nat × Nat × Bool))) (ops : Array Oper) (l : List Oper) (i : Nat) (k : List Todo) (d : Option Nat) (s : List V) (v : V) (as : List V) (h : Heap) (Q : Ex → St → Prop) : Prop :=
  match v with
  | .fn g caps => as.all V.storable = true ∧ wK E fn an ops l i k d s g (as ++ caps) h Q
  | _ => False
theorem wCl_fn {g : Nat} {caps as : List V} : wCl E fn an ops l i k d s (.fn g caps) as h Q = (as.all V.storable = true ∧ wK E fn an ops l i k d s g (as ++ caps) h Q) := rfl
theorem wR_callT {t : Nat} {as : Array Operand} {ts : Array TypeId} : wR E fn an ops (⟨d, .call ⟨.value (.tmp t), as, ts⟩, ty, pos, af, none⟩ :: l) i k ⟨s, h⟩ Q = wCl E fn an ops l i k d s (ev s (.tmp t)) (as.toList.map (ev s)) h Q := by
  have hp : preOk an i ⟨d, .call ⟨.value (.tmp t), as, ts⟩, ty, pos, af, none⟩ s = true := preOk_plain rfl (by simp) (by simp)
  have hq : ∀ h', postOk an i ⟨d, .call ⟨.value (.tmp t), as, ts⟩, ty, pos, af, none⟩ h h' = callOk an i h h' := fun h' => by cases an <;> rfl
  simp only [wR, wL, wO, hp, wX, hq, true_and, wK, wCl]
  cases ev s (.tmp t) <;> rfl

theorem callOk_some {A : List (Nat × Nat × Bool)} {h h' : Heap} : callOk (some A) i h h' = bif annLoc A i then heapEq h h' else bif annV0 A i then heapEq0 h h' else true := rfl

def builtV (P : Program) (C : Ctx) (b : Builtin) (args : List V) (ts : List TypeId) (h : Heap) : Option (V × Heap) :=
  match b, args, ts with
  | .len, [x], [t] => (lenV P t x).map fun v => (v, h)
  | .cap, [x], [t] => bif (tElem P t).isSome then (capV x).map fun v => (v, h) else none
  | .append, [x, y], [t, u] => bif (tElem P u).isSome then appendV P C h t x y else none
  | .copy, [x, y], [t, _] => copyV P C h t x y
  | .clear, [x], [t] => clearV P h t x
  | .max, l, _ => (mmV true l).map fun v => (v, h)
  | .min, l, _ => (mmV false l).map fun v => (v, h)
  | _, _, _ => none

/-- Behind a built-in function. -/
def wH (E : Env) (fn : Nat) (an : Option (List (Nat × Nat × Bool))) (ops : Array Oper) (l : List Oper) (i : Nat) (k : List Todo) (d : Option Nat) (s : List V) (h : Heap) (o : Option (V × Heap)) (Q : Ex → St → Prop) : Prop :=
  optP o fun r => callOk an i h r.2 = true ∧ wR E fn an ops l (i + 1) k ⟨putV s d r.1, r.2⟩ Q
theorem wH_some {v : V} {h' : Heap} : wH E fn an ops l i k d s h (some (v, h')) Q = (callOk an i h h' = true ∧ wR E fn an ops l (i + 1) k ⟨putV s d v, h'⟩ Q) := rfl
theorem wH_none : wH E fn an ops l i k d s h none Q = False := rfl
theorem wH_cond {c : Bool} {o : Option (V × Heap)} : wH E fn an ops l i k d s h (bif c then o else none) Q = (c = true ∧ wH E fn an ops l i k d s h o Q) := optP_cond

theorem wR_builtin' {c : Call} {b : Builtin} (hc : c.callee = .builtin b) : wR E fn an ops (⟨d, .call c, ty, pos, af, none⟩ :: l) i k ⟨s, h⟩ Q = wH E fn an ops l i k d s h (builtV E.P ⟨fn, 0, 0⟩ b (c.args.toList.map (ev s)) c.argTypes.toList h) Q := by
  have hp : preOk an i ⟨d, .call c, ty, pos, af, none⟩ s = true := preOk_plain rfl (by simp) (by simp)
  have hq : ∀ h', postOk an i ⟨d, .call c, ty, pos, af, none⟩ h h' = callOk an i h h' := fun h' => by cases an <;> rfl
  have e : opX E ⟨fn, 0, 0⟩ (fun _ _ _ _ => none) ⟨d, .call c, ty, pos, af, none⟩ ⟨s, h⟩ = (builtV E.P ⟨fn, 0, 0⟩ b (c.args.toList.map (ev s)) c.argTypes.toList h).map fun r => (r.1, ⟨s, r.2⟩) := by
    simp only [opX, hc, builtV]
    generalize c.args.toList.map (ev s) = args
    generalize c.argTypes.toList = ts
    cases b <;> first
      | rfl
      | (rcases args with _ | ⟨x, _ | ⟨y, _ | ⟨z, r⟩⟩⟩ <;> rcases ts with _ | ⟨t, _ | ⟨u, _ | ⟨q, r2⟩⟩⟩ <;> first
          | rfl
          | (simp only [Option.map_map]; rfl)
          | (simp only []; cases (tElem E.P _).isSome <;> simp <;> rfl))
  simp only [wR, wL, wO, hp, wX, hc, e, optP_map, hq, true_and, wH]
theorem wR_builtin {as : Array Operand} {ts : Array TypeId} {b : Builtin} : wR E fn an ops (⟨d, .call ⟨.builtin b, as, ts⟩, ty, pos, af, none⟩ :: l) i k ⟨s, h⟩ Q = wH E fn an ops l i k d s h (builtV E.P ⟨fn, 0, 0⟩ b (as.toList.map (ev s)) ts.toList h) Q :=
  wR_builtin' rfl
end

section
variable {P : Program} {t : TypeId} {a b : Bool} {es : List V}
theorem lenV_str {x : List UInt8} (h : isStrT P t = true) : lenV P t (.str x) = some (.int .i64 x.length) := by
  unfold isStrT at h; unfold lenV; split at h
  · rename_i e; rw [e]
  · cases h
theorem tElem_slice {e : TypeId} (h : tElem P t = some e) : P.underlying t = some (.slice e) := (tElem_spec h).1
theorem lenV_fl (h : (tElem P t).isSome = true) : lenV P t (.fl a b es) = some (.int .i64 es.length) := by
  obtain ⟨e, he⟩ := Option.isSome_iff_exists.1 h
  unfold lenV; rw [tElem_slice he]
theorem lenV_nils (h : (tElem P t).isSome = true) : lenV P t .nils = some (.int .i64 0) := by
  obtain ⟨e, he⟩ := Option.isSome_iff_exists.1 h
  unfold lenV; rw [tElem_slice he]
theorem lenV_sl {id ver off len : Nat} {cap : Option Nat} (h : (tElem P t).isSome = true) : lenV P t (.sl id ver off len cap) = some (.int .i64 len) := by
  obtain ⟨e, he⟩ := Option.isSome_iff_exists.1 h
  unfold lenV; rw [tElem_slice he]
theorem nilEq_fl (h : (tElem P t).isSome = true) : nilEq P t (.fl a b es) .nils = some false := by
  obtain ⟨e, he⟩ := Option.isSome_iff_exists.1 h
  unfold nilEq; rw [tElem_slice he]
theorem nilEq_sl {id ver off len : Nat} {cap : Option Nat} (h : (tElem P t).isSome = true) : nilEq P t (.sl id ver off len cap) .nils = some false := by
  obtain ⟨e, he⟩ := Option.isSome_iff_exists.1 h
  unfold nilEq; rw [tElem_slice he]
end
end Go.DM
namespace Go.DM
section
variable {E : Env}

def resL (P : Program) (rs : List ResultVar) (st : St) : Option V :=
  (mapO (resV P st) rs).bind fun l => match l with
    | [v] => bif resOk v then some v else none
    | l => bif l.all V.storable then some (.tuple l) else none

theorem body_walk {f : Nat} {args : List V} {h : Heap} {K : V → Heap → Prop} (n : Nat) (rs : List ResultVar) {func : Func} {c : Code} (hok : E.ok f = true) (hf : E.P.funcs[f]? = some func) (hc : func.body = some c) (hn : func.ntmps = n) (hr : func.results.toList = rs)
    (hw : ∀ Q : Ex → St → Prop, (∀ s h, Q .ret ⟨s, h⟩ = optP (resL E.P rs ⟨s, h⟩) fun v => K v h) → (∀ s h, Q .normal ⟨s, h⟩ = optP (resL E.P rs ⟨s, h⟩) fun v => K v h) → wS E f c [] ⟨args ++ List.replicate (n - args.length) undefV, h⟩ Q) : BodyP E f args h K := by
  subst hn hr
  exact bodyP_of hok hf hc (wC_of_wS (hw _ (fun _ _ => rfl) (fun _ _ => rfl)))

theorem ev_raw {f : Nat} {args : List V} {h h' : Heap} {v : V} (n : Nat) (rs : List ResultVar) {func : Func} {c : Code} (hx : E.ext f = none) (hm : E.mode f = .raw) (hok : E.ok f = true) (hf : E.P.funcs[f]? = some func) (hc : func.body = some c) (hn : func.ntmps = n) (hr : func.results.toList = rs)
    (hw : ∀ Q : Ex → St → Prop, (∀ s h1, Q .ret ⟨s, h1⟩ = optP (resL E.P rs ⟨s, h1⟩) fun v1 => v1 = v ∧ h1 = h') → (∀ s h1, Q .normal ⟨s, h1⟩ = optP (resL E.P rs ⟨s, h1⟩) fun v1 => v1 = v ∧ h1 = h') → wS E f c [] ⟨args ++ List.replicate (n - args.length) undefV, h⟩ Q) : Ev E f args h v h' :=
  ev_of_raw hx hm (body_walk n rs hok hf hc hn hr hw)

theorem ev_pure {f : Nat} {args : List V} {h : Heap} {v : V} (n : Nat) (rs : List ResultVar) {func : Func} {c : Code} (hx : E.ext f = none) (hm : E.mode f = .pure) (hok : E.ok f = true) (hf : E.P.funcs[f]? = some func) (hc : func.body = some c) (hn : func.ntmps = n) (hr : func.results.toList = rs)
    {args' : List V} (ha : mapO (brw h) args = some args')
    (hw : ∀ Q : Ex → St → Prop, (∀ s h1, Q .ret ⟨s, h1⟩ = optP (resL E.P rs ⟨s, h1⟩) fun v1 => optP (frz h1 0 0 9 v1) fun v2 => clean 9 v2 = true ∧ v2 = v) →
      (∀ s h1, Q .normal ⟨s, h1⟩ = optP (resL E.P rs ⟨s, h1⟩) fun v1 => optP (frz h1 0 0 9 v1) fun v2 => clean 9 v2 = true ∧ v2 = v) → wS E f c [] ⟨args' ++ List.replicate (n - args'.length) undefV, ⟨[], []⟩⟩ Q) : Ev E f args h v h :=
  ev_of_pure hx hm ha (body_walk n rs hok hf hc hn hr hw)

theorem ev_shr {f : Nat} {args : List V} {h h' : Heap} {v : V} (n : Nat) (rs : List ResultVar) {func : Func} {c : Code} (hx : E.ext f = none) (hm : E.mode f = .shared) (hok : E.ok f = true) (hf : E.P.funcs[f]? = some func) (hc : func.body = some c) (hn : func.ntmps = n) (hr : func.results.toList = rs)
    (hw : ∀ Q : Ex → St → Prop, (∀ s h1, Q .ret ⟨s, h1⟩ = optP (resL E.P rs ⟨s, h1⟩) fun v1 => optP (frz h1 h.vars.length h.arrs.length 9 v1) fun v2 => lowHeap h.vars.length h.arrs.length ⟨h1.vars.take h.vars.length, h1.arrs.take h.arrs.length⟩ = true ∧ v2 = v ∧ (⟨h1.vars.take h.vars.length, h1.arrs.take h.arrs.length⟩ : Heap) = h') →
      (∀ s h1, Q .normal ⟨s, h1⟩ = optP (resL E.P rs ⟨s, h1⟩) fun v1 => optP (frz h1 h.vars.length h.arrs.length 9 v1) fun v2 => lowHeap h.vars.length h.arrs.length ⟨h1.vars.take h.vars.length, h1.arrs.take h.arrs.length⟩ = true ∧ v2 = v ∧ (⟨h1.vars.take h.vars.length, h1.arrs.take h.arrs.length⟩ : Heap) = h') →
      wS E f c [] ⟨args ++ List.replicate (n - args.length) undefV, h⟩ Q) : Ev E f args h v h' :=
  ev_of_shared hx hm (body_walk n rs hok hf hc hn hr hw)

/-- A law of which the result is not told beforehand. -/
theorem spec_of_body {f : Nat} {args : List V} {h : Heap} {K : V → Heap → Prop} (hx : E.ext f = none) (hm : E.mode f = .raw) (hb : BodyP E f args h K) : ∃ v h', Ev E f args h v h' ∧ K v h' := by
  obtain ⟨v, h', ⟨n0, hn⟩, hk⟩ := bodyP_sound hb
  refine ⟨v, h', ⟨n0 + 1, fun n h lim => ?_⟩, hk⟩
  obtain ⟨m, rfl⟩ : ∃ m, n = m + 1 := ⟨n - 1, by omega⟩
  simp only [callN, hx, hm, hn m (by omega)]
theorem spec_raw {f : Nat} {args : List V} {h : Heap} {K : V → Heap → Prop} (n : Nat) (rs : List ResultVar) {func : Func} {c : Code} (hx : E.ext f = none) (hm : E.mode f = .raw) (hok : E.ok f = true) (hf : E.P.funcs[f]? = some func) (hc : func.body = some c) (hn : func.ntmps = n) (hr : func.results.toList = rs)
    (hw : ∀ Q : Ex → St → Prop, (∀ s h1, Q .ret ⟨s, h1⟩ = optP (resL E.P rs ⟨s, h1⟩) fun v1 => K v1 h1) → (∀ s h1, Q .normal ⟨s, h1⟩ = optP (resL E.P rs ⟨s, h1⟩) fun v1 => K v1 h1) → wS E f c [] ⟨args ++ List.replicate (n - args.length) undefV, h⟩ Q) : ∃ v h', Ev E f args h v h' ∧ K v h' :=
  spec_of_body hx hm (body_walk n rs hok hf hc hn hr hw)
theorem spec_shr {f : Nat} {args : List V} {h : Heap} {K : V → Heap → Prop} (n : Nat) (rs : List ResultVar) {func : Func} {c : Code} (hx : E.ext f = none) (hm : E.mode f = .shared) (hok : E.ok f = true) (hf : E.P.funcs[f]? = some func) (hc : func.body = some c) (hn : func.ntmps = n) (hr : func.results.toList = rs)
    (hw : ∀ Q : Ex → St → Prop, (∀ s h1, Q .ret ⟨s, h1⟩ = optP (resL E.P rs ⟨s, h1⟩) fun v1 => optP (frz h1 h.vars.length h.arrs.length 9 v1) fun v2 => lowHeap h.vars.length h.arrs.length ⟨h1.vars.take h.vars.length, h1.arrs.take h.arrs.length⟩ = true ∧ K v2 ⟨h1.vars.take h.vars.length, h1.arrs.take h.arrs.length⟩) →
      (∀ s h1, Q .normal ⟨s, h1⟩ = optP (resL E.P rs ⟨s, h1⟩) fun v1 => optP (frz h1 h.vars.length h.arrs.length 9 v1) fun v2 => lowHeap h.vars.length h.arrs.length ⟨h1.vars.take h.vars.length, h1.arrs.take h.arrs.length⟩ = true ∧ K v2 ⟨h1.vars.take h.vars.length, h1.arrs.take h.arrs.length⟩) →
      wS E f c [] ⟨args ++ List.replicate (n - args.length) undefV, h⟩ Q) : ∃ v h', Ev E f args h v h' ∧ K v h' := by
  obtain ⟨v1, h1, ⟨n0, hn1⟩, hk⟩ := bodyP_sound (body_walk n rs hok hf hc hn hr hw)
  obtain ⟨v2, h3, h4, h5⟩ := optP_spec.1 hk
  refine ⟨v2, _, ⟨n0 + 1, fun n h lim => ?_⟩, h5⟩
  obtain ⟨m, rfl⟩ : ∃ m, n = m + 1 := ⟨n - 1, by omega⟩
  simp only [callN, hx, hm, hn1 m (by omega), Option.bind_some, h3, h4, cond_true]
end
@[simp] theorem nbeq {a b : Nat} : Nat.beq a b = decide (a = b) := by
  cases h : Nat.beq a b
  · have := Nat.ne_of_beq_eq_false h; simp [this]
  · have := Nat.eq_of_beq_eq_true h; simp [this]
@[simp] theorem nble {a b : Nat} : Nat.ble a b = decide (a ≤ b) := by
  cases h : Nat.ble a b
  · have := Nat.not_le_of_not_ble_eq_true (by rw [h]; simp); simp [this]
  · have := Nat.le_of_ble_eq_true h; simp [this]
@[simp] theorem nblt {a b : Nat} : Nat.blt a b = decide (a < b) := by unfold Nat.blt; rw [nble]; rfl

/-! append of one element -/
theorem app_nils {P : Program} {C : Ctx} {h : Heap} {t et : TypeId} {e z : V} {a b : Bool} (he : tElem P t = some et) (hz : zOk P et = some z) (hb : P.bytesOf et ≤ 1000) (hb0 : P.bytesOf et ≠ 0) (hs : e.storable = true) (hw : e.cells.length = P.cellsOf et) :
    appendV P C h t .nils (.fl a b [e]) = some (.sl h.arrs.length 0 0 1 none, { h with arrs := h.arrs ++ [⟨[e], 0, true, P.cellsOf et⟩] }) := by
  have h1 : P.bytesOf et ≤ 140737488355328 := by omega
  simp [appendV, he, elemsOf, wideOk, hs, hw, grow, hz, hb0, h1]
theorem app_sl {P : Program} {C : Ctx} {h : Heap} {t et : TypeId} {e z : V} {a b o : Bool} {id ver n : Nat} {es : List V} (he : tElem P t = some et) (hz : zOk P et = some z) (hb : P.bytesOf et ≤ 1000) (hb0 : P.bytesOf et ≠ 0) (hC : C.na = 0)
    (hA : h.arrs[id]? = some ⟨es, ver, o, P.cellsOf et⟩) (hn : es.length = n) (hlim : n ≤ 100000) (hs : e.storable = true) (hw : e.cells.length = P.cellsOf et) :
    appendV P C h t (.sl id ver 0 n none) (.fl a b [e]) = some (.sl id (ver + 1) 0 (n + 1) none, { h with arrs := h.arrs.set id ⟨es ++ [e], ver + 1, true, P.cellsOf et⟩ }) := by
  subst hn
  have h1 : (es.length + 1) * P.bytesOf et ≤ 140737488355328 := by
    have : (es.length + 1) * P.bytesOf et ≤ 100001 * 1000 := Nat.mul_le_mul (by omega) hb
    omega
  simp [appendV, he, elemsOf, wideOk, hs, hw, hz, hb0, h1, show ¬ (es.length + 1 ≤ es.length) from by omega, hA, lowAll, hC, roomV]
theorem app_own_nils {P : Program} {C : Ctx} {h : Heap} {t et : TypeId} {e z : V} {j : Nat} {o : Bool} (he : tElem P t = some et) (hz : zOk P et = some z) (hb : P.bytesOf et ≤ 1000) (hb0 : P.bytesOf et ≠ 0) (hj : h.arrs[j]? = some ⟨[e], 0, o, P.cellsOf et⟩) (hs : e.storable = true) (hw : e.cells.length = P.cellsOf et) :
    appendV P C h t .nils (.sl j 0 0 1 (some 1)) = some (.sl h.arrs.length 0 0 1 none, { h with arrs := h.arrs ++ [⟨[e], 0, true, P.cellsOf et⟩] }) := by
  have h1 : P.bytesOf et ≤ 140737488355328 := by omega
  simp [appendV, he, elemsOf, wideOk, hs, hw, grow, hz, hb0, h1, hj]
theorem app_own_sl {P : Program} {C : Ctx} {h : Heap} {t et : TypeId} {e z : V} {o o' : Bool} {id ver n j : Nat} {es : List V} (he : tElem P t = some et) (hz : zOk P et = some z) (hb : P.bytesOf et ≤ 1000) (hb0 : P.bytesOf et ≠ 0) (hC : C.na = 0)
    (hj : h.arrs[j]? = some ⟨[e], 0, o', P.cellsOf et⟩) (hA : h.arrs[id]? = some ⟨es, ver, o, P.cellsOf et⟩) (hn : es.length = n) (hlim : n ≤ 100000) (hs : e.storable = true) (hw : e.cells.length = P.cellsOf et) :
    appendV P C h t (.sl id ver 0 n none) (.sl j 0 0 1 (some 1)) = some (.sl id (ver + 1) 0 (n + 1) none, { h with arrs := h.arrs.set id ⟨es ++ [e], ver + 1, true, P.cellsOf et⟩ }) := by
  subst hn
  have h1 : (es.length + 1) * P.bytesOf et ≤ 140737488355328 := by
    have : (es.length + 1) * P.bytesOf et ≤ 100001 * 1000 := Nat.mul_le_mul (by omega) hb
    omega
  simp [appendV, he, elemsOf, wideOk, hs, hw, hz, hb0, h1, show ¬ (es.length + 1 ≤ es.length) from by omega, hA, hj, lowAll, hC, roomV]

theorem frz_int {H : Heap} {nv na d : Nat} {x : Int} : frz H nv na (d + 1) (.int .i64 x) = some (.int .i64 x) := rfl
theorem mapO_ints {H : Heap} {nv na d : Nat} {l : List Int} : mapO (frz H nv na (d + 1)) (l.map (.int .i64)) = some (l.map (.int .i64)) := mapO_map fun _ _ => rfl
theorem clean_ints {d : Nat} {l : List Int} : (l.map (V.int .i64)).all (clean (d + 1)) = true := by simp [List.all_eq_true, clean]

/-! one rule for each make of value -/
@[simp] theorem V.storable_int (k : IntKind) (n : Int) : V.storable (V.int k n) = true := (rfl)
@[simp] theorem V.isLptr_int (k : IntKind) (n : Int) : V.isLptr (V.int k n) = false := (rfl)
@[simp] theorem V.isSl_int (k : IntKind) (n : Int) : V.isSl (V.int k n) = false := (rfl)
@[simp] theorem V.cells_int (k : IntKind) (n : Int) : V.cells (V.int k n) = [V.int k n] := (rfl)
@[simp] theorem V.gnd_int (k : IntKind) (n : Int) : V.gnd (V.int k n) = true := (rfl)
@[simp] theorem V.atomic_int (k : IntKind) (n : Int) : V.atomic (V.int k n) = true := (rfl)
@[simp] theorem V.storable_bool (b : Bool) : V.storable (V.bool b) = true := (rfl)
@[simp] theorem V.isLptr_bool (b : Bool) : V.isLptr (V.bool b) = false := (rfl)
@[simp] theorem V.isSl_bool (b : Bool) : V.isSl (V.bool b) = false := (rfl)
@[simp] theorem V.cells_bool (b : Bool) : V.cells (V.bool b) = [V.bool b] := (rfl)
@[simp] theorem V.gnd_bool (b : Bool) : V.gnd (V.bool b) = true := (rfl)
@[simp] theorem V.atomic_bool (b : Bool) : V.atomic (V.bool b) = true := (rfl)
@[simp] theorem V.storable_str (s : List UInt8) : V.storable (V.str s) = true := (rfl)
@[simp] theorem V.isLptr_str (s : List UInt8) : V.isLptr (V.str s) = false := (rfl)
@[simp] theorem V.isSl_str (s : List UInt8) : V.isSl (V.str s) = false := (rfl)
@[simp] theorem V.cells_str (s : List UInt8) : V.cells (V.str s) = [V.str s] := (rfl)
@[simp] theorem V.gnd_str (s : List UInt8) : V.gnd (V.str s) = true := (rfl)
@[simp] theorem V.atomic_str (s : List UInt8) : V.atomic (V.str s) = true := (rfl)
@[simp] theorem V.storable_nilp  : V.storable (V.nilp) = true := (rfl)
@[simp] theorem V.isLptr_nilp  : V.isLptr (V.nilp) = false := (rfl)
@[simp] theorem V.isSl_nilp  : V.isSl (V.nilp) = false := (rfl)
@[simp] theorem V.cells_nilp  : V.cells (V.nilp) = [V.nilp] := (rfl)
@[simp] theorem V.gnd_nilp  : V.gnd (V.nilp) = true := (rfl)
@[simp] theorem V.atomic_nilp  : V.atomic (V.nilp) = true := (rfl)
@[simp] theorem V.storable_nils  : V.storable (V.nils) = true := (rfl)
@[simp] theorem V.isLptr_nils  : V.isLptr (V.nils) = false := (rfl)
@[simp] theorem V.isSl_nils  : V.isSl (V.nils) = false := (rfl)
@[simp] theorem V.cells_nils  : V.cells (V.nils) = [V.nils] := (rfl)
@[simp] theorem V.gnd_nils  : V.gnd (V.nils) = true := (rfl)
@[simp] theorem V.atomic_nils  : V.atomic (V.nils) = true := (rfl)
@[simp] theorem V.storable_nilfn  : V.storable (V.nilfn) = true := (rfl)
@[simp] theorem V.isLptr_nilfn  : V.isLptr (V.nilfn) = false := (rfl)
@[simp] theorem V.isSl_nilfn  : V.isSl (V.nilfn) = false := (rfl)
@[simp] theorem V.cells_nilfn  : V.cells (V.nilfn) = [V.nilfn] := (rfl)
@[simp] theorem V.gnd_nilfn  : V.gnd (V.nilfn) = true := (rfl)
@[simp] theorem V.atomic_nilfn  : V.atomic (V.nilfn) = true := (rfl)
@[simp] theorem V.storable_any  : V.storable (V.any) = false := (rfl)
@[simp] theorem V.isLptr_any  : V.isLptr (V.any) = false := (rfl)
@[simp] theorem V.isSl_any  : V.isSl (V.any) = false := (rfl)
@[simp] theorem V.cells_any  : V.cells (V.any) = [V.any] := (rfl)
@[simp] theorem V.gnd_any  : V.gnd (V.any) = false := (rfl)
@[simp] theorem V.atomic_any  : V.atomic (V.any) = false := (rfl)
@[simp] theorem V.storable_lptr (s off : Nat) : V.storable (V.lptr s off) = false := (rfl)
@[simp] theorem V.isLptr_lptr (s off : Nat) : V.isLptr (V.lptr s off) = true := (rfl)
@[simp] theorem V.isSl_lptr (s off : Nat) : V.isSl (V.lptr s off) = false := (rfl)
@[simp] theorem V.cells_lptr (s off : Nat) : V.cells (V.lptr s off) = [V.lptr s off] := (rfl)
@[simp] theorem V.gnd_lptr (s off : Nat) : V.gnd (V.lptr s off) = false := (rfl)
@[simp] theorem V.atomic_lptr (s off : Nat) : V.atomic (V.lptr s off) = false := (rfl)
@[simp] theorem V.storable_box (v : V) : V.storable (V.box v) = false := (rfl)
@[simp] theorem V.isLptr_box (v : V) : V.isLptr (V.box v) = false := (rfl)
@[simp] theorem V.isSl_box (v : V) : V.isSl (V.box v) = false := (rfl)
@[simp] theorem V.cells_box (v : V) : V.cells (V.box v) = [V.box v] := (rfl)
@[simp] theorem V.gnd_box (v : V) : V.gnd (V.box v) = false := (rfl)
@[simp] theorem V.atomic_box (v : V) : V.atomic (V.box v) = false := (rfl)
@[simp] theorem V.storable_ptr (id off : Nat) : V.storable (V.ptr id off) = true := (rfl)
@[simp] theorem V.isLptr_ptr (id off : Nat) : V.isLptr (V.ptr id off) = false := (rfl)
@[simp] theorem V.isSl_ptr (id off : Nat) : V.isSl (V.ptr id off) = false := (rfl)
@[simp] theorem V.cells_ptr (id off : Nat) : V.cells (V.ptr id off) = [V.ptr id off] := (rfl)
@[simp] theorem V.gnd_ptr (id off : Nat) : V.gnd (V.ptr id off) = false := (rfl)
@[simp] theorem V.atomic_ptr (id off : Nat) : V.atomic (V.ptr id off) = true := (rfl)
@[simp] theorem V.storable_aptr (id ver i off : Nat) : V.storable (V.aptr id ver i off) = true := (rfl)
@[simp] theorem V.isLptr_aptr (id ver i off : Nat) : V.isLptr (V.aptr id ver i off) = false := (rfl)
@[simp] theorem V.isSl_aptr (id ver i off : Nat) : V.isSl (V.aptr id ver i off) = false := (rfl)
@[simp] theorem V.cells_aptr (id ver i off : Nat) : V.cells (V.aptr id ver i off) = [V.aptr id ver i off] := (rfl)
@[simp] theorem V.gnd_aptr (id ver i off : Nat) : V.gnd (V.aptr id ver i off) = false := (rfl)
@[simp] theorem V.atomic_aptr (id ver i off : Nat) : V.atomic (V.aptr id ver i off) = true := (rfl)
@[simp] theorem V.storable_fptr (e : V) (off : Nat) : V.storable (V.fptr e off) = false := (rfl)
@[simp] theorem V.isLptr_fptr (e : V) (off : Nat) : V.isLptr (V.fptr e off) = false := (rfl)
@[simp] theorem V.isSl_fptr (e : V) (off : Nat) : V.isSl (V.fptr e off) = false := (rfl)
@[simp] theorem V.cells_fptr (e : V) (off : Nat) : V.cells (V.fptr e off) = [V.fptr e off] := (rfl)
@[simp] theorem V.gnd_fptr (e : V) (off : Nat) : V.gnd (V.fptr e off) = false := (rfl)
@[simp] theorem V.atomic_fptr (e : V) (off : Nat) : V.atomic (V.fptr e off) = false := (rfl)
@[simp] theorem V.storable_fl (tag tight : Bool) (elems : List V) : V.storable (V.fl tag tight elems) = true := (rfl)
@[simp] theorem V.isLptr_fl (tag tight : Bool) (elems : List V) : V.isLptr (V.fl tag tight elems) = false := (rfl)
@[simp] theorem V.isSl_fl (tag tight : Bool) (elems : List V) : V.isSl (V.fl tag tight elems) = false := (rfl)
@[simp] theorem V.cells_fl (tag tight : Bool) (elems : List V) : V.cells (V.fl tag tight elems) = [V.fl tag tight elems] := (rfl)
@[simp] theorem V.gnd_fl (tag tight : Bool) (elems : List V) : V.gnd (V.fl tag tight elems) = true := (rfl)
@[simp] theorem V.atomic_fl (tag tight : Bool) (elems : List V) : V.atomic (V.fl tag tight elems) = true := (rfl)
@[simp] theorem V.storable_sl (id ver off len : Nat) (cap : Option Nat) : V.storable (V.sl id ver off len cap) = true := (rfl)
@[simp] theorem V.isLptr_sl (id ver off len : Nat) (cap : Option Nat) : V.isLptr (V.sl id ver off len cap) = false := (rfl)
@[simp] theorem V.isSl_sl (id ver off len : Nat) (cap : Option Nat) : V.isSl (V.sl id ver off len cap) = true := (rfl)
@[simp] theorem V.cells_sl (id ver off len : Nat) (cap : Option Nat) : V.cells (V.sl id ver off len cap) = [V.sl id ver off len cap] := (rfl)
@[simp] theorem V.gnd_sl (id ver off len : Nat) (cap : Option Nat) : V.gnd (V.sl id ver off len cap) = false := (rfl)
@[simp] theorem V.atomic_sl (id ver off len : Nat) (cap : Option Nat) : V.atomic (V.sl id ver off len cap) = true := (rfl)
@[simp] theorem V.storable_fn (f : Nat) (caps : List V) : V.storable (V.fn f caps) = true := (rfl)
@[simp] theorem V.isLptr_fn (f : Nat) (caps : List V) : V.isLptr (V.fn f caps) = false := (rfl)
@[simp] theorem V.isSl_fn (f : Nat) (caps : List V) : V.isSl (V.fn f caps) = false := (rfl)
@[simp] theorem V.cells_fn (f : Nat) (caps : List V) : V.cells (V.fn f caps) = [V.fn f caps] := (rfl)
@[simp] theorem V.gnd_fn (f : Nat) (caps : List V) : V.gnd (V.fn f caps) = caps.isEmpty := (rfl)
@[simp] theorem V.atomic_fn (f : Nat) (caps : List V) : V.atomic (V.fn f caps) = caps.isEmpty := (rfl)
@[simp] theorem V.storable_agg (l : List V) : V.storable (V.agg l) = true := (rfl)
@[simp] theorem V.isLptr_agg (l : List V) : V.isLptr (V.agg l) = false := (rfl)
@[simp] theorem V.isSl_agg (l : List V) : V.isSl (V.agg l) = false := (rfl)
@[simp] theorem V.cells_agg (l : List V) : V.cells (V.agg l) = l := (rfl)
@[simp] theorem V.gnd_agg (l : List V) : V.gnd (V.agg l) = false := (rfl)
@[simp] theorem V.atomic_agg (l : List V) : V.atomic (V.agg l) = false := (rfl)
@[simp] theorem V.storable_tuple (l : List V) : V.storable (V.tuple l) = false := (rfl)
@[simp] theorem V.isLptr_tuple (l : List V) : V.isLptr (V.tuple l) = false := (rfl)
@[simp] theorem V.isSl_tuple (l : List V) : V.isSl (V.tuple l) = false := (rfl)
@[simp] theorem V.cells_tuple (l : List V) : V.cells (V.tuple l) = [V.tuple l] := (rfl)
@[simp] theorem V.gnd_tuple (l : List V) : V.gnd (V.tuple l) = false := (rfl)
@[simp] theorem V.atomic_tuple (l : List V) : V.atomic (V.tuple l) = false := (rfl)
@[simp] theorem idxOf_int {k : IntKind} {n : Int} : idxOf (.int k n) = bif decide (0 ≤ n) then some n.toNat else none := rfl
@[simp] theorem boundV_none {d : Nat} : boundV none d = some d := rfl
@[simp] theorem boundV_int {k : IntKind} {n : Int} {d : Nat} : boundV (some (.int k n)) d = bif decide (0 ≤ n) then some n.toNat else none := rfl
@[simp] theorem moveB_lptr {n s o : Nat} : moveBy n (.lptr s o) = some (.lptr s (o + n)) := rfl
@[simp] theorem moveB_ptr {n s o : Nat} : moveBy n (.ptr s o) = some (.ptr s (o + n)) := rfl
@[simp] theorem moveB_aptr {n a b c o : Nat} : moveBy n (.aptr a b c o) = some (.aptr a b c (o + n)) := rfl
@[simp] theorem moveB_fptr {n o : Nat} {v : V} : moveBy n (.fptr v o) = some (.fptr v (o + n)) := rfl

def nth : List V → Nat → Option V
  | [], _ => none
  | v :: _, 0 => some v
  | _ :: l, n + 1 => nth l n
@[simp] theorem nth_zero {v : V} {l : List V} : nth (v :: l) 0 = some v := (rfl)
@[simp] theorem nth_succ {v : V} {l : List V} {n : Nat} : nth (v :: l) (n + 1) = nth l n := (rfl)
theorem nth_eq : ∀ (l : List V) (n : Nat), l[n]? = nth l n
  | [], n => by simp [nth]
  | v :: l, 0 => by simp
  | v :: l, n + 1 => by simpa using nth_eq l n
theorem tidyF_consN {d : Nat} {op : Op} {ty : TypeId} {pos : String} {af : Array Edge} {g : Option (Nat × Bool)} {l : List Oper} {s : List V} : tidyF (⟨some d, op, ty, pos, af, g⟩ :: l) s = tidyF l (tidyAt s d (nth s d)) := by rw [tidyF_cons, nth_eq]
theorem wB_true {E : Env} {fn : Nat} {a b : Code} {k : List Todo} {st : St} {Q : Ex → St → Prop} : wB E fn (.bool true) a b k st Q = wS E fn a k st Q := by simp [wB]
theorem wB_false {E : Env} {fn : Nat} {a b : Code} {k : List Todo} {st : St} {Q : Ex → St → Prop} : wB E fn (.bool false) a b k st Q = wS E fn b k st Q := by simp [wB]
def dstAt : List Oper → Nat → Option Nat
  | [], _ => none
  | o :: _, 0 => o.dst
  | _ :: l, n + 1 => dstAt l n
@[simp] theorem dstAt_zero {d : Option Nat} {op : Op} {ty : TypeId} {pos : String} {af : Array Edge} {g : Option (Nat × Bool)} {l : List Oper} : dstAt (⟨d, op, ty, pos, af, g⟩ :: l) 0 = d := (rfl)
@[simp] theorem dstAt_succ {o : Oper} {l : List Oper} {n : Nat} : dstAt (o :: l) (n + 1) = dstAt l n := (rfl)
theorem dstAt_eq : ∀ (l : List Oper) (j : Nat), (l[j]?).bind (·.dst) = dstAt l j
  | [], _ => by simp [dstAt]
  | o :: l, 0 => by simp [dstAt]
  | o :: l, j + 1 => by simpa [dstAt] using dstAt_eq l j
def wantV (want : Bool) : Option V → Option Bool
  | some (.bool b) => some (b == want)
  | some .any => none
  | _ => some false
@[simp] theorem wantV_bool {want b : Bool} : wantV want (some (.bool b)) = some (b == want) := (rfl)
@[simp] theorem wantV_undef {want : Bool} : wantV want (some undefV) = some false := (rfl)
theorem wR_guardL {E : Env} {fn : Nat} {Q : Ex → St → Prop} {k : List Todo} {s : List V} {h : Heap} {an : Option (List (Nat × Nat × Bool))} {lo l : List Oper} {i : Nat} {d : Option Nat} {ty : TypeId} {pos : String} {af : Array Edge} {op : Op} {j : Nat} {want : Bool} :
    wR E fn an ⟨lo⟩ (⟨d, op, ty, pos, af, some (j, want)⟩ :: l) i k ⟨s, h⟩ Q = wG (wantV want ((dstAt lo j).bind (nth s))) (wR E fn an ⟨lo⟩ (⟨d, op, ty, pos, af, none⟩ :: l) i k ⟨s, h⟩ Q) (wR E fn an ⟨lo⟩ l (i + 1) k ⟨putV s d undefV, h⟩ Q) := by
  rw [wR_guard]
  congr 1
  have : (⟨lo⟩ : Array Oper)[j]? = lo[j]? := by simp
  have hn : nth s = fun t => s[t]? := funext fun t => (nth_eq s t).symm
  rw [← dstAt_eq, wantedG, this, hn]
  unfold wantV
  rfl
/-! slots -/
def tmpV (t : Nat) (o : Option V) : V := match o with
  | some (.box _) => .lptr t 0
  | some v => v
  | none => undefV
theorem ev_tmp {s : List V} {t : Nat} : ev s (.tmp t) = tmpV t (nth s t) := by rw [← nth_eq]; rfl
@[simp] theorem tidyAt_undef {sl : List V} {d : Nat} : tidyAt sl d (some undefV) = sl := (rfl)
@[simp] theorem tmpV_undef {t : Nat} : tmpV t (some undefV) = undefV := (rfl)
theorem ev_const {s : List V} {v : Value} : ev s (.const v) = ofVal v := rfl
theorem ev_func {s : List V} {f : Nat} : ev s (.func f) = .fn f [] := rfl
theorem tmpV_st {t : Nat} {v : V} (h : v.storable = true) : tmpV t (some v) = v := by cases v <;> first | rfl | cases h
theorem tidyAt_st {s : List V} {d : Nat} {v : V} (h : v.storable = true) : tidyAt s d (some v) = s := by cases v <;> first | rfl | cases h
theorem resOk_st {v : V} (h : v.storable = true) : resOk v = true := by cases v <;> first | rfl | cases h
theorem resOk_tuple {l : List V} : resOk (.tuple l) = l.all V.storable := rfl
def resW (v : V) : Option V := match v with
  | .lptr _ _ => none
  | v => some v
theorem resV_tmp {P : Program} {st : St} {t : Nat} : resV P st (.tmp t) = resW (ev st.s (.tmp t)) := rfl
theorem resV_cell {P : Program} {st : St} {a t : Nat} : resV P st (.cell a t) = loadV P st t (ev st.s (.tmp a)) := rfl
theorem resW_st {v : V} (h : v.storable = true) : resW v = some v := by cases v <;> first | rfl | cases h
theorem brwC_gnd {H : Heap} {v : V} (h : v.gnd = true) : brwC H v = some v := by cases v <;> first | rfl | cases h | (unfold brwC; simp only [h, cond_true])
theorem tmpV_int (k : IntKind) (n : Int) {t : Nat} : tmpV t (some (V.int k n)) = (V.int k n) := rfl
theorem tidyAt_int {sl : List V} {d : Nat} (k : IntKind) (n : Int) : tidyAt sl d (some (V.int k n)) = sl := rfl
theorem tmpV_bool (b : Bool) {t : Nat} : tmpV t (some (V.bool b)) = (V.bool b) := rfl
theorem tidyAt_bool {sl : List V} {d : Nat} (b : Bool) : tidyAt sl d (some (V.bool b)) = sl := rfl
theorem tmpV_str (s : List UInt8) {t : Nat} : tmpV t (some (V.str s)) = (V.str s) := rfl
theorem tidyAt_str {sl : List V} {d : Nat} (s : List UInt8) : tidyAt sl d (some (V.str s)) = sl := rfl
theorem tmpV_nilp  {t : Nat} : tmpV t (some (V.nilp)) = (V.nilp) := rfl
theorem tidyAt_nilp {sl : List V} {d : Nat}  : tidyAt sl d (some (V.nilp)) = sl := rfl
theorem tmpV_nils  {t : Nat} : tmpV t (some (V.nils)) = (V.nils) := rfl
theorem tidyAt_nils {sl : List V} {d : Nat}  : tidyAt sl d (some (V.nils)) = sl := rfl
theorem tmpV_nilfn  {t : Nat} : tmpV t (some (V.nilfn)) = (V.nilfn) := rfl
theorem tidyAt_nilfn {sl : List V} {d : Nat}  : tidyAt sl d (some (V.nilfn)) = sl := rfl
theorem tmpV_any  {t : Nat} : tmpV t (some (V.any)) = (V.any) := rfl
theorem tidyAt_any {sl : List V} {d : Nat}  : tidyAt sl d (some (V.any)) = sl := rfl
theorem tmpV_lptr (s off : Nat) {t : Nat} : tmpV t (some (V.lptr s off)) = (V.lptr s off) := rfl
theorem tidyAt_lptr {sl : List V} {d : Nat} (s off : Nat) : tidyAt sl d (some (V.lptr s off)) = sl.set d .any := rfl
theorem tmpV_box (v : V) {t : Nat} : tmpV t (some (V.box v)) = .lptr t 0 := rfl
theorem tidyAt_box {sl : List V} {d : Nat} (v : V) : tidyAt sl d (some (V.box v)) = sl := rfl
theorem tmpV_ptr (id off : Nat) {t : Nat} : tmpV t (some (V.ptr id off)) = (V.ptr id off) := rfl
theorem tidyAt_ptr {sl : List V} {d : Nat} (id off : Nat) : tidyAt sl d (some (V.ptr id off)) = sl := rfl
theorem tmpV_aptr (id ver i off : Nat) {t : Nat} : tmpV t (some (V.aptr id ver i off)) = (V.aptr id ver i off) := rfl
theorem tidyAt_aptr {sl : List V} {d : Nat} (id ver i off : Nat) : tidyAt sl d (some (V.aptr id ver i off)) = sl := rfl
theorem tmpV_fptr (e : V) (off : Nat) {t : Nat} : tmpV t (some (V.fptr e off)) = (V.fptr e off) := rfl
theorem tidyAt_fptr {sl : List V} {d : Nat} (e : V) (off : Nat) : tidyAt sl d (some (V.fptr e off)) = sl := rfl
theorem tmpV_fl (tag tight : Bool) (elems : List V) {t : Nat} : tmpV t (some (V.fl tag tight elems)) = (V.fl tag tight elems) := rfl
theorem tidyAt_fl {sl : List V} {d : Nat} (tag tight : Bool) (elems : List V) : tidyAt sl d (some (V.fl tag tight elems)) = sl := rfl
theorem tmpV_sl (id ver off len : Nat) (cap : Option Nat) {t : Nat} : tmpV t (some (V.sl id ver off len cap)) = (V.sl id ver off len cap) := rfl
theorem tidyAt_sl {sl : List V} {d : Nat} (id ver off len : Nat) (cap : Option Nat) : tidyAt sl d (some (V.sl id ver off len cap)) = sl := rfl
theorem tmpV_fn (f : Nat) (caps : List V) {t : Nat} : tmpV t (some (V.fn f caps)) = (V.fn f caps) := rfl
theorem tidyAt_fn {sl : List V} {d : Nat} (f : Nat) (caps : List V) : tidyAt sl d (some (V.fn f caps)) = sl := rfl
theorem tmpV_agg (l : List V) {t : Nat} : tmpV t (some (V.agg l)) = (V.agg l) := rfl
theorem tidyAt_agg {sl : List V} {d : Nat} (l : List V) : tidyAt sl d (some (V.agg l)) = sl := rfl
theorem tmpV_tuple (l : List V) {t : Nat} : tmpV t (some (V.tuple l)) = (V.tuple l) := rfl
theorem tidyAt_tuple {sl : List V} {d : Nat} (l : List V) : tidyAt sl d (some (V.tuple l)) = sl := rfl
attribute [simp] ev_tmp ev_const ev_func tmpV_st tidyAt_st resOk_st resOk_tuple resV_tmp resV_cell resW_st tmpV_int tidyAt_int tmpV_bool tidyAt_bool tmpV_str tidyAt_str tmpV_nilp tidyAt_nilp tmpV_nils tidyAt_nils tmpV_nilfn tidyAt_nilfn tmpV_any tidyAt_any tmpV_lptr tidyAt_lptr tmpV_box tidyAt_box tmpV_ptr tidyAt_ptr tmpV_aptr tidyAt_aptr tmpV_fptr tidyAt_fptr tmpV_fl tidyAt_fl tmpV_sl tidyAt_sl tmpV_fn tidyAt_fn tmpV_agg tidyAt_agg tmpV_tuple tidyAt_tuple
end Go.DM
namespace Go.DM

structure Rec where
  i : Nat
  first : Nat
  err : Nat
  seq : Nat
  smp : List Int
  deriving DecidableEq, Inhabited

def cmpI (a b : Int) : Int := if a < b then -1 else if b < a then 1 else 0
def cmpL : List Int → List Int → Int
  | [], [] => 0
  | [], _ :: _ => -1
  | _ :: _, [] => 1
  | x :: l, y :: m => if cmpI x y = 0 then cmpL l m else cmpI x y

theorem cmpI_self (a : Int) : cmpI a a = 0 := by simp [cmpI]
theorem cmpI_zero {a b : Int} : cmpI a b = 0 ↔ a = b := by
  unfold cmpI; split
  · constructor <;> intro h <;> omega
  · split <;> constructor <;> intro h <;> omega
theorem cmpI_neg {a b : Int} : cmpI a b < 0 ↔ a < b := by
  unfold cmpI; split
  · constructor <;> intro h <;> omega
  · split <;> constructor <;> intro h <;> omega
theorem cmpI_pos {a b : Int} : 0 < cmpI a b ↔ b < a := by
  unfold cmpI; split
  · constructor <;> intro h <;> omega
  · split <;> constructor <;> intro h <;> omega
theorem cmpI_swap (a b : Int) : cmpI b a = - cmpI a b := by
  unfold cmpI; split <;> split <;> first | omega | (split <;> omega) | rfl

theorem cmpL_self : ∀ l, cmpL l l = 0
  | [] => rfl
  | x :: l => by simp [cmpL, cmpI_self, cmpL_self l]
theorem cmpL_zero : ∀ {l m}, cmpL l m = 0 → l = m
  | [], [], _ => rfl
  | [], _ :: _, h => by simp [cmpL] at h
  | _ :: _, [], h => by simp [cmpL] at h
  | x :: l, y :: m, h => by
    simp only [cmpL] at h
    split at h
    · rename_i h1; rw [cmpI_zero.1 h1, cmpL_zero h]
    · rename_i h1; exact absurd h h1
theorem cmpL_swap : ∀ l m, cmpL m l = - cmpL l m
  | [], [] => rfl
  | [], _ :: _ => rfl
  | _ :: _, [] => rfl
  | x :: l, y :: m => by
    simp only [cmpL, cmpI_swap x y]
    by_cases h : cmpI x y = 0
    · simp [h, cmpL_swap l m]
    · have : ¬ (- cmpI x y = 0) := by omega
      simp [h, this]
theorem cmpL_trans : ∀ {a b c}, cmpL a b < 0 → cmpL b c < 0 → cmpL a c < 0
  | [], [], _, h, _ => by simp [cmpL] at h
  | [], _ :: _, [], _, h => by simp [cmpL] at h
  | [], _ :: _, _ :: _, _, _ => by simp [cmpL]
  | _ :: _, [], _, h, _ => by simp [cmpL] at h
  | _ :: _, _ :: _, [], _, h => by simp [cmpL] at h
  | x :: l, y :: m, z :: n, h1, h2 => by
    simp only [cmpL] at h1 h2 ⊢
    by_cases hxy : cmpI x y = 0
    · obtain rfl := cmpI_zero.1 hxy
      rw [if_pos hxy] at h1
      by_cases hyz : cmpI x z = 0
      · rw [if_pos hyz] at h2 ⊢; exact cmpL_trans h1 h2
      · rw [if_neg hyz] at h2 ⊢; exact h2
    · rw [if_neg hxy] at h1
      by_cases hyz : cmpI y z = 0
      · obtain rfl := cmpI_zero.1 hyz
        rw [if_neg hxy]; exact h1
      · rw [if_neg hyz] at h2
        have h3 := cmpI_neg.1 h1
        have h4 := cmpI_neg.1 h2
        have h5 : cmpI x z < 0 := cmpI_neg.2 (by omega)
        have : ¬ (cmpI x z = 0) := by omega
        rw [if_neg this]; exact h5

def key (r : Rec) : List Int := (r.i : Int) :: (r.first : Int) :: (r.err : Int) :: (r.seq : Int) :: (r.smp.length : Int) :: r.smp
def cmpR (a b : Rec) : Int := cmpL (key a) (key b)
def ltR (a b : Rec) : Prop := cmpR a b < 0

theorem key_inj {a b : Rec} (h : key a = key b) : a = b := by
  cases a; cases b
  simp only [key, List.cons.injEq, Int.natCast_inj] at h
  obtain ⟨rfl, rfl, rfl, rfl, _, rfl⟩ := h
  rfl
theorem cmpR_self (a : Rec) : cmpR a a = 0 := cmpL_self _
theorem cmpR_zero {a b : Rec} : cmpR a b = 0 ↔ a = b := ⟨fun h => key_inj (cmpL_zero h), fun h => h ▸ cmpR_self _⟩
theorem cmpR_swap (a b : Rec) : cmpR b a = - cmpR a b := cmpL_swap _ _
theorem ltR_trans {a b c : Rec} (h : ltR a b) (h' : ltR b c) : ltR a c := cmpL_trans h h'
theorem ltR_irrefl (a : Rec) : ¬ ltR a a := by unfold ltR; rw [cmpR_self]; omega
theorem ltR_total (a b : Rec) : ltR a b ∨ a = b ∨ ltR b a := by
  unfold ltR
  rcases Int.lt_trichotomy (cmpR a b) 0 with h | h | h
  · exact .inl h
  · exact .inr (.inl (cmpR_zero.1 h))
  · exact .inr (.inr (by rw [cmpR_swap]; omega))

/-- Two lists in strict order with the same elements are one. -/
theorem sorted_unique {α : Type} {lt : α → α → Prop} (irr : ∀ a, ¬ lt a a) (tr : ∀ a b c, lt a b → lt b c → lt a c) : ∀ {l m : List α}, l.Pairwise lt → m.Pairwise lt → (∀ x, x ∈ l ↔ x ∈ m) → l = m
  | [], [], _, _, _ => rfl
  | [], y :: m, _, _, h => absurd ((h y).2 (by simp)) (by simp)
  | x :: l, [], _, _, h => absurd ((h x).1 (by simp)) (by simp)
  | x :: l, y :: m, hl, hm, h => by
    rw [List.pairwise_cons] at hl hm
    have hxy : x = y := by
      rcases List.mem_cons.1 ((h x).1 (by simp)) with h1 | h1
      · exact h1
      · rcases List.mem_cons.1 ((h y).2 (by simp)) with h2 | h2
        · exact h2.symm
        · exact absurd (tr _ _ _ (hm.1 x h1) (hl.1 y h2)) (irr _)
    subst hxy
    congr 1
    refine sorted_unique irr tr hl.2 hm.2 fun z => ⟨fun hz => ?_, fun hz => ?_⟩
    · rcases List.mem_cons.1 ((h z).1 (by simp [hz])) with h1 | h1
      · subst h1; exact absurd (hl.1 _ hz) (irr _)
      · exact h1
    · rcases List.mem_cons.1 ((h z).2 (by simp [hz])) with h1 | h1
      · subst h1; exact absurd (hm.1 _ hz) (irr _)
      · exact h1

def Strict (l : List Rec) : Prop := l.Pairwise ltR

/-- A record put in its place (behind its equals). -/
def ins (r : Rec) : List Rec → List Rec
  | [] => [r]
  | x :: l => if cmpR r x < 0 then r :: x :: l else x :: ins r l
def insU (r : Rec) (l : List Rec) : List Rec := if r ∈ l then l else ins r l

theorem mem_ins {r x : Rec} : ∀ {l : List Rec}, x ∈ ins r l ↔ x = r ∨ x ∈ l
  | [] => by simp [ins]
  | y :: l => by
    unfold ins
    split
    · simp
    · simp only [List.mem_cons, mem_ins (l := l)]
      constructor
      · rintro (h | h | h) <;> simp [h]
      · rintro (h | h | h) <;> simp [h]
theorem mem_insU {r x : Rec} {l : List Rec} : x ∈ insU r l ↔ x = r ∨ x ∈ l := by
  unfold insU
  split
  · rename_i h
    exact ⟨.inr, fun h' => h'.elim (fun e => e ▸ h) id⟩
  · exact mem_ins
theorem ins_strict {r : Rec} : ∀ {l : List Rec}, Strict l → r ∉ l → Strict (ins r l)
  | [], _, _ => by simp [Strict, ins]
  | x :: l, h, hr => by
    unfold Strict at *
    rw [List.pairwise_cons] at h
    unfold ins
    split
    · rename_i hlt
      rw [List.pairwise_cons, List.pairwise_cons]
      exact ⟨fun y hy => (List.mem_cons.1 hy).elim (fun e => e ▸ hlt) fun h' => ltR_trans hlt (h.1 y h'), h⟩
    · rename_i hlt
      rw [List.pairwise_cons]
      refine ⟨fun y hy => ?_, ins_strict h.2 fun h' => hr (by simp [h'])⟩
      rcases mem_ins.1 hy with rfl | h'
      · rcases ltR_total x y with h1 | h1 | h1
        · exact h1
        · exact absurd (by simp [h1]) hr
        · exact absurd h1 hlt
      · exact h.1 y h'
theorem insU_strict {r : Rec} {l : List Rec} (h : Strict l) : Strict (insU r l) := by
  unfold insU
  split
  · exact h
  · rename_i hr; exact ins_strict h hr
theorem ins_length {r : Rec} : ∀ {l : List Rec}, (ins r l).length = l.length + 1
  | [] => rfl
  | x :: l => by unfold ins; split <;> simp [ins_length (l := l)]

theorem strict_nodup {l : List Rec} (h : Strict l) : l.Nodup := by
  refine List.Pairwise.imp (fun {a b} hab => ?_) h
  intro e
  subst e
  exact ltR_irrefl _ hab

theorem nodup_length_le {α : Type} [DecidableEq α] : ∀ {l m : List α}, l.Nodup → (∀ x ∈ l, x ∈ m) → l.length ≤ m.length
  | [], m, _, _ => Nat.zero_le _
  | x :: l, m, hl, h => by
    rw [List.nodup_cons] at hl
    have hx := h x (by simp)
    have h1 := nodup_length_le (l := l) (m := m.erase x) hl.2 fun y hy => by
      have hne : y ≠ x := fun e => hl.1 (e ▸ hy)
      exact (List.mem_erase_of_ne hne).2 (h y (by simp [hy]))
    rw [List.length_erase_of_mem hx] at h1
    have : 0 < m.length := List.length_pos_of_mem hx
    simp only [List.length_cons]; omega

/-! archives -/
abbrev Arch := List (Nat × List Rec)
def allA (a : Arch) : List Rec := a.flatMap (·.2)
structure OkA (a : Arch) : Prop where
  ord : a.Pairwise fun p q => p.1 < q.1
  ne : ∀ p ∈ a, p.2 ≠ []
  src : ∀ p ∈ a, ∀ r ∈ p.2, r.i = p.1
  strict : ∀ p ∈ a, Strict p.2
def addA : Arch → Rec → Arch
  | [], r => [(r.i, [r])]
  | p :: a, r => if r.i < p.1 then (r.i, [r]) :: p :: a else if p.1 = r.i then (p.1, insU r p.2) :: a else p :: addA a r

theorem mem_allA {a : Arch} {r : Rec} : r ∈ allA a ↔ ∃ p ∈ a, r ∈ p.2 := by simp [allA]

theorem addA_key {r : Rec} : ∀ {a : Arch} {p : Nat × List Rec}, p ∈ addA a r → p.1 = r.i ∨ ∃ q ∈ a, q.1 = p.1
  | [], p, h => by simp [addA] at h; simp [h]
  | q :: a, p, h => by
    unfold addA at h
    split at h
    · rcases List.mem_cons.1 h with rfl | h
      · exact .inl rfl
      · exact .inr ⟨p, h, rfl⟩
    · split at h
      · rcases List.mem_cons.1 h with rfl | h
        · exact .inr ⟨q, by simp, rfl⟩
        · exact .inr ⟨p, by simp [h], rfl⟩
      · rcases List.mem_cons.1 h with rfl | h
        · exact .inr ⟨p, by simp, rfl⟩
        · rcases addA_key h with h1 | ⟨q', h1, h2⟩
          · exact .inl h1
          · exact .inr ⟨q', by simp [h1], h2⟩

theorem addA_ok {r : Rec} : ∀ {a : Arch}, OkA a → OkA (addA a r)
  | [], _ => ⟨by simp [addA], by simp [addA], by simp [addA], by simp [addA, Strict]⟩
  | p :: a, h => by
    have h1 := List.pairwise_cons.1 h.ord
    have ha : OkA a := ⟨h1.2, fun q hq => h.ne q (by simp [hq]), fun q hq => h.src q (by simp [hq]), fun q hq => h.strict q (by simp [hq])⟩
    unfold addA
    split
    · rename_i hlt
      refine ⟨List.pairwise_cons.2 ⟨fun q hq => ?_, h.ord⟩, fun q hq => ?_, fun q hq => ?_, fun q hq => ?_⟩
      · rcases List.mem_cons.1 hq with rfl | hq
        · exact hlt
        · exact Nat.lt_trans hlt (h1.1 q hq)
      · rcases List.mem_cons.1 hq with rfl | hq
        · simp
        · exact h.ne q hq
      · rcases List.mem_cons.1 hq with rfl | hq
        · simp
        · exact h.src q hq
      · rcases List.mem_cons.1 hq with rfl | hq
        · simp [Strict]
        · exact h.strict q hq
    · split
      · rename_i hn he
        refine ⟨List.pairwise_cons.2 ⟨h1.1, h1.2⟩, fun q hq => ?_, fun q hq => ?_, fun q hq => ?_⟩
        · rcases List.mem_cons.1 hq with rfl | hq
          · intro e
            have : r ∈ insU r p.2 := mem_insU.2 (.inl rfl)
            rw [show insU r p.2 = [] from e] at this
            simp at this
          · exact ha.ne q hq
        · rcases List.mem_cons.1 hq with rfl | hq
          · intro x hx
            rcases mem_insU.1 hx with rfl | hx
            · exact he.symm
            · exact h.src p (by simp) x hx
          · exact ha.src q hq
        · rcases List.mem_cons.1 hq with rfl | hq
          · exact insU_strict (h.strict p (by simp))
          · exact ha.strict q hq
      · rename_i hn he
        have ih := addA_ok ha (r := r)
        refine ⟨List.pairwise_cons.2 ⟨fun q hq => ?_, ih.ord⟩, fun q hq => ?_, fun q hq => ?_, fun q hq => ?_⟩
        · rcases addA_key hq with h2 | ⟨q', h2, h3⟩
          · omega
          · rw [← h3]; exact h1.1 q' h2
        · rcases List.mem_cons.1 hq with rfl | hq
          · exact h.ne q (by simp)
          · exact ih.ne q hq
        · rcases List.mem_cons.1 hq with rfl | hq
          · exact h.src q (by simp)
          · exact ih.src q hq
        · rcases List.mem_cons.1 hq with rfl | hq
          · exact h.strict q (by simp)
          · exact ih.strict q hq

theorem mem_addA {r x : Rec} : ∀ {a : Arch}, x ∈ allA (addA a r) ↔ x = r ∨ x ∈ allA a
  | [] => by simp [addA, allA]
  | p :: a => by
    unfold addA
    split
    · simp [allA]
    · split
      · simp only [allA, List.flatMap_cons, List.mem_append, mem_insU]
        constructor
        · rintro ((h | h) | h) <;> simp [h]
        · rintro (h | h | h) <;> simp [h]
      · have ih := mem_addA (r := r) (x := x) (a := a)
        simp only [allA, List.flatMap_cons, List.mem_append] at ih ⊢
        rw [ih]
        constructor
        · rintro (h | h | h) <;> simp [h]
        · rintro (h | h | h) <;> simp [h]

theorem allA_nodup {a : Arch} (h : OkA a) : (allA a).Nodup := by
  induction a with
  | nil => simp [allA]
  | cons p a ih =>
    have h1 := List.pairwise_cons.1 h.ord
    have ha : OkA a := ⟨h1.2, fun q hq => h.ne q (by simp [hq]), fun q hq => h.src q (by simp [hq]), fun q hq => h.strict q (by simp [hq])⟩
    simp only [allA, List.flatMap_cons]
    rw [List.nodup_append]
    refine ⟨strict_nodup (h.strict p (by simp)), ih ha, fun x hx y hy e => ?_⟩
    subst e
    obtain ⟨q, hq, hxq⟩ := mem_allA.1 hy
    have h2 := h.src p (by simp) x hx
    have h3 := h.src q (by simp [hq]) x hxq
    have := h1.1 q hq
    omega

theorem addA_length {a : Arch} {r : Rec} (h : OkA a) (hr : r ∉ allA a) : (allA (addA a r)).length = (allA a).length + 1 := by
  have h1 := nodup_length_le (allA_nodup (addA_ok h (r := r))) (m := r :: allA a) fun x hx => by
    rcases mem_addA.1 hx with rfl | hx <;> simp [*]
  have h2 := nodup_length_le (l := r :: allA a) (m := allA (addA a r)) (List.nodup_cons.2 ⟨hr, allA_nodup h⟩) fun x hx => by
    rcases List.mem_cons.1 hx with rfl | hx
    · exact mem_addA.2 (.inl rfl)
    · exact mem_addA.2 (.inr hx)
  simp only [List.length_cons] at h1 h2
  omega

/-- An archive is told by its records. -/
theorem arch_unique {a b : Arch} (ha : OkA a) (hb : OkA b) (h : ∀ r, r ∈ allA a ↔ r ∈ allA b) : a = b := by
  have half : ∀ {a b : Arch}, OkA a → OkA b → (∀ r, r ∈ allA a ↔ r ∈ allA b) → ∀ p ∈ a, p ∈ b := by
    intro a b ha hb h p hp
    obtain ⟨r, hr⟩ : ∃ r, r ∈ p.2 := List.exists_mem_of_ne_nil _ (ha.ne p hp)
    obtain ⟨q, hq, hrq⟩ := mem_allA.1 ((h r).1 (mem_allA.2 ⟨p, hp, hr⟩))
    have hpq : p.1 = q.1 := by rw [← ha.src p hp r hr, hb.src q hq r hrq]
    have one : ∀ {a : Arch}, OkA a → ∀ p ∈ a, ∀ x, x ∈ p.2 ↔ x ∈ allA a ∧ x.i = p.1 := by
      intro a ha p hp x
      refine ⟨fun hx => ⟨mem_allA.2 ⟨p, hp, hx⟩, ha.src p hp x hx⟩, fun ⟨h1, h2⟩ => ?_⟩
      obtain ⟨q, hq, hxq⟩ := mem_allA.1 h1
      have h3 := ha.src q hq x hxq
      have : p = q := by
        rcases List.mem_iff_getElem.1 hp with ⟨i, hi, rfl⟩
        rcases List.mem_iff_getElem.1 hq with ⟨j, hj, rfl⟩
        have ho := List.pairwise_iff_getElem.1 ha.ord
        rcases Nat.lt_trichotomy i j with h4 | h4 | h4
        · have := ho i j hi hj h4; omega
        · subst h4; rfl
        · have := ho j i hj hi h4; omega
      rw [this]; exact hxq
    have he : p.2 = q.2 := sorted_unique ltR_irrefl (fun _ _ _ => ltR_trans) (ha.strict p hp) (hb.strict q hq) fun x => by
      rw [one ha p hp x, one hb q hq x, h x, hpq]
    have : p = q := Prod.ext hpq he
    rw [this]; exact hq
  exact sorted_unique (lt := fun p q : Nat × List Rec => p.1 < q.1) (fun _ => Nat.lt_irrefl _) (fun _ _ _ => Nat.lt_trans) ha.ord hb.ord fun p => ⟨half ha hb h p, half hb ha (fun r => (h r).symm) p⟩
end Go.DM
