/-
  Operations whose footprints are apart may change places. One step of a region; steps that change places. Regions. Code.
-/
import Derived.Test.YtpfhhcjdknmbbaaGreatDoorA3
import Derived.Orders
set_option linter.all false
set_option linter.unusedSimpArgs false
set_option linter.unusedVariables false
namespace Go.DM

/-! footprints -/
def annRoot (ann : List (Nat × Nat × Bool)) (i : Nat) (o : Oper) : List Nat :=
  match addrOf o.op with
  | some _ => (match ann.find? (·.1 == i) with | some (_, r, _) => [r] | none => [])
  | none => []
def rdS (ann : List (Nat × Nat × Bool)) (ops : Array Oper) (i : Nat) (o : Oper) : List Nat := annRoot ann i o ++ o.looksAt ops
def isStore : Op → Bool
  | .store _ _ _ => true
  | _ => false
def wrS (ann : List (Nat × Nat × Bool)) (i : Nat) (o : Oper) : List Nat := (bif isStore o.op then annRoot ann i o else []) ++ o.dst.toList

/-- Is it the call of a function that sees no heap? -/
def pureC (E : Env) (c : Call) : Bool :=
  match c.callee with
  | .value (.func g) => pureF E g
  | _ => false

/-- 0: no heap; 1: reads; 2: may write; 3: reads, but not the variable with number 0; 4: writes that variable alone; 5: a pure call; 6: a new row. -/
def hcls (E : Env) (fn : Nat) (ann : List (Nat × Nat × Bool)) (i : Nat) (o : Oper) : Nat :=
  match o.op with
  | .load _ _ => bif annLoc ann i then 0 else bif annN0 ann i then 3 else 1
  | .store _ _ _ => bif annLoc ann i then 0 else 2
  | .slice _ _ _ _ _ | .indexAddr _ _ _ => bif annLoc ann i then 0 else 3
  | .alloc _ | .box _ _ => (match o.dst with | some d => bif E.esc fn d then 2 else 0 | none => 0)
  | .buildSlice _ _ _ => (match o.dst with | some d => bif E.own fn d then 6 else 0 | none => 0)
  | .makeSlice _ _ _ => 2
  | .call c => (match c.callee with | .builtin .len | .builtin .cap | .builtin .max | .builtin .min => 0 | _ => bif annLoc ann i then 1 else bif annV0 ann i then 4 else bif pureC E c then 5 else 2)
  | _ => 0

def rdr (x : Nat) : Bool := Nat.beq x 1 || Nat.beq x 3
def hApart (x y : Nat) : Bool := Nat.beq x 0 || (Nat.beq y 0 || ((rdr x && rdr y) || ((Nat.beq x 3 && Nat.beq y 4) || ((Nat.beq x 4 && Nat.beq y 3) || (Nat.beq x 5 && Nat.beq y 6)))))

def disj (a b : List Nat) : Bool := a.all fun x => b.all fun y => !(Nat.beq x y)

def apartAt (E : Env) (fn : Nat) (ann : List (Nat × Nat × Bool)) (ops : Array Oper) (i : Nat) (x : Oper) (j : Nat) (y : Oper) : Bool :=
  disj (wrS ann i x) (rdS ann ops j y) && (disj (wrS ann j y) (rdS ann ops i x) && (disj (wrS ann i x) (wrS ann j y) && hApart (hcls E fn ann i x) (hcls E fn ann j y)))

def wrs (s : List V) (ws : List (Nat × V)) : List V := ws.foldl (fun s p => s.set p.1 p.2) s

theorem wrs_set {s : List V} {t : Nat} {v : V} : ∀ {ws : List (Nat × V)}, (∀ p ∈ ws, p.1 ≠ t) → wrs (s.set t v) ws = (wrs s ws).set t v := by
  intro ws
  induction ws generalizing s with
  | nil => intro _; rfl
  | cons p ws ih =>
    intro h
    simp only [wrs, List.foldl_cons]
    rw [List.set_comm _ _ (fun e => h p (by simp) e.symm)]
    exact ih fun q hq => h q (by simp [hq])
theorem wrs_get {t : Nat} : ∀ {ws : List (Nat × V)} {s : List V}, (∀ p ∈ ws, p.1 ≠ t) → (wrs s ws)[t]? = s[t]? := by
  intro ws
  induction ws with
  | nil => intro s _; rfl
  | cons p ws ih =>
    intro s h
    simp only [wrs, List.foldl_cons]
    have := ih (s := s.set p.1 p.2) fun q hq => h q (by simp [hq])
    rw [wrs] at this
    rw [this, List.getElem?_set_ne (h p (by simp))]
theorem wrs_comm {a b : List (Nat × V)} : ∀ {s : List V}, (∀ p ∈ a, ∀ q ∈ b, p.1 ≠ q.1) → wrs (wrs s a) b = wrs (wrs s b) a := by
  induction a with
  | nil => intro s _; rfl
  | cons p a ih =>
    intro s h
    have e : ∀ s, wrs s (p :: a) = wrs (s.set p.1 p.2) a := fun _ => rfl
    rw [e, e, ih fun q hq r hr => h q (by simp [hq]) r hr, wrs_set fun q hq => (h p (by simp) q hq).symm]

theorem disj_ne {a b : List Nat} (h : disj a b = true) {x y : Nat} (hx : x ∈ a) (hy : y ∈ b) : x ≠ y := by
  simp only [disj, List.all_eq_true] at h
  have := h x hx y hy
  intro e; subst e; simp at this

section
variable {E : Env} {C : Ctx} {Φ : Oracle}

theorem ev_agree {s s' : List V} {x : Operand} (h : ∀ t, x = .tmp t → s'[t]? = s[t]?) : ev s' x = ev s x := by
  cases x with
  | tmp t => simp only [ev]; rw [h t rfl]
  | _ => rfl

/-- The cell that an address reaches. -/
theorem rdMem_agree {s s' : List V} {h : Heap} {p : V} (hr : ∀ r o, p = .lptr r o → s'[r]? = s[r]?) : rdMem ⟨s', h⟩ p = rdMem ⟨s, h⟩ p := by
  cases p with
  | lptr r o => simp only [rdMem]; rw [hr r o rfl]
  | _ => rfl

theorem wrMem_agree {s s' : List V} {h : Heap} {p : V} {x : List V} {st : St} (hr : ∀ r o, p = .lptr r o → s'[r]? = s[r]?) (hw : wrMem C ⟨s, h⟩ p x = some st) :
    ∃ ws, (∀ q ∈ ws, ∃ o, p = .lptr q.1 o) ∧ st.s = wrs s ws ∧ wrMem C ⟨s', h⟩ p x = some ⟨wrs s' ws, st.h⟩ := by
  cases p with
  | lptr r o =>
    simp only [wrMem] at hw ⊢
    rw [hr r o rfl]
    split at hw
    · rename_i v hv
      simp only [Option.map_eq_some_iff] at hw
      obtain ⟨v', h1, rfl⟩ := hw
      refine ⟨[(r, .box v')], by simp, rfl, ?_⟩
      simp [h1, wrs]
    · cases hw
  | ptr i o =>
    simp only [wrMem, Option.bind_eq_some_iff] at hw
    obtain ⟨v, h1, v', h2, h3⟩ := hw
    obtain ⟨hq, h3⟩ := dead_eq h3
    cases h3
    refine ⟨[], by simp, rfl, ?_⟩
    simp only [wrMem, h1, h2, Option.bind_some]
    rw [hq]; rfl
  | aptr i ver j o =>
    simp only [wrMem, Option.bind_eq_some_iff] at hw
    obtain ⟨A, h1, hw⟩ := hw
    obtain ⟨hq1, hw⟩ := dead_eq hw
    simp only [Option.bind_eq_some_iff] at hw
    obtain ⟨v, h2, v', h3, h4⟩ := hw
    obtain ⟨hq, h4⟩ := dead_eq h4
    cases h4
    refine ⟨[], by simp, rfl, ?_⟩
    simp only [wrMem, h1, Option.bind_some]
    rw [hq1]
    simp only [cond_true, h2, h3, Option.bind_some]
    rw [hq]; rfl
  | _ => cases hw

theorem map_cond_none {α β : Type} {f : α → β} {b : Bool} {x : Option α} : (bif b then x else none).map f = bif b then x.map f else none := by cases b <;> rfl

theorem map_ev_agree {s s' : List V} {l : List Operand} (h : ∀ t, Operand.tmp t ∈ l → s'[t]? = s[t]?) : l.map (ev s') = l.map (ev s) :=
  List.map_congr_left fun x hx => ev_agree fun t ht => h t (ht ▸ hx)

/-- The same step from other slots. -/
def LocS (E : Env) (C : Ctx) (Φ : Oracle) (o : Oper) (s s' : List V) (h : Heap) (v : V) (st : St) : Prop :=
  ∃ ws, (∀ q ∈ ws, isStore o.op = true ∧ ∃ p k, addrOf o.op = some p ∧ ev s p = .lptr q.1 k) ∧ st.s = wrs s ws ∧ opX E C Φ o ⟨s', h⟩ = some (v, ⟨wrs s' ws, st.h⟩)

theorem opX_local {o : Oper} {s s' : List V} {h : Heap} {v : V} {st : St} (hx : opX E C Φ o ⟨s, h⟩ = some (v, st)) (ha : ∀ t, Operand.tmp t ∈ o.op.operands → s'[t]? = s[t]?)
    (hm : ∀ p, addrOf o.op = some p → ∀ r q, ev s p = .lptr r q → s'[r]? = s[r]?) :
    LocS E C Φ o s s' h v st := by
  have pure_ : st.s = s → opX E C Φ o ⟨s', h⟩ = some (v, ⟨s', st.h⟩) → LocS E C Φ o s s' h v st :=
    fun h1 h2 => ⟨[], by simp, h1, h2⟩
  have lift : (∀ r, opX E C Φ o ⟨s, h⟩ = some r → r.2.s = s) → opX E C Φ o ⟨s', h⟩ = (opX E C Φ o ⟨s, h⟩).map (fun r => (r.1, ⟨s', r.2.h⟩)) → LocS E C Φ o s s' h v st :=
    fun h1 h2 => pure_ (h1 _ hx) (by rw [h2, hx]; rfl)
  cases ho : o.op with
  | move x =>
    have e1 : ev s' x = ev s x := ev_agree fun t ht => ha t (by simp [ho, Op.operands, ht])
    refine lift (fun r hr => ?_) ?_ <;> simp only [opX, ho, e1] at *
    · cases hr; rfl
    · rfl
  | assign x =>
    have e1 : ev s' x = ev s x := ev_agree fun t ht => ha t (by simp [ho, Op.operands, ht])
    refine lift (fun r hr => ?_) ?_ <;> simp only [opX, ho, e1] at *
    · cases hl : (ev s x).isLptr <;> rw [hl] at hr <;> cases hr; rfl
    · cases (ev s x).isLptr <;> rfl
  | pick c x y =>
    have e1 : ev s' x = ev s x := ev_agree fun t ht => ha t (by simp [ho, Op.operands, ht])
    have e2 : ev s' y = ev s y := ev_agree fun t ht => ha t (by simp [ho, Op.operands, ht])
    have e3 : ev s' c = ev s c := ev_agree fun t ht => ha t (by simp [ho, Op.operands, ht])
    refine lift (fun r hr => ?_) ?_ <;> simp only [opX, ho, e1, e2, e3] at *
    · split at hr <;> cases hr; rfl
    · split <;> rfl
  | alloc t =>
    refine lift (fun r hr => ?_) ?_ <;> simp only [opX, ho] at *
    · simp only [Option.bind_eq_some_iff] at hr
      obtain ⟨z, _, hr⟩ := hr
      obtain ⟨_, hr⟩ := dead_eq hr
      split at hr
      · rename_i d _
        cases he : E.esc C.fn d <;> rw [he] at hr <;> cases hr <;> rfl
      · cases hr
    · cases tZero E.P t with
      | none => rfl
      | some z =>
        simp only [Option.bind_some]
        cases (z.storable && z.cells.length == E.P.cellsOf t)
        · rfl
        · simp only [cond_true]
          split
          · rename_i d _; cases E.esc C.fn d <;> rfl
          · rfl
  | box t x =>
    have e1 : ev s' x = ev s x := ev_agree fun t ht => ha t (by simp [ho, Op.operands, ht])
    refine lift (fun r hr => ?_) ?_ <;> simp only [opX, ho, e1] at *
    · obtain ⟨_, hr⟩ := dead_eq hr
      split at hr
      · rename_i d _
        cases he : E.esc C.fn d <;> rw [he] at hr <;> cases hr <;> rfl
      · cases hr
    · cases ((ev s x).storable && (ev s x).cells.length == E.P.cellsOf t)
      · rfl
      · simp only [cond_true]
        split
        · rename_i d _; cases E.esc C.fn d <;> rfl
        · rfl
  | build t parts =>
    have e1 : (parts.toList.map fun p => (p.1, ev s' p.2)) = parts.toList.map fun p => (p.1, ev s p.2) :=
      List.map_congr_left fun p hp => by rw [ev_agree fun t ht => ha t (by simp [ho, Op.operands]; exact ⟨p.1, by rw [← ht]; simpa using hp⟩)]
    refine lift (fun r hr => ?_) ?_ <;> simp only [opX, ho, e1] at *
    · simp only [Option.bind_eq_some_iff] at hr
      obtain ⟨z, _, hr⟩ := hr
      obtain ⟨_, hr⟩ := dead_eq hr
      simp only [Option.map_eq_some_iff] at hr
      obtain ⟨_, _, rfl⟩ := hr
      rfl
    · cases tZero E.P t with
      | none => rfl
      | some z =>
        simp only [Option.bind_some]
        cases (buildOk E.P t && (z.storable && z.cells.length == E.P.cellsOf t))
        · rfl
        · simp only [cond_true]
          cases fillV (placeOf E.P t) z.cells (parts.toList.map fun p => (p.1, ev s p.2)) <;> rfl
  | buildSlice t len parts =>
    have e1 : (parts.toList.map fun p => (p.1, ev s' p.2)) = parts.toList.map fun p => (p.1, ev s p.2) :=
      List.map_congr_left fun p hp => by rw [ev_agree fun t ht => ha t (by simp [ho, Op.operands]; exact ⟨p.1, by rw [← ht]; simpa using hp⟩)]
    refine lift (fun r hr => ?_) ?_ <;> simp only [opX, ho, e1] at *
    · simp only [Option.bind_eq_some_iff] at hr
      obtain ⟨et, _, hr⟩ := hr
      obtain ⟨_, hr⟩ := dead_eq hr
      simp only [Option.bind_eq_some_iff] at hr
      obtain ⟨z, _, es, _, hr⟩ := hr
      split at hr
      · rename_i d _
        cases he : E.own C.fn d <;> rw [he] at hr
        · obtain ⟨_, hr⟩ := dead_eq hr
          cases hr; rfl
        · cases hr; rfl
      · cases hr
    · cases tElem E.P t with
      | none => rfl
      | some et =>
        simp only [Option.bind_some]
        cases (Nat.ble (len * E.P.cellsOf et) 16777216 && Nat.blt 0 (E.P.cellsOf et))
        · rfl
        · simp only [cond_true]
          cases (bif Nat.beq len 0 then some undefV else zOk E.P et) with
          | none => rfl
          | some z =>
            simp only [Option.bind_some]
            cases setPart (E.P.cellsOf et) (List.replicate len z) (parts.toList.map fun p => (p.1, ev s p.2)) with
            | none => rfl
            | some es =>
              simp only [Option.bind_some]
              split
              · rename_i d _
                cases E.own C.fn d
                · simp only [cond_false]
                  cases (es.all fun v => v.cells.all V.gnd) <;> rfl
                · rfl
              · rfl
  | load t p =>
    have e1 : ev s' p = ev s p := ev_agree fun t ht => ha t (by simp [ho, Op.operands, ht])
    have e2 : loadV E.P ⟨s', h⟩ t (ev s p) = loadV E.P ⟨s, h⟩ t (ev s p) := by
      simp only [loadV]
      rw [rdMem_agree fun r q hq => hm p (by simp [ho, addrOf]) r q hq]
    refine lift (fun r hr => ?_) ?_ <;> simp only [opX, ho, e1, e2] at *
    · simp only [Option.map_eq_some_iff] at hr
      obtain ⟨_, _, rfl⟩ := hr
      rfl
    · cases loadV E.P ⟨s, h⟩ t (ev s p) <;> rfl
  | store t p x =>
    have e1 : ev s' p = ev s p := ev_agree fun t ht => ha t (by simp [ho, Op.operands, ht])
    have e2 : ev s' x = ev s x := ev_agree fun t ht => ha t (by simp [ho, Op.operands, ht])
    simp only [opX, ho, Option.map_eq_some_iff, Prod.mk.injEq] at hx
    obtain ⟨st1, hw, rfl, rfl⟩ := hx
    simp only [storeV] at hw
    obtain ⟨hq, hw⟩ := dead_eq hw
    obtain ⟨ws, h1, h2, h3⟩ := wrMem_agree (fun r q hq => hm p (by simp [ho, addrOf]) r q hq) hw
    refine ⟨ws, fun q hq => ⟨by rw [ho]; rfl, p, ?_⟩, h2, ?_⟩
    · obtain ⟨o', ho'⟩ := h1 q hq
      exact ⟨o', by rw [ho]; rfl, ho'⟩
    · simp only [opX, ho, e1, e2, storeV]
      rw [hq]
      simp only [cond_true, h3, Option.map_some]
  | nilCheck x =>
    have e1 : ev s' x = ev s x := ev_agree fun t ht => ha t (by simp [ho, Op.operands, ht])
    refine lift (fun r hr => ?_) ?_ <;> simp only [opX, ho, e1] at *
    · split at hr <;> cases hr <;> rfl
    · split <;> rfl
  | binOp op t x y ty =>
    have e1 : ev s' x = ev s x := ev_agree fun t ht => ha t (by simp [ho, Op.operands, ht])
    have e2 : ev s' y = ev s y := ev_agree fun t ht => ha t (by simp [ho, Op.operands, ht])
    refine lift (fun r hr => ?_) ?_ <;> simp only [opX, ho, e1, e2] at *
    · simp only [Option.map_eq_some_iff] at hr
      obtain ⟨_, _, rfl⟩ := hr
      rfl
    · cases binV E op t (ev s x) (ev s y) <;> rfl
  | unOp op t x =>
    have e1 : ev s' x = ev s x := ev_agree fun t ht => ha t (by simp [ho, Op.operands, ht])
    refine lift (fun r hr => ?_) ?_ <;> simp only [opX, ho, e1] at *
    · split at hr <;> cases hr <;> rfl
    · split <;> rfl
  | convert t1 t2 x =>
    have e1 : ev s' x = ev s x := ev_agree fun t ht => ha t (by simp [ho, Op.operands, ht])
    refine lift (fun r hr => ?_) ?_ <;> simp only [opX, ho, e1] at *
    · split at hr <;> cases hr <;> rfl
    · split <;> rfl
  | makeFunc fn first caps =>
    have e1 : caps.toList.map (ev s') = caps.toList.map (ev s) := map_ev_agree fun t ht => ha t (by simp [ho, Op.operands]; exact .inr (by simpa using ht))
    refine lift (fun r hr => ?_) ?_ <;> simp only [opX, ho, e1] at *
    · split at hr
      · obtain ⟨_, hr⟩ := dead_eq hr
        cases hr; rfl
      · cases hr
    · split
      · cases (first.isEmpty && (caps.toList.map (ev s)).all V.atomic) <;> rfl
      · rfl
  | makeSlice t l c =>
    have e1 : ev s' l = ev s l := ev_agree fun t ht => ha t (by simp [ho, Op.operands, ht])
    have e2 : ev s' c = ev s c := ev_agree fun t ht => ha t (by simp [ho, Op.operands, ht])
    refine lift (fun r hr => ?_) ?_ <;> simp only [opX, ho, e1, e2] at *
    · simp only [Option.map_eq_some_iff] at hr
      obtain ⟨_, _, rfl⟩ := hr
      rfl
    · cases makeSliceV E.P h t (ev s l) (ev s c) <;> rfl
  | slice t x lo hi mx =>
    have e1 : ev s' x = ev s x := ev_agree fun t ht => ha t (by simp [ho, Op.operands, ht])
    have e2 : lo.map (ev s') = lo.map (ev s) := by
      cases lo with
      | none => rfl
      | some q => simp only [Option.map_some]; rw [ev_agree fun t ht => ha t (by simp [ho, Op.operands, ht])]
    have e3 : hi.map (ev s') = hi.map (ev s) := by
      cases hi with
      | none => rfl
      | some q => simp only [Option.map_some]; rw [ev_agree fun t ht => ha t (by simp [ho, Op.operands, ht])]
    have e4 : mx.map (ev s') = mx.map (ev s) := by
      cases mx with
      | none => rfl
      | some q => simp only [Option.map_some]; rw [ev_agree fun t ht => ha t (by simp [ho, Op.operands, ht])]
    refine lift (fun r hr => ?_) ?_ <;> simp only [opX, ho, e1, e2, e3, e4] at *
    · simp only [Option.map_eq_some_iff] at hr
      obtain ⟨_, _, rfl⟩ := hr
      rfl
    · cases sliceV E.P h t (ev s x) (lo.map (ev s)) (hi.map (ev s)) (mx.map (ev s)) <;> rfl
  | fieldAddr t x f =>
    have e1 : ev s' x = ev s x := ev_agree fun t ht => ha t (by simp [ho, Op.operands, ht])
    refine lift (fun r hr => ?_) ?_ <;> simp only [opX, ho, e1] at *
    · simp only [Option.map_eq_some_iff] at hr
      obtain ⟨_, _, rfl⟩ := hr
      rfl
    · cases fieldAddrV E.P t (ev s x) f <;> rfl
  | indexAddr t x i =>
    have e1 : ev s' x = ev s x := ev_agree fun t ht => ha t (by simp [ho, Op.operands, ht])
    have e2 : ev s' i = ev s i := ev_agree fun t ht => ha t (by simp [ho, Op.operands, ht])
    refine lift (fun r hr => ?_) ?_ <;> simp only [opX, ho, e1, e2] at *
    · simp only [Option.map_eq_some_iff] at hr
      obtain ⟨_, _, rfl⟩ := hr
      rfl
    · cases indexAddrV E.P h t (ev s x) (ev s i) <;> rfl
  | index t x i =>
    have e1 : ev s' x = ev s x := ev_agree fun t ht => ha t (by simp [ho, Op.operands, ht])
    have e2 : ev s' i = ev s i := ev_agree fun t ht => ha t (by simp [ho, Op.operands, ht])
    refine lift (fun r hr => ?_) ?_ <;> simp only [opX, ho, e1, e2] at *
    · simp only [Option.map_eq_some_iff] at hr
      obtain ⟨_, _, rfl⟩ := hr
      rfl
    · cases indexV E.P t (ev s x) (ev s i) <;> rfl
  | extract x i =>
    have e1 : ev s' x = ev s x := ev_agree fun t ht => ha t (by simp [ho, Op.operands, ht])
    refine lift (fun r hr => ?_) ?_ <;> simp only [opX, ho, e1] at *
    · split at hr
      · simp only [Option.map_eq_some_iff] at hr
        obtain ⟨_, _, rfl⟩ := hr
        rfl
      · cases hr
    · split
      · rename_i l _; cases l[i]? <;> rfl
      · rfl
  | call cl =>
    have e1 : cl.args.toList.map (ev s') = cl.args.toList.map (ev s) := map_ev_agree fun t ht => ha t (by
      simp only [ho, Op.operands, Call.operands]
      split <;> simp <;> first | exact .inr (by simpa using ht) | exact (by simpa using ht))
    have e2 : ∀ f, cl.callee = .value f → ev s' f = ev s f := fun f hf => ev_agree fun t ht => ha t (by simp [ho, Op.operands, Call.operands, hf, ht])
    refine lift (fun r hr => ?_) ?_ <;> simp only [opX, ho, e1] at *
    · split at hr
      · split at hr
        · obtain ⟨_, hr⟩ := dead_eq hr
          simp only [Option.bind_eq_some_iff] at hr
          obtain ⟨q, _, hr⟩ := hr
          obtain ⟨_, hr⟩ := dead_eq hr
          cases hr; rfl
        · cases hr
      · split at hr
        · simp only [Option.map_eq_some_iff] at hr; obtain ⟨_, _, rfl⟩ := hr; rfl
        · obtain ⟨_, hr⟩ := dead_eq hr
          simp only [Option.map_eq_some_iff] at hr; obtain ⟨_, _, rfl⟩ := hr; rfl
        · obtain ⟨_, hr⟩ := dead_eq hr
          simp only [Option.map_eq_some_iff] at hr; obtain ⟨_, _, rfl⟩ := hr; rfl
        · simp only [Option.map_eq_some_iff] at hr; obtain ⟨_, _, rfl⟩ := hr; rfl
        · simp only [Option.map_eq_some_iff] at hr; obtain ⟨_, _, rfl⟩ := hr; rfl
        · simp only [Option.map_eq_some_iff] at hr; obtain ⟨_, _, rfl⟩ := hr; rfl
        · simp only [Option.map_eq_some_iff] at hr; obtain ⟨_, _, rfl⟩ := hr; rfl
        · cases hr
      · cases hr
    · split
      · rename_i f hf
        rw [e2 f hf]
        split
        · rename_i g caps _
          cases (cl.args.toList.map (ev s)).all V.storable
          · rfl
          · simp only [cond_true]
            cases Φ (C.nv, C.na) g (cl.args.toList.map (ev s) ++ caps) h with
            | none => rfl
            | some q => simp only [Option.bind_some]; cases resOk q.1 <;> rfl
        · rfl
      · split
        all_goals first | rfl | (simp only [map_cond_none, Option.map_map]; rfl)
      · rfl
  | _ => simp [opX, ho] at hx

/-- An address that leads into no heap: it reaches the same cell in every heap. -/
def noHeap : V → Bool
  | .lptr _ _ | .fptr _ _ => true
  | _ => false

theorem annOk_loc {ann : List (Nat × Nat × Bool)} {i : Nat} {p : V} (h : annOk ann i p = true) (hl : annLoc ann i = true) : noHeap p = true := by
  unfold annOk at h
  unfold annLoc at hl
  split at h
  · rename_i r loc hf
    rw [hf] at hl
    simp only at hl
    subst hl
    cases p <;> simp_all [noHeap]
  · cases h

theorem annOk_root {ann : List (Nat × Nat × Bool)} {i : Nat} {r q : Nat} (h : annOk ann i (.lptr r q) = true) {o : Oper} {p : Operand} (ho : addrOf o.op = some p) : r ∈ annRoot ann i o := by
  unfold annOk at h
  unfold annRoot
  rw [ho]
  split at h
  · rename_i r' loc hf
    rw [hf]
    simp at h
    simp [h]
  · cases h

theorem rdMem_heap {s : List V} {h h' : Heap} {p : V} (hp : noHeap p = true) : rdMem ⟨s, h'⟩ p = rdMem ⟨s, h⟩ p := by
  cases p <;> first | rfl | (simp [noHeap] at hp)

theorem opX_heap0 {fn : Nat} (hfn : C.fn = fn) {ann : List (Nat × Nat × Bool)} {i : Nat} {o : Oper} {s : List V} {h : Heap} {v : V} {st : St} (hx : opX E C Φ o ⟨s, h⟩ = some (v, st)) (hc : hcls E fn ann i o = 0)
    (ha : ∀ p, addrOf o.op = some p → annLoc ann i = true → noHeap (ev s p) = true)
    (hsl : ∀ x, (∃ t lo hi mx, o.op = .slice t x lo hi mx) ∨ (∃ t j, o.op = .indexAddr t x j) → annLoc ann i = true → (ev s x).isSl = false) : st.h = h ∧ ∀ h', opX E C Φ o ⟨s, h'⟩ = some (v, ⟨st.s, h'⟩) := by
  subst hfn
  have lift : (∀ r, opX E C Φ o ⟨s, h⟩ = some r → r.2.h = h) → (∀ h', opX E C Φ o ⟨s, h'⟩ = (opX E C Φ o ⟨s, h⟩).map (fun r => (r.1, ⟨r.2.s, h'⟩))) → st.h = h ∧ ∀ h', opX E C Φ o ⟨s, h'⟩ = some (v, ⟨st.s, h'⟩) :=
    fun h1 h2 => ⟨h1 _ hx, fun h' => by rw [h2, hx]; rfl⟩
  cases ho : o.op with
  | move x =>
    refine lift (fun r hr => ?_) (fun h' => ?_) <;> simp only [opX, ho] at *
    · cases hr; rfl
    · rfl
  | assign x =>
    refine lift (fun r hr => ?_) (fun h' => ?_) <;> simp only [opX, ho] at *
    · cases hl : (ev s x).isLptr <;> rw [hl] at hr <;> cases hr; rfl
    · cases (ev s x).isLptr <;> rfl
  | pick c x y =>
    refine lift (fun r hr => ?_) (fun h' => ?_) <;> simp only [opX, ho] at *
    · split at hr <;> cases hr; rfl
    · split <;> rfl
  | alloc t =>
    have he : ∀ d, o.dst = some d → E.esc C.fn d = false := by
      intro d hd
      simp only [hcls, ho, hd] at hc
      cases hh : E.esc C.fn d <;> simp [hh] at hc ⊢
    refine lift (fun r hr => ?_) (fun h' => ?_) <;> simp only [opX, ho] at *
    · simp only [Option.bind_eq_some_iff] at hr
      obtain ⟨z, _, hr⟩ := hr
      obtain ⟨_, hr⟩ := dead_eq hr
      split at hr
      · rename_i d hd
        rw [he d hd] at hr; cases hr; rfl
      · cases hr
    · cases tZero E.P t with
      | none => rfl
      | some z =>
        simp only [Option.bind_some]
        cases (z.storable && z.cells.length == E.P.cellsOf t)
        · rfl
        · simp only [cond_true]
          split
          · rename_i d hd; rw [he d hd]; rfl
          · rfl
  | box t x =>
    have he : ∀ d, o.dst = some d → E.esc C.fn d = false := by
      intro d hd
      simp only [hcls, ho, hd] at hc
      cases hh : E.esc C.fn d <;> simp [hh] at hc ⊢
    refine lift (fun r hr => ?_) (fun h' => ?_) <;> simp only [opX, ho] at *
    · obtain ⟨_, hr⟩ := dead_eq hr
      split at hr
      · rename_i d hd
        rw [he d hd] at hr; cases hr; rfl
      · cases hr
    · cases ((ev s x).storable && (ev s x).cells.length == E.P.cellsOf t)
      · rfl
      · simp only [cond_true]
        split
        · rename_i d hd; rw [he d hd]; rfl
        · rfl
  | build t parts =>
    refine lift (fun r hr => ?_) (fun h' => ?_) <;> simp only [opX, ho] at *
    · simp only [Option.bind_eq_some_iff] at hr
      obtain ⟨z, _, hr⟩ := hr
      obtain ⟨_, hr⟩ := dead_eq hr
      simp only [Option.map_eq_some_iff] at hr
      obtain ⟨_, _, rfl⟩ := hr
      rfl
    · cases tZero E.P t with
      | none => rfl
      | some z =>
        simp only [Option.bind_some]
        cases (buildOk E.P t && (z.storable && z.cells.length == E.P.cellsOf t))
        · rfl
        · simp only [cond_true]
          cases fillV (placeOf E.P t) z.cells (parts.toList.map fun p => (p.1, ev s p.2)) <;> rfl
  | buildSlice t len parts =>
    have he : ∀ d, o.dst = some d → E.own C.fn d = false := by
      intro d hd
      simp only [hcls, ho, hd] at hc
      cases hh : E.own C.fn d <;> simp [hh] at hc ⊢
    refine lift (fun r hr => ?_) (fun h' => ?_) <;> simp only [opX, ho] at *
    · simp only [Option.bind_eq_some_iff] at hr
      obtain ⟨et, _, hr⟩ := hr
      obtain ⟨_, hr⟩ := dead_eq hr
      simp only [Option.bind_eq_some_iff] at hr
      obtain ⟨z, _, es, _, hr⟩ := hr
      split at hr
      · rename_i d hd
        rw [he d hd] at hr
        simp only [cond_false] at hr
        obtain ⟨_, hr⟩ := dead_eq hr
        cases hr; rfl
      · cases hr
    · cases tElem E.P t with
      | none => rfl
      | some et =>
        simp only [Option.bind_some]
        cases (Nat.ble (len * E.P.cellsOf et) 16777216 && Nat.blt 0 (E.P.cellsOf et))
        · rfl
        · simp only [cond_true]
          cases (bif Nat.beq len 0 then some undefV else zOk E.P et) with
          | none => rfl
          | some z =>
            simp only [Option.bind_some]
            cases setPart (E.P.cellsOf et) (List.replicate len z) (parts.toList.map fun p => (p.1, ev s p.2)) with
            | none => rfl
            | some es =>
              simp only [Option.bind_some]
              split
              · rename_i d hd
                rw [he d hd]
                simp only [cond_false]
                cases (es.all fun v => v.cells.all V.gnd) <;> rfl
              · rfl
  | load t p =>
    have hl : annLoc ann i = true := by
      simp only [hcls, ho] at hc
      cases hh : annLoc ann i <;> cases h2 : annN0 ann i <;> simp [hh, h2] at hc ⊢
    have hn := ha p (by rw [ho]; rfl) hl
    refine lift (fun r hr => ?_) (fun h' => ?_) <;> simp only [opX, ho] at *
    · simp only [Option.map_eq_some_iff] at hr
      obtain ⟨_, _, rfl⟩ := hr
      rfl
    · simp only [loadV]
      rw [rdMem_heap (h' := h') (h := h) hn, Option.map_map]
      rfl
  | store t p x =>
    have hl : annLoc ann i = true := by
      simp only [hcls, ho] at hc
      cases hh : annLoc ann i <;> simp [hh] at hc ⊢
    have hn := ha p (by rw [ho]; rfl) hl
    refine lift (fun r hr => ?_) (fun h' => ?_) <;> simp only [opX, ho, storeV] at *
    · simp only [Option.map_eq_some_iff] at hr
      obtain ⟨st1, h1, rfl⟩ := hr
      obtain ⟨_, h1⟩ := dead_eq h1
      cases hp : ev s p <;> rw [hp] at h1 hn <;> simp only [noHeap, wrMem, Bool.false_eq_true] at h1 hn
      · split at h1
        · simp only [Option.map_eq_some_iff] at h1
          obtain ⟨_, _, rfl⟩ := h1
          rfl
        · cases h1
      · cases h1
    · cases ((tAgg E.P t).isSome && ((ev s x).storable && (ev s x).cells.length == E.P.cellsOf t))
      · rfl
      · simp only [cond_true]
        cases hp : ev s p <;> rw [hp] at hn <;> simp only [noHeap, wrMem, Bool.false_eq_true] at hn ⊢
        · split
          · simp only [Option.map_map]; rfl
          · rfl
        · rfl
  | nilCheck x =>
    refine lift (fun r hr => ?_) (fun h' => ?_) <;> simp only [opX, ho] at *
    · split at hr <;> cases hr <;> rfl
    · split <;> rfl
  | binOp op t x y ty =>
    refine lift (fun r hr => ?_) (fun h' => ?_) <;> simp only [opX, ho] at *
    · simp only [Option.map_eq_some_iff] at hr
      obtain ⟨_, _, rfl⟩ := hr
      rfl
    · cases binV E op t (ev s x) (ev s y) <;> rfl
  | unOp op t x =>
    refine lift (fun r hr => ?_) (fun h' => ?_) <;> simp only [opX, ho] at *
    · split at hr <;> cases hr <;> rfl
    · split <;> rfl
  | convert t1 t2 x =>
    refine lift (fun r hr => ?_) (fun h' => ?_) <;> simp only [opX, ho] at *
    · split at hr <;> cases hr <;> rfl
    · split <;> rfl
  | makeFunc fn first caps =>
    refine lift (fun r hr => ?_) (fun h' => ?_) <;> simp only [opX, ho] at *
    · split at hr
      · obtain ⟨_, hr⟩ := dead_eq hr
        cases hr; rfl
      · cases hr
    · split
      · cases (first.isEmpty && (caps.toList.map (ev s)).all V.atomic) <;> rfl
      · rfl
  | fieldAddr t x f =>
    refine lift (fun r hr => ?_) (fun h' => ?_) <;> simp only [opX, ho] at *
    · simp only [Option.map_eq_some_iff] at hr
      obtain ⟨_, _, rfl⟩ := hr
      rfl
    · cases fieldAddrV E.P t (ev s x) f <;> rfl
  | index t x j =>
    refine lift (fun r hr => ?_) (fun h' => ?_) <;> simp only [opX, ho] at *
    · simp only [Option.map_eq_some_iff] at hr
      obtain ⟨_, _, rfl⟩ := hr
      rfl
    · cases indexV E.P t (ev s x) (ev s j) <;> rfl
  | extract x j =>
    refine lift (fun r hr => ?_) (fun h' => ?_) <;> simp only [opX, ho] at *
    · split at hr
      · simp only [Option.map_eq_some_iff] at hr
        obtain ⟨_, _, rfl⟩ := hr
        rfl
      · cases hr
    · split
      · rename_i l _; cases l[j]? <;> rfl
      · rfl
  | call cl =>
    simp only [hcls, ho] at hc
    refine lift (fun r hr => ?_) (fun h' => ?_) <;> simp only [opX, ho] at *
    · split at hc <;> rename_i hcal <;> first | (cases hl : annLoc ann i <;> cases h2 : annV0 ann i <;> cases h3 : pureC E cl <;> simp [hl, h2, h3] at hc; done) | (simp at hc; done) | skip
      all_goals
        rw [hcal] at hr
        simp only at hr
        try split at hr
      all_goals first | (simp only [Option.map_eq_some_iff] at hr; obtain ⟨_, _, rfl⟩ := hr; rfl) | (obtain ⟨_, hr⟩ := dead_eq hr; simp only [Option.map_eq_some_iff] at hr; obtain ⟨_, _, rfl⟩ := hr; rfl) | (cases hr; done) | contradiction
    · split at hc <;> rename_i hcal <;> first | (cases hl : annLoc ann i <;> cases h2 : annV0 ann i <;> cases h3 : pureC E cl <;> simp [hl, h2, h3] at hc; done) | (simp at hc; done) | skip
      all_goals
        rw [hcal]
        simp only
        try split
      all_goals first | rfl | (simp only [map_cond_none, Option.map_map]; rfl) | contradiction
  | slice t x lo hi mx =>
    have hl : annLoc ann i = true := by
      simp only [hcls, ho] at hc
      cases hh : annLoc ann i <;> simp [hh] at hc ⊢
    have hn := hsl x (.inl ⟨t, lo, hi, mx, ho⟩) hl
    have key : ∀ h', sliceV E.P h' t (ev s x) (lo.map (ev s)) (hi.map (ev s)) (mx.map (ev s)) = sliceV E.P h t (ev s x) (lo.map (ev s)) (hi.map (ev s)) (mx.map (ev s)) := fun h' => by
      cases hv : ev s x <;> rw [hv] at hn <;> first | rfl | (simp [V.isSl] at hn)
    refine lift (fun r hr => ?_) (fun h' => ?_) <;> simp only [opX, ho] at *
    · simp only [Option.map_eq_some_iff] at hr
      obtain ⟨_, _, rfl⟩ := hr
      rfl
    · rw [key h', Option.map_map]; rfl
  | indexAddr t x j =>
    have hl : annLoc ann i = true := by
      simp only [hcls, ho] at hc
      cases hh : annLoc ann i <;> simp [hh] at hc ⊢
    have hn := hsl x (.inr ⟨t, j, ho⟩) hl
    have key : ∀ h', indexAddrV E.P h' t (ev s x) (ev s j) = indexAddrV E.P h t (ev s x) (ev s j) := fun h' => by
      cases hv : ev s x <;> rw [hv] at hn <;> first | rfl | (simp [V.isSl] at hn)
    refine lift (fun r hr => ?_) (fun h' => ?_) <;> simp only [opX, ho] at *
    · simp only [Option.map_eq_some_iff] at hr
      obtain ⟨_, _, rfl⟩ := hr
      rfl
    · rw [key h', Option.map_map]; rfl
  | makeSlice t l c => simp [hcls, ho] at hc
  | _ => simp [opX, ho] at hx

theorem opX_heap1 {fn : Nat} {ann : List (Nat × Nat × Bool)} {i : Nat} {o : Oper} {s : List V} {h : Heap} {v : V} {st : St} (hx : opX E C Φ o ⟨s, h⟩ = some (v, st)) (hc : rdr (hcls E fn ann i o) = true) (hcall : isCall o.op = false) : st.h = h := by
  cases ho : o.op <;> simp only [hcls, ho] at hc <;> try (simp [rdr] at hc; done)
  all_goals first | (simp only [opX, ho, Option.map_eq_some_iff, Prod.mk.injEq] at hx; obtain ⟨_, _, _, rfl⟩ := hx; rfl) | skip
  · split at hc
    · rename_i d _; cases he : E.esc fn d <;> simp [he, rdr] at hc
    · cases hc
  · split at hc
    · rename_i d _; cases he : E.esc fn d <;> simp [he, rdr] at hc
    · cases hc
  · split at hc
    · rename_i d _; cases he : E.own fn d <;> simp [he, rdr] at hc
    · cases hc
  · cases hl : annLoc ann i <;> simp [hl, rdr] at hc
  · rw [ho] at hcall; cases hcall

/-- The heaps are the same but for the variable with number 0. -/
def SameOff (h h' : Heap) : Prop := h'.arrs = h.arrs ∧ ∀ k, k ≠ 0 → h'.vars[k]? = h.vars[k]?
theorem SameOff.symm {h h' : Heap} (g : SameOff h h') : SameOff h' h := ⟨g.1.symm, fun k hk => (g.2 k hk).symm⟩
theorem SameOff.refl (h : Heap) : SameOff h h := ⟨rfl, fun _ _ => rfl⟩

theorem opX_heap3 {fn : Nat} {ann : List (Nat × Nat × Bool)} {i : Nat} {o : Oper} {s : List V} {h h' : Heap} {v : V} {st : St} (hx : opX E C Φ o ⟨s, h⟩ = some (v, st)) (hc : hcls E fn ann i o = 3)
    (ha : ∀ p, addrOf o.op = some p → annOk ann i (ev s p) = true) (hh : SameOff h h') : opX E C Φ o ⟨s, h'⟩ = some (v, ⟨st.s, h'⟩) := by
  obtain ⟨hA, hV⟩ := hh
  have keep : ∀ x : Option V, opX E C Φ o ⟨s, h⟩ = x.map (fun w => (w, ⟨s, h⟩)) → opX E C Φ o ⟨s, h'⟩ = x.map (fun w => (w, ⟨s, h'⟩)) → opX E C Φ o ⟨s, h'⟩ = some (v, ⟨st.s, h'⟩) := by
    intro x h1 h2
    rw [h1] at hx
    simp only [Option.map_eq_some_iff, Prod.mk.injEq] at hx
    obtain ⟨w, rfl, rfl, rfl⟩ := hx
    rw [h2]; rfl
  cases ho : o.op with
  | load t p =>
    have hn : annN0 ann i = true := by
      simp only [hcls, ho] at hc
      cases h1 : annLoc ann i <;> cases h2 : annN0 ann i <;> simp [h1, h2] at hc ⊢
    have hk := ha p (by rw [ho]; rfl)
    have hr : rdMem ⟨s, h'⟩ (ev s p) = rdMem ⟨s, h⟩ (ev s p) := by
      unfold annOk at hk
      unfold annN0 at hn
      cases hf : ann.find? (fun x => x.1 == i) with
      | none => rw [hf] at hk; cases hk
      | some q =>
        obtain ⟨a, r, loc⟩ := q
        rw [hf] at hk hn
        simp only at hk hn
        cases hp : ev s p with
        | ptr id off =>
          rw [hp] at hk
          simp only [hn, Bool.not_true, Bool.false_or, Bool.and_eq_true, Bool.not_eq_true'] at hk
          have : id ≠ 0 := by intro e; subst e; simp at hk
          simp only [rdMem, hV id this]
        | aptr id ver j off => simp only [rdMem, hA]
        | _ => rfl
    exact keep (loadV E.P ⟨s, h⟩ t (ev s p)) (by simp only [opX, ho]) (by simp only [opX, ho, loadV, hr])
  | slice t x lo hi mx =>
    refine keep (sliceV E.P h t (ev s x) (lo.map (ev s)) (hi.map (ev s)) (mx.map (ev s))) (by simp only [opX, ho]) ?_
    have : sliceV E.P h' t (ev s x) (lo.map (ev s)) (hi.map (ev s)) (mx.map (ev s)) = sliceV E.P h t (ev s x) (lo.map (ev s)) (hi.map (ev s)) (mx.map (ev s)) := by
      cases ev s x <;> simp only [sliceV, wideOk, hA]
    simp only [opX, ho, this]
  | indexAddr t x j =>
    refine keep (indexAddrV E.P h t (ev s x) (ev s j)) (by simp only [opX, ho]) ?_
    have : indexAddrV E.P h' t (ev s x) (ev s j) = indexAddrV E.P h t (ev s x) (ev s j) := by
      cases ev s x <;> simp only [indexAddrV, wideOk, hA]
    simp only [opX, ho, this]
  | alloc t => simp only [hcls, ho] at hc; split at hc <;> first | (rename_i d _; cases he : E.esc fn d <;> simp [he] at hc; done) | cases hc
  | box t x => simp only [hcls, ho] at hc; split at hc <;> first | (rename_i d _; cases he : E.esc fn d <;> simp [he] at hc; done) | cases hc
  | buildSlice t n x => simp only [hcls, ho] at hc; split at hc <;> first | (rename_i d _; cases he : E.own fn d <;> simp [he] at hc; done) | cases hc
  | store t p x => simp only [hcls, ho] at hc; cases h1 : annLoc ann i <;> simp [h1] at hc
  | call c =>
    simp only [hcls, ho] at hc
    split at hc <;> first | (cases hc; done) | (cases hl : annLoc ann i <;> cases h2 : annV0 ann i <;> cases h3 : pureC E c <;> simp [hl, h2, h3] at hc; done)
  | _ => simp [hcls, ho] at hc

/-- A new row lies behind the others. -/
theorem opX_heap6 {ann : List (Nat × Nat × Bool)} {i : Nat} {o : Oper} {s : List V} {h : Heap} {v : V} {st : St} (hx : opX E C Φ o ⟨s, h⟩ = some (v, st)) (hc : hcls E C.fn ann i o = 6) : ∃ A, st.h = h.more A := by
  cases ho : o.op with
  | buildSlice t n x =>
    simp only [hcls, ho] at hc
    simp only [opX, ho, Option.bind_eq_some_iff] at hx
    obtain ⟨et, _, hx⟩ := hx
    obtain ⟨_, hx⟩ := dead_eq hx
    simp only [Option.bind_eq_some_iff] at hx
    obtain ⟨z, _, es, _, hx⟩ := hx
    split at hx
    · rename_i d hd
      rw [hd] at hc
      simp only at hc
      have he : E.own C.fn d = true := by cases he : E.own C.fn d <;> simp [he] at hc ⊢
      rw [he] at hx
      cases hx
      exact ⟨_, rfl⟩
    · cases hx
  | alloc t => simp only [hcls, ho] at hc; split at hc <;> first | (rename_i d _; cases he : E.esc C.fn d <;> simp [he] at hc; done) | cases hc
  | box t x => simp only [hcls, ho] at hc; split at hc <;> first | (rename_i d _; cases he : E.esc C.fn d <;> simp [he] at hc; done) | cases hc
  | load t p => simp only [hcls, ho] at hc; cases h1 : annLoc ann i <;> cases h2 : annN0 ann i <;> simp [h1, h2] at hc
  | store t p x => simp only [hcls, ho] at hc; cases h1 : annLoc ann i <;> simp [h1] at hc
  | slice t x lo hi mx => simp only [hcls, ho] at hc; cases h1 : annLoc ann i <;> simp [h1] at hc
  | indexAddr t x j => simp only [hcls, ho] at hc; cases h1 : annLoc ann i <;> simp [h1] at hc
  | call c =>
    simp only [hcls, ho] at hc
    split at hc <;> first | (cases hc; done) | (cases hl : annLoc ann i <;> cases h2 : annV0 ann i <;> cases h3 : pureC E c <;> simp [hl, h2, h3] at hc; done)
  | _ => simp [hcls, ho] at hc

/-- A pure call neither changes the heap nor looks at what is new. -/
theorem opX_heap5 (hΦ : PureΦ E Φ) {fn : Nat} {ann : List (Nat × Nat × Bool)} {i : Nat} {o : Oper} {s : List V} {h : Heap} {v : V} {st : St} (hx : opX E C Φ o ⟨s, h⟩ = some (v, st)) (hc : hcls E fn ann i o = 5) :
    st.h = h ∧ ∀ A, opX E C Φ o ⟨s, h.more A⟩ = some (v, ⟨st.s, h.more A⟩) := by
  cases ho : o.op with
  | call c =>
    have hp : pureC E c = true := by
      simp only [hcls, ho] at hc
      split at hc <;> first | (cases hc; done) | (cases hl : annLoc ann i <;> cases h2 : annV0 ann i <;> cases h3 : pureC E c <;> simp [hl, h2, h3] at hc ⊢; done)
    unfold pureC at hp
    split at hp
    · rename_i g hg
      have e : ∀ h, opX E C Φ o ⟨s, h⟩ = bif (c.args.toList.map (ev s)).all V.storable then (Φ (C.nv, C.na) g (c.args.toList.map (ev s) ++ []) h).bind fun r => bif resOk r.1 then some (r.1, { s := s, h := r.2 }) else none else none := by
        intro h; simp only [opX, ho, hg, ev]
      rw [e] at hx
      obtain ⟨hq, hx⟩ := dead_eq hx
      simp only [Option.bind_eq_some_iff] at hx
      obtain ⟨⟨v', h'⟩, h1, h2⟩ := hx
      obtain ⟨hr, h2⟩ := dead_eq h2
      simp only [Option.some.injEq, Prod.mk.injEq] at h2
      obtain ⟨rfl, rfl⟩ := h2
      obtain ⟨rfl, k⟩ := hΦ _ _ _ _ _ _ hp h1
      refine ⟨rfl, fun A => ?_⟩
      rw [e, hq, k A]
      simp only [cond_true, Option.bind_some]
      rw [hr]; rfl
    · cases hp
  | alloc t => simp only [hcls, ho] at hc; split at hc <;> first | (rename_i d _; cases he : E.esc fn d <;> simp [he] at hc; done) | cases hc
  | box t x => simp only [hcls, ho] at hc; split at hc <;> first | (rename_i d _; cases he : E.esc fn d <;> simp [he] at hc; done) | cases hc
  | buildSlice t n x => simp only [hcls, ho] at hc; split at hc <;> first | (rename_i d _; cases he : E.own fn d <;> simp [he] at hc; done) | cases hc
  | load t p => simp only [hcls, ho] at hc; cases h1 : annLoc ann i <;> cases h2 : annN0 ann i <;> simp [h1, h2] at hc
  | store t p x => simp only [hcls, ho] at hc; cases h1 : annLoc ann i <;> simp [h1] at hc
  | slice t x lo hi mx => simp only [hcls, ho] at hc; cases h1 : annLoc ann i <;> simp [h1] at hc
  | indexAddr t x j => simp only [hcls, ho] at hc; cases h1 : annLoc ann i <;> simp [h1] at hc
  | _ => simp [hcls, ho] at hc

mutual
theorem veq_eq : ∀ {x y : V}, veq x y = true → x = y
  | .int k n, y, h => by cases y <;> simp [veq] at h ⊢; exact h
  | .bool b, y, h => by cases y <;> simp [veq] at h ⊢; exact h
  | .str s, y, h => by cases y <;> simp [veq] at h ⊢; exact h
  | .nilp, y, h => by cases y <;> simp [veq] at h ⊢
  | .nils, y, h => by cases y <;> simp [veq] at h ⊢
  | .nilfn, y, h => by cases y <;> simp [veq] at h ⊢
  | .any, y, h => by cases y <;> simp [veq] at h ⊢
  | .lptr r o, y, h => by cases y <;> simp [veq] at h ⊢; exact h
  | .box v, y, h => by cases y <;> simp [veq] at h ⊢; exact veq_eq h
  | .ptr i o, y, h => by cases y <;> simp [veq] at h ⊢; exact h
  | .aptr a b c d, y, h => by cases y <;> simp [veq] at h ⊢; exact h
  | .fptr e o, y, h => by cases y <;> simp [veq] at h ⊢; exact ⟨veq_eq h.1, h.2⟩
  | .fl t g l, y, h => by cases y <;> simp [veq] at h ⊢; exact ⟨h.1, h.2.1, veqs_eq h.2.2⟩
  | .sl a b c d k, y, h => by cases y <;> simp [veq] at h ⊢; exact h
  | .fn f l, y, h => by cases y <;> simp [veq] at h ⊢; exact ⟨h.1, veqs_eq h.2⟩
  | .agg l, y, h => by cases y <;> simp [veq] at h ⊢; exact veqs_eq h
  | .tuple l, y, h => by cases y <;> simp [veq] at h ⊢; exact veqs_eq h
theorem veqs_eq : ∀ {x y : List V}, veqs x y = true → x = y
  | [], y, h => by cases y <;> simp [veqs] at h ⊢
  | x :: l, y, h => by cases y <;> simp [veqs] at h ⊢; exact ⟨veq_eq h.1, veqs_eq h.2⟩
end

mutual
theorem veq_refl : ∀ (x : V), veq x x = true
  | .int k n => by simp [veq]
  | .bool b => by simp [veq]
  | .str s => by simp [veq]
  | .nilp => by simp [veq]
  | .nils => by simp [veq]
  | .nilfn => by simp [veq]
  | .any => by simp [veq]
  | .lptr r o => by simp [veq]
  | .box v => by simp [veq, veq_refl v]
  | .ptr i o => by simp [veq]
  | .aptr a b c d => by simp [veq]
  | .fptr e o => by simp [veq, veq_refl e]
  | .fl t g l => by simp [veq, veqs_refl l]
  | .sl a b c d k => by simp [veq]
  | .fn f l => by simp [veq, veqs_refl l]
  | .agg l => by simp [veq, veqs_refl l]
  | .tuple l => by simp [veq, veqs_refl l]
theorem veqs_refl : ∀ (x : List V), veqs x x = true
  | [] => by simp [veqs]
  | x :: l => by simp [veqs, veq_refl x, veqs_refl l]
end
theorem arrsEq_refl : ∀ (x : List Arr), arrsEq x x = true
  | [] => rfl
  | a :: l => by simp [arrsEq, veqs_refl, arrsEq_refl l]
theorem heapEq_refl (h : Heap) : heapEq h h = true := by simp [heapEq, veqs_refl, arrsEq_refl]

theorem heapEq0_refl (h : Heap) : heapEq0 h h = true := by simp [heapEq0, veqs_refl, arrsEq_refl]

theorem arrsEq_eq : ∀ {x y : List Arr}, arrsEq x y = true → x = y
  | [], y, h => by cases y <;> simp [arrsEq] at h ⊢
  | ⟨e, v, o, s⟩ :: l, y, h => by
    cases y with
    | nil => simp [arrsEq] at h
    | cons b m =>
      obtain ⟨e', v', o', s'⟩ := b
      simp [arrsEq] at h
      obtain ⟨h1, h2, h3, h4, h5⟩ := h
      have := veqs_eq h1; subst this; subst h2 h3 h4
      rw [arrsEq_eq h5]
theorem heapEq_eq {x y : Heap} (h : heapEq x y = true) : x = y := by
  obtain ⟨a, b⟩ := x; obtain ⟨a', b'⟩ := y
  simp [heapEq] at h
  rw [veqs_eq h.1, arrsEq_eq h.2]
theorem heapEq0_off {x y : Heap} (h : heapEq0 x y = true) : SameOff x y := by
  simp [heapEq0] at h
  refine ⟨(arrsEq_eq h.2).symm, fun k hk => ?_⟩
  have := congrArg (fun l : List V => l[k - 1]?) (show x.vars.drop 1 = y.vars.drop 1 from veqs_eq (by simpa using h.1))
  simp only [List.getElem?_drop] at this
  have e : 1 + (k - 1) = k := by omega
  rw [e] at this
  exact this.symm
end
end Go.DM
namespace Go.DM

section
variable {E : Env} {C : Ctx} {Φ : Oracle} {ann : List (Nat × Nat × Bool)} {an : Option (List (Nat × Nat × Bool))} {ops : Array Oper}

theorem opStep_eq {i : Nat} {o : Oper} (ho : ops[i]? = some o) (st : St) : opStep E C Φ an ops i st = (wantedV ops o st.s).bind fun w =>
    bif w then
      bif preOk an i o st.s then
        (opX E C Φ o st).bind fun r => bif postOk an i o st.h r.2.h then some { r.2 with s := putV r.2.s o.dst r.1 } else none
      else none
    else some { st with s := putV st.s o.dst undefV } := by
  simp only [opStep, ho]

theorem wanted_agree {o : Oper} {s s' : List V} (ha : ∀ t ∈ o.looksAt ops, s'[t]? = s[t]?) : wantedV ops o s' = wantedV ops o s := by
  unfold wantedV
  cases hg : o.guard with
  | none => rfl
  | some g =>
    obtain ⟨j, want⟩ := g
    simp only
    cases hd : (ops[j]?).bind (·.dst) with
    | none => rfl
    | some d =>
      simp only [Option.bind_some]
      rw [ha d (by simp [Oper.looksAt, hg, hd])]

theorem looks_op {o : Oper} {t : Nat} (h : Operand.tmp t ∈ o.op.operands) : t ∈ o.looksAt ops := by
  simp only [Oper.looksAt, List.mem_append, List.mem_filterMap]
  exact .inl ⟨.tmp t, by simpa using h, rfl⟩

theorem addrOf_mem {op : Op} {p : Operand} (h : addrOf op = some p) : p ∈ op.operands := by
  cases op <;> simp [addrOf] at h <;> subst h <;> simp [Op.operands]

theorem ev_op {o : Oper} {s s' : List V} (ha : ∀ t ∈ o.looksAt ops, s'[t]? = s[t]?) {x : Operand} (hx : x ∈ o.op.operands) : ev s' x = ev s x :=
  ev_agree fun t ht => ha t (looks_op (ht ▸ hx))

theorem preOk_agree {i : Nat} {o : Oper} {s s' : List V} (ha : ∀ t ∈ o.looksAt ops, s'[t]? = s[t]?) : preOk an i o s' = preOk an i o s := by
  unfold preOk
  cases an with
  | none => rfl
  | some l =>
    simp only
    cases hp : addrOf o.op with
    | some p => simp only; rw [ev_op ha (addrOf_mem hp)]
    | none =>
      simp only
      cases ho : o.op <;> simp only
      · rw [ev_op ha (by simp [ho, Op.operands])]
      · rw [ev_op ha (by simp [ho, Op.operands])]

def dstW (o : Oper) (v : V) : List (Nat × V) := o.dst.toList.map fun d => (d, v)
theorem putV_wrs {s : List V} {o : Oper} {v : V} : putV s o.dst v = wrs s (dstW o v) := by
  cases h : o.dst <;> simp [putV, dstW, wrs, h]
theorem wrs_app {s : List V} {a b : List (Nat × V)} : wrs (wrs s a) b = wrs s (a ++ b) := by simp [wrs]
theorem dstW_mem {o : Oper} {v : V} {i : Nat} : ∀ p ∈ dstW o v, p.1 ∈ wrS ann i o := by
  intro p hp
  simp only [dstW, List.mem_map] at hp
  obtain ⟨d, hd, rfl⟩ := hp
  simp only [wrS, List.mem_append]
  exact .inr hd

theorem step_local {i : Nat} {o : Oper} {s s' : List V} {h : Heap} {st : St} (ho : ops[i]? = some o) (h1 : opStep E C Φ (some ann) ops i ⟨s, h⟩ = some st) (ha : ∀ t ∈ rdS ann ops i o, s'[t]? = s[t]?) :
    ∃ ws, (∀ p ∈ ws, p.1 ∈ wrS ann i o) ∧ st.s = wrs s ws ∧ opStep E C Φ (some ann) ops i ⟨s', h⟩ = some ⟨wrs s' ws, st.h⟩ := by
  have hl : ∀ t ∈ o.looksAt ops, s'[t]? = s[t]? := fun t ht => ha t (by simp [rdS, ht])
  rw [opStep_eq ho] at h1 ⊢
  simp only at h1 ⊢
  rw [wanted_agree hl]
  simp only [Option.bind_eq_some_iff] at h1
  obtain ⟨b, hw, h1⟩ := h1
  rw [hw]
  cases b with
  | false =>
    simp only [cond_false, Option.some.injEq] at h1
    subst h1
    exact ⟨dstW o undefV, dstW_mem, putV_wrs, by simp [putV_wrs]⟩
  | true =>
    simp only [cond_true] at h1
    obtain ⟨hp, h1⟩ := dead_eq h1
    simp only [Option.bind_eq_some_iff] at h1
    obtain ⟨r, hr, h1⟩ := h1
    obtain ⟨hq, h1⟩ := dead_eq h1
    simp only [Option.some.injEq] at h1
    subst h1
    have hm : ∀ p, addrOf o.op = some p → ∀ r q, ev s p = .lptr r q → r ∈ annRoot ann i o := by
      intro p hpa r q hrq
      simp only [preOk, hpa] at hp
      rw [hrq] at hp
      exact annOk_root hp hpa
    obtain ⟨ws, k1, k2, k3⟩ := opX_local (v := r.1) (st := r.2) hr (fun t ht => hl t (looks_op ht)) (fun p hpa r q hrq => ha r (by simp [rdS, hm p hpa r q hrq]))
    refine ⟨ws ++ dstW o r.1, fun p hp' => ?_, by rw [putV_wrs, k2, wrs_app], ?_⟩
    · rcases List.mem_append.1 hp' with h' | h'
      · obtain ⟨hst, q, k, hq1, hq2⟩ := k1 p h'
        simp only [wrS, hst, cond_true, List.mem_append]
        exact .inl (hm q hq1 p.1 k hq2)
      · exact dstW_mem p h'
    · simp only [Option.bind_some, cond_true]
      rw [preOk_agree hl, hp]
      simp only [cond_true, k3, Option.bind_some]
      rw [hq]
      simp only [cond_true, putV_wrs, wrs_app]

theorem step_heap0 {i : Nat} {o : Oper} {s : List V} {h : Heap} {st : St} (ho : ops[i]? = some o) (hc : hcls E C.fn ann i o = 0) (h1 : opStep E C Φ (some ann) ops i ⟨s, h⟩ = some st) :
    st.h = h ∧ ∀ h', opStep E C Φ (some ann) ops i ⟨s, h'⟩ = some ⟨st.s, h'⟩ := by
  rw [opStep_eq ho] at h1
  simp only [Option.bind_eq_some_iff] at h1
  obtain ⟨b, hw, h1⟩ := h1
  cases b with
  | false =>
    simp only [cond_false, Option.some.injEq] at h1
    subst h1
    exact ⟨rfl, fun h' => by rw [opStep_eq ho]; simp only; rw [hw]; rfl⟩
  | true =>
    simp only [cond_true] at h1
    obtain ⟨hp, h1⟩ := dead_eq h1
    simp only [Option.bind_eq_some_iff] at h1
    obtain ⟨r, hr, h1⟩ := h1
    obtain ⟨hq, h1⟩ := dead_eq h1
    simp only [Option.some.injEq] at h1
    subst h1
    obtain ⟨k1, k2⟩ := opX_heap0 (fn := C.fn) rfl (v := r.1) (st := r.2) hr hc (fun p hpa hl => by
      simp only [preOk, hpa] at hp
      exact annOk_loc hp hl) (fun x hx hl => by
      rcases hx with ⟨t, lo, hi, mx, hx⟩ | ⟨t, j, hx⟩ <;> simpa [preOk, addrOf, hx, hl] using hp)
    refine ⟨k1, fun h' => ?_⟩
    rw [opStep_eq ho]
    simp only
    rw [hw]
    simp only [Option.bind_some, cond_true]
    rw [hp]
    simp only [cond_true, k2 h', Option.bind_some]
    have hpost : postOk (some ann) i o h' h' = true := by
      simp only [postOk, heapEq_refl, heapEq0_refl, Bool.cond_self]
    rw [hpost]
    rfl

theorem step_parts {i : Nat} {o : Oper} {s : List V} {h : Heap} {st : St} (ho : ops[i]? = some o) (h1 : opStep E C Φ (some ann) ops i ⟨s, h⟩ = some st) :
    (wantedV ops o s = some false ∧ st = ⟨putV s o.dst undefV, h⟩) ∨ (wantedV ops o s = some true ∧ preOk (some ann) i o s = true ∧ ∃ v st1, opX E C Φ o ⟨s, h⟩ = some (v, st1) ∧ postOk (some ann) i o h st1.h = true ∧ st = ⟨putV st1.s o.dst v, st1.h⟩) := by
  rw [opStep_eq ho] at h1
  simp only [Option.bind_eq_some_iff] at h1
  obtain ⟨b, hw, h1⟩ := h1
  cases b with
  | false =>
    simp only [cond_false, Option.some.injEq] at h1
    exact .inl ⟨hw, h1.symm⟩
  | true =>
    simp only [cond_true] at h1
    obtain ⟨hp, h1⟩ := dead_eq h1
    simp only [Option.bind_eq_some_iff] at h1
    obtain ⟨r, hr, h1⟩ := h1
    obtain ⟨hq, h1⟩ := dead_eq h1
    simp only [Option.some.injEq] at h1
    exact .inr ⟨hw, hp, r.1, r.2, hr, hq, h1.symm⟩
theorem step_skip {i : Nat} {o : Oper} {s : List V} {h : Heap} (ho : ops[i]? = some o) (hw : wantedV ops o s = some false) : opStep E C Φ (some ann) ops i ⟨s, h⟩ = some ⟨putV s o.dst undefV, h⟩ := by
  rw [opStep_eq ho]; simp only [hw, Option.bind_some, cond_false]
theorem step_go {i : Nat} {o : Oper} {s : List V} {h : Heap} {v : V} {st1 : St} (ho : ops[i]? = some o) (hw : wantedV ops o s = some true) (hp : preOk (some ann) i o s = true) (hr : opX E C Φ o ⟨s, h⟩ = some (v, st1)) (hq : postOk (some ann) i o h st1.h = true) :
    opStep E C Φ (some ann) ops i ⟨s, h⟩ = some ⟨putV st1.s o.dst v, st1.h⟩ := by
  rw [opStep_eq ho]; simp only [hw, Option.bind_some, cond_true, hp, hr, hq]

theorem step_heap1 {i : Nat} {o : Oper} {s : List V} {h : Heap} {st : St} (ho : ops[i]? = some o) (hc : rdr (hcls E C.fn ann i o) = true) (h1 : opStep E C Φ (some ann) ops i ⟨s, h⟩ = some st) : st.h = h := by
  rcases step_parts ho h1 with ⟨_, rfl⟩ | ⟨_, _, v, st1, hr, hq, rfl⟩
  · rfl
  · cases hcall : isCall o.op with
    | false => exact opX_heap1 (st := st1) hr hc hcall
    | true =>
      have hl : annLoc ann i = true := by
        cases hop : o.op <;> rw [hop] at hcall <;> simp [isCall] at hcall
        rename_i c
        simp only [hcls, hop] at hc
        split at hc <;> first | (cases hc; done) | skip
        cases hh : annLoc ann i <;> cases h2 : annV0 ann i <;> cases h3 : pureC E c <;> simp [hh, h2, h3, rdr] at hc ⊢
      simp only [postOk, hcall, hl, Bool.and_self, cond_true] at hq
      exact (heapEq_eq hq).symm

theorem step_heap3 {i : Nat} {o : Oper} {s : List V} {h h' : Heap} {st : St} (ho : ops[i]? = some o) (hc : hcls E C.fn ann i o = 3) (h1 : opStep E C Φ (some ann) ops i ⟨s, h⟩ = some st) (hh : SameOff h h') : opStep E C Φ (some ann) ops i ⟨s, h'⟩ = some ⟨st.s, h'⟩ := by
  rcases step_parts ho h1 with ⟨hw, rfl⟩ | ⟨hw, hp, v, st1, hr, hq, rfl⟩
  · exact step_skip ho hw
  · have k := opX_heap3 (h' := h') hr hc (fun p hp' => by simpa only [preOk, hp'] using hp) hh
    refine step_go ho hw hp k ?_
    cases hcall : isCall o.op with
    | false => simp only [postOk, hcall, Bool.false_and, cond_false]
    | true =>
      cases hop : o.op <;> rw [hop] at hcall <;> simp [isCall] at hcall
      rename_i c
      simp only [hcls, hop] at hc
      split at hc <;> first | (cases hc; done) | (cases hl : annLoc ann i <;> cases h2 : annV0 ann i <;> cases h3 : pureC E c <;> simp [hl, h2, h3] at hc; done)

theorem step_heap4 {i : Nat} {o : Oper} {s : List V} {h : Heap} {st : St} (ho : ops[i]? = some o) (hc : hcls E C.fn ann i o = 4) (h1 : opStep E C Φ (some ann) ops i ⟨s, h⟩ = some st) : SameOff h st.h := by
  rcases step_parts ho h1 with ⟨_, rfl⟩ | ⟨_, _, v, st1, hr, hq, rfl⟩
  · exact SameOff.refl _
  · have h2 : isCall o.op = true ∧ annLoc ann i = false ∧ annV0 ann i = true := by
      cases hop : o.op with
      | call c =>
        simp only [hcls, hop] at hc
        split at hc <;> first | (cases hc; done) | (cases hl : annLoc ann i <;> cases h2 : annV0 ann i <;> cases h3 : pureC E c <;> simp [hl, h2, h3, isCall] at hc ⊢; done)
      | alloc t => simp only [hcls, hop] at hc; split at hc <;> first | (rename_i d _; cases he : E.esc C.fn d <;> simp [he] at hc; done) | cases hc
      | box t x => simp only [hcls, hop] at hc; split at hc <;> first | (rename_i d _; cases he : E.esc C.fn d <;> simp [he] at hc; done) | cases hc
      | buildSlice t n x => simp only [hcls, hop] at hc; split at hc <;> first | (rename_i d _; cases he : E.own C.fn d <;> simp [he] at hc; done) | cases hc
      | load t p => simp only [hcls, hop] at hc; cases h1 : annLoc ann i <;> cases h2 : annN0 ann i <;> simp [h1, h2] at hc
      | store t p x => simp only [hcls, hop] at hc; cases h1 : annLoc ann i <;> simp [h1] at hc
      | slice t x lo hi mx => simp only [hcls, hop] at hc; cases h1 : annLoc ann i <;> simp [h1] at hc
      | indexAddr t x j => simp only [hcls, hop] at hc; cases h1 : annLoc ann i <;> simp [h1] at hc
      | _ => simp [hcls, hop] at hc
    simp only [postOk, h2, Bool.and_false, Bool.and_true, cond_false, cond_true] at hq
    exact heapEq0_off hq

theorem step_heap5 (hΦ : PureΦ E Φ) {i : Nat} {o : Oper} {s : List V} {h : Heap} {st : St} (ho : ops[i]? = some o) (hc : hcls E C.fn ann i o = 5) (h1 : opStep E C Φ (some ann) ops i ⟨s, h⟩ = some st) :
    st.h = h ∧ ∀ A, opStep E C Φ (some ann) ops i ⟨s, h.more A⟩ = some ⟨st.s, h.more A⟩ := by
  rcases step_parts ho h1 with ⟨hw, rfl⟩ | ⟨hw, hp, v, st1, hr, hq, rfl⟩
  · exact ⟨rfl, fun A => step_skip ho hw⟩
  · obtain ⟨e, k⟩ := opX_heap5 hΦ hr hc
    refine ⟨e, fun A => step_go ho hw hp (k A) ?_⟩
    simp only [postOk, heapEq_refl, heapEq0_refl, Bool.cond_self]

theorem step_heap6 {i : Nat} {o : Oper} {s : List V} {h : Heap} {st : St} (ho : ops[i]? = some o) (hc : hcls E C.fn ann i o = 6) (h1 : opStep E C Φ (some ann) ops i ⟨s, h⟩ = some st) : st.h = h ∨ ∃ A, st.h = h.more A := by
  rcases step_parts ho h1 with ⟨_, rfl⟩ | ⟨_, _, v, st1, hr, hq, rfl⟩
  · exact .inl rfl
  · exact .inr (opX_heap6 (st := st1) hr hc)

theorem step_swap (hΦ : PureΦ E Φ) {i j : Nat} {x y : Oper} (hi : ops[i]? = some x) (hj : ops[j]? = some y) (hij : apartAt E C.fn ann ops i x j y = true) {st st1 st2 : St}
    (h1 : opStep E C Φ (some ann) ops i st = some st1) (h2 : opStep E C Φ (some ann) ops j st1 = some st2) :
    ∃ st1', opStep E C Φ (some ann) ops j st = some st1' ∧ opStep E C Φ (some ann) ops i st1' = some st2 := by
  obtain ⟨s, h⟩ := st
  obtain ⟨s1, g1⟩ := st1
  obtain ⟨s2, g2⟩ := st2
  simp only [apartAt, Bool.and_eq_true] at hij
  obtain ⟨d1, d2, d3, hh⟩ := hij
  -- the slots
  obtain ⟨wi, a1, a2, _⟩ := step_local (s' := s) hi h1 (fun _ _ => rfl)
  simp only at a2
  have agj : ∀ t ∈ rdS ann ops j y, s[t]? = s1[t]? := fun t ht => by
    rw [a2, wrs_get fun p hp => disj_ne d1 (a1 p hp) ht]
  obtain ⟨wj, b1, b2, b3⟩ := step_local (s' := s) hj h2 agj
  simp only at b2 b3
  have agi : ∀ t ∈ rdS ann ops i x, (wrs s wj)[t]? = s[t]? := fun t ht => wrs_get fun p hp => disj_ne d2 (b1 p hp) ht
  obtain ⟨wi', c1, c2, c3⟩ := step_local (s' := wrs s wj) hi h1 agi
  simp only at c2 c3
  have es : s2 = wrs (wrs s wj) wi' := by
    rw [b2, c2]
    exact wrs_comm fun p hp q hq => disj_ne d3 (c1 p hp) (b1 q hq)
  -- the heap
  simp only [hApart, Bool.or_eq_true, Bool.and_eq_true] at hh
  rcases hh with h0 | h0 | h0 | h0 | h0 | h0
  · have h0 := Nat.eq_of_beq_eq_true h0
    obtain ⟨e1, _⟩ := step_heap0 hi h0 h1
    simp only at e1; subst e1
    obtain ⟨_, e2⟩ := step_heap0 hi h0 c3
    exact ⟨_, b3, by rw [e2, es]⟩
  · have h0 := Nat.eq_of_beq_eq_true h0
    obtain ⟨e1, _⟩ := step_heap0 hj h0 h2
    simp only at e1; subst e1
    obtain ⟨_, e2⟩ := step_heap0 hj h0 b3
    exact ⟨_, e2 h, by rw [c3, es]⟩
  · have q1 := step_heap1 hi h0.1 h1
    have q2 := step_heap1 hj h0.2 h2
    simp only at q1 q2; subst q1; subst q2
    exact ⟨_, b3, by rw [c3, es]⟩
  · have q1 := step_heap1 hi (by rw [Nat.eq_of_beq_eq_true h0.1]; rfl) h1
    simp only at q1; subst q1
    have q2 := step_heap4 hj (Nat.eq_of_beq_eq_true h0.2) h2
    have := step_heap3 hi (Nat.eq_of_beq_eq_true h0.1) c3 q2
    exact ⟨_, b3, by rw [this, es]⟩
  · have q1 := step_heap4 hi (Nat.eq_of_beq_eq_true h0.1) h1
    have q2 := step_heap1 hj (by rw [Nat.eq_of_beq_eq_true h0.2]; rfl) h2
    simp only at q1 q2; subst q2
    have := step_heap3 hj (Nat.eq_of_beq_eq_true h0.2) b3 q1.symm
    exact ⟨_, this, by rw [c3, es]⟩
  · obtain ⟨q1, _⟩ := step_heap5 hΦ hi (Nat.eq_of_beq_eq_true h0.1) h1
    simp only at q1; subst q1
    obtain ⟨_, q3⟩ := step_heap5 hΦ hi (Nat.eq_of_beq_eq_true h0.1) c3
    rcases step_heap6 hj (Nat.eq_of_beq_eq_true h0.2) h2 with q2 | ⟨A, q2⟩
    · simp only at q2; subst q2
      exact ⟨_, b3, by rw [c3, es]⟩
    · simp only at q2; subst q2
      exact ⟨_, b3, by rw [q3 A, es]⟩
end
end Go.DM
namespace Go.DM

def isVar : Op → Bool
  | .alloc _ | .box _ _ => true
  | _ => false
def hasTmp (o : Oper) (d : Nat) : Bool := o.op.operands.toList.any fun x => match x with
  | .tmp t => Nat.beq t d
  | _ => false

/-- No operation ahead of a new variable looks at its slot. -/
def allocOk (ops : Array Oper) : Bool := (List.range ops.size).all fun i => match ops[i]? with
  | some o => bif isVar o.op then (match o.dst with
    | some d => (List.range (i + 1)).all fun j => match ops[j]? with
      | some oj => !(hasTmp oj d)
      | none => true
    | none => true) else true
  | none => true

def ancRow (T : List (List Nat)) (o : Oper) : List Nat :=
  (o.after.toList.flatMap fun e => bif Region.binds .any e then e.on :: T.getD e.on [] else []).eraseDups
def ancT (l : List Oper) : List (List Nat) := l.foldl (fun T o => T ++ [ancRow T o]) []

/-- May the operations be done in any order that the edges leave? -/
def drawOk (E : Env) (fn : Nat) (ann : List (Nat × Nat × Bool)) (ops : Array Oper) : Bool :=
  let T := ancT ops.toList
  allocOk ops && (List.range ops.size).all fun i => match ops[i]? with
    | some x => (x.after.toList.all fun e => !(Region.binds .any e) || Nat.blt e.on i) && (List.range i).all fun j => (T.getD i []).any (Nat.beq j) || match ops[j]? with
      | some y => apartAt E fn ann ops j y i x
      | none => true
    | none => true

section
variable {F : Bool → Nat → Prop} {M : Mu} {w w' : World} {E : Env} {C : Ctx} {Φ : Oracle} {an : Option (List (Nat × Nat × Bool))} {ops : Array Oper}

theorem hasTmp_iff {o : Oper} {d : Nat} : hasTmp o d = true ↔ Operand.tmp d ∈ o.op.operands := by
  simp only [hasTmp, List.any_eq_true]
  constructor
  · rintro ⟨x, hx, h⟩
    cases x with
    | tmp t => have := Nat.eq_of_beq_eq_true h; subst this; simpa using hx
    | _ => cases h
  · intro h
    exact ⟨.tmp d, by simpa using h, by simp⟩

theorem allocOk_spec (h : allocOk ops = true) {i j : Nat} {o oj : Oper} {d : Nat} (ho : ops[i]? = some o) (hv : isVar o.op = true) (hd : o.dst = some d) (hj : ops[j]? = some oj) (hij : j ≤ i) : Operand.tmp d ∉ oj.op.operands := by
  simp only [allocOk, List.all_eq_true] at h
  have h1 := h i (by simp [(Array.getElem?_eq_some_iff.1 ho).1])
  rw [ho] at h1
  simp only [hv, cond_true, hd, List.all_eq_true] at h1
  have h2 := h1 j (by simp; omega)
  rw [hj] at h2
  intro hm
  simp [hasTmp_iff.2 hm] at h2

theorem opX_slots {o : Oper} {s : List V} {h : Heap} {v : V} {st : St} (hx : opX E C Φ o ⟨s, h⟩ = some (v, st)) {t r off : Nat} (ht : st.s[t]? = some (.lptr r off)) : s[t]? = some (.lptr r off) := by
  by_cases hst : isStore o.op = true
  · cases ho : o.op <;> rw [ho] at hst <;> simp [isStore] at hst
    rename_i ty p x
    simp only [opX, ho, Option.map_eq_some_iff, Prod.mk.injEq] at hx
    obtain ⟨st1, hw, _, rfl⟩ := hx
    simp only [storeV] at hw
    obtain ⟨_, hw⟩ := dead_eq hw
    cases hp : ev s p <;> rw [hp] at hw <;> simp only [wrMem] at hw
    case lptr r' q =>
      split at hw
      · simp only [Option.map_eq_some_iff] at hw
        obtain ⟨v', _, rfl⟩ := hw
        simp only at ht
        by_cases e : r' = t
        · subst e
          rw [List.getElem?_set] at ht
          simp only [if_true] at ht
          split at ht <;> simp at ht
        · rwa [List.getElem?_set_ne e] at ht
      · cases hw
    case ptr =>
      simp only [Option.bind_eq_some_iff] at hw
      obtain ⟨_, _, _, _, hw⟩ := hw
      obtain ⟨_, hw⟩ := dead_eq hw
      cases hw; exact ht
    case aptr =>
      simp only [Option.bind_eq_some_iff] at hw
      obtain ⟨_, _, hw⟩ := hw
      obtain ⟨_, hw⟩ := dead_eq hw
      simp only [Option.bind_eq_some_iff] at hw
      obtain ⟨_, _, _, _, hw⟩ := hw
      obtain ⟨_, hw⟩ := dead_eq hw
      cases hw; exact ht
    all_goals cases hw
  · obtain ⟨ws, h1, h2, _⟩ := opX_local (s' := s) hx (fun _ _ => rfl) (fun _ _ _ _ _ => rfl)
    have : ws = [] := by
      cases ws with
      | nil => rfl
      | cons p ws => exact absurd (h1 p (by simp)).1 hst
    subst this
    rw [h2] at ht
    exact ht

theorem wanted_sound {s : List V} {a : Act} (hs : SimS F M w s a) {o : Oper} {b : Bool} (h : wantedV ops o s = some b) : Region.wanted o (yielded ops a.tmps) = b := by
  unfold wantedV at h
  unfold Region.wanted
  cases hg : o.guard with
  | none => rw [hg] at h; simpa using h
  | some g =>
    obtain ⟨j, want⟩ := g
    rw [hg] at h
    simp only at h ⊢
    unfold yielded
    cases hd : (ops[j]?).bind (·.dst) with
    | none => rw [hd] at h; simp at h ⊢; exact h
    | some d =>
      rw [hd] at h
      simp only [Option.bind_some] at h ⊢
      cases hsd : s[d]? with
      | none =>
        rw [hsd] at h
        have : a.tmps[d]? = none := by
          rw [List.getElem?_eq_none_iff, hs.len] at hsd
          simpa using hsd
        rw [this]
        simp at h ⊢; exact h
      | some v =>
        have hlt : d < a.tmps.size := hs.len ▸ (List.getElem?_eq_some_iff.1 hsd).1
        have hc : a.tmps[d]? = some a.tmps[d] := by simp [hlt]
        have hr := hs.slot d v _ hsd hc
        rw [hc]
        generalize a.tmps[d] = c at hr
        have key : ∀ (v' : V), RV F M w v' c → (∀ x, v' ≠ .bool x) → v' ≠ .any → ∀ x, c ≠ .bool x := by
          intro v' hv h1 h2 x hx
          subst hx
          cases v' with
          | bool b => exact h1 b rfl
          | any => exact h2 rfl
          | int k n => cases hv
          | str l => cases hv
          | nilp => cases hv
          | nils => cases hv
          | nilfn => cases hv
          | lptr r q => cases hv
          | box v => cases hv
          | ptr i q => obtain ⟨_, _, h⟩ := hv; cases h
          | aptr i q j k => obtain ⟨_, _, _, _, h, _⟩ := hv; cases h
          | fptr e q => obtain ⟨_, _, h, _⟩ := hv; cases h
          | fl t g l => cases hv
          | sl i q j k c => obtain ⟨_, _, _, _, _, _, h, _⟩ := hv; cases h
          | fn f l => obtain ⟨_, h, _⟩ := hv; cases h
          | agg l => obtain ⟨_, h, _⟩ := hv; cases h
          | tuple l => obtain ⟨_, h, _⟩ := hv; cases h
        rw [hsd] at h
        by_cases hb : ∃ x, c = .bool x
        · obtain ⟨x, rfl⟩ := hb
          cases v with
          | bool y =>
            have e : Value.bool x = .bool y := rev_bool (RV.toREv hr)
            cases e
            simpa using h
          | any => simp at h
          | lptr r q => obtain ⟨_, _, hc'⟩ := hr; cases hc'
          | box u => obtain ⟨_, _, hc', _⟩ := hr; cases hc'
          | int za zb => exact absurd rfl (key (.int za zb) hr (by simp) (by simp) x)
          | str za => exact absurd rfl (key (.str za) hr (by simp) (by simp) x)
          | nilp => exact absurd rfl (key (.nilp) hr (by simp) (by simp) x)
          | nils => exact absurd rfl (key (.nils) hr (by simp) (by simp) x)
          | nilfn => exact absurd rfl (key (.nilfn) hr (by simp) (by simp) x)
          | ptr za zb => exact absurd rfl (key (.ptr za zb) hr (by simp) (by simp) x)
          | aptr za zb zc zd => exact absurd rfl (key (.aptr za zb zc zd) hr (by simp) (by simp) x)
          | fptr za zb => exact absurd rfl (key (.fptr za zb) hr (by simp) (by simp) x)
          | fl za zb zc => exact absurd rfl (key (.fl za zb zc) hr (by simp) (by simp) x)
          | sl za zb zc zd ze => exact absurd rfl (key (.sl za zb zc zd ze) hr (by simp) (by simp) x)
          | fn za zb => exact absurd rfl (key (.fn za zb) hr (by simp) (by simp) x)
          | agg za => exact absurd rfl (key (.agg za) hr (by simp) (by simp) x)
          | tuple za => exact absurd rfl (key (.tuple za) hr (by simp) (by simp) x)
        · have hbf : b = false := by
            cases v with
            | bool y => exact absurd ⟨y, rev_bool (RV.toREv hr)⟩ hb
            | any => simp at h
            | _ => simp at h; exact h
          subst hbf
          cases c <;> first | rfl | exact absurd ⟨_, rfl⟩ hb

/-- One step of a region. -/
theorem step_sound (hΦ : SoundΦ E Φ) (hE : EnvOk E) {s : List V} {H : Heap} {a : Act} (hs : SimS F M w s a) (hh : SimH F M w H) {i : Nat} {o : Oper} (ho : ops[i]? = some o)
    (hpend : isVar o.op = true → ∀ d, o.dst = some d → ∀ (t : Nat) off, s[t]? ≠ some (.lptr d off)) {st : St} (h : opStep E C Φ an ops i ⟨s, H⟩ = some st) {Q : Exit → Act → World → Prop} {K : Act → World → Prop}
    (hn : ∀ M' w' a', Fr M M' w w' → SimH F M' w' st.h → SimS F M' w' st.s a' → (∀ (t : Nat) r off, st.s[t]? = some (.lptr r off) → LSrc o s r ∧ (s[t]? = some (.lptr r off) ∨ o.dst = some t)) → K a' w') : wpOp E.P ops Q i K a w := by
  rw [opStep_eq ho] at h
  simp only [Option.bind_eq_some_iff] at h
  obtain ⟨b, hw, h⟩ := h
  have hwant := wanted_sound hs hw
  unfold wpOp
  simp only [ho]
  rw [hwant]
  have slots : ∀ (s1 : List V) (v : V), (∀ (t : Nat) r off, s1[t]? = some (.lptr r off) → s[t]? = some (.lptr r off)) → (∀ r off, v = .lptr r off → LSrc o s r) →
      ∀ (t : Nat) r off, (putV s1 o.dst v)[t]? = some (.lptr r off) → LSrc o s r ∧ (s[t]? = some (.lptr r off) ∨ o.dst = some t) := by
    intro s1 v h1 h2 t r off ht
    cases hd : o.dst with
    | none => rw [hd] at ht; have := h1 t r off ht; exact ⟨.inr ⟨t, off, this⟩, .inl this⟩
    | some d =>
      rw [hd] at ht
      simp only [putV] at ht
      by_cases e : d = t
      · subst e
        rw [List.getElem?_set] at ht
        simp only [if_true] at ht
        split at ht
        · exact ⟨h2 r off (by simpa using ht), .inr rfl⟩
        · cases ht
      · rw [List.getElem?_set_ne e] at ht
        have := h1 t r off ht
        exact ⟨.inr ⟨t, off, this⟩, .inl this⟩
  cases b with
  | false =>
    simp only [cond_false, Option.some.injEq] at h
    subst h
    simp only [Bool.false_eq_true, if_false]
    exact hn M w _ (Fr.refl M w) hh (hs.put rev_undef o.dst) (slots s undefV (fun _ _ _ h => h) (by simp [undefV]))
  | true =>
    simp only [cond_true] at h
    obtain ⟨_, h⟩ := dead_eq h
    simp only [Option.bind_eq_some_iff] at h
    obtain ⟨r, hr, h⟩ := h
    obtain ⟨_, h⟩ := dead_eq h
    simp only [Option.some.injEq] at h
    subst h
    simp only [if_true]
    refine .inl (opX_sound (v := r.1) (st' := r.2) hΦ hE hs hh (fun d hd hop t off => hpend ?_ d hd t off) hr K Q fun M' w' c f k1 k2 k3 => hn M' w' _ f k1 k2 (slots r.2.s r.1 (fun t q off ht => opX_slots (v := r.1) (st := r.2) hr ht) k3))
    rcases hop with ⟨t, ht⟩ | ⟨t, x, ht⟩ <;> rw [ht] <;> rfl

/-- No slot holds the address of a variable of the frame. -/
def NoL (s : List V) : Prop := ∀ (t : Nat) r off, s[t]? ≠ some (.lptr r off)

theorem region_text (hΦ : SoundΦ E Φ) (hE : EnvOk E) (hal : allocOk ops = true) {Q : Exit → Act → World → Prop} {st' : St} : ∀ (n k : Nat) {M : Mu} {w : World} {s : List V} {H : Heap} {a : Act}, SimS F M w s a → SimH F M w H →
    (∀ (t : Nat) r off, s[t]? = some (.lptr r off) → (∃ (j : Nat) (o : Oper), j < k ∧ ops[j]? = some o ∧ Operand.tmp r ∈ o.op.operands) ∧ ∃ (j : Nat) (o : Oper), ops[j]? = some o ∧ o.dst = some t) → k + n = ops.size →
    opsRun E C Φ an ops (List.range' k n) ⟨s, H⟩ = some st' →
    (∀ M' w' a', Fr M M' w w' → SimH F M' w' st'.h → SimS F M' w' st'.s a' → (∀ (t : Nat) r off, st'.s[t]? = some (.lptr r off) → ∃ (j : Nat) (o : Oper), ops[j]? = some o ∧ o.dst = some t) → Q .normal a' w') →
    wpOps E.P ops Q (List.range' k n) a w
  | 0, k, M, w, s, H, a, hs, hh, hinv, hk, h, hn => by
    simp only [List.range'_zero, opsRun, Option.some.injEq] at h
    subst h
    exact hn M w a (Fr.refl M w) hh hs fun t r off ht => (hinv t r off ht).2
  | n + 1, k, M, w, s, H, a, hs, hh, hinv, hk, h, hn => by
    have hlt : k < ops.size := by omega
    have ho : ops[k]? = some ops[k] := by simp [hlt]
    rw [List.range'_succ] at h ⊢
    simp only [opsRun, Option.bind_eq_some_iff] at h
    obtain ⟨st1, h1, h2⟩ := h
    rw [wpOps_cons]
    refine step_sound hΦ hE hs hh ho (fun hv d hd t off ht => ?_) h1 fun M1 w1 a1 f1 k1 k2 k3 => ?_
    · obtain ⟨⟨j, oj, hj, hoj, hm⟩, _⟩ := hinv t d off ht
      exact allocOk_spec hal ho hv hd hoj (by omega) hm
    · refine region_text hΦ hE hal n (k + 1) k2 k1 (fun t r off ht => ?_) (by omega) h2 fun M' w' a' f g1 g2 g3 => hn M' w' a' (f1.trans f) g1 g2 g3
      obtain ⟨hsrc, hdst⟩ := k3 t r off ht
      constructor
      · rcases hsrc with hm | ⟨t', off', ht'⟩
        · exact ⟨k, _, by omega, ho, hm⟩
        · obtain ⟨⟨j, oj, hj, hoj, hm⟩, _⟩ := hinv t' r off' ht'
          exact ⟨j, oj, by omega, hoj, hm⟩
      · rcases hdst with ht' | hd
        · exact (hinv t r off ht').2
        · exact ⟨k, _, ho, hd⟩

/-! the orders that the edges leave -/
inductive Anc (ops : Array Oper) : Nat → Nat → Prop
  | edge {i : Nat} {o : Oper} {e : Edge} : ops[i]? = some o → e ∈ o.after → Region.binds .any e = true → Anc ops e.on i
  | trans {i j k : Nat} : Anc ops j k → Anc ops k i → Anc ops j i

theorem ancRow_sound {T : List (List Nat)} {o : Oper} {i : Nat} (ho : ops[i]? = some o) (hT : ∀ k j, j ∈ T.getD k [] → Anc ops j k) {j : Nat} (h : j ∈ ancRow T o) : Anc ops j i := by
  simp only [ancRow, List.mem_eraseDups, List.mem_flatMap] at h
  obtain ⟨e, he, h⟩ := h
  have he' : e ∈ o.after := by simpa using he
  cases hb : Region.binds .any e with
  | false => rw [hb] at h; simp at h
  | true =>
    rw [hb] at h
    simp only [cond_true, List.mem_cons] at h
    rcases h with rfl | h
    · exact .edge ho he' hb
    · exact .trans (hT _ _ h) (.edge ho he' hb)

theorem ancT_sound : ∀ (l : List Oper) (T : List (List Nat)), (∀ k, l[k]? = ops[T.length + k]?) → (∀ k j, j ∈ T.getD k [] → Anc ops j k) → ∀ k j, j ∈ (l.foldl (fun T o => T ++ [ancRow T o]) T).getD k [] → Anc ops j k
  | [], T, _, hT => hT
  | o :: l, T, hl, hT => by
    simp only [List.foldl_cons]
    refine ancT_sound l (T ++ [ancRow T o]) (fun k => ?_) (fun k j hj => ?_)
    · have := hl (k + 1)
      simp only [List.getElem?_cons_succ] at this
      rw [this]; congr 1; simp; omega
    · have h0 := hl 0
      simp only [List.getElem?_cons_zero, Nat.add_zero] at h0
      simp only [List.getD, List.getElem?_append] at hj
      split at hj
      · exact hT k j (by simpa [List.getD] using hj)
      · rename_i hk
        rcases Nat.lt_or_ge (k - T.length) 1 with h1 | h1
        · have : k = T.length := by omega
          subst this
          simp at hj
          exact ancRow_sound h0.symm hT hj
        · rw [List.getElem?_eq_none (by simpa using h1)] at hj
          simp at hj

def Closed (ops : Array Oper) (listed : Array Bool) : Prop :=
  ∀ (k : Nat) o, listed.getD k false = true → ops[k]? = some o → ∀ e ∈ o.after, Region.binds .any e = true → listed.getD e.on false = true

theorem anc_listed {listed : Array Bool} (hc : Closed ops listed) {j i : Nat} (h : Anc ops j i) : (∀ o, ops[i]? = some o → ∀ e ∈ o.after, Region.binds .any e = true → listed.getD e.on false = true) → listed.getD j false = true := by
  induction h with
  | edge ho he hb => exact fun hp => hp _ ho _ he hb
  | trans h1 h2 ih1 ih2 => exact fun hp => ih1 fun o ho e he hb => hc _ o (ih2 hp) ho e he hb

theorem opsRun_app {l m : List Nat} : ∀ {st : St}, opsRun E C Φ an ops (l ++ m) st = (opsRun E C Φ an ops l st).bind fun st1 => opsRun E C Φ an ops m st1 := by
  induction l with
  | nil => intro st; rfl
  | cons i l ih =>
    intro st
    simp only [List.cons_append, opsRun]
    cases opStep E C Φ an ops i st with
    | none => rfl
    | some st1 => simp only [Option.bind_some]; exact ih

theorem opsRun_front (hΦ : PureΦ E Φ) {ann : List (Nat × Nat × Bool)} {i : Nat} {x : Oper} (hi : ops[i]? = some x) {B : List Nat} {st' : St} : ∀ (A : List Nat) {st : St}, (∀ j ∈ A, ∃ y, ops[j]? = some y ∧ apartAt E C.fn ann ops j y i x = true) →
    opsRun E C Φ (some ann) ops (A ++ i :: B) st = some st' → ∃ st1, opStep E C Φ (some ann) ops i st = some st1 ∧ opsRun E C Φ (some ann) ops (A ++ B) st1 = some st'
  | [], st, _, h => by
    simp only [List.nil_append, opsRun, Option.bind_eq_some_iff] at h ⊢
    exact h
  | j :: A, st, hA, h => by
    simp only [List.cons_append, opsRun, Option.bind_eq_some_iff] at h
    obtain ⟨st1, h1, h2⟩ := h
    obtain ⟨st2, h3, h4⟩ := opsRun_front hΦ hi A (fun k hk => hA k (by simp [hk])) h2
    obtain ⟨y, hy, hap⟩ := hA j (by simp)
    obtain ⟨st1', h5, h6⟩ := step_swap hΦ hy hi hap h1 h3
    exact ⟨st1', h5, by simp only [List.cons_append, opsRun, h6, Option.bind_some]; exact h4⟩

theorem getD_default {l : Array Bool} {i : Nat} (h : i < l.size) (a b : Bool) : l.getD i a = l.getD i b := by simp [Array.getD, h]

theorem getD_set {l : Array Bool} {i j : Nat} {a : Bool} (h : i ≠ j) : (l.setIfInBounds i true).getD j a = l.getD j a := by
  simp only [Array.getD_eq_getD_getElem?, Array.getElem?_setIfInBounds_ne h]
theorem getD_set_mono {l : Array Bool} {i j : Nat} (h : l.getD j false = true) : (l.setIfInBounds i true).getD j false = true := by
  by_cases e : i = j
  · subst e
    simp only [Array.getD_eq_getD_getElem?] at h ⊢
    cases hx : l[i]? with
    | none => rw [hx] at h; cases h
    | some x => rw [Array.getElem?_setIfInBounds_self_of_lt (Array.getElem?_eq_some_iff.1 hx).1]; rfl
  · rw [getD_set e]; exact h

theorem mem_ready {listed : Array Bool} {i : Nat} : i ∈ Region.ready .any ops listed ↔ i < ops.size ∧ listed.getD i true = false ∧ ∀ o, ops[i]? = some o → ∀ e ∈ o.after, Region.binds .any e = true → listed.getD e.on false = true := by
  simp only [Region.ready, List.mem_filter, List.mem_range, Bool.and_eq_true, Bool.not_eq_true']
  constructor
  · rintro ⟨h1, h2, h3⟩
    refine ⟨h1, h2, fun o ho e he hb => ?_⟩
    rw [ho] at h3
    simp only [Option.map_some, Option.getD_some, Array.all_eq_true'] at h3
    have := h3 e he
    simpa [hb] using this
  · rintro ⟨h1, h2, h3⟩
    refine ⟨h1, h2, ?_⟩
    have ho : ops[i]? = some ops[i] := by simp [h1]
    rw [ho]
    simp only [Option.map_some, Option.getD_some, Array.all_eq_true']
    intro e he
    cases hb : Region.binds .any e with
    | false => rfl
    | true => simpa using h3 _ ho e he hb

theorem drawOk_spec {ann : List (Nat × Nat × Bool)} {fn : Nat} (h : drawOk E fn ann ops = true) : allocOk ops = true ∧ ∀ (i : Nat) x, ops[i]? = some x → (∀ e ∈ x.after, Region.binds .any e = true → e.on < i) ∧
    ∀ (j : Nat) y, j < i → ops[j]? = some y → Anc ops j i ∨ apartAt E fn ann ops j y i x = true := by
  simp only [drawOk, Bool.and_eq_true] at h
  obtain ⟨h1, h2⟩ := h
  refine ⟨h1, fun i x hx => ?_⟩
  rw [List.all_eq_true] at h2
  have h3 := h2 i (by simp [(Array.getElem?_eq_some_iff.1 hx).1])
  rw [hx] at h3
  simp only [Bool.and_eq_true, List.all_eq_true] at h3
  obtain ⟨h4, h5⟩ := h3
  refine ⟨fun e he hb => ?_, fun j y hj hy => ?_⟩
  · have := h4 e (by simpa using he)
    simpa [hb] using this
  · have := h5 j (by simpa using hj)
    simp only [Bool.or_eq_true, List.any_eq_true] at this
    rcases this with ⟨k, hk, hjk⟩ | hap
    · have := Nat.eq_of_beq_eq_true hjk
      subst this
      exact .inl (ancT_sound ops.toList [] (fun k => by simp) (fun k j hj => by simp at hj) i j hk)
    · rw [hy] at hap; exact .inr hap

theorem region_draw {ann : List (Nat × Nat × Bool)} (hΦ : SoundΦ E Φ) (hE : EnvOk E) (hd : drawOk E C.fn ann ops = true) {Q : Exit → Act → World → Prop} {st' : St} : ∀ (n : Nat) (R : List Nat), R.length = n → ∀ {listed : Array Bool} {M : Mu} {w : World} {s : List V} {H : Heap} {a : Act},
    listed.size = ops.size → R.Pairwise (· < ·) → (∀ i, i ∈ R ↔ i < ops.size ∧ listed.getD i true = false) → Closed ops listed → SimS F M w s a → SimH F M w H →
    (∀ (t : Nat) r off, s[t]? = some (.lptr r off) → (∃ (j : Nat) (o : Oper), j ∉ R ∧ ops[j]? = some o ∧ Operand.tmp r ∈ o.op.operands) ∧ ∃ (j : Nat) (o : Oper), ops[j]? = some o ∧ o.dst = some t) →
    opsRun E C Φ (some ann) ops R ⟨s, H⟩ = some st' →
    (∀ M' w' a', Fr M M' w w' → SimH F M' w' st'.h → SimS F M' w' st'.s a' → (∀ (t : Nat) r off, st'.s[t]? = some (.lptr r off) → ∃ (j : Nat) (o : Oper), ops[j]? = some o ∧ o.dst = some t) → Q .normal a' w') →
    wpAny E.P .any ops Q n listed a w := by
  obtain ⟨hal, hpair⟩ := drawOk_spec hd
  intro n
  induction n with
  | zero =>
    intro R hR listed M w s H a hsz hsort hmem hcl hs hh hinv h hn
    have : R = [] := List.eq_nil_of_length_eq_zero hR
    subst this
    simp only [opsRun, Option.some.injEq] at h
    subst h
    refine ⟨?_, hn M w a (Fr.refl M w) hh hs fun t r off ht => (hinv t r off ht).2⟩
    rw [List.eq_nil_iff_forall_not_mem]
    intro i hi
    obtain ⟨h1, h2, _⟩ := mem_ready.1 hi
    exact absurd ((hmem i).2 ⟨h1, h2⟩) (by simp)
  | succ n ih =>
    intro R hR listed M w s H a hsz hsort hmem hcl hs hh hinv h hn
    refine ⟨fun hnil => ?_, fun i hi => ?_⟩
    · exfalso
      cases R with
      | nil => simp at hR
      | cons k R =>
        have hk := (hmem k).1 (by simp)
        have : k ∈ Region.ready .any ops listed := mem_ready.2 ⟨hk.1, hk.2, fun o ho e he hb => by
          have hlt := (hpair k o ho).1 e he hb
          have hnot : e.on ∉ k :: R := by
            intro hm
            rcases List.mem_cons.1 hm with h' | h'
            · omega
            · have := (List.pairwise_cons.1 hsort).1 _ h'; omega
          have hne : ¬ (e.on < ops.size ∧ listed.getD e.on true = false) := fun h' => hnot ((hmem e.on).2 h')
          rw [getD_default (by omega) false true]
          cases hg : listed.getD e.on true with
          | true => rfl
          | false => exact absurd ⟨by omega, hg⟩ hne⟩
        rw [hnil] at this
        simp at this
    · obtain ⟨hi1, hi2, hi3⟩ := mem_ready.1 hi
      have hiR : i ∈ R := (hmem i).2 ⟨hi1, hi2⟩
      have ho : ops[i]? = some ops[i] := by simp [hi1]
      obtain ⟨A, B, rfl⟩ := List.append_of_mem hiR
      have hsort' := List.pairwise_append.1 hsort
      have hAlt : ∀ j ∈ A, j < i := fun j hj => hsort'.2.2 j hj i (by simp)
      have hBgt : ∀ j ∈ B, i < j := fun j hj => (List.pairwise_cons.1 hsort'.2.1).1 j hj
      have unl : ∀ j, j ∈ A ++ i :: B → listed.getD j false = false := fun j hj => by
        obtain ⟨h1, h2⟩ := (hmem j).1 hj
        rw [getD_default (by omega) false true]; exact h2
      obtain ⟨st1, h1, h2⟩ := opsRun_front hΦ.2 ho A (fun j hj => by
        have hjm := (hmem j).1 (by simp [hj])
        have hoj : ops[j]? = some ops[j] := by simp [hjm.1]
        refine ⟨_, hoj, ((hpair i _ ho).2 j _ (hAlt j hj) hoj).resolve_left fun hanc => ?_⟩
        have := anc_listed hcl hanc hi3
        rw [unl j (by simp [hj])] at this
        cases this) h
      refine step_sound hΦ hE hs hh ho (fun hv d hd' t off ht => ?_) h1 fun M1 w1 a1 f1 k1 k2 k3 => ?_
      · obtain ⟨⟨j, oj, hj, hoj, hm⟩, _⟩ := hinv t d off ht
        rcases Nat.lt_or_ge i j with hij | hij
        · have hjs : j < ops.size := (Array.getElem?_eq_some_iff.1 hoj).1
          have hlj : listed.getD j false = true := by
            have hne : ¬ (j < ops.size ∧ listed.getD j true = false) := fun h' => hj ((hmem j).2 h')
            rw [getD_default (by omega) false true]
            cases hg : listed.getD j true with
            | true => rfl
            | false => exact absurd ⟨hjs, hg⟩ hne
          rcases (hpair j oj hoj).2 i _ hij ho with hanc | hap
          · have := anc_listed hcl hanc fun o' ho' e he hb => hcl j o' hlj ho' e he hb
            rw [unl i (by simp)] at this
            cases this
          · simp only [apartAt, Bool.and_eq_true] at hap
            exact disj_ne hap.1 (x := d) (y := d) (by simp [wrS, hd']) (by simp [rdS, looks_op hm]) rfl
        · exact allocOk_spec hal ho hv hd' hoj hij hm
      · have hlen : (A ++ B).length = n := by simp at hR ⊢; omega
        refine ih (A ++ B) hlen (listed := listed.setIfInBounds i true) (by simpa using hsz) ?_ (fun j => ?_) ?_ k2 k1 (fun t r off ht => ?_) h2 fun M' w' a' f g1 g2 g3 => hn M' w' a' (f1.trans f) g1 g2 g3
        · refine List.pairwise_append.2 ⟨hsort'.1, (List.pairwise_cons.1 hsort'.2.1).2, fun x hx y hy => ?_⟩
          have := hAlt x hx; have := hBgt y hy; omega
        · have hm := hmem j
          by_cases e : j = i
          · subst e
            constructor
            · intro hj
              rcases List.mem_append.1 hj with h' | h'
              · have := hAlt _ h'; omega
              · have := hBgt _ h'; omega
            · rintro ⟨h1, h2⟩
              simp [Array.getD, hsz, h1] at h2
          · have : j ∈ A ++ B ↔ j ∈ A ++ i :: B := by simp [e]
            rw [this, hm]
            rw [getD_set (Ne.symm e)]
        · intro k o hk hok e he hb
          by_cases e' : k = i
          · subst e'
            exact getD_set_mono (hi3 o hok e he hb)
          · refine getD_set_mono (hcl k o ?_ hok e he hb)
            rwa [getD_set (Ne.symm e')] at hk
        · obtain ⟨hsrc, hdst⟩ := k3 t r off ht
          constructor
          · rcases hsrc with hm | ⟨t', off', ht'⟩
            · refine ⟨i, _, fun hmem' => ?_, ho, hm⟩
              rcases List.mem_append.1 hmem' with h' | h'
              · have := hAlt _ h'; omega
              · have := hBgt _ h'; omega
            · obtain ⟨⟨j, oj, hj, hoj, hm⟩, _⟩ := hinv t' r off' ht'
              exact ⟨j, oj, fun h' => hj (by simp only [List.mem_append, List.mem_cons] at h' ⊢; rcases h' with h' | h' <;> simp [h']), hoj, hm⟩
          · rcases hdst with ht' | hd'
            · exact (hinv t r off ht').2
            · exact ⟨i, _, ho, hd'⟩
end
end Go.DM
namespace Go.DM

def codeOk (E : Env) (fn : Nat) : Code → Bool
  | .region id ops draw => bif draw then drawOk E fn (E.ann fn id) ops else allocOk ops
  | .seq a b => codeOk E fn a && codeOk E fn b
  | .cond _ a b => codeOk E fn a && codeOk E fn b
  | .block _ c => codeOk E fn c
  | .loop c => codeOk E fn c
  | _ => true

def exOf : Ex → Exit
  | .normal => .normal
  | .exit id => .exit id
  | .ret => .ret

section
variable {F : Bool → Nat → Prop} {M : Mu} {w w' : World} {E : Env} {C : Ctx} {Φ : Oracle}

theorem tidy_step (d : Nat) (s : List V) (t : Nat) : (match s[d]? with | some (.lptr _ _) => s.set d .any | _ => s)[t]? = s[t]? ∨ ((∃ r off, s[t]? = some (.lptr r off)) ∧ (match s[d]? with | some (.lptr _ _) => s.set d .any | _ => s)[t]? = some .any) := by
  split
  · rename_i r off h
    by_cases e : d = t
    · subst e
      exact .inr ⟨⟨r, off, h⟩, by rw [List.getElem?_set_self (List.getElem?_eq_some_iff.1 h).1]⟩
    · exact .inl (List.getElem?_set_ne e)
  · exact .inl rfl

def tidyF (l : List Oper) (s : List V) : List V := l.foldl (fun s o => match o.dst with
    | some d => match s[d]? with
      | some (.lptr _ _) => s.set d .any
      | _ => s
    | none => s) s

theorem tidyL (l : List Oper) : ∀ (s : List V),
    (tidyF l s).length = s.length ∧ ∀ (t : Nat), ((tidyF l s)[t]? = s[t]? ∧ ((∃ o ∈ l, o.dst = some t) → ∀ r off, (tidyF l s)[t]? ≠ some (.lptr r off))) ∨ ((∃ r off, s[t]? = some (.lptr r off)) ∧ (tidyF l s)[t]? = some .any) := by
  induction l with
  | nil => intro s; exact ⟨rfl, fun t => .inl ⟨rfl, by simp⟩⟩
  | cons o l ih =>
    intro s
    have e : tidyF (o :: l) s = tidyF l (match o.dst with
      | some d => match s[d]? with
        | some (.lptr _ _) => s.set d .any
        | _ => s
      | none => s) := rfl
    rw [e]
    cases hd : o.dst with
    | none =>
      obtain ⟨h1, h2⟩ := ih s
      refine ⟨h1, fun t => ?_⟩
      rcases h2 t with ⟨k1, k2⟩ | k
      · refine .inl ⟨k1, fun ⟨o', ho', hd'⟩ => ?_⟩
        rcases List.mem_cons.1 ho' with rfl | h'
        · rw [hd] at hd'; cases hd'
        · exact k2 ⟨o', h', hd'⟩
      · exact .inr k
    | some d =>
      simp only
      obtain ⟨h1, h2⟩ := ih (match s[d]? with | some (.lptr _ _) => s.set d .any | _ => s)
      refine ⟨by rw [h1]; split <;> simp, fun t => ?_⟩
      have hst := tidy_step d s t
      rcases h2 t with ⟨k1, k2⟩ | ⟨⟨r, off, k1⟩, k2⟩
      · rcases hst with e | ⟨e1, e2⟩
        · refine .inl ⟨by rw [k1, e], fun ⟨o', ho', hd'⟩ r off hc => ?_⟩
          rcases List.mem_cons.1 ho' with rfl | h'
          · rw [hd] at hd'; cases hd'
            rw [k1] at hc
            split at hc
            · rename_i r' off' hs
              rw [List.getElem?_set_self (List.getElem?_eq_some_iff.1 hs).1] at hc
              cases hc
            · rename_i hs
              exact hs r off hc
          · exact k2 ⟨o', h', hd'⟩ r off hc
        · exact .inr ⟨e1, by rw [k1, e2]⟩
      · rcases hst with e | ⟨e1, e2⟩
        · exact .inr ⟨⟨r, off, by rw [← e]; exact k1⟩, k2⟩
        · rw [e2] at k1; cases k1

theorem SimS.tidy {s : List V} {a : Act} (h : SimS F M w s a) (ops : Array Oper) : SimS F M w (tidy ops s) a := by
  obtain ⟨h1, h2⟩ := tidyL ops.toList s
  refine ⟨by rw [← h.len]; exact h1, fun t v c hv hc => ?_, h.defers⟩
  rcases h2 t with ⟨k1, _⟩ | ⟨_, k2⟩
  · exact h.slot t v c (by rw [← k1]; exact hv) hc
  · have : some V.any = some v := k2.symm.trans hv
    cases this
    trivial

theorem tidy_noL {s : List V} {ops : Array Oper} (h : ∀ (t : Nat) r off, s[t]? = some (.lptr r off) → ∃ (j : Nat) (o : Oper), ops[j]? = some o ∧ o.dst = some t) : NoL (tidy ops s) := by
  intro t r off ht
  obtain ⟨_, h2⟩ := tidyL ops.toList s
  rcases h2 t with ⟨k1, k2⟩ | ⟨_, k2⟩
  · have ht' : s[t]? = some (.lptr r off) := by rw [← k1]; exact ht
    obtain ⟨j, o, ho, hd⟩ := h t r off ht'
    exact k2 ⟨o, by simpa using Array.mem_of_getElem? ho, hd⟩ r off ht
  · have : some V.any = some (V.lptr r off) := k2.symm.trans ht
    cases this

theorem noL_inv {s : List V} (h : NoL s) {X : Nat → Nat → Nat → Prop} : ∀ (t : Nat) r off, s[t]? = some (.lptr r off) → X t r off := fun t r off ht => absurd ht (h t r off)

theorem region_sound (hΦ : SoundΦ E Φ) (hE : EnvOk E) (hmix : E.P.follows .mixedOrders = true) {id : Nat} {ops : Array Oper} {draw : Bool} (hok : codeOk E C.fn (.region id ops draw) = true) {s : List V} {H : Heap} {a : Act} (hs : SimS F M w s a) (hh : SimH F M w H) (hno : NoL s)
    {st' : St} (h : opsRun E C Φ (bif draw then some (E.ann C.fn id) else none) ops (List.range ops.size) ⟨s, H⟩ = some st') {Q : Exit → Act → World → Prop}
    (hn : ∀ M' w' a', Fr M M' w w' → SimH F M' w' st'.h → SimS F M' w' (tidy ops st'.s) a' → NoL (tidy ops st'.s) → Q .normal a' w') : (Code.region id ops draw).wp E.P Q a w := by
  cases draw with
  | false =>
    simp only [codeOk, cond_false] at hok h
    refine wp_region ?_
    rw [List.range_eq_range'] at h ⊢
    exact region_text hΦ hE hok ops.size 0 hs hh (noL_inv hno) (by omega) h fun M' w' a' f k1 k2 k3 => hn M' w' a' f k1 (k2.tidy ops) (tidy_noL k3)
  | true =>
    simp only [codeOk, cond_true] at hok h
    refine wp_region_any hmix ?_
    have f := fr_drew M w
    have hs' : SimS F M w.drew s a := hs.keep f fun _ _ _ => rfl
    have hh' := hh.drew
    refine region_draw hΦ hE hok ops.size (List.range ops.size) (by simp) (listed := Array.replicate ops.size false) (by simp) List.pairwise_lt_range (fun i => ?_) ?_ hs' hh' (noL_inv hno) h
      fun M' w' a' f' k1 k2 k3 => hn M' w' a' (f.trans f') k1 (k2.tidy ops) (tidy_noL k3)
    · simp only [List.mem_range, Array.getD_eq_getD_getElem?, Array.getElem?_replicate]
      constructor
      · intro hi; exact ⟨hi, by simp [hi]⟩
      · exact fun h => h.1
    · intro k o hk
      simp only [Array.getD_eq_getD_getElem?, Array.getElem?_replicate] at hk
      split at hk <;> simp at hk

/-- A loop's round. -/
def LoopWp (P : Program) (c : Code) (Q : Exit → Act → World → Prop) (a : Act) (w : World) : Prop :=
  ∀ (b : Frame) (k : List Item) (cs : List Frame), ∃ e a' w', Q e a' w' ∧ Arrives P (lone (b.at a (.code c :: .inLoop c :: k)) cs w) b k cs e a' w'

theorem loopWp_round {P : Program} {c : Code} {Q : Exit → Act → World → Prop} {a : Act} {w : World} (h : c.wp P (Exit.then (LoopWp P c Q) Q) a w) : LoopWp P c Q a w := by
  intro b k cs
  obtain ⟨e, a₁, w₁, hq, harr⟩ := h b (.inLoop c :: k) cs
  cases e with
  | normal =>
    obtain ⟨e₂, a₂, w₂, hq₂, harr₂⟩ := hq b k cs
    exact ⟨e₂, a₂, w₂, hq₂, .of_steps (Steps.trans harr (.one step_inLoop)) harr₂⟩
  | exit id => exact ⟨_, a₁, w₁, hq, .pass (x := .inLoop c) rfl (fun _ _ => .inl (by simp)) harr⟩
  | goto l => exact ⟨_, a₁, w₁, hq, .pass (x := .inLoop c) rfl (fun _ _ => .inl (by simp)) harr⟩
  | ret => exact ⟨_, a₁, w₁, hq, .pass (x := .inLoop c) rfl (fun _ _ => .inl (by simp)) harr⟩
  | panic ch => exact ⟨_, a₁, w₁, hq, .pass (x := .inLoop c) rfl (fun _ _ => .inl (by simp)) harr⟩
  | outgrown => exact ⟨_, a₁, w₁, hq, .pass (x := .inLoop c) rfl (fun _ _ => .inl (by simp)) harr⟩

theorem wp_of_loopWp {P : Program} {c : Code} {Q : Exit → Act → World → Prop} {a : Act} {w : World} (h : LoopWp P c Q a w) : (Code.loop c).wp P Q a w := by
  intro b k cs
  obtain ⟨e, a', w', hq, harr⟩ := h b k cs
  exact ⟨e, a', w', hq, .of_steps (.one step_loop) harr⟩

/-- What the evaluator's execution promises of the model's. -/
def ExecOk (E : Env) (C : Ctx) (Φ : Oracle) (k : Nat) (c : Code) : Prop :=
  ∀ {F : Bool → Nat → Prop} {M : Mu} {w : World} {s : List V} {H : Heap} {a : Act} {x : Ex} {st' : St}, exec E C Φ k c ⟨s, H⟩ = some (x, st') → SimS F M w s a → SimH F M w H → NoL s →
    ∀ {Q : Exit → Act → World → Prop}, (∀ M' w' a', Fr M M' w w' → SimH F M' w' st'.h → SimS F M' w' st'.s a' → NoL st'.s → Q (exOf x) a' w') → c.wp E.P Q a w

theorem iter_sound {c : Code} {k : Nat} (ih : ExecOk E C Φ k c) : ∀ (n : Nat) {F : Bool → Nat → Prop} {M : Mu} {w : World} {s : List V} {H : Heap} {a : Act} {x : Ex} {st' : St}, iter (exec E C Φ k c) n ⟨s, H⟩ = some (x, st') → SimS F M w s a → SimH F M w H → NoL s →
    ∀ {Q : Exit → Act → World → Prop}, (∀ M' w' a', Fr M M' w w' → SimH F M' w' st'.h → SimS F M' w' st'.s a' → NoL st'.s → Q (exOf x) a' w') → LoopWp E.P c Q a w
  | 0, _, _, _, _, _, _, _, _, h, _, _, _, _, _ => by simp [iter] at h
  | n + 1, F, M, w, s, H, a, x, st', h, hs, hh, hno, Q, hn => by
    simp only [iter, Option.bind_eq_some_iff] at h
    obtain ⟨⟨y, s1, H1⟩, h1, h2⟩ := h
    refine loopWp_round (ih h1 hs hh hno fun M1 w1 a1 f1 k1 k2 k3 => ?_)
    cases y with
    | normal =>
      simp only at h2
      exact iter_sound ih n h2 k2 k1 k3 fun M' w' a' f g1 g2 g3 => hn M' w' a' (f1.trans f) g1 g2 g3
    | exit id =>
      simp only [Option.some.injEq, Prod.mk.injEq] at h2
      obtain ⟨rfl, rfl⟩ := h2
      exact hn M1 w1 a1 f1 k1 k2 k3
    | ret =>
      simp only [Option.some.injEq, Prod.mk.injEq] at h2
      obtain ⟨rfl, rfl⟩ := h2
      exact hn M1 w1 a1 f1 k1 k2 k3

theorem exec_sound (hΦ : SoundΦ E Φ) (hE : EnvOk E) (hmix : E.P.follows .mixedOrders = true) (k : Nat) (c : Code) (hok : codeOk E C.fn c = true) : ExecOk E C Φ k c := by
  induction c with
  | skip =>
    intro F M w s H a x st' h hs hh hno Q hn
    simp only [exec, Option.some.injEq, Prod.mk.injEq] at h
    obtain ⟨rfl, rfl⟩ := h
    exact wp_skip (hn M w a (Fr.refl M w) hh hs hno)
  | label l =>
    intro F M w s H a x st' h hs hh hno Q hn
    simp only [exec, Option.some.injEq, Prod.mk.injEq] at h
    obtain ⟨rfl, rfl⟩ := h
    exact wp_label (hn M w a (Fr.refl M w) hh hs hno)
  | exit id =>
    intro F M w s H a x st' h hs hh hno Q hn
    simp only [exec, Option.some.injEq, Prod.mk.injEq] at h
    obtain ⟨rfl, rfl⟩ := h
    exact wp_exit (hn M w a (Fr.refl M w) hh hs hno)
  | ret =>
    intro F M w s H a x st' h hs hh hno Q hn
    simp only [exec, Option.some.injEq, Prod.mk.injEq] at h
    obtain ⟨rfl, rfl⟩ := h
    exact wp_ret (hn M w a (Fr.refl M w) hh hs hno)
  | region id ops draw =>
    intro F M w s H a x st' h hs hh hno Q hn
    simp only [exec, Option.map_eq_some_iff, Prod.mk.injEq] at h
    obtain ⟨st1, h1, rfl, rfl⟩ := h
    exact region_sound hΦ hE hmix hok hs hh hno h1 hn
  | seq c1 c2 ih1 ih2 =>
    simp only [codeOk, Bool.and_eq_true] at hok
    intro F M w s H a x st' h hs hh hno Q hn
    simp only [exec, Option.bind_eq_some_iff] at h
    obtain ⟨⟨y, s1, H1⟩, h1, h2⟩ := h
    refine wp_seq (ih1 hok.1 h1 hs hh hno fun M1 w1 a1 f1 k1 k2 k3 => ?_)
    cases y with
    | normal =>
      simp only at h2
      exact ih2 hok.2 h2 k2 k1 k3 fun M' w' a' f g1 g2 g3 => hn M' w' a' (f1.trans f) g1 g2 g3
    | exit id =>
      simp only [Option.some.injEq, Prod.mk.injEq] at h2
      obtain ⟨rfl, rfl⟩ := h2
      exact hn M1 w1 a1 f1 k1 k2 k3
    | ret =>
      simp only [Option.some.injEq, Prod.mk.injEq] at h2
      obtain ⟨rfl, rfl⟩ := h2
      exact hn M1 w1 a1 f1 k1 k2 k3
  | cond cc c1 c2 ih1 ih2 =>
    simp only [codeOk, Bool.and_eq_true] at hok
    intro F M w s H a x st' h hs hh hno Q hn
    simp only [exec] at h
    have hc := ev_sound hs cc
    cases hv : ev s cc <;> rw [hv] at h <;> simp only [reduceCtorEq] at h
    rename_i b
    rw [hv] at hc
    have hc := rev_bool hc
    cases b with
    | true => exact wp_cond_true hc (ih1 hok.1 h hs hh hno hn)
    | false => exact wp_cond_false hc (ih2 hok.2 h hs hh hno hn)
  | block id c ih =>
    simp only [codeOk] at hok
    intro F M w s H a x st' h hs hh hno Q hn
    simp only [exec, Option.map_eq_some_iff] at h
    obtain ⟨⟨y, s1, H1⟩, h1, h2⟩ := h
    refine wp_block (ih hok h1 hs hh hno fun M1 w1 a1 f1 k1 k2 k3 => ?_)
    cases y with
    | normal =>
      simp only [Prod.mk.injEq] at h2
      obtain ⟨rfl, rfl⟩ := h2
      exact hn M1 w1 a1 f1 k1 k2 k3
    | ret =>
      simp only [Prod.mk.injEq] at h2
      obtain ⟨rfl, rfl⟩ := h2
      exact hn M1 w1 a1 f1 k1 k2 k3
    | exit j =>
      simp only at h2
      simp only [exOf, Exit.inBlock]
      by_cases e : j = id
      · subst e
        simp only [Nat.beq_refl, cond_true, Prod.mk.injEq] at h2
        obtain ⟨rfl, rfl⟩ := h2
        rw [if_pos rfl]
        exact hn M1 w1 a1 f1 k1 k2 k3
      · have : Nat.beq j id = false := by
          cases hb : Nat.beq j id with
          | false => rfl
          | true => exact absurd (Nat.eq_of_beq_eq_true hb) e
        rw [this] at h2
        simp only [cond_false, Prod.mk.injEq] at h2
        obtain ⟨rfl, rfl⟩ := h2
        rw [if_neg e]
        exact hn M1 w1 a1 f1 k1 k2 k3
  | loop c ih =>
    simp only [codeOk] at hok
    intro F M w s H a x st' h hs hh hno Q hn
    simp only [exec] at h
    exact wp_of_loopWp (iter_sound (ih hok) k h hs hh hno hn)
  | _ => intro F M w s H a x st' h; simp [exec] at h
end
end Go.DM
