/-
  Comparisons, addresses, slices, indexes, lengths. Addresses, slices, indexes, lengths, aggregates. Slicing; rows of elements; new blocks; append, copy, clear, make. New blocks and rows of elements. append, copy, clear, make. copy, clear, make, literals, aggregates.
-/
import Derived.Test.YtpfhhcjdknmbbaaGreatDoorA1
import Derived.Laws.Slices
set_option linter.all false
set_option linter.unusedSimpArgs false
set_option linter.unusedVariables false
namespace Go.DM

def eqVal : LK → Value → Value → Option Bool
  | .int k, .int k1 a, .int k2 b => if k1 = k ∧ k2 = k then some (a == b) else none
  | .bool, .bool a, .bool b => some (a == b)
  | .str, .string a, .string b => some (a.data.toList == b.data.toList)
  | _, _, _ => none
def eqVals : List LK → List Value → List Value → Option Bool
  | [], [], [] => some true
  | k :: ks, x :: xs, y :: ys => (eqVal k x y).bind fun b => (eqVals ks xs ys).bind fun c => some (b && c)
  | _, _, _ => none
/-- '==' and '!=' of two values of type t, cell by cell. -/
def EqFlat (P : Program) (t : TypeId) (ks : List LK) : Prop :=
  ∀ (w : World) (cs ds : Array Value) (b : Bool), eqVals ks cs.toList ds.toList = some b → ∀ (op : BinOp) (e : Bool) (x y : Operand), isEqOp op = some e →
    (do eqGuard op t x y (.agg cs) (.agg ds); binOp op t (.agg cs) (.agg ds) : Sem Value).run P w = .ok (.bool (b == e)) w

structure EnvOk (E : Env) : Prop where
  eq : ∀ t ks, E.eqOk t = some ks → EqFlat E.P t ks

section
variable {F : Bool → Nat → Prop} {M : Mu} {w : World} {P : Program}

theorem eqCell_val {k : LK} {x y : V} {c d : Value} {b : Bool} (h : eqCell k x y = some b) (hx : RCell F M w x c) (hy : RCell F M w y d) : eqVal k c d = some b := by
  unfold eqCell at h
  split at h
  · obtain rfl := rev_int (RS.toRX hx.1).toRV.toREv
    obtain rfl := rev_int (RS.toRX hy.1).toRV.toREv
    simp only [eqVal]
    rename_i k k1 a k2 b'
    cases hc : (decide (k1 = k) && decide (k2 = k)) <;> rw [hc] at h <;> simp at h hc
    rw [if_pos hc, h]
  · obtain rfl := rev_bool (RS.toRX hx.1).toRV.toREv
    obtain rfl := rev_bool (RS.toRX hy.1).toRV.toREv
    simpa [eqVal] using h
  · obtain ⟨s, rfl, rfl⟩ := rev_str (RS.toRX hx.1).toRV.toREv
    obtain ⟨s', rfl, rfl⟩ := rev_str (RS.toRX hy.1).toRV.toREv
    simpa [eqVal] using h
  · simp at h

theorem eqCells_vals : ∀ {ks : List LK} {xs ys : List V} {cs ds : List Value} {b : Bool}, eqCells ks xs ys = some b → RList (RCell F M w) xs cs.toArray → RList (RCell F M w) ys ds.toArray → eqVals ks cs ds = some b
  | ks, xs, ys, cs, ds, b, h, hx, hy => by
    unfold eqCells at h
    split at h
    · have h1 : cs = [] := by simpa using hx.1.symm
      have h2 : ds = [] := by simpa using hy.1.symm
      subst h1 h2
      simpa [eqVals] using h
    · rename_i k ks x xs y ys
      simp only [Option.bind_eq_some_iff] at h
      obtain ⟨b1, h1, b2, h2, h3⟩ := h
      match cs, ds, hx, hy with
      | [], _, hx, _ => exact absurd hx.1 (by simp)
      | _, [], _, hy => exact absurd hy.1 (by simp)
      | c :: cs, d :: ds, hx, hy =>
        have e1 := eqCell_val h1 (hx.2 0 x c rfl (by simp)) (hy.2 0 y d rfl (by simp))
        have e2 := eqCells_vals h2 (cs := cs) (ds := ds) ⟨by simpa using hx.1, fun i a b ha hb => hx.2 (i + 1) a b (by simpa using ha) (by simpa using hb)⟩
          ⟨by simpa using hy.1, fun i a b ha hb => hy.2 (i + 1) a b (by simpa using ha) (by simpa using hb)⟩
        simp [eqVals, e1, e2, h3]
    · simp at h

theorem run_equal {t : TypeId} {x y : Value} {b : Bool} (h : (Op.equalIn (9999 + 1) t x y).run P w = .ok b w) (op : BinOp) (e : Bool) (ho : isEqOp op = some e)
    (hb : binOp op t x y = if e then (do pure (.bool (← Op.equal t x y)) : Sem Value) else (do pure (.bool (!(← Op.equal t x y))))) :
    (binOp op t x y).run P w = .ok (.bool (b == e)) w := by
  rw [hb]
  have h' : (Op.equal t x y).run P w = .ok b w := h
  cases e <;> simp [h'] <;> cases b <;> rfl

theorem eqGuard_none {op : BinOp} {t : TypeId} {xo yo : Operand} {c d : Value} (h1 : c ≠ .nilIface) (h2 : ∀ cs, c ≠ .agg cs) : (eqGuard op t xo yo c d).run P w = .ok () w := by
  unfold eqGuard
  cases op <;> simp <;> (cases c <;> first | rfl | exact absurd rfl h1 | exact absurd rfl (h2 _))

theorem rev_fl {t g : Bool} {es : List V} {c : Value} (h : REv F M w (.fl t g es) c) : ∃ b o cap, c = .slice (some ⟨b, o, none⟩) es.length cap := by
  have h : RG F M.own w (.fl t g es) c := h
  cases h; exact ⟨_, _, _, rfl⟩
theorem rev_sl {i v o l : Nat} {k : Option Nat} {c : Value} (h : REv F M w (.sl i v o l k) c) : ∃ b o cap, c = .slice (some ⟨b, o, none⟩) l cap := by
  obtain ⟨_, b, o, cap, _, _, h, _⟩ := h
  exact ⟨b, o, cap, h⟩
theorem rev_fn {f : Nat} {caps : List V} {c : Value} (h : REv F M w (.fn f caps) c) : ∃ cs, c = .func (.func f) #[] cs := by
  obtain ⟨cs, h, _⟩ := h
  exact ⟨cs, h⟩
theorem rev_ptr {i o : Nat} {c : Value} (h : REv F M w (.ptr i o) c) : ∃ b, c = .pointer (some ⟨b, o, none⟩) := by
  obtain ⟨b, _, h⟩ := h
  exact ⟨b, h⟩

theorem nilEq_sound {t : TypeId} {x y : V} {c d : Value} (hx : REv F M w x c) (hy : REv F M w y d) {b : Bool} (h : nilEq P t x y = some b) {op : BinOp} {e : Bool} (ho : isEqOp op = some e) (xo yo : Operand) :
    (do eqGuard op t xo yo c d; binOp op t c d : Sem Value).run P w = .ok (.bool (b == e)) w := by
  have fin : ∀ c d : Value, c ≠ .nilIface → (∀ cs, c ≠ .agg cs) → (∀ n, (Op.equalIn (n + 1) t c d).run P w = .ok b w) →
      (binOp op t c d = if e then (do pure (.bool (← Op.equal t c d)) : Sem Value) else (do pure (.bool (!(← Op.equal t c d))))) →
      (do eqGuard op t xo yo c d; binOp op t c d : Sem Value).run P w = .ok (.bool (b == e)) w := by
    intro c d h1 h2 h3 h4
    rw [Sem.run_bind, eqGuard_none h1 h2]
    exact run_equal (h3 9999) op e ho h4
  unfold nilEq at h
  split at h
  · obtain rfl := rev_nilp hx; obtain rfl := rev_nilp hy
    split at h <;> simp at h
    rename_i hu; subst h
    refine fin _ _ (by simp) (by simp) (fun n => by simp [Op.equalIn, run_underlying hu]) ?_
    cases op <;> simp [isEqOp] at ho <;> subst ho <;> rfl
  · obtain rfl := rev_nilp hx; obtain ⟨b', rfl⟩ := rev_ptr hy
    split at h <;> simp at h
    rename_i hu; subst h
    refine fin _ _ (by simp) (by simp) (fun n => by simp [Op.equalIn, run_underlying hu]) ?_
    cases op <;> simp [isEqOp] at ho <;> subst ho <;> rfl
  · obtain rfl := rev_nilp hy; obtain ⟨b', rfl⟩ := rev_ptr hx
    split at h <;> simp at h
    rename_i hu; subst h
    refine fin _ _ (by simp) (by simp) (fun n => by simp [Op.equalIn, run_underlying hu]) ?_
    cases op <;> simp [isEqOp] at ho <;> subst ho <;> rfl
  · obtain rfl := rev_nils hx; obtain rfl := rev_nils hy
    split at h <;> simp at h
    rename_i hu; subst h
    refine fin _ _ (by simp) (by simp) (fun n => by simp [Op.equalIn, run_underlying hu]) ?_
    cases op <;> simp [isEqOp] at ho <;> subst ho <;> rfl
  · obtain rfl := rev_nils hx; obtain ⟨b', o', k', rfl⟩ := rev_fl hy
    split at h <;> simp at h
    rename_i hu; subst h
    refine fin _ _ (by simp) (by simp) (fun n => by simp [Op.equalIn, run_underlying hu]) ?_
    cases op <;> simp [isEqOp] at ho <;> subst ho <;> rfl
  · obtain rfl := rev_nils hy; obtain ⟨b', o', k', rfl⟩ := rev_fl hx
    split at h <;> simp at h
    rename_i hu; subst h
    refine fin _ _ (by simp) (by simp) (fun n => by simp [Op.equalIn, run_underlying hu]) ?_
    cases op <;> simp [isEqOp] at ho <;> subst ho <;> rfl
  · obtain rfl := rev_nils hx; obtain ⟨b', o', k', rfl⟩ := rev_sl hy
    split at h <;> simp at h
    rename_i hu; subst h
    refine fin _ _ (by simp) (by simp) (fun n => by simp [Op.equalIn, run_underlying hu]) ?_
    cases op <;> simp [isEqOp] at ho <;> subst ho <;> rfl
  · obtain rfl := rev_nils hy; obtain ⟨b', o', k', rfl⟩ := rev_sl hx
    split at h <;> simp at h
    rename_i hu; subst h
    refine fin _ _ (by simp) (by simp) (fun n => by simp [Op.equalIn, run_underlying hu]) ?_
    cases op <;> simp [isEqOp] at ho <;> subst ho <;> rfl
  · obtain rfl := rev_nilfn hx; obtain rfl := rev_nilfn hy
    split at h <;> simp at h
    rename_i hu; subst h
    refine fin _ _ (by simp) (by simp) (fun n => by simp [Op.equalIn, run_underlying hu]) ?_
    cases op <;> simp [isEqOp] at ho <;> subst ho <;> rfl
  · obtain rfl := rev_nilfn hx; obtain ⟨cs, rfl⟩ := rev_fn hy
    split at h <;> simp at h
    rename_i hu; subst h
    refine fin _ _ (by simp) (by simp) (fun n => by simp [Op.equalIn, run_underlying hu]) ?_
    cases op <;> simp [isEqOp] at ho <;> subst ho <;> rfl
  · obtain rfl := rev_nilfn hy; obtain ⟨cs, rfl⟩ := rev_fn hx
    split at h <;> simp at h
    rename_i hu; subst h
    refine fin _ _ (by simp) (by simp) (fun n => by simp [Op.equalIn, run_underlying hu]) ?_
    cases op <;> simp [isEqOp] at ho <;> subst ho <;> rfl
  · obtain rfl := rev_bool hx; obtain rfl := rev_bool hy
    split at h <;> simp at h
    rename_i hu; subst h
    refine fin _ _ (by simp) (by simp) (fun n => by simp [Op.equalIn, run_underlying hu]) ?_
    cases op <;> simp [isEqOp] at ho <;> subst ho <;> rfl
  · simp at h

theorem binV_sound {E : Env} (hE : EnvOk E) {op : BinOp} {t : TypeId} {x y : V} {c d : Value} (hx : REv F M w x c) (hy : REv F M w y d) {v : V} (h : binV E op t x y = some v) (xo yo : Operand) :
    ∃ r, (do eqGuard op t xo yo c d; binOp op t c d : Sem Value).run E.P w = .ok r w ∧ RV F M w v r := by
  unfold binV at h
  split at h
  · obtain rfl := rev_int hx; obtain rfl := rev_int hy
    rw [Sem.run_bind, eqGuard_none (by simp) (by simp)]
    split at h
    · rename_i l hl
      exact shift_sound hl h t
    · rename_i k _ k' _ _ _
      cases hk : decide (k = k') <;> rw [hk] at h <;> simp only [cond_true, cond_false] at h
      · simp at h
      · obtain rfl : k = k' := by simpa using hk
        exact intBin_sound h t
  · obtain ⟨s, rfl, rfl⟩ := rev_str hx; obtain ⟨s', rfl, rfl⟩ := rev_str hy
    rw [Sem.run_bind, eqGuard_none (by simp) (by simp)]
    exact strBin_sound h t
  · obtain ⟨cs, rfl, h1⟩ := hx; obtain ⟨ds, rfl, h2⟩ := hy
    simp only [Option.bind_eq_some_iff, Option.map_eq_some_iff] at h
    obtain ⟨ks, hks, e, he, b, hb, rfl⟩ := h
    exact ⟨_, hE.eq t ks hks w cs ds b (eqCells_vals hb (by simpa using h1) (by simpa using h2)) op e xo yo he, rv_bool⟩
  · simp only [Option.bind_eq_some_iff, Option.map_eq_some_iff] at h
    obtain ⟨e, he, b, hb, rfl⟩ := h
    exact ⟨_, nilEq_sound hx hy hb he xo yo, rv_bool⟩
end
end Go.DM
namespace Go.DM

section
variable {F : Bool → Nat → Prop} {M : Mu} {w : World} {P : Program}

theorem tElem_spec {t e : TypeId} (h : tElem P t = some e) : P.underlying t = some (.slice e) ∧ ∃ i, P.info? e = some i := by
  unfold tElem at h
  split at h
  · rename_i e' hu
    cases hi : (P.info? e').isSome <;> rw [hi] at h <;> simp at h
    subst h
    exact ⟨hu, Option.isSome_iff_exists.1 hi⟩
  · simp at h
theorem run_sizeOf_info {t : TypeId} {i : TypeInfo} (h : P.info? t = some i) (w : World) : (sizeOf t).run P w = .ok (P.cellsOf t) w := by
  simp [sizeOf, typeInfo, h, cellsOf_eq h]

theorem idxOf_sound {x : V} {c : Value} {j : Nat} (hx : REv F M w x c) (h : idxOf x = some j) : ∃ k n, c = .int k n ∧ 0 ≤ n ∧ n.toNat = j := by
  unfold idxOf at h
  split at h
  · rename_i k n
    obtain rfl := rev_int hx
    cases hd : decide (0 ≤ n) <;> rw [hd] at h <;> simp at h
    exact ⟨k, n, rfl, by simpa using hd, h⟩
  · simp at h

/-- Moving an address on. -/
theorem rev_shift {x y : V} {c : Value} (hx : REv F M w x c) (n : Nat) (h : moveBy n x = some y) : ∃ ad, c = .pointer (some ad) ∧ REv F M w y (.pointer (some (ad.add n))) := by
  cases x with
  | lptr s o =>
    obtain ⟨b, h1, rfl⟩ := hx
    simp [moveBy] at h; subst h
    exact ⟨_, rfl, b, h1, by rw [addr_add]⟩
  | ptr id o =>
    obtain ⟨b, h1, rfl⟩ := hx
    simp [moveBy] at h; subst h
    exact ⟨_, rfl, b, h1, by rw [addr_add]⟩
  | aptr id ver i o =>
    obtain ⟨a, ad, h1, h2, rfl, h5⟩ := hx
    simp [moveBy] at h; subst h
    refine ⟨ad, rfl, a, ad.add n, h1, h2, rfl, fun he => ?_⟩
    rw [h5 he, addr_add]; congr 1; omega
  | fptr v o =>
    obtain ⟨b, off, rfl, h1⟩ := hx
    simp [moveBy] at h; subst h
    exact ⟨_, rfl, b, off, by rw [addr_add, Nat.add_assoc], h1⟩
  | _ => simp [moveBy] at h

theorem fieldAddrV_sound {t : TypeId} {x y : V} {c : Value} {f : Nat} (hx : REv F M w x c) (h : fieldAddrV P t x f = some y) :
    ∃ r, (Instr.fieldAt t c f).run P w = .ok r w ∧ REv F M w y r := by
  unfold fieldAddrV at h
  simp only [Option.bind_eq_some_iff] at h
  obtain ⟨⟨off, ty⟩, hf, h⟩ := h
  cases hz : Nat.beq (P.cellsOf ty) 0 <;> rw [hz] at h <;> simp only [cond_true, cond_false] at h
  · obtain ⟨ad, rfl, hr⟩ := rev_shift hx off h
    refine ⟨_, ?_, hr⟩
    unfold tField at hf
    split at hf <;> simp at hf
    rename_i fs hu
    obtain ⟨fd, hfd, rfl, rfl⟩ := hf
    have hne : P.cellsOf fd.type ≠ 0 := Nat.ne_of_beq_eq_false hz
    have hi : ∃ i, P.info? fd.type = some i := by
      cases hi : P.info? fd.type with
      | none => exact absurd (by simp [Program.cellsOf, hi]) hne
      | some i => exact ⟨i, rfl⟩
    obtain ⟨i, hi⟩ := hi
    simp [Instr.fieldAt, run_underlying hu, hfd, Instr.sureAddr, fieldPlace, run_sizeOf_info hi, hne]
  · simp at h

theorem wide_fl {H : Heap} {t : TypeId} {tag tight : Bool} {es : List V} (h : wideOk P H t (.fl tag tight es) = true) :
    ∃ e i, tElem P t = some e ∧ P.underlying t = some (.slice e) ∧ P.info? e = some i ∧ (∀ x, es[0]? = some x → x.cells.length = P.cellsOf e) := by
  simp only [wideOk] at h
  cases he : tElem P t with
  | none => rw [he] at h; simp at h
  | some e =>
    rw [he] at h
    obtain ⟨h1, i, h2⟩ := tElem_spec he
    refine ⟨e, i, rfl, h1, h2, fun x hx => ?_⟩
    cases es with
    | nil => simp at hx
    | cons y l => simp at hx h; subst hx; exact h
theorem wide_sl {H : Heap} {t : TypeId} {id v o l : Nat} {k : Option Nat} (h : wideOk P H t (.sl id v o l k) = true) :
    ∃ e i A, tElem P t = some e ∧ P.underlying t = some (.slice e) ∧ P.info? e = some i ∧ H.arrs[id]? = some A ∧ A.sz = P.cellsOf e := by
  simp only [wideOk] at h
  cases he : tElem P t with
  | none => rw [he] at h; simp at h
  | some e =>
    cases hA : H.arrs[id]? with
    | none => rw [he, hA] at h; simp at h
    | some A =>
      rw [he, hA] at h
      obtain ⟨h1, i, h2⟩ := tElem_spec he
      exact ⟨e, i, A, rfl, h1, h2, rfl, by simpa using h⟩
theorem wide_nils {H : Heap} {t : TypeId} (h : wideOk P H t .nils = true) : ∃ e i, tElem P t = some e ∧ P.underlying t = some (.slice e) ∧ P.info? e = some i := by
  simp only [wideOk] at h
  obtain ⟨e, he⟩ := Option.isSome_iff_exists.1 h
  obtain ⟨h1, i, h2⟩ := tElem_spec he
  exact ⟨e, i, he, h1, h2⟩

/-- A frozen slice laid open. -/
theorem fl_open {tag tight : Bool} {es : List V} {c : Value} (h : REv F M w (.fl tag tight es) c) {n : Nat} (hn : ∀ x, es[0]? = some x → x.cells.length = n) :
    ∃ b o cap, c = .slice (some ⟨b, o, none⟩) es.length cap ∧ es.length ≤ cap ∧ (tight = true → cap = es.length) ∧
      (es ≠ [] → b < w.heap.size ∧ ¬ M.own b ∧ ¬ F tag b) ∧
      ∀ (i : Nat) e, es[i]? = some e → e.cells.length = n ∧ ∀ (k : Nat) x, e.cells[k]? = some x → ∃ y, w.cell? ⟨b, o + (i * n + k), none⟩ = some y ∧ RG F M.own w x y ∧ y.oneCell' = true := by
  have h : RG F M.own w (.fl tag tight es) c := h
  cases h with
  | fl _ _ _ b o cap sz cc hcap ht hlen hmem hone hrel hb =>
    have hsz : es ≠ [] → sz = n := by
      intro hne
      cases es with
      | nil => exact absurd rfl hne
      | cons x l => have := hlen 0 (by simp); simp at this; rw [← this]; exact hn x rfl
    refine ⟨b, o, cap, rfl, hcap, ht, hb, fun i e he => ?_⟩
    have hi : i < es.length := (List.getElem?_eq_some_iff.1 he).1
    have hne : es ≠ [] := by intro h0; subst h0; simp at hi
    obtain rfl := hsz hne
    have hge : es.getD i undefV = e := by simp [List.getD, he]
    have hl := hlen i hi
    rw [hge] at hl
    refine ⟨hl, fun k x hx => ?_⟩
    have hk : k < sz := by rw [← hl]; exact (List.getElem?_eq_some_iff.1 hx).1
    have hc : cellAt es i k = x := by simp [cellAt, he, List.getD, hx]
    exact ⟨cc i k, hmem i k hi hk, hc ▸ hrel i k hi hk, hone i k hi hk⟩

theorem indexAddrV_sound {H : Heap} (hh : SimH F M w H) {t : TypeId} {x i y : V} {c d : Value} (hx : REv F M w x c) (hi : REv F M w i d) (h : indexAddrV P H t x i = some y) :
    ∃ r, (Instr.indexAt t c d).run P w = .ok r w ∧ REv F M w y r := by
  unfold indexAddrV at h
  simp only [Option.bind_eq_some_iff] at h
  obtain ⟨j, hj, h⟩ := h
  obtain ⟨k, n, rfl, hn0, rfl⟩ := idxOf_sound hi hj
  split at h
  · rename_i tag tight es
    cases hw : wideOk P H t (.fl tag tight es) <;> rw [hw] at h <;> simp only [cond_true, cond_false] at h
    · simp at h
    simp only [Option.map_eq_some_iff] at h
    obtain ⟨e, he, rfl⟩ := h
    obtain ⟨et, ii, _, hu, hi2, hw0⟩ := wide_fl hw
    obtain ⟨b, o, cap, rfl, _, _, hb, hm⟩ := fl_open hx hw0
    have hlt : n.toNat < es.length := (List.getElem?_eq_some_iff.1 he).1
    have hlt' : n < (es.length : Int) := by omega
    have hne : es ≠ [] := by intro h0; subst h0; simp at hlt
    refine ⟨.pointer (some ((⟨b, o, none⟩ : Addr).add (n.toNat * P.cellsOf et))), ?_, b, o + n.toNat * P.cellsOf et, by rw [addr_add]; rfl, fun k x hx => ?_⟩
    · simp [Instr.indexAt, asIntOf, run_underlying hu, hn0, hlt', run_sizeOf_info hi2]
    · obtain ⟨y, h1, h2, h3⟩ := (hm _ e he).2 k x hx
      exact ⟨(hb hne).1, (hb hne).2.1, y, by rw [Nat.add_assoc]; exact h1, h2, h3⟩
  · rename_i id ver off len cap
    cases hw : (wideOk P H t (.sl id ver off len cap) && Nat.blt n.toNat len) <;> rw [hw] at h <;> simp only [cond_true, cond_false] at h
    · simp at h
    simp only [Option.some.injEq] at h
    subst h
    simp only [Bool.and_eq_true] at hw
    obtain ⟨et, ii, A, _, hu, hi2, hA, hsz⟩ := wide_sl hw.1
    obtain ⟨a, b, o, cap', h1, h2, rfl, h4, h5, h6⟩ := hx
    have hlt : n.toNat < len := by simpa using hw.2
    have hlt' : n < (len : Int) := by omega
    have ha := hh.amem id a A h1 hA
    refine ⟨.pointer (some ((⟨b, o, none⟩ : Addr).add (n.toNat * P.cellsOf et))), ?_, a, _, h1, h2, rfl, fun he => ?_⟩
    · simp [Instr.indexAt, asIntOf, run_underlying hu, hn0, hlt', run_sizeOf_info hi2]
    · obtain ⟨e1, e2⟩ := (h6 he).at_ (by omega)
      rw [addr_add, e1, e2, ← hsz, ← ha.sz, Nat.add_mul]
      congr 1; omega
  · rename_i x _ _
    split at h
    · rename_i m e hu
      cases hw : (Nat.blt n.toNat m && (P.info? e).isSome) <;> rw [hw] at h <;> simp only [cond_true, cond_false] at h
      · simp at h
      simp only [Bool.and_eq_true] at hw
      obtain ⟨ii, hi2⟩ := Option.isSome_iff_exists.1 hw.2
      have hlt : n.toNat < m := by simpa using hw.1
      have hlt' : n < (m : Int) := by omega
      obtain ⟨ad, rfl, hr⟩ := rev_shift hx (n.toNat * P.cellsOf e) h
      refine ⟨_, ?_, hr⟩
      simp [Instr.indexAt, asIntOf, run_underlying hu, Instr.sureAddr, hn0, hlt', run_sizeOf_info hi2]
    · simp at h

/-- A part of an aggregate. -/
theorem part_sound {e : TypeId} {g : Bool} (hg : tAgg P e = some g) {l : List V} {cs : Array Value} (hl : RList (RCell F M w) l cs) {off : Nat} {v : V}
    (h : getAt g (P.cellsOf e) off (.agg l) = some v) : ∃ c, (part e cs off).run P w = .ok c w ∧ RX F M w v c := by
  obtain ⟨d, hd⟩ := tAgg_underlying hg
  unfold getAt at h
  simp only [V.cells] at h
  cases hn : (((l.drop off).take (P.cellsOf e)).length == P.cellsOf e) <;> rw [hn] at h <;> simp only [cond_true, cond_false] at h
  · simp at h
  have hn' : ((l.drop off).take (P.cellsOf e)).length = P.cellsOf e := by simpa using hn
  have hlen : ((l.drop off).take (P.cellsOf e)).length = min (P.cellsOf e) (l.length - off) := by simp
  cases g with
  | true =>
    simp only [cond_true, Option.some.injEq] at h
    subst h
    refine ⟨.agg (cs.extract off (off + P.cellsOf e)), by simp [part, run_isAgg hg, run_sizeOf' hd], _, rfl, ?_, fun i x y hx hy => ?_⟩
    · rw [hn', Array.size_extract, ← hl.1]; omega
    · rw [List.getElem?_take] at hx
      split at hx <;> simp at hx
      rename_i hi
      rw [Array.getElem?_extract] at hy
      split at hy
      · exact hl.2 (off + i) x y hx hy
      · simp at hy
  | false =>
    simp only [cond_false] at h
    split at h <;> simp at h
    rename_i x hx
    subst h
    have hx0 : l[off]? = some x := by
      have : ((l.drop off).take (P.cellsOf e))[0]? = some x := by rw [hx]; rfl
      rw [List.getElem?_take] at this
      split at this <;> simp at this
      exact this
    obtain ⟨y, hy, hr⟩ := hl.one_of off x hx0
    exact ⟨y, by simp [part, run_isAgg hg, hy], hr.1.toRX⟩

theorem get_bytes (s : ByteArray) (j : Nat) : s[j]? = s.data.toList[j]? := by
  simp only [Array.getElem?_toList]
  rcases Nat.lt_or_ge j s.size with h | h
  · rw [getElem?_pos s j h, Array.getElem?_eq_getElem h]; rfl
  · rw [getElem?_neg s j (by omega), Array.getElem?_eq_none h]

theorem indexV_sound {t : TypeId} {x i y : V} {c d : Value} (hx : REv F M w x c) (hi : REv F M w i d) (h : indexV P t x i = some y) :
    ∃ r, (Instr.index t c d).run P w = .ok r w ∧ RV F M w y r := by
  unfold indexV at h
  simp only [Option.bind_eq_some_iff] at h
  obtain ⟨j, hj, h⟩ := h
  obtain ⟨k, n, rfl, hn0, rfl⟩ := idxOf_sound hi hj
  split at h
  · rename_i l
    obtain ⟨s, rfl, rfl⟩ := rev_str hx
    cases hs : isStrT P t <;> rw [hs] at h <;> simp only [cond_true, cond_false] at h
    · simp at h
    unfold isStrT at hs
    split at hs
    · rename_i hu
      simp only [Option.map_eq_some_iff] at h
      obtain ⟨b, hb, rfl⟩ := h
      have hb' : s[n.toNat]? = some b := by rw [get_bytes]; exact hb
      exact ⟨_, by simp [Instr.index, asIntOf, run_underlying hu, hn0, hb'], rv_int⟩
    · simp at hs
  · rename_i cs
    obtain ⟨vs, rfl, hl⟩ := hx
    split at h
    · rename_i m e hu
      cases hw : Nat.blt n.toNat m <;> rw [hw] at h <;> simp only [cond_true, cond_false, Option.bind_eq_some_iff] at h
      · simp at h
      obtain ⟨g, hg, h⟩ := h
      have hlt : n.toNat < m := by simpa using hw
      have hlt' : n < (m : Int) := by omega
      obtain ⟨dd, hd⟩ := tAgg_underlying hg
      obtain ⟨r, hr, hr2⟩ := part_sound hg hl h
      exact ⟨r, by simp [Instr.index, asIntOf, run_underlying hu, hn0, hlt', run_sizeOf' hd, hr], hr2.toRV⟩
    · simp at h
  · simp at h

theorem lenV_sound {t ty : TypeId} {x y : V} {c : Value} (hx : REv F M w x c) (h : lenV P t x = some y) : ∃ r, (Builtin.len_ #[t] ty #[c]).run P w = .ok r w ∧ RV F M w y r := by
  unfold lenV at h
  split at h
  · rename_i hu
    split at h <;> simp at h
    obtain ⟨s, rfl, rfl⟩ := rev_str hx
    subst h
    refine ⟨_, by simp [Builtin.len_, run_underlying hu, goInt]; rfl, ?_⟩
    rw [Lib.size_eq]; exact rv_int
  · rename_i e hu
    split at h <;> simp at h <;> subst h
    · obtain rfl := rev_nils hx
      exact ⟨_, by simp [Builtin.len_, run_underlying hu, goInt], rv_int⟩
    · obtain ⟨b, o, cap, rfl⟩ := rev_fl hx
      exact ⟨_, by simp [Builtin.len_, run_underlying hu, goInt], rv_int⟩
    · obtain ⟨b, o, cap, rfl⟩ := rev_sl hx
      exact ⟨_, by simp [Builtin.len_, run_underlying hu, goInt], rv_int⟩
  · rename_i n e hu
    simp at h; subst h
    exact ⟨_, by simp [Builtin.len_, run_underlying hu, goInt], rv_int⟩
  · simp at h

theorem capV_sound {t ty e : TypeId} {x y : V} {c : Value} (hu : P.underlying t = some (.slice e)) (hx : REv F M w x c) (h : capV x = some y) : ∃ r, (Builtin.cap_ #[t] ty #[c]).run P w = .ok r w ∧ RV F M w y r := by
  unfold capV at h
  split at h <;> simp at h <;> subst h
  · obtain rfl := rev_nils hx
    exact ⟨_, by simp [Builtin.cap_, run_underlying hu, goInt], rv_int⟩
  · rename_i tag es
    have hx : RG F M.own w (.fl tag true es) c := hx
    cases hx with
    | fl _ _ _ b o cap sz cc hcap ht =>
      obtain rfl := ht rfl
      exact ⟨_, by simp [Builtin.cap_, run_underlying hu, goInt], rv_int⟩
  · obtain ⟨a, b, o, cap', h1, h2, rfl, h4, h5, h6⟩ := hx
    obtain rfl := h5 _ rfl
    exact ⟨_, by simp [Builtin.cap_, run_underlying hu, goInt], rv_int⟩

theorem foldMM_sound (mx : Bool) : ∀ {l : List V} {cs : List Value} {a : Int} {k : IntKind} {v : V}, foldMM mx a l k = some v → RList (REv F M w) l cs.toArray →
    ∃ r, (cs.foldlM (if mx then Builtin.max2 else Builtin.min2) (.int k a)).run P w = .ok r w ∧ RV F M w v r
  | [], cs, a, k, v, h, hr => by
    have : cs = [] := by simpa using hr.1.symm
    subst this
    simp [foldMM] at h; subst h
    exact ⟨_, rfl, rv_int⟩
  | x :: l, cs, a, k, v, h, hr => by
    match cs, hr with
    | [], hr => exact absurd hr.1 (by simp)
    | c :: cs, hr =>
      have hx := hr.2 0 x c rfl (by simp)
      cases x with
      | int k' b =>
        obtain rfl := rev_int hx
        simp only [foldMM] at h
        cases hk : decide (k = k') <;> rw [hk] at h <;> simp only [cond_true, cond_false] at h
        · simp at h
        obtain ⟨r, h3, h4⟩ := foldMM_sound mx h (cs := cs) ⟨by simpa using hr.1, fun i a b ha hb => hr.2 (i + 1) a b (by simpa using ha) (by simpa using hb)⟩
        refine ⟨r, ?_, h4⟩
        cases mx <;> simpa [List.foldlM_cons, Builtin.max2, Builtin.min2] using h3
      | _ => simp [foldMM] at h

theorem mmV_sound {mx : Bool} {l : List V} {cs : Array Value} {v : V} (h : mmV mx l = some v) (hr : RList (REv F M w) l cs) (at_ : Array TypeId) (ty : TypeId) :
    ∃ r, (if mx then Builtin.max_ at_ ty cs else Builtin.min_ at_ ty cs).run P w = .ok r w ∧ RV F M w v r := by
  unfold mmV at h
  split at h
  · rename_i k a l
    obtain ⟨cl⟩ := cs
    match cl, hr with
    | [], hr => exact absurd hr.1 (by simp)
    | c :: cl, hr =>
      obtain rfl := rev_int (hr.2 0 (.int k a) c rfl (by simp))
      obtain ⟨r, h3, h4⟩ := foldMM_sound (P := P) mx h (cs := cl) ⟨by simpa using hr.1, fun i a b ha hb => hr.2 (i + 1) a b (by simpa using ha) (by simpa using hb)⟩
      refine ⟨r, ?_, h4⟩
      cases mx
      · simpa [Builtin.min_] using h3
      · simpa [Builtin.max_] using h3
  · simp at h
end
end Go.DM
namespace Go.DM

section
variable {F : Bool → Nat → Prop} {M : Mu} {w : World} {P : Program}

def LB (x : Option Value) (d l : Nat) : Prop := (x = none ∧ l = d) ∨ ∃ k n, x = some (.int k n) ∧ 0 ≤ n ∧ n.toNat = l
def ROpt (F : Bool → Nat → Prop) (M : Mu) (w : World) : Option V → Option Value → Prop
  | none, none => True
  | some v, some c => REv F M w v c
  | _, _ => False

theorem boundV_sound {x : Option V} {x' : Option Value} (hx : ROpt F M w x x') {d l : Nat} (h : boundV x d = some l) : LB x' d l ∧ x'.isSome = x.isSome ∧ (x = none → l = d) := by
  cases x with
  | none =>
    cases x' with
    | none => simp [boundV] at h; exact ⟨.inl ⟨rfl, h.symm⟩, rfl, fun _ => h.symm⟩
    | some c => exact hx.elim
  | some v =>
    cases x' with
    | none => exact hx.elim
    | some c =>
      cases v with
      | int k n =>
        obtain rfl := rev_int hx
        simp only [boundV] at h
        cases hd : decide (0 ≤ n) <;> rw [hd] at h <;> simp at h
        exact ⟨.inr ⟨k, n, rfl, by simpa using hd, h⟩, rfl, by simp⟩
      | _ => simp [boundV] at h

theorem run_sliceBound' {k : IntKind} {i : Int} {y : Nat} {code : BoundsCode} (h0 : 0 ≤ i) (h1 : i.toNat ≤ y) : (Instr.sliceBound (.int k i) y code).run P w = .ok i.toNat w := by
  have : i ≤ y := by omega
  simp [Instr.sliceBound, asIntOf, h0, this]

theorem run_bounds {isS : Bool} {len cap l h m : Nat} {lo hi mx : Option Value} (hl : LB lo 0 l) (hh : LB hi len h) (hm : LB mx cap m) (h1 : l ≤ h) (h2 : h ≤ m) (h3 : m ≤ cap)
    (h4 : mx = none ∨ hi ≠ none) : (Instr.sliceBounds isS len cap lo hi mx).run P w = .ok (l, h, m) w := by
  unfold Instr.sliceBounds
  rcases hm with ⟨rfl, rfl⟩ | ⟨km, nm, rfl, hm0, rfl⟩
  · rcases hh with ⟨rfl, rfl⟩ | ⟨kh, nh, rfl, hh0, rfl⟩
    · rcases hl with ⟨rfl, rfl⟩ | ⟨kl, nl, rfl, hl0, rfl⟩
      · simp
      · simp [run_sliceBound' hl0 h1]
    · rcases hl with ⟨rfl, rfl⟩ | ⟨kl, nl, rfl, hl0, rfl⟩
      · simp [run_sliceBound' hh0 h2]
      · simp [run_sliceBound' hh0 h2, run_sliceBound' hl0 h1]
  · rcases hh with ⟨rfl, rfl⟩ | ⟨kh, nh, rfl, hh0, rfl⟩
    · simp at h4
    · rcases hl with ⟨rfl, rfl⟩ | ⟨kl, nl, rfl, hl0, rfl⟩
      · simp [run_sliceBound' hm0 h3, run_sliceBound' hh0 h2]
      · simp [run_sliceBound' hm0 h3, run_sliceBound' hh0 h2, run_sliceBound' hl0 h1]

/-- A frozen slice put together. -/
theorem fl_mk {tag tight : Bool} {es : List V} {b o cap n : Nat} (hcap : es.length ≤ cap) (ht : tight = true → cap = es.length)
    (hb : es ≠ [] → b < w.heap.size ∧ ¬ M.own b ∧ ¬ F tag b)
    (hm : ∀ (i : Nat) e, es[i]? = some e → e.cells.length = n ∧ ∀ (k : Nat) x, e.cells[k]? = some x → ∃ y, w.cell? ⟨b, o + (i * n + k), none⟩ = some y ∧ RG F M.own w x y ∧ y.oneCell' = true) :
    RG F M.own w (.fl tag tight es) (.slice (some ⟨b, o, none⟩) es.length cap) := by
  have key : ∀ i k, i < es.length → k < n → w.cell? ⟨b, o + (i * n + k), none⟩ = some ((w.cell? ⟨b, o + (i * n + k), none⟩).getD undef) ∧
      RG F M.own w (cellAt es i k) ((w.cell? ⟨b, o + (i * n + k), none⟩).getD undef) ∧ ((w.cell? ⟨b, o + (i * n + k), none⟩).getD undef).oneCell' = true := by
    intro i k hi hk
    obtain ⟨h1, h2⟩ := hm i es[i] (by simp [hi])
    obtain ⟨y, h3, h4, h5⟩ := h2 k (es[i].cells[k]'(by omega)) (by simp)
    have hc : cellAt es i k = es[i].cells[k]'(by omega) := by simp [cellAt, List.getD, hi, h1, hk]
    rw [h3, hc]
    exact ⟨rfl, h4, h5⟩
  exact .fl tag tight es b o cap n (fun i k => (w.cell? ⟨b, o + (i * n + k), none⟩).getD undef) hcap ht
    (fun i hi => by have := (hm i es[i] (by simp [hi])).1; simpa [List.getD, hi] using this)
    (fun i k hi hk => (key i k hi hk).1) (fun i k hi hk => (key i k hi hk).2.2) (fun i k hi hk => (key i k hi hk).2.1) hb

theorem drop_take_get {α : Type} (l : List α) (a b i : Nat) : ((l.take b).drop a)[i]? = if a + i < b then l[a + i]? else none := by
  rw [List.getElem?_drop, List.getElem?_take]

theorem sliceV_sound {H : Heap} (hh : SimH F M w H) {t : TypeId} {x y : V} {c : Value} {lo hi mx : Option V} {lo' hi' mx' : Option Value} (hx : REv F M w x c)
    (hlo : ROpt F M w lo lo') (hhi : ROpt F M w hi hi') (hmx : ROpt F M w mx mx') (h : sliceV P H t x lo hi mx = some y) :
    ∃ r, (Instr.sliceAt t c lo' hi' mx').run P w = .ok r w ∧ RV F M w y r := by
  cases x with
  | str l =>
    obtain ⟨s, rfl, rfl⟩ := rev_str hx
    simp only [sliceV, Option.bind_eq_some_iff] at h
    obtain ⟨a, ha, b, hb, h⟩ := h
    cases hc : (Nat.ble a b && (Nat.ble b s.data.toList.length && mx.isNone) && isStrT P t) <;> rw [hc] at h <;> simp only [cond_true, cond_false] at h
    · simp at h
    simp only [Bool.and_eq_true, Option.isNone_iff_eq_none] at hc
    obtain ⟨⟨h1, h2, rfl⟩, h3⟩ := hc
    simp only [Option.some.injEq] at h
    subst h
    have hmx' : mx' = none := by cases mx' with | none => rfl | some _ => exact hmx.elim
    subst hmx'
    unfold isStrT at h3
    split at h3
    · rename_i hu
      have e1 := (boundV_sound hlo ha).1
      have e2 := (boundV_sound hhi hb).1
      have h1 := Nat.le_of_ble_eq_true h1
      have h2 := Nat.le_of_ble_eq_true h2
      rw [← Lib.size_eq] at h2 e2
      refine ⟨.string (s.extract a b), ?_, rv_str ?_⟩
      · simp [Instr.sliceAt, run_underlying hu, Instr.slice, run_bounds (P := P) (w := w) (isS := false) e1 e2 (.inl ⟨rfl, rfl⟩) h1 h2 (Nat.le_refl _) (.inl rfl)]
      · rw [Lib.extract_data, List.drop_take]
    · simp at h3
  | nils =>
    obtain rfl := rev_nils hx
    simp only [sliceV] at h
    cases hw : wideOk P H t .nils <;> rw [hw] at h <;> simp only [cond_true, cond_false, Option.bind_eq_some_iff] at h
    · simp at h
    obtain ⟨a, ha, b, hb, m, hm, h⟩ := h
    cases hc : (Nat.beq a 0 && (Nat.beq b 0 && Nat.beq m 0) && (mx.isNone || hi.isSome)) <;> rw [hc] at h <;> simp only [cond_true, cond_false] at h
    · simp at h
    simp only [Bool.and_eq_true] at hc
    obtain ⟨⟨h1, h2, h3⟩, h4⟩ := hc
    simp only [Option.some.injEq] at h
    subst h
    obtain rfl := Nat.eq_of_beq_eq_true h1
    obtain rfl := Nat.eq_of_beq_eq_true h2
    obtain rfl := Nat.eq_of_beq_eq_true h3
    obtain ⟨e, i, _, hu, hi2⟩ := wide_nils hw
    obtain ⟨e1, _⟩ := boundV_sound hlo ha
    obtain ⟨e2, e2', _⟩ := boundV_sound hhi hb
    obtain ⟨e3, e3', _⟩ := boundV_sound hmx hm
    refine ⟨.slice none 0 0, ?_, (RG.nils (F := F) (O := M.own) (w := w))⟩
    have h4' : mx' = none ∨ hi' ≠ none := by
      rcases Bool.or_eq_true _ _ ▸ h4 with h4 | h4
      · left; cases mx' with
        | none => rfl
        | some _ => simp at e3' h4; subst h4; simp at e3'
      · right; intro h0; subst h0; rw [h4] at e2'; simp at e2'
    simp [Instr.sliceAt, run_underlying hu, Instr.slice, run_bounds (P := P) (w := w) (isS := true) e1 e2 e3 (Nat.le_refl _) (Nat.le_refl _) (Nat.le_refl _) h4', run_sizeOf_info hi2]
  | fl tag tight es =>
    simp only [sliceV] at h
    cases hw : wideOk P H t (.fl tag tight es) <;> rw [hw] at h <;> simp only [cond_true, cond_false, Option.bind_eq_some_iff] at h
    · simp at h
    obtain ⟨a, ha, b, hb, m, hm, h⟩ := h
    cases hc : (Nat.ble a b && (Nat.ble b m && Nat.ble m es.length) && (mx.isNone || hi.isSome)) <;> rw [hc] at h <;> simp only [cond_true, cond_false] at h
    · simp at h
    simp only [Bool.and_eq_true] at hc
    obtain ⟨⟨h1, h2, h3⟩, h4⟩ := hc
    simp only [Option.some.injEq] at h
    subst h
    have h1 := Nat.le_of_ble_eq_true h1
    have h2 := Nat.le_of_ble_eq_true h2
    have h3 := Nat.le_of_ble_eq_true h3
    obtain ⟨e, i, _, hu, hi2, hw0⟩ := wide_fl hw
    obtain ⟨bk, o, cap, rfl, hcap, ht, hbk, hmem⟩ := fl_open hx hw0
    obtain ⟨e1, _⟩ := boundV_sound hlo ha
    obtain ⟨e2, e2', _⟩ := boundV_sound hhi hb
    obtain ⟨e3, e3', e3''⟩ := boundV_sound hmx hm
    have h4' : mx' = none ∨ hi' ≠ none := by
      rcases Bool.or_eq_true _ _ ▸ h4 with h4 | h4
      · left; cases mx' with
        | none => rfl
        | some _ => simp at e3' h4; subst h4; simp at e3'
      · right; intro h0; subst h0; rw [h4] at e2'; simp at e2'
    obtain ⟨m', hm', hbm, hmc, htm⟩ : ∃ m', LB mx' cap m' ∧ b ≤ m' ∧ m' ≤ cap ∧ (((mx.isSome && Nat.beq m b) || (mx.isNone && (tight && Nat.beq b es.length))) = true → m' = b) := by
      cases mx with
      | none =>
        have : mx' = none := by cases mx' with | none => rfl | some _ => simp at e3'
        subst this
        refine ⟨cap, .inl ⟨rfl, rfl⟩, by omega, Nat.le_refl _, fun hh => ?_⟩
        simp only [Option.isSome_none, Bool.false_and, Option.isNone_none, Bool.true_and, Bool.false_or, Bool.and_eq_true] at hh
        have := ht hh.1
        have := Nat.eq_of_beq_eq_true hh.2
        omega
      | some v =>
        rcases e3 with ⟨rfl, _⟩ | e3
        · simp at e3'
        · refine ⟨m, .inr e3, h2, by omega, fun hh => ?_⟩
          simp at hh
          exact hh
    have hlen : ((es.take b).drop a).length = b - a := by simp; omega
    refine ⟨.slice (some (if m' = a then ⟨bk, o, none⟩ else (⟨bk, o, none⟩ : Addr).add (a * P.cellsOf e))) (b - a) (m' - a), ?_, ?_⟩
    · simp [Instr.sliceAt, run_underlying hu, Instr.slice, run_bounds (P := P) (w := w) (isS := true) e1 e2 hm' h1 hbm hmc h4', run_sizeOf_info hi2]
      split <;> rfl
    · obtain ⟨o', ho', hoe⟩ : ∃ o', (if m' = a then ⟨bk, o, none⟩ else (⟨bk, o, none⟩ : Addr).add (a * P.cellsOf e)) = ⟨bk, o', none⟩ ∧ (a < b → o' = o + a * P.cellsOf e) := by
        by_cases hma : m' = a
        · exact ⟨o, by rw [if_pos hma], fun hab => by omega⟩
        · exact ⟨_, by rw [if_neg hma, addr_add], fun _ => rfl⟩
      rw [ho', ← hlen]
      refine fl_mk (n := P.cellsOf e) (by rw [hlen]; omega) (fun hh => by have := htm hh; rw [hlen]; omega) (fun hne => hbk (fun h0 => hne (by rw [h0]; simp))) (fun k z hz => ?_)
      rw [drop_take_get] at hz
      split at hz
      · rename_i hk
        obtain ⟨g1, g2⟩ := hmem (a + k) z hz
        refine ⟨g1, fun j u hu' => ?_⟩
        obtain ⟨y, g3, g4⟩ := g2 j u hu'
        refine ⟨y, ?_, g4⟩
        rw [hoe (by omega), ← g3, Nat.add_mul]
        congr 2; omega
      · simp at hz
  | sl id ver off len cap =>
    simp only [sliceV] at h
    cases hw : wideOk P H t (.sl id ver off len cap) <;> rw [hw] at h <;> simp only [cond_true, cond_false, Option.bind_eq_some_iff] at h
    · simp at h
    obtain ⟨a, ha, b, hb, h⟩ := h
    obtain ⟨e, i, A, _, hu, hi2, hA, hsz⟩ := wide_sl hw
    obtain ⟨ai, bk, o, cap', g1, g2, rfl, g4, g5, g6⟩ := hx
    have hai := hh.amem id ai A g1 hA
    obtain ⟨e1, _⟩ := boundV_sound hlo ha
    obtain ⟨e2, e2', _⟩ := boundV_sound hhi hb
    -- the common end
    have fin : ∀ (m' : Nat) (cp : Option Nat), LB mx' cap' m' → a ≤ b → b ≤ m' → m' ≤ cap' → (mx' = none ∨ hi' ≠ none) →
        (∀ k, cp = some k → m' - a = k) → (ver = ai.ver → off + b ≤ ai.n) → (ver = ai.ver → ∀ k, cp = some k → off + a + k ≤ ai.n) → (cp = none → cap = none ∧ m' = cap') →
        ∃ r, (Instr.sliceAt t (.slice (some ⟨bk, o, none⟩) len cap') lo' hi' mx').run P w = .ok r w ∧ RV F M w (.sl id ver (off + a) (b - a) cp) r := by
      intro m' cp hm' h1 hbm hmc h4' hcp hkn hcut hwh
      obtain ⟨o', ho', hoe⟩ : ∃ o', (if m' = a then ⟨bk, o, none⟩ else (⟨bk, o, none⟩ : Addr).add (a * P.cellsOf e)) = ⟨bk, o', none⟩ ∧ (a < m' → o' = o + a * P.cellsOf e) := by
        by_cases hma : m' = a
        · exact ⟨o, by rw [if_pos hma], fun hab => by omega⟩
        · exact ⟨_, by rw [if_neg hma, addr_add], fun _ => rfl⟩
      refine ⟨.slice (some (if m' = a then ⟨bk, o, none⟩ else (⟨bk, o, none⟩ : Addr).add (a * P.cellsOf e))) (b - a) (m' - a), ?_, ?_⟩
      · simp [Instr.sliceAt, run_underlying hu, Instr.slice, run_bounds (P := P) (w := w) (isS := true) e1 e2 hm' h1 hbm hmc h4', run_sizeOf_info hi2]
        split <;> rfl
      · rw [ho']
        refine ⟨ai, bk, o', m' - a, g1, g2, rfl, by omega, fun k hk => hcp k hk, fun hv => ?_⟩
        have s := g6 hv
        refine ⟨by have := hkn hv; omega, fun hpos => ?_, by have := s.fits; omega, hcut hv, fun hn => ?_⟩
        · obtain ⟨s1, s2⟩ := s.at_ (by omega)
          refine ⟨s1, ?_⟩
          rw [hoe (by omega), s2, hai.sz, hsz, Nat.add_mul]; omega
        · obtain ⟨hc, hm⟩ := hwh hn
          have := s.whole hc
          omega
    split at h
    · have hmx' : mx' = none := by cases mx' with | none => rfl | some _ => exact hmx.elim
      subst hmx'
      split at h
      · rename_i c
        have hc' := g5 c rfl
        subst hc'
        cases hq : (Nat.ble a b && Nat.ble b cap') <;> rw [hq] at h <;> simp only [cond_true, cond_false] at h
        · simp at h
        simp only [Bool.and_eq_true] at hq
        simp only [Option.some.injEq] at h
        subst h
        have h1 := Nat.le_of_ble_eq_true hq.1
        have h2 := Nat.le_of_ble_eq_true hq.2
        exact fin cap' _ (.inl ⟨rfl, rfl⟩) h1 h2 (Nat.le_refl _) (.inl rfl) (fun k hk => by injection hk) (fun hv => by have := (g6 hv).cut _ rfl; omega)
          (fun hv k hk => by have := (g6 hv).cut _ rfl; injection hk; omega) (by simp)
      · cases hq : (Nat.ble a b && Nat.ble b len) <;> rw [hq] at h <;> simp only [cond_true, cond_false] at h
        · simp at h
        simp only [Bool.and_eq_true] at hq
        simp only [Option.some.injEq] at h
        subst h
        have h1 := Nat.le_of_ble_eq_true hq.1
        have h2 := Nat.le_of_ble_eq_true hq.2
        exact fin cap' _ (.inl ⟨rfl, rfl⟩) h1 (by omega) (Nat.le_refl _) (.inl rfl) (by simp) (fun hv => by have := (g6 hv).known; omega) (by simp) (fun _ => ⟨rfl, rfl⟩)
    · rename_i vm
      simp only [Option.bind_eq_some_iff] at h
      obtain ⟨m, hm, h⟩ := h
      obtain ⟨e3, e3', _⟩ := boundV_sound hmx hm
      cases hq : (Nat.ble a b && (Nat.ble b m && capGe cap len m) && hi.isSome) <;> rw [hq] at h <;> simp only [cond_true, cond_false] at h
      · simp at h
      simp only [Bool.and_eq_true] at hq
      obtain ⟨⟨q1, q2, q3⟩, q4⟩ := hq
      simp only [Option.some.injEq] at h
      subst h
      have h1 := Nat.le_of_ble_eq_true q1
      have h2 := Nat.le_of_ble_eq_true q2
      have hmc : m ≤ cap' ∧ (ver = ai.ver → off + m ≤ ai.n) := by
        cases cap with
        | some c => have := Nat.le_of_ble_eq_true q3; have := g5 c rfl; exact ⟨by omega, fun hv => by have := (g6 hv).cut c rfl; omega⟩
        | none => have := Nat.le_of_ble_eq_true q3; exact ⟨by omega, fun hv => by have := (g6 hv).known; omega⟩
      rcases e3 with ⟨rfl, _⟩ | e3
      · simp at e3'
      exact fin m _ (.inr e3) h1 h2 hmc.1 (.inr (fun h0 => by subst h0; rw [q4] at e2'; simp at e2')) (fun k hk => by injection hk) (fun hv => by have := hmc.2 hv; omega)
        (fun hv k hk => by have := hmc.2 hv; injection hk; omega) (by simp)
  | _ => simp [sliceV] at h
end
end Go.DM
namespace Go.DM

section
variable {F : Bool → Nat → Prop} {M : Mu} {w w' : World} {P : Program}

/-! new owners -/
def Mu.addVar (M : Mu) (b : Nat) : Mu := { M with vb := M.vb ++ [b] }
def Mu.addArr (M : Mu) (a : AI) : Mu := { M with ab := M.ab ++ [a] }
def Mu.setLoc (M : Mu) (t b : Nat) : Mu := { M with lam := fun s => if s = t then some b else M.lam s }
def Mu.setArr (M : Mu) (j : Nat) (a : AI) : Mu := { M with ab := M.ab.set j a }

/-- A world with one block more (and, it may be, draws). -/
structure Plus (w w' : World) (o : Obj) : Prop where
  os : w'.os = w.os
  tape : w'.tape = w.tape
  output : w'.output = w.output
  heap : w'.heap = w.heap.push o

theorem Plus.alloc (w : World) (o : Obj) : Plus w (w.alloc o) o := ⟨rfl, rfl, rfl, rfl⟩
theorem Plus.size {o : Obj} (h : Plus w w' o) : w'.heap.size = w.heap.size + 1 := by rw [h.heap]; simp
theorem Plus.old {o : Obj} (h : Plus w w' o) {b : Nat} (hb : b < w.heap.size) : w'.heap[b]? = w.heap[b]? := by
  rw [h.heap, Array.getElem?_push, if_neg (by omega)]
theorem Plus.new {o : Obj} (h : Plus w w' o) : w'.heap[w.heap.size]? = some o := by
  rw [h.heap, Array.getElem?_push, if_pos rfl]

theorem fr_plus {o : Obj} (h : Plus w w' o) {M' : Mu} (hf : ∀ b, M'.own b → M.own b ∨ b = w.heap.size) (hv : ∀ (i : Nat) b, M.vb[i]? = some b → M'.vb[i]? = some b)
    (ha : ∀ (j : Nat) a, M.ab[j]? = some a → M'.ab[j]? = some a) : Fr M M' w w' :=
  ⟨h.os, h.tape, h.output, by rw [h.size]; omega, fun b hb _ => h.old hb, fun b hb => (hf b hb).imp id (fun e => by omega), hv, fun j a hj => ⟨a, ha j a hj, Nat.le_refl _, fun _ => rfl⟩⟩

theorem SimH.lt {H : Heap} (h : SimH F M w H) {o : Ow} {b : Nat} (ho : M.at o = some b) : b < w.heap.size := h.bound b ⟨o, ho⟩

theorem get_snoc {α : Type} {l : List α} {x y : α} {i : Nat} (h : (l ++ [x])[i]? = some y) : (l[i]? = some y) ∨ (i = l.length ∧ y = x) := by
  rcases Nat.lt_or_ge i l.length with hi | hi
  · rw [List.getElem?_append_left hi] at h; exact .inl h
  · rw [List.getElem?_append_right hi] at h
    have : i - l.length = 0 := by
      rcases Nat.eq_zero_or_pos (i - l.length) with h0 | h0
      · exact h0
      · rw [List.getElem?_eq_none (by simp; omega)] at h; cases h
    rw [this] at h
    simp at h
    exact .inr ⟨by omega, h.symm⟩
theorem get_snoc_old {α : Type} {l : List α} {x y : α} {i : Nat} (h : l[i]? = some y) : (l ++ [x])[i]? = some y := by
  rw [List.getElem?_append_left (List.getElem?_eq_some_iff.1 h).1]; exact h

theorem addArr_at {a : AI} {o : Ow} {b : Nat} (h : (M.addArr a).at o = some b) : M.at o = some b ∨ (o = .arr M.ab.length ∧ b = a.block) := by
  cases o with
  | arr j =>
    simp only [Mu.at, Mu.addArr, Option.map_eq_some_iff] at h
    obtain ⟨x, hx, rfl⟩ := h
    rcases get_snoc hx with hx | ⟨rfl, rfl⟩
    · exact .inl (by simp [Mu.at, hx])
    · exact .inr ⟨rfl, rfl⟩
  | var i => exact .inl h
  | loc t => exact .inl h
theorem addVar_at {c : Nat} {o : Ow} {b : Nat} (h : (M.addVar c).at o = some b) : M.at o = some b ∨ (o = .var M.vb.length ∧ b = c) := by
  cases o with
  | var i =>
    simp only [Mu.at, Mu.addVar] at h
    rcases get_snoc h with hx | ⟨rfl, rfl⟩
    · exact .inl hx
    · exact .inr ⟨rfl, rfl⟩
  | arr j => exact .inl h
  | loc t => exact .inl h
theorem setLoc_at {t c : Nat} {o : Ow} {b : Nat} (h : (M.setLoc t c).at o = some b) : (M.at o = some b ∧ o ≠ .loc t) ∨ (o = .loc t ∧ b = c) := by
  cases o with
  | loc s =>
    simp only [Mu.at, Mu.setLoc] at h
    by_cases e : s = t
    · rw [if_pos e] at h; subst e; exact .inr ⟨rfl, by simpa using h.symm⟩
    · rw [if_neg e] at h; exact .inl ⟨h, by simpa using e⟩
  | arr j => exact .inl ⟨h, by simp⟩
  | var i => exact .inl ⟨h, by simp⟩

theorem fr_addArr {o : Obj} (h : Plus w w' o) {a : AI} (ha : a.block = w.heap.size) : Fr M (M.addArr a) w w' :=
  fr_plus h (fun b hb => by
    obtain ⟨ow, ho⟩ := hb
    rcases addArr_at ho with h1 | ⟨_, rfl⟩
    · exact .inl ⟨ow, h1⟩
    · exact .inr ha) (fun _ _ h => h) (fun j a hj => get_snoc_old hj)
theorem fr_addVar {o : Obj} (h : Plus w w' o) : Fr M (M.addVar w.heap.size) w w' :=
  fr_plus h (fun b hb => by
    obtain ⟨ow, ho⟩ := hb
    rcases addVar_at ho with h1 | ⟨_, rfl⟩
    · exact .inl ⟨ow, h1⟩
    · exact .inr rfl) (fun i b hi => get_snoc_old hi) (fun _ _ h => h)
theorem fr_setLoc {o : Obj} (h : Plus w w' o) (t : Nat) : Fr M (M.setLoc t w.heap.size) w w' :=
  fr_plus h (fun b hb => by
    obtain ⟨ow, ho⟩ := hb
    rcases setLoc_at ho with ⟨h1, _⟩ | ⟨_, rfl⟩
    · exact .inl ⟨ow, h1⟩
    · exact .inr rfl) (fun _ _ h => h) (fun _ _ h => h)

theorem SimH.addArr {H : Heap} (h : SimH F M w H) {o : Obj} (p : Plus w w' o) {a : AI} {A : Arr} (ha : a.block = w.heap.size) (hA : ArrAt F (M.addArr a) w' a A) :
    SimH F (M.addArr a) w' { H with arrs := H.arrs ++ [A] } where
  vlen := h.vlen
  alen := by simpa [Mu.addArr] using h.alen
  vmem := fun i b v hi hv => (h.vmem i b v hi hv).fr (fr_addArr p ha) (p.old (h.lt (o := .var i) hi))
  amem := fun j a' A' hj hA' => by
    rcases get_snoc hj with hj | ⟨rfl, rfl⟩
    · rcases get_snoc hA' with hA' | ⟨e, _⟩
      · exact (h.amem j a' A' hj hA').fr (fr_addArr p ha) (p.old (h.lt (o := .arr j) (by simp [Mu.at, hj])))
      · have := (List.getElem?_eq_some_iff.1 hj).1; have := h.alen; omega
    · rcases get_snoc hA' with hA' | ⟨_, rfl⟩
      · have := (List.getElem?_eq_some_iff.1 hA').1; have := h.alen; omega
      · exact hA
  inj := fun o1 o2 b h1 h2 => by
    rcases addArr_at h1 with h1 | ⟨rfl, rfl⟩ <;> rcases addArr_at h2 with h2 | ⟨rfl, e⟩
    · exact h.inj _ _ _ h1 h2
    · have := h.lt h1; omega
    · have := h.lt h2; omega
    · rfl
  bound := fun b hb => by
    obtain ⟨ow, ho⟩ := hb
    rw [p.size]
    rcases addArr_at ho with h1 | ⟨_, rfl⟩
    · have := h.lt h1; omega
    · omega
  apart := fun g b hb hf => by
    obtain ⟨ow, ho⟩ := hb
    rcases addArr_at ho with h1 | ⟨_, rfl⟩
    · exact h.apart g b ⟨ow, h1⟩ hf
    · have := h.fbound _ _ hf; omega
  fbound := fun g b hb => by rw [p.size]; have := h.fbound g b hb; omega

theorem SimH.addVar {H : Heap} (h : SimH F M w H) {o : Obj} (p : Plus w w' o) {v : V} (hv : VarAt F (M.addVar w.heap.size) w' w.heap.size v) :
    SimH F (M.addVar w.heap.size) w' { H with vars := H.vars ++ [v] } where
  vlen := by simpa [Mu.addVar] using h.vlen
  alen := h.alen
  vmem := fun i b u hi hu => by
    rcases get_snoc hi with hi | ⟨rfl, rfl⟩
    · rcases get_snoc hu with hu | ⟨e, _⟩
      · exact (h.vmem i b u hi hu).fr (fr_addVar p) (p.old (h.lt (o := .var i) hi))
      · have := (List.getElem?_eq_some_iff.1 hi).1; have := h.vlen; omega
    · rcases get_snoc hu with hu | ⟨_, rfl⟩
      · have := (List.getElem?_eq_some_iff.1 hu).1; have := h.vlen; omega
      · exact hv
  amem := fun j a A hj hA => by
    have hj' : M.ab[j]? = some a := hj
    exact (h.amem j a A hj' hA).fr (fr_addVar p) (p.old (h.lt (o := .arr j) (by simp [Mu.at, hj'])))
  inj := fun o1 o2 b h1 h2 => by
    rcases addVar_at h1 with h1 | ⟨rfl, rfl⟩ <;> rcases addVar_at h2 with h2 | ⟨rfl, e⟩
    · exact h.inj _ _ _ h1 h2
    · have := h.lt h1; omega
    · have := h.lt h2; omega
    · rfl
  bound := fun b hb => by
    obtain ⟨ow, ho⟩ := hb
    rw [p.size]
    rcases addVar_at ho with h1 | ⟨_, rfl⟩
    · have := h.lt h1; omega
    · omega
  apart := fun g b hb hf => by
    obtain ⟨ow, ho⟩ := hb
    rcases addVar_at ho with h1 | ⟨_, rfl⟩
    · exact h.apart g b ⟨ow, h1⟩ hf
    · have := h.fbound _ _ hf; omega
  fbound := fun g b hb => by rw [p.size]; have := h.fbound g b hb; omega

theorem SimH.setLoc {H : Heap} (h : SimH F M w H) {o : Obj} (p : Plus w w' o) (t : Nat) : SimH F (M.setLoc t w.heap.size) w' H where
  vlen := h.vlen
  alen := h.alen
  vmem := fun i b u hi hu => (h.vmem i b u hi hu).fr (fr_setLoc p t) (p.old (h.lt (o := .var i) hi))
  amem := fun j a A hj hA => by
    have hj' : M.ab[j]? = some a := hj
    exact (h.amem j a A hj' hA).fr (fr_setLoc p t) (p.old (h.lt (o := .arr j) (by simp [Mu.at, hj'])))
  inj := fun o1 o2 b h1 h2 => by
    rcases setLoc_at h1 with ⟨h1, _⟩ | ⟨rfl, rfl⟩ <;> rcases setLoc_at h2 with ⟨h2, _⟩ | ⟨rfl, e⟩
    · exact h.inj _ _ _ h1 h2
    · have := h.lt h1; omega
    · have := h.lt h2; omega
    · rfl
  bound := fun b hb => by
    obtain ⟨ow, ho⟩ := hb
    rw [p.size]
    rcases setLoc_at ho with ⟨h1, _⟩ | ⟨_, rfl⟩
    · have := h.lt h1; omega
    · omega
  apart := fun g b hb hf => by
    obtain ⟨ow, ho⟩ := hb
    rcases setLoc_at ho with ⟨h1, _⟩ | ⟨_, rfl⟩
    · exact h.apart g b ⟨ow, h1⟩ hf
    · have := h.fbound _ _ hf; omega
  fbound := fun g b hb => by rw [p.size]; have := h.fbound g b hb; omega

/-- Slots behind a new block. -/
theorem SimS.plus {H : Heap} {s : List V} {a : Act} (hs : SimS F M w s a) (hh : SimH F M w H) {o : Obj} (p : Plus w w' o) {M' : Mu} (f : Fr M M' w w') (hl : M'.lam = M.lam) : SimS F M' w' s a where
  len := hs.len
  slot := fun t v c hv hc => (hs.slot t v c hv hc).fr f (fun r b h => by rw [hl]; exact h) (fun b h => p.old (hh.lt (o := .loc t) h))
  defers := hs.defers

/-! rows of elements -/
def RowHas (F : Bool → Nat → Prop) (M : Mu) (w : World) (cs : Array Value) (base sz : Nat) (es : List V) : Prop :=
  ∀ (i : Nat) e, es[i]? = some e → e.cells.length = sz ∧ ∀ (k : Nat) x, e.cells[k]? = some x → ∃ y, cs[base + (i * sz + k)]? = some y ∧ RCell F M w x y
def ElemsIn (F : Bool → Nat → Prop) (M : Mu) (w : World) (zs : List Value) (sz : Nat) (es : List V) : Prop :=
  zs.length = es.length * sz ∧ (∀ z ∈ zs, z.oneCell' = true) ∧ ∀ (i : Nat) e, es[i]? = some e → e.cells.length = sz ∧ ∀ (k : Nat) x, e.cells[k]? = some x → ∃ y, zs[i * sz + k]? = some y ∧ RCell F M w x y

theorem RowHas.fr {M' : Mu} (f : Fr M M' w w') {cs : Array Value} {base sz : Nat} {es : List V} (h : RowHas F M w cs base sz es) : RowHas F M' w' cs base sz es := fun i e he => by
  obtain ⟨h1, h2⟩ := h i e he
  refine ⟨h1, fun k x hx => ?_⟩
  obtain ⟨y, h3, h4⟩ := h2 k x hx
  exact ⟨y, h3, h4.fr f⟩
theorem ElemsIn.fr {M' : Mu} (f : Fr M M' w w') {zs : List Value} {sz : Nat} {es : List V} (h : ElemsIn F M w zs sz es) : ElemsIn F M' w' zs sz es :=
  ⟨h.1, h.2.1, fun i e he => by
    obtain ⟨h1, h2⟩ := h.2.2 i e he
    refine ⟨h1, fun k x hx => ?_⟩
    obtain ⟨y, h3, h4⟩ := h2 k x hx
    exact ⟨y, h3, h4.fr f⟩⟩

theorem mul_lt_add {i k sz n : Nat} (hi : i < n) (hk : k < sz) : i * sz + k < n * sz := by
  have : (i + 1) * sz ≤ n * sz := Nat.mul_le_mul_right _ hi
  rw [Nat.add_mul, Nat.one_mul] at this
  omega

theorem RowHas.splice {cs : Array Value} {base sz : Nat} {es ys : List V} {zs : List Value} (h : RowHas F M w cs base sz es) (hz : ElemsIn F M w zs sz ys) {p : Nat} (hp : p ≤ es.length)
    (hfit : base + (p + ys.length) * sz ≤ cs.size) : RowHas F M w (splice cs (base + p * sz) zs) base sz (es.take p ++ (ys ++ es.drop (p + ys.length))) := by
  intro i e he
  have hzl : zs.length = ys.length * sz := hz.1
  have hle : base + p * sz + zs.length ≤ cs.size := by rw [hzl, Nat.add_assoc, ← Nat.add_mul]; exact hfit
  rcases Nat.lt_or_ge i p with hip | hip
  · rw [List.getElem?_append_left (by simp; omega), List.getElem?_take, if_pos hip] at he
    obtain ⟨h1, h2⟩ := h i e he
    refine ⟨h1, fun k x hx => ?_⟩
    obtain ⟨y, h3, h4⟩ := h2 k x hx
    have hk : k < sz := by rw [← h1]; exact (List.getElem?_eq_some_iff.1 hx).1
    have := mul_lt_add hip hk
    exact ⟨y, by rw [splice_out hle _ (.inl (by omega))]; exact h3, h4⟩
  · rw [List.getElem?_append_right (by simp; omega)] at he
    have e1 : i - (es.take p).length = i - p := by simp; omega
    rw [e1] at he
    rcases Nat.lt_or_ge (i - p) ys.length with hk | hk
    · rw [List.getElem?_append_left hk] at he
      obtain ⟨h1, h2⟩ := hz.2.2 (i - p) e he
      refine ⟨h1, fun k x hx => ?_⟩
      obtain ⟨y, h3, h4⟩ := h2 k x hx
      have hks : k < sz := by rw [← h1]; exact (List.getElem?_eq_some_iff.1 hx).1
      have hlt := mul_lt_add hk hks
      have e2 : base + (i * sz + k) = base + p * sz + ((i - p) * sz + k) := by
        have : i * sz = p * sz + (i - p) * sz := by rw [← Nat.add_mul]; congr 1; omega
        omega
      exact ⟨y, by rw [e2, splice_in hle _ (by omega)]; exact h3, h4⟩
    · rw [List.getElem?_append_right hk, List.getElem?_drop] at he
      have e2 : p + ys.length + (i - p - ys.length) = i := by omega
      rw [e2] at he
      obtain ⟨h1, h2⟩ := h i e he
      refine ⟨h1, fun k x hx => ?_⟩
      obtain ⟨y, h3, h4⟩ := h2 k x hx
      have : (p + ys.length) * sz ≤ i * sz := Nat.mul_le_mul_right _ (by omega)
      exact ⟨y, by rw [splice_out hle _ (.inr (by rw [hzl]; rw [Nat.add_mul] at this; omega))]; exact h3, h4⟩

theorem RowHas.drop {cs : Array Value} {base sz : Nat} {es : List V} (h : RowHas F M w cs base sz es) (p : Nat) : RowHas F M w cs (base + p * sz) sz (es.drop p) := fun i e he => by
  rw [List.getElem?_drop] at he
  obtain ⟨h1, h2⟩ := h (p + i) e he
  refine ⟨h1, fun k x hx => ?_⟩
  obtain ⟨y, h3, h4⟩ := h2 k x hx
  exact ⟨y, by rw [← h3, Nat.add_mul]; congr 1; omega, h4⟩

theorem ElemsIn.append {zs zs' : List Value} {sz : Nat} {es es' : List V} (h : ElemsIn F M w zs sz es) (h' : ElemsIn F M w zs' sz es') : ElemsIn F M w (zs ++ zs') sz (es ++ es') := by
  refine ⟨by rw [List.length_append, List.length_append, h.1, h'.1, Nat.add_mul], fun z hz => ?_, fun i e he => ?_⟩
  · rcases List.mem_append.1 hz with hz | hz
    · exact h.2.1 z hz
    · exact h'.2.1 z hz
  · rcases Nat.lt_or_ge i es.length with hi | hi
    · rw [List.getElem?_append_left hi] at he
      obtain ⟨h1, h2⟩ := h.2.2 i e he
      refine ⟨h1, fun k x hx => ?_⟩
      obtain ⟨y, h3, h4⟩ := h2 k x hx
      exact ⟨y, by rw [List.getElem?_append_left (List.getElem?_eq_some_iff.1 h3).1]; exact h3, h4⟩
    · rw [List.getElem?_append_right hi] at he
      obtain ⟨h1, h2⟩ := h'.2.2 (i - es.length) e he
      refine ⟨h1, fun k x hx => ?_⟩
      obtain ⟨y, h3, h4⟩ := h2 k x hx
      have e2 : i * sz = es.length * sz + (i - es.length) * sz := by rw [← Nat.add_mul]; congr 1; omega
      refine ⟨y, ?_, h4⟩
      rw [List.getElem?_append_right (by rw [h.1]; omega), ← h3, h.1]
      congr 1; omega

theorem ElemsIn.row {zs : List Value} {sz : Nat} {es : List V} (h : ElemsIn F M w zs sz es) (rest : List Value) : RowHas F M w (zs ++ rest).toArray 0 sz es := fun i e he => by
  obtain ⟨h1, h2⟩ := h.2.2 i e he
  refine ⟨h1, fun k x hx => ?_⟩
  obtain ⟨y, h3, h4⟩ := h2 k x hx
  exact ⟨y, by simp only [List.getElem?_toArray, Nat.zero_add]; rw [List.getElem?_append_left (List.getElem?_eq_some_iff.1 h3).1]; exact h3, h4⟩

theorem ElemsIn.take {zs : List Value} {sz : Nat} {es : List V} (h : ElemsIn F M w zs sz es) (n : Nat) (hn : n ≤ es.length) : ElemsIn F M w (zs.take (n * sz)) sz (es.take n) := by
  refine ⟨?_, fun z hz => h.2.1 z (List.mem_of_mem_take hz), fun i e he => ?_⟩
  · have : n * sz ≤ es.length * sz := Nat.mul_le_mul_right _ hn
    rw [List.length_take, List.length_take, h.1, Nat.min_eq_left this, Nat.min_eq_left hn]
  · rw [List.getElem?_take] at he
    split at he
    · rename_i hi
      obtain ⟨h1, h2⟩ := h.2.2 i e he
      refine ⟨h1, fun k x hx => ?_⟩
      obtain ⟨y, h3, h4⟩ := h2 k x hx
      have hk : k < sz := by rw [← h1]; exact (List.getElem?_eq_some_iff.1 hx).1
      exact ⟨y, by rw [List.getElem?_take, if_pos (mul_lt_add hi hk)]; exact h3, h4⟩
    · simp at he

/-- The elements of a slice that is read. -/
theorem elems_src {H : Heap} (hh : SimH F M w H) {y : V} {d : Value} (hy : REv F M w y d) {ys : List V} (h : elemsOf H y = some ys) {sz : Nat} (hsz : ∀ v ∈ ys, v.cells.length = sz) :
    ∃ (zs : List Value) (ad : Option Addr) (cap : Nat), d = .slice ad ys.length cap ∧ ElemsIn F M w zs sz ys ∧ (ad = none → ys = []) ∧ ∀ m, m ≤ ys.length → (Builtin.firstCells sz m d).run P w = .ok (zs.take (m * sz)).toArray w := by
  -- memory at an address gives all
  have key : ∀ (b o cap : Nat), (∀ (i : Nat) e, ys[i]? = some e → ∀ (k : Nat) x, e.cells[k]? = some x → ∃ y, w.cell? ⟨b, o + (i * sz + k), none⟩ = some y ∧ RCell F M w x y) → d = .slice (some ⟨b, o, none⟩) ys.length cap →
      ∃ (zs : List Value) (ad : Option Addr) (cap : Nat), d = .slice ad ys.length cap ∧ ElemsIn F M w zs sz ys ∧ (ad = none → ys = []) ∧ ∀ m, m ≤ ys.length → (Builtin.firstCells sz m d).run P w = .ok (zs.take (m * sz)).toArray w := by
    intro b o cap hm hd
    let f : Nat → Value := fun j => (w.cell? ⟨b, o + j, none⟩).getD undef
    have hcell : ∀ (i : Nat) e, ys[i]? = some e → ∀ (k : Nat) x, e.cells[k]? = some x → w.cell? ⟨b, o + (i * sz + k), none⟩ = some (f (i * sz + k)) ∧ RCell F M w x (f (i * sz + k)) := by
      intro i e he k x hx
      obtain ⟨y, h1, h2⟩ := hm i e he k x hx
      have : f (i * sz + k) = y := by show (w.cell? ⟨b, o + (i * sz + k), none⟩).getD undef = y; rw [h1]; rfl
      rw [this]
      exact ⟨h1, h2⟩
    have hall : ∀ j, j < ys.length * sz → ∃ x, w.cell? ⟨b, o + j, none⟩ = some (f j) ∧ RCell F M w x (f j) := by
      intro j hj
      have hs0 : 0 < sz := by rcases Nat.eq_zero_or_pos sz with h0 | h0; · subst h0; simp at hj
                              · exact h0
      have hi : j / sz < ys.length := by rw [Nat.div_lt_iff_lt_mul hs0]; exact hj
      have hk : j % sz < sz := Nat.mod_lt _ hs0
      have he : ys[j / sz]? = some ys[j / sz] := by simp [hi]
      have hl := hsz ys[j / sz] (List.getElem_mem hi)
      have hx : ys[j / sz].cells[j % sz]? = some (ys[j / sz].cells[j % sz]'(by omega)) := by simp
      have := hcell _ _ he _ _ hx
      have hdm : j / sz * sz + j % sz = j := by rw [Nat.mul_comm]; exact Nat.div_add_mod j sz
      rw [hdm] at this
      exact ⟨_, this⟩
    refine ⟨(List.range (ys.length * sz)).map f, some ⟨b, o, none⟩, cap, hd, ⟨by simp, fun z hz => ?_, fun i e he => ⟨hsz e (List.mem_of_getElem? he), fun k x hx => ?_⟩⟩, by simp, fun m hm' => ?_⟩
    · obtain ⟨j, hj, rfl⟩ := List.mem_map.1 hz
      obtain ⟨x, _, hr⟩ := hall j (by simpa using hj)
      exact hr.2
    · have hl := hsz e (List.mem_of_getElem? he)
      have hk : k < sz := by rw [← hl]; exact (List.getElem?_eq_some_iff.1 hx).1
      have hi : i < ys.length := (List.getElem?_eq_some_iff.1 he).1
      have hlt := mul_lt_add hi hk
      exact ⟨f (i * sz + k), by rw [List.getElem?_map, List.getElem?_range hlt]; rfl, (hcell i e he k x hx).2⟩
    · rw [hd]
      have hmul : m * sz ≤ ys.length * sz := Nat.mul_le_mul_right _ hm'
      have := run_loadCells (P := P) w ⟨b, o, none⟩ (m * sz) f (fun j hj => by rw [addr_add]; obtain ⟨x, h1, _⟩ := hall j (by omega); exact h1)
      simp only [Builtin.firstCells]
      rw [this]
      congr 2
      rw [← List.map_take, List.take_range, Nat.min_eq_left hmul]
  have none_ : ∀ (ad : Option Addr) (cap : Nat), ys = [] → d = .slice ad 0 cap →
      ∃ (zs : List Value) (ad : Option Addr) (cap : Nat), d = .slice ad ys.length cap ∧ ElemsIn F M w zs sz ys ∧ (ad = none → ys = []) ∧ ∀ m, m ≤ ys.length → (Builtin.firstCells sz m d).run P w = .ok (zs.take (m * sz)).toArray w := by
    intro ad cap h0 hd
    subst h0
    refine ⟨[], ad, cap, hd, ⟨by simp, by simp, by simp⟩, fun _ => rfl, fun m hm => ?_⟩
    have : m = 0 := by simpa using hm
    subst this
    rw [hd]
    cases ad with
    | none => simp [Builtin.firstCells]
    | some a => simp only [Builtin.firstCells, Nat.zero_mul]; rfl
  cases y with
  | nils =>
    obtain rfl := rev_nils hy
    simp [elemsOf] at h
    exact none_ none 0 h rfl
  | fl tag tight es =>
    simp only [elemsOf, Option.some.injEq] at h
    subst h
    obtain ⟨b, o, cap, hd, _, _, _, hm⟩ := fl_open hy (n := sz) (fun x hx => hsz x (List.mem_of_getElem? hx))
    exact key b o cap (fun i e he k x hx => by
      obtain ⟨y, h1, h2, h3⟩ := (hm i e he).2 k x hx
      exact ⟨y, h1, h2.toRS, h3⟩) hd
  | sl id ver off len cap =>
    simp only [elemsOf, Option.bind_eq_some_iff] at h
    obtain ⟨A, hA, h⟩ := h
    cases hc : (A.ver == ver && Nat.ble (off + len) A.elems.length) <;> rw [hc] at h <;> simp only [cond_true, cond_false] at h
    · simp at h
    simp only [Bool.and_eq_true] at hc
    have hv : A.ver = ver := by simpa using hc.1
    have hle := Nat.le_of_ble_eq_true hc.2
    simp only [Option.some.injEq] at h
    have hlen : ys.length = len := by rw [← h]; simp; omega
    obtain ⟨a, b, o, cap', h1, h2, hd, h4, h5, h6⟩ := hy
    have ha := hh.amem id a A h1 hA
    have s := h6 (by rw [ha.ver]; exact hv.symm)
    rcases Nat.eq_zero_or_pos len with h0 | h0
    · exact none_ (some ⟨b, o, none⟩) cap' (List.eq_nil_of_length_eq_zero (by omega)) (by rw [hd, h0])
    · obtain ⟨rfl, rfl⟩ := s.at_ (by omega)
      have hsz' : a.sz = sz := by
        have hz : ys[0]? = some ys[0] := by simp [hlen, h0]
        have hA0 : A.elems[off]? = some ys[0] := by
          generalize ys[0] = z0 at hz
          rw [← h, List.getElem?_take] at hz
          split at hz
          · rw [List.getElem?_drop] at hz; simpa using hz
          · omega
        obtain ⟨cs, t, _, _, g⟩ := ha.mem
        rw [← (g off _ hA0).1]
        exact hsz _ (List.getElem_mem _)
      refine key a.block (a.base + off * a.sz) cap' (fun i e he k x hx => ?_) (by rw [hd, hlen])
      rw [← h, List.getElem?_take] at he
      split at he
      · rw [List.getElem?_drop] at he
        obtain ⟨y, g1, g2⟩ := ha.memAt he k x hx
        refine ⟨y, ?_, g2⟩
        rw [← g1, hsz', Nat.add_mul]
        congr 2; omega
      · simp at he
  | _ => simp [elemsOf] at h
end
end Go.DM
namespace Go.DM

section
variable {F : Bool → Nat → Prop} {M : Mu} {w w' : World} {P : Program}

/-- A step on the heap: places and world move on; the frame's own variables stay. -/
structure HS (F : Bool → Nat → Prop) (M M' : Mu) (w w' : World) (H' : Heap) : Prop where
  fr : Fr M M' w w'
  lam : M'.lam = M.lam
  locs : ∀ t b, M.lam t = some b → w'.heap[b]? = w.heap[b]?
  sim : SimH F M' w' H'

theorem SimS.hs {H' : Heap} {M' : Mu} {s : List V} {a : Act} (h : SimS F M w s a) (k : HS F M M' w w' H') : SimS F M' w' s a where
  len := h.len
  slot := fun t v c hv hc => (h.slot t v c hv hc).fr k.fr (fun r b hl => by rw [k.lam]; exact hl) (fun b hl => k.locs t b hl)
  defers := h.defers

theorem fr_drew (M : Mu) (w : World) : Fr M M w w.drew :=
  ⟨rfl, rfl, rfl, Nat.le_refl _, fun _ _ _ => rfl, fun _ h => .inl h, fun _ _ h => h, fun _ a h => ⟨a, h, Nat.le_refl _, fun _ => rfl⟩⟩
theorem fr_undrew (M : Mu) (w : World) : Fr M M w.drew w :=
  ⟨rfl, rfl, rfl, Nat.le_refl _, fun _ _ _ => rfl, fun _ h => .inl h, fun _ _ h => h, fun _ a h => ⟨a, h, Nat.le_refl _, fun _ => rfl⟩⟩
theorem SimH.drew {H : Heap} (h : SimH F M w H) : SimH F M w.drew H := h.keep (fr_drew M w) fun _ _ _ _ => rfl
theorem REv.fr {M' : Mu} (f : Fr M M' w w') (hl : M'.lam = M.lam) {v : V} {c : Value} (h : REv F M w v c) : REv F M' w' v c := by
  cases v with
  | lptr r o => obtain ⟨b, h1, h2⟩ := h; exact ⟨b, by rw [hl]; exact h1, h2⟩
  | box v => exact h
  | int za zb => exact RV.fr (F := F) (v := (.int za zb)) (c := c) f h
  | bool za => exact RV.fr (F := F) (v := (.bool za)) (c := c) f h
  | str za => exact RV.fr (F := F) (v := (.str za)) (c := c) f h
  | nilp => exact RV.fr (F := F) (v := (.nilp)) (c := c) f h
  | nils => exact RV.fr (F := F) (v := (.nils)) (c := c) f h
  | nilfn => exact RV.fr (F := F) (v := (.nilfn)) (c := c) f h
  | any => exact RV.fr (F := F) (v := (.any)) (c := c) f h
  | ptr za zb => exact RV.fr (F := F) (v := (.ptr za zb)) (c := c) f h
  | aptr za zb zc zd => exact RV.fr (F := F) (v := (.aptr za zb zc zd)) (c := c) f h
  | fptr za zb => exact RV.fr (F := F) (v := (.fptr za zb)) (c := c) f h
  | fl za zb zc => exact RV.fr (F := F) (v := (.fl za zb zc)) (c := c) f h
  | sl za zb zc zd ze => exact RV.fr (F := F) (v := (.sl za zb zc zd ze)) (c := c) f h
  | fn za zb => exact RV.fr (F := F) (v := (.fn za zb)) (c := c) f h
  | agg za => exact RV.fr (F := F) (v := (.agg za)) (c := c) f h
  | tuple za => exact RV.fr (F := F) (v := (.tuple za)) (c := c) f h

theorem plus_drew {o : Obj} : Plus w (w.drew.alloc o) o := ⟨rfl, rfl, rfl, rfl⟩

theorem zOk_spec {e : TypeId} {z : V} (h : zOk P e = some z) : ∃ i zv, P.info? e = some i ∧ i.zero = some zv ∧ z = ofVal zv ∧ z.cells.length = P.cellsOf e ∧ zv.cells.size = P.cellsOf e ∧
    (∀ (F : Bool → Nat → Prop) (M : Mu) (w : World), RList (RCell F M w) z.cells zv.cells) ∧ ∀ x ∈ z.cells, x.gnd = true := by
  unfold zOk at h
  simp only [Option.bind_eq_some_iff] at h
  obtain ⟨z', hz, h⟩ := h
  cases hc : (z'.storable && (z'.cells.length == P.cellsOf e && z'.cells.all V.gnd)) <;> rw [hc] at h <;> simp only [cond_true, cond_false] at h
  · simp at h
  simp only [Option.some.injEq] at h
  subst h
  simp only [Bool.and_eq_true] at hc
  unfold tZero at hz
  simp only [Option.map_eq_some_iff, Option.bind_eq_some_iff] at hz
  obtain ⟨zv, ⟨i, hi, hzv⟩, rfl⟩ := hz
  have hl : (ofVal zv).cells.length = P.cellsOf e := by simpa using hc.2.1
  have hr : ∀ (F : Bool → Nat → Prop) (M : Mu) (w : World), RList (RCell F M w) (ofVal zv).cells zv.cells := fun F M w => storable_cells (ofVal_sound zv).toREv hc.1
  have hs : zv.cells.size = P.cellsOf e := by
    have := (hr (fun _ _ => False) ⟨[], [], fun _ => none⟩ default).1
    omega
  exact ⟨i, zv, hi, hzv, rfl, hl, hs, hr, fun x hx => by have := hc.2.2; rw [List.all_eq_true] at this; exact this x hx⟩

theorem run_zeroValue {e : TypeId} {i : TypeInfo} {zv : Value} (hi : P.info? e = some i) (hz : i.zero = some zv) (w : World) : (zeroValue e).run P w = .ok zv w := by
  simp [zeroValue, typeInfo, hi, hz]

/-- A new row of elements, an own array. -/
theorem newArr_sound {H : Heap} (hh : SimH F M w H) {o : Obj} {cs : Array Value} {t : TypeId} (p : Plus w w' o) (ho : o = .cells cs t (0, 0)) {es : List V} {sz lim : Nat} {opn : Bool}
    (hr : RowHas F M w cs 0 sz es) (hl : lim * sz ≤ cs.size) (hle : es.length ≤ lim) (hx : opn = false → lim = es.length) :
    HS F M (M.addArr ⟨w.heap.size, 0, lim, 0, sz, es.length⟩) w w' { H with arrs := H.arrs ++ [⟨es, 0, opn, sz⟩] } := by
  have f := fr_addArr (M := M) p (a := ⟨w.heap.size, 0, lim, 0, sz, es.length⟩) rfl
  refine ⟨f, rfl, fun s b hb => p.old (hh.lt (o := .loc s) hb), hh.addArr p rfl ⟨rfl, rfl, rfl, hle, hx, cs, t, by rw [p.new, ho], by simpa using hl, fun i e he => ?_⟩⟩
  obtain ⟨h1, h2⟩ := hr i e he
  refine ⟨h1, fun k x hx => ?_⟩
  obtain ⟨y, h3, h4⟩ := h2 k x hx
  exact ⟨y, h3, h4.fr f⟩

theorem rv_new {H : Heap} (hh : SimH F M w H) {lim sz n k : Nat} {cap : Option Nat} (hk : k ≤ lim) (hn : n ≤ k) (hnn : n ≤ lim) (hcap : ∀ c, cap = some c → k = c) (hc2 : ∀ c, cap = some c → c ≤ n) (hw : cap = none → k = lim) (w'' : World) :
    RV F (M.addArr ⟨w.heap.size, 0, lim, 0, sz, n⟩) w'' (.sl H.arrs.length 0 0 n cap) (.slice (some ⟨w.heap.size, 0, none⟩) n k) := by
  refine ⟨⟨w.heap.size, 0, lim, 0, sz, n⟩, w.heap.size, 0, k, ?_, Nat.le_refl _, rfl, hn, hcap, fun _ => ⟨by simp, fun _ => ⟨rfl, by simp⟩, by simpa using hk, fun c hc => by have := hc2 c hc; simpa using this, fun h => by have := hw h; simpa using this⟩⟩
  simp only [Mu.addArr]
  rw [← hh.alen, List.getElem?_append_right (by omega)]
  simp

theorem grownCap_le (need old : Nat) (e : TypeId) (t : Nat) : need ≤ (Question.appendCap need old e).cut t := by simp [Question.cut]

theorem size_zeroCells' (z : Array Value) (n : Nat) : (Builtin.zeroCells z n).size = n * z.size := by simp [Builtin.zeroCells]

theorem grow_eq {H : Heap} {es : List V} {e : TypeId} {v : V} {h' : Heap} (h : grow P H es e = some (v, h')) :
    es.length * P.bytesOf e ≤ 140737488355328 ∧ P.bytesOf e ≠ 0 ∧ (∃ z, zOk P e = some z) ∧ v = .sl H.arrs.length 0 0 es.length none ∧ h' = { H with arrs := H.arrs ++ [⟨es, 0, true, P.cellsOf e⟩] } := by
  unfold grow at h
  cases hc : (Nat.ble (es.length * P.bytesOf e) 140737488355328 && (!(Nat.beq (P.bytesOf e) 0) && (zOk P e).isSome)) <;> rw [hc] at h <;> simp only [cond_true, cond_false] at h
  · simp at h
  simp only [Bool.and_eq_true] at hc
  simp only [Option.some.injEq, Prod.mk.injEq] at h
  exact ⟨Nat.le_of_ble_eq_true hc.1, Nat.ne_of_beq_eq_false (by simpa using hc.2.1), Option.isSome_iff_exists.1 hc.2.2, h.1.symm, h.2.symm⟩

/-- The model's append where there is no room: a new row. -/
theorem run_append_row {t u e e' ty : TypeId} {i : TypeInfo} (hu : P.underlying t = some (.slice e)) (hi : P.info? e = some i) (hux : P.underlying u = some (.slice e')) {z : V} (hz : zOk P e = some z)
    {base : Option Addr} {sLen sCap : Nat} {d : Value} {xs ys : List V} {zs zs' : List Value} (hlen : xs.length = sLen) (hcap : sCap < sLen + ys.length) (hb : (xs ++ ys).length * P.bytesOf e ≤ 140737488355328) (hb0 : P.bytesOf e ≠ 0)
    (hl : (Builtin.lenOf d).run P w = .ok ys.length w)
    (h1 : (Builtin.firstCells (P.cellsOf e) sLen (.slice base sLen sCap)).run P w.drew = .ok zs.toArray w.drew) (h2 : (Builtin.firstCells (P.cellsOf e) ys.length d).run P w.drew = .ok zs'.toArray w.drew)
    (hx : ElemsIn F M w zs (P.cellsOf e) xs) (hy : ElemsIn F M w zs' (P.cellsOf e) ys) :
    ∃ cp row, (Builtin.append_ #[t, u] ty #[.slice base sLen sCap, d]).run P w = .ok (.slice (some ⟨w.heap.size, 0, none⟩) (xs ++ ys).length cp) (w.drew.alloc (.cells row e)) ∧
      (xs ++ ys).length ≤ cp ∧ cp * P.cellsOf e ≤ row.size ∧ RowHas F M w row 0 (P.cellsOf e) (xs ++ ys) := by
  obtain ⟨i', zv, hi', hzv, _, _, hzs, _, _⟩ := zOk_spec hz
  rw [hi] at hi'; cases hi'
  have hlen2 : (xs ++ ys).length = sLen + ys.length := by simp [hlen]
  have hneed : sLen + ys.length ≤ 140737488355328 := by
    rw [← hlen2]; exact Nat.le_trans (Nat.le_mul_of_pos_right _ (Nat.pos_of_ne_zero hb0)) hb
  obtain ⟨cp, hcpe⟩ : ∃ cp, cp = (Question.appendCap (sLen + ys.length) sCap e).cut (w.tape w.drawn (Question.appendCap (sLen + ys.length) sCap e)) := ⟨_, rfl⟩
  have hcp : sLen + ys.length ≤ cp := by rw [hcpe]; exact grownCap_le _ _ _ _
  have hbytes : i.bytes = P.bytesOf e := by simp [Program.bytesOf, hi]
  have hfit : ¬ (Builtin.nextslicecap (sLen + ys.length) sCap * i.bytes > 2 ^ 48) := by
    have := growslice_fits (need := sLen + ys.length) (old := sCap) (bytes := i.bytes) hcap (by rw [hbytes, ← hlen2]; exact hb)
    omega
  let row : Array Value := zs.toArray ++ zs'.toArray ++ Builtin.zeroCells zv.cells (cp - (sLen + ys.length))
  have hrow : row = ((zs ++ zs') ++ (Builtin.zeroCells zv.cells (cp - (sLen + ys.length))).toList).toArray := by
    apply Array.ext'
    simp [row]
  have hsz : cp * P.cellsOf e ≤ row.size := by
    rw [hrow]
    simp only [List.size_toArray, List.length_append, hx.1, hy.1, Array.length_toList, size_zeroCells', hzs, hlen]
    rw [← Nat.add_mul, ← Nat.add_mul]
    exact Nat.mul_le_mul_right _ (by omega)
  refine ⟨cp, row, ?_, by rw [hlen2]; exact hcp, hsz, by rw [hrow]; exact (hx.append hy).row _⟩
  have hgt : ¬ (sLen + ys.length ≤ sCap) := by omega
  rw [hlen2]
  simp [Builtin.append_, run_underlying hu, run_underlying hux, run_sizeOf_info hi, hl, hgt, typeInfo, hi, h1, h2, run_zeroValue hi hzv, newRow, hb0, hbytes ▸ hfit, hbytes]
  rw [if_neg (by simp [Question.forced]), ← hcpe]
  simp [row, Array.append_assoc]

theorem run_append_grows {H : Heap} (hh : SimH F M w H) {t u e e' ty : TypeId} {i : TypeInfo} (hu : P.underlying t = some (.slice e)) (hi : P.info? e = some i) (hux : P.underlying u = some (.slice e')) {z : V} (hz : zOk P e = some z)
    {base : Option Addr} {sLen sCap : Nat} {d : Value} {xs ys : List V} {zs zs' : List Value} (hlen : xs.length = sLen) (hcap : sCap < sLen + ys.length) (hb : (xs ++ ys).length * P.bytesOf e ≤ 140737488355328) (hb0 : P.bytesOf e ≠ 0)
    (hl : (Builtin.lenOf d).run P w = .ok ys.length w)
    (h1 : (Builtin.firstCells (P.cellsOf e) sLen (.slice base sLen sCap)).run P w.drew = .ok zs.toArray w.drew) (h2 : (Builtin.firstCells (P.cellsOf e) ys.length d).run P w.drew = .ok zs'.toArray w.drew)
    (hx : ElemsIn F M w zs (P.cellsOf e) xs) (hy : ElemsIn F M w zs' (P.cellsOf e) ys) :
    ∃ c M' w', (Builtin.append_ #[t, u] ty #[.slice base sLen sCap, d]).run P w = .ok c w' ∧ HS F M M' w w' { H with arrs := H.arrs ++ [⟨xs ++ ys, 0, true, P.cellsOf e⟩] } ∧
      RV F M' w' (.sl H.arrs.length 0 0 (xs ++ ys).length none) c := by
  obtain ⟨cp, row, k1, k2, k3, k4⟩ := run_append_row (ty := ty) hu hi hux hz hlen hcap hb hb0 hl h1 h2 hx hy
  exact ⟨_, _, _, k1, newArr_sound hh plus_drew rfl k4 k3 k2 (by simp), rv_new hh (Nat.le_refl _) k2 k2 (by simp) (by simp) (fun _ => rfl) _⟩

theorem setArr_at {j : Nat} {a a' : AI} (hj : M.ab[j]? = some a) {o : Ow} {b : Nat} (h : (M.setArr j a').at o = some b) : (M.at o = some b ∧ o ≠ .arr j) ∨ (o = .arr j ∧ b = a'.block) := by
  cases o with
  | arr k =>
    simp only [Mu.at, Mu.setArr, Option.map_eq_some_iff] at h
    obtain ⟨x, hx, rfl⟩ := h
    by_cases e : j = k
    · subst e
      have hlt : j < M.ab.length := (List.getElem?_eq_some_iff.1 hj).1
      simp [List.getElem?_set, hlt] at hx
      subst hx
      exact .inr ⟨rfl, rfl⟩
    · rw [List.getElem?_set_ne e] at hx
      exact .inl ⟨by simp [Mu.at, hx], by simpa using fun e' => e e'.symm⟩
  | var i => exact .inl ⟨h, by simp⟩
  | loc t => exact .inl ⟨h, by simp⟩

/-- An own array moves: to a new block, or within its own. -/
theorem moveArr_sound {H : Heap} (hh : SimH F M w H) {j : Nat} {a a' : AI} {A' : Arr} (hj : M.ab[j]? = some a) (hver : a.ver < a'.ver) (os : w'.os = w.os) (tp : w'.tape = w.tape) (ou : w'.output = w.output)
    (sz : w.heap.size ≤ w'.heap.size) (hkeep : ∀ b, b < w.heap.size → b ≠ a.block → w'.heap[b]? = w.heap[b]?) (hb : a'.block = a.block ∨ (a'.block = w.heap.size ∧ w.heap.size < w'.heap.size))
    (hA : Fr M (M.setArr j a') w w' → ArrAt F (M.setArr j a') w' a' A') : HS F M (M.setArr j a') w w' { H with arrs := H.arrs.set j A' } := by
  have hat : M.at (.arr j) = some a.block := by simp [Mu.at, hj]
  have f : Fr M (M.setArr j a') w w' := by
    refine ⟨os, tp, ou, sz, fun b hbs hn => hkeep b hbs (fun e => hn (e ▸ ⟨_, hat⟩)), fun b hbo => ?_, fun _ _ h => h, fun k x hk => ?_⟩
    · obtain ⟨ow, ho⟩ := hbo
      rcases setArr_at hj ho with ⟨h1, _⟩ | ⟨_, rfl⟩
      · exact .inl ⟨ow, h1⟩
      · rcases hb with hb | ⟨hb, _⟩
        · exact .inl ⟨_, by rw [hb]; exact hat⟩
        · exact .inr (by omega)
    · by_cases e : j = k
      · subst e
        rw [hj] at hk; cases hk
        have hlt : j < M.ab.length := (List.getElem?_eq_some_iff.1 hj).1
        exact ⟨a', by simp [Mu.setArr, List.getElem?_set, hlt], by omega, fun he => by omega⟩
      · exact ⟨x, by simp only [Mu.setArr]; rw [List.getElem?_set_ne e]; exact hk, Nat.le_refl _, fun _ => rfl⟩
  have other : ∀ o b, M.at o = some b → o ≠ .arr j → w'.heap[b]? = w.heap[b]? := fun o b ho hne => hkeep b (hh.lt ho) (fun e => hne (hh.inj _ _ _ ho (e ▸ hat)))
  refine ⟨f, rfl, fun t b hl => other (.loc t) b hl (by simp), ⟨hh.vlen, by simpa [Mu.setArr] using hh.alen, fun i b v hi hv => (hh.vmem i b v hi hv).fr f (other (.var i) b hi (by simp)), fun k x X hk hX => ?_, fun o1 o2 b h1 h2 => ?_, fun b hbo => ?_, fun g b hbo hf => ?_, fun g b hb => Nat.lt_of_lt_of_le (hh.fbound g b hb) sz⟩⟩
  · by_cases e : j = k
    · subst e
      have hlt : j < M.ab.length := (List.getElem?_eq_some_iff.1 hj).1
      have hlt2 : j < H.arrs.length := by rw [← hh.alen]; exact hlt
      simp [Mu.setArr, List.getElem?_set, hlt] at hk
      simp [List.getElem?_set, hlt2] at hX
      subst hk hX
      exact hA f
    · simp only [Mu.setArr] at hk
      rw [List.getElem?_set_ne e] at hk hX
      exact (hh.amem k x X hk hX).fr f (other (.arr k) x.block (by simp [Mu.at, hk]) (by simpa using fun e' => e e'.symm))
  · rcases setArr_at hj h1 with ⟨h1, n1⟩ | ⟨rfl, rfl⟩ <;> rcases setArr_at hj h2 with ⟨h2, n2⟩ | ⟨rfl, e⟩
    · exact hh.inj _ _ _ h1 h2
    · exfalso
      rcases hb with hb | ⟨hb, _⟩
      · exact n1 (hh.inj _ _ _ h1 (by rw [e, hb]; exact hat))
      · have := hh.lt h1; omega
    · exfalso
      rcases hb with hb | ⟨hb, _⟩
      · exact n2 (hh.inj _ _ _ h2 (by rw [hb]; exact hat))
      · have := hh.lt h2; omega
    · rfl
  · obtain ⟨ow, ho⟩ := hbo
    rcases setArr_at hj ho with ⟨h1, _⟩ | ⟨_, rfl⟩
    · exact Nat.lt_of_lt_of_le (hh.lt h1) sz
    · rcases hb with hb | ⟨hb, h2⟩
      · rw [hb]; exact Nat.lt_of_lt_of_le (hh.lt hat) sz
      · omega
  · obtain ⟨ow, ho⟩ := hbo
    rcases setArr_at hj ho with ⟨h1, _⟩ | ⟨_, rfl⟩
    · exact hh.apart g b ⟨_, h1⟩ hf
    · rcases hb with hb | ⟨hb, h2⟩
      · rw [hb] at hf; exact hh.apart g _ ⟨_, hat⟩ hf
      · have := hh.fbound _ _ hf; omega

theorem dead_eq {α : Type} {b : Bool} {x : α} {y : Option α} (h : (bif b then y else none) = some x) : b = true ∧ y = some x := by
  cases b
  · simp at h
  · exact ⟨rfl, h⟩

theorem lenOf_slice {ad : Option Addr} {n cap : Nat} : (Builtin.lenOf (.slice ad n cap)).run P w = .ok n w := rfl

/-- Elements written into an own array, in place. -/
theorem arr_splice {H : Heap} (hh : SimH F M w H) {id : Nat} {a : AI} {A : Arr} (h1 : M.ab[id]? = some a) (hA : H.arrs[id]? = some A) {p : Nat} (hp : p ≤ A.elems.length) {ys : List V} {zs : List Value}
    (hz : ElemsIn F M w zs a.sz ys) (hfit : p + ys.length ≤ A.elems.length) :
    ∃ w', (storeCells ⟨a.block, a.base + p * a.sz, none⟩ zs).run P w = .ok () w' ∧ HS F M M w w' { H with arrs := H.arrs.set id { A with elems := A.elems.take p ++ (ys ++ A.elems.drop (p + ys.length)) } } := by
  have ha := hh.amem id a A h1 hA
  obtain ⟨cs, t, g1, g2, g3⟩ := ha.mem
  have hat : M.at (.arr id) = some a.block := by simp [Mu.at, h1]
  have hb : M.own a.block := ⟨_, hat⟩
  have hmul : (p + ys.length) * a.sz ≤ a.lim * a.sz := Nat.mul_le_mul_right _ (by have := ha.le; have := ha.n; omega)
  have hle : a.base + p * a.sz + zs.length ≤ cs.size := by rw [hz.1]; rw [Nat.add_mul] at hmul; omega
  have f := fr_setRow (w := w) hb (splice cs (a.base + p * a.sz) zs)
  refine ⟨_, run_storeCells' g1 hle hz.2.1, f, rfl, fun s b hl => setRow_other (own_ne hh (o := .arr id) (o' := .loc s) hat hl (by simp)),
    hh.setArr f h1 ⟨ha.ver, ha.sz, ?_, ha.le, ha.exact_, splice cs (a.base + p * a.sz) zs, t, setRow_heap w a.block cs _ t (0, 0) g1, by rw [size_splice hle]; exact g2, ?_⟩
      fun o b' ho hne _ => setRow_other (own_ne hh (o := .arr id) hat ho hne)⟩
  · rw [ha.n]; simp; omega
  · exact RowHas.fr f (RowHas.splice (cs := cs) g3 hz hp (by omega))

theorem appendV_sound {C : Ctx} {H : Heap} (hh : SimH F M w H) {t u ty : TypeId} {x y : V} {c d : Value} (hx : REv F M w x c) (hy : REv F M w y d) (hu2 : (tElem P u).isSome = true) {v : V} {h' : Heap}
    (h : appendV P C H t x y = some (v, h')) : ∃ r M' w', (Builtin.append_ #[t, u] ty #[c, d]).run P w = .ok r w' ∧ HS F M M' w w' h' ∧ RV F M' w' v r := by
  unfold appendV at h
  simp only [Option.bind_eq_some_iff] at h
  obtain ⟨e, he, ys, hys, h⟩ := h
  obtain ⟨hc, h⟩ := dead_eq h
  simp only [Bool.and_eq_true, List.all_eq_true] at hc
  obtain ⟨hw, hst, hl⟩ := hc
  obtain ⟨hu, i, hi⟩ := tElem_spec he
  obtain ⟨e', he'⟩ := Option.isSome_iff_exists.1 hu2
  obtain ⟨hux, _⟩ := tElem_spec he'
  have hl' : ∀ v ∈ ys, v.cells.length = P.cellsOf e := fun v hv => by simpa using hl v hv
  obtain ⟨zs', ad, cap0, rfl, hz', had, hfc⟩ := elems_src (P := P) hh hy hys hl'
  have hfcd := elems_src (P := P) hh.drew (hy.fr (fr_drew M w) rfl) hys hl'
  have take_all : ∀ {zs : List Value} {es : List V}, ElemsIn F M w zs (P.cellsOf e) es → zs.take (es.length * P.cellsOf e) = zs := fun h => by rw [← h.1]; exact List.take_length
  -- nothing appended
  have idle : ∀ (base : Option Addr) (sLen sCap : Nat), ys.isEmpty = true → sLen ≤ sCap → c = .slice base sLen sCap → x.storable = true → (v, h') = (x, H) → RV F M w x c →
      ∃ r M' w', (Builtin.append_ #[t, u] ty #[c, .slice ad ys.length cap0]).run P w = .ok r w' ∧ HS F M M' w w' h' ∧ RV F M' w' v r := by
    intro base sLen sCap hemp hle hce _ hvh hrv
    have h0 : ys = [] := by simpa using hemp
    subst h0
    cases hvh
    refine ⟨c, M, w, ?_, ⟨Fr.refl M w, rfl, fun _ _ _ => rfl, hh⟩, hrv⟩
    subst hce
    have hf0 := hfc 0 (by simp)
    simp only [Nat.zero_mul, List.take_zero] at hf0
    have hf0' : (Builtin.firstCells (P.cellsOf e) 0 (.slice ad ([] : List V).length cap0)).run P w = .ok #[] w := hf0
    simp only [List.length_nil] at hf0' ⊢
    cases base <;> simp [Builtin.append_, run_underlying hu, run_underlying hux, run_sizeOf_info hi, lenOf_slice, hf0', hle, storeCells]
  split at h
  · -- nil
    obtain rfl := rev_nils hx
    cases hemp : ys.isEmpty <;> rw [hemp] at h <;> simp only [cond_true, cond_false] at h
    · obtain ⟨hb, hb0, ⟨z, hz⟩, rfl, rfl⟩ := grow_eq h
      have hne : ys.length ≠ 0 := by simp at hemp; simpa using hemp
      obtain ⟨zs2, ad2, cap2, e2, hz2, _, hfc2⟩ := hfcd
      cases e2
      have h2 := hfc2 ys.length (Nat.le_refl _)
      rw [← hz2.1, List.take_length] at h2
      have := run_append_grows (ty := ty) hh hu hi hux hz (base := none) (sLen := 0) (sCap := 0) (xs := []) (ys := ys) (zs := []) (zs' := zs2) rfl (by omega) (by simpa using hb) hb0 lenOf_slice
        (by simp [Builtin.firstCells]) h2 ⟨by simp, by simp, by simp⟩ (hz2.fr (fr_undrew M w))
      obtain ⟨r, M', w', k1, k2, k3⟩ := this
      exact ⟨r, M', w', k1, by simpa using k2, by simpa using k3⟩
    · simp only [Option.some.injEq, Prod.mk.injEq] at h
      exact idle none 0 0 hemp (Nat.le_refl _) rfl rfl (by rw [← h.1, ← h.2]) RG.nils
  · -- frozen, its capacity its length
    rename_i tag es _
    obtain ⟨et, ii, he2, hu2', hi2, hw0⟩ := wide_fl hw
    rw [he] at he2; cases he2
    obtain ⟨b, o, cap, hce, hcap, ht, hbk, hm⟩ := fl_open hx hw0
    obtain rfl := ht rfl
    have hel : ∀ v ∈ es, v.cells.length = P.cellsOf e := fun v hv => by
      obtain ⟨k, hk, rfl⟩ := List.mem_iff_getElem.1 hv
      exact (hm k es[k] (by simp [hk])).1
    cases hemp : ys.isEmpty <;> rw [hemp] at h <;> simp only [cond_true, cond_false] at h
    · obtain ⟨hb, hb0, ⟨z, hz⟩, rfl, rfl⟩ := grow_eq h
      have hne : ys.length ≠ 0 := by simp at hemp; simpa using hemp
      obtain ⟨zs2, ad2, cap2, e2, hz2, _, hfc2⟩ := hfcd
      cases e2
      have h2 := hfc2 ys.length (Nat.le_refl _)
      rw [← hz2.1, List.take_length] at h2
      obtain ⟨zs1, ad1, cap1, e1, hz1, _, hfc1⟩ := elems_src (P := P) hh.drew (hx.fr (fr_drew M w) rfl) (ys := es) rfl hel
      have h1 := hfc1 es.length (Nat.le_refl _)
      rw [← hz1.1, List.take_length] at h1
      subst hce
      obtain ⟨r, M', w', k1, k2, k3⟩ := run_append_grows (ty := ty) hh hu hi hux hz (base := some ⟨b, o, none⟩) (sLen := es.length) (sCap := es.length) (xs := es) (ys := ys) (zs := zs1) (zs' := zs2) rfl (by omega) hb hb0 lenOf_slice
        h1 h2 (hz1.fr (fr_undrew M w)) (hz2.fr (fr_undrew M w))
      exact ⟨r, M', w', k1, k2, k3⟩
    · simp only [Option.some.injEq, Prod.mk.injEq] at h
      exact idle _ es.length es.length hemp (Nat.le_refl _) hce rfl (by rw [← h.1, ← h.2]) hx
  · -- own
    rename_i id ver off len cap _
    have hx' := hx
    obtain ⟨a, b, o, cap', g1, g2, hce, g4, g5, g6⟩ := hx'
    obtain ⟨et, ii, A, he2, _, _, hA, hsz⟩ := wide_sl hw
    rw [he] at he2; cases he2
    have ha := hh.amem id a A g1 hA
    cases hemp : ys.isEmpty <;> rw [hemp] at h <;> simp only [cond_true, cond_false] at h
    · have hne : ys.length ≠ 0 := by simp at hemp; simpa using hemp
      rw [hA] at h
      simp only [Option.bind_some] at h
      obtain ⟨hc2, h⟩ := dead_eq h
      simp only [Bool.and_eq_true] at hc2
      obtain ⟨hv, hkn, hlow⟩ := hc2
      have hv' : A.ver = ver := by simpa using hv
      have hkn' := Nat.le_of_ble_eq_true hkn
      have s := g6 (by rw [ha.ver]; exact hv'.symm)
      have hasz : a.sz = P.cellsOf e := by rw [ha.sz, hsz]
      cases hroom : roomV cap off len ys.length A.elems.length <;> rw [hroom] at h <;> simp only [cond_true, cond_false] at h
      · -- no room, or not known
        have grown : ∀ sCap, sCap = cap' → cap' < len + ys.length → (z : V) → zOk P e = some z → ((A.elems.drop off).take len ++ ys).length * P.bytesOf e ≤ 140737488355328 → P.bytesOf e ≠ 0 →
            ∃ c2 M' w', (Builtin.append_ #[t, u] ty #[c, .slice ad ys.length cap0]).run P w = .ok c2 w' ∧ HS F M M' w w' { H with arrs := H.arrs ++ [⟨(A.elems.drop off).take len ++ ys, 0, true, P.cellsOf e⟩] } ∧
              RV F M' w' (.sl H.arrs.length 0 0 ((A.elems.drop off).take len ++ ys).length none) c2 := by
          intro sCap _ hlt z hz hb hb0
          obtain ⟨zs2, ad2, cap2, e2, hz2, _, hfc2⟩ := hfcd
          cases e2
          have h2 := hfc2 ys.length (Nat.le_refl _)
          rw [← hz2.1, List.take_length] at h2
          have hxs : elemsOf H (.sl id ver off len cap) = some ((A.elems.drop off).take len) := by simp [elemsOf, hA, hv', hkn]
          have hxl : ((A.elems.drop off).take len).length = len := by simp; omega
          obtain ⟨cs, tt, _, _, g3⟩ := ha.mem
          have hel : ∀ v ∈ (A.elems.drop off).take len, v.cells.length = P.cellsOf e := fun v hv => by
            have hv := List.mem_of_mem_drop (List.mem_of_mem_take hv)
            obtain ⟨k, hk, rfl⟩ := List.mem_iff_getElem.1 hv
            rw [← hasz]; exact (g3 k A.elems[k] (by simp [hk])).1
          obtain ⟨zs1, ad1, cap1, e1, hz1, _, hfc1⟩ := elems_src (P := P) hh.drew (hx.fr (fr_drew M w) rfl) hxs hel
          have h1 := hfc1 len (by rw [hxl]; exact Nat.le_refl _)
          have hzl : zs1.length = len * P.cellsOf e := by rw [hz1.1, hxl]
          rw [← hzl, List.take_length] at h1
          subst hce
          exact run_append_grows (ty := ty) hh hu hi hux hz (base := some ⟨b, o, none⟩) (sLen := len) (sCap := cap') hxl hlt hb hb0 lenOf_slice h1 h2 (hz1.fr (fr_undrew M w)) (hz2.fr (fr_undrew M w))
        cases cap with
        | some k =>
          have hk := g5 k rfl
          obtain ⟨hb, hb0, ⟨z, hz⟩, rfl, rfl⟩ := grow_eq h
          have hlt : cap' < len + ys.length := by
            simp only [roomV] at hroom
            have := Nat.not_le_of_not_ble_eq_true (by rw [hroom]; simp)
            omega
          exact grown cap' rfl hlt z hz hb hb0
        | none =>
          obtain ⟨hc3, h⟩ := dead_eq h
          simp only [Bool.and_eq_true] at hc3
          obtain ⟨hend, hb, hb0, hzo⟩ := hc3
          have hend' : off + len = A.elems.length := Nat.eq_of_beq_eq_true hend
          have hb' := Nat.le_of_ble_eq_true hb
          have hb0' : P.bytesOf e ≠ 0 := Nat.ne_of_beq_eq_false (by simpa using hb0)
          obtain ⟨z, hz⟩ := Option.isSome_iff_exists.1 hzo
          simp only [Option.some.injEq, Prod.mk.injEq] at h
          obtain ⟨rfl, rfl⟩ := h
          have hdt : (A.elems.drop off).take len = A.elems.drop off := List.take_of_length_le (by simp; omega)
          have hdl : (A.elems.drop off).length = len := by simp; omega
          rcases Nat.lt_or_ge cap' (len + ys.length) with hlt | hge
          · -- a new row
            obtain ⟨zs2, ad2, cap2, e2, hz2, _, hfc2⟩ := hfcd
            cases e2
            have h2 := hfc2 ys.length (Nat.le_refl _)
            rw [← hz2.1, List.take_length] at h2
            have hxs : elemsOf H (.sl id ver off len none) = some (A.elems.drop off) := by simp [elemsOf, hA, hv', hkn, hdt]
            obtain ⟨cs, tt, _, _, g3⟩ := ha.mem
            have hel : ∀ v ∈ A.elems.drop off, v.cells.length = P.cellsOf e := fun v hv => by
              have hv := List.mem_of_mem_drop hv
              obtain ⟨k, hk, rfl⟩ := List.mem_iff_getElem.1 hv
              rw [← hasz]; exact (g3 k A.elems[k] (by simp [hk])).1
            obtain ⟨zs1, ad1, cap1, e1, hz1, _, hfc1⟩ := elems_src (P := P) hh.drew (hx.fr (fr_drew M w) rfl) hxs hel
            have h1 := hfc1 len (by rw [hdl]; exact Nat.le_refl _)
            have hzl : zs1.length = len * P.cellsOf e := by rw [hz1.1, hdl]
            rw [← hzl, List.take_length] at h1
            subst hce
            obtain ⟨cp, row, k1, k2, k3, k4⟩ := run_append_row (ty := ty) hu hi hux hz (base := some ⟨b, o, none⟩) (sLen := len) (sCap := cap') hdl hlt (by rw [List.length_append, hdl]; exact hb') hb0' lenOf_slice h1 h2 (hz1.fr (fr_undrew M w)) (hz2.fr (fr_undrew M w))
            have hall : (A.elems.drop off ++ ys).length = len + ys.length := by rw [List.length_append, hdl]
            rw [hall] at k1 k2
            have p : Plus w (w.drew.alloc (.cells row e)) (.cells row e) := plus_drew
            have hlt2 : id < M.ab.length := (List.getElem?_eq_some_iff.1 g1).1
            refine ⟨_, M.setArr id ⟨w.heap.size, 0, cp, ver + 1, P.cellsOf e, len + ys.length⟩, _, k1, moveArr_sound hh g1 (by have := ha.ver; show a.ver < ver + 1; omega) p.os p.tape p.output (by rw [p.size]; omega) (fun b hb _ => p.old hb)
              (.inr ⟨rfl, by rw [p.size]; omega⟩) (fun f => ⟨rfl, hsz.symm, hall.symm, k2, fun ho => by simp at ho, row, e, p.new, by simpa using k3, ?_⟩), ⟨w.heap.size, 0, cp, ver + 1, P.cellsOf e, len + ys.length⟩, w.heap.size, 0, cp, ?_, Nat.le_refl _, rfl, k2, by simp, fun _ => ⟨by simp, fun _ => ⟨rfl, by simp⟩, by simp, by simp, fun _ => by simp⟩⟩
            · exact RowHas.fr f k4
            · simp [Mu.setArr, List.getElem?_set, hlt2]
          · -- in place
            have hpos : 0 < cap' := by omega
            obtain ⟨rfl, rfl⟩ := s.at_ hpos
            have hwh := s.whole rfl
            obtain ⟨cs, tt, q1, q2, q3⟩ := ha.mem
            have hat : M.at (.arr id) = some a.block := by simp [Mu.at, g1]
            have hbo : M.own a.block := ⟨_, hat⟩
            have hz2 : ElemsIn F M w zs' a.sz ys := by rw [hasz]; exact hz'
            have hmul : (off + (len + ys.length)) * a.sz ≤ a.lim * a.sz := Nat.mul_le_mul_right _ (by omega)
            have hle : a.base + (off + len) * a.sz + zs'.length ≤ cs.size := by
              rw [hz2.1]; rw [← Nat.add_assoc, Nat.add_mul] at hmul; omega
            have hf := hfc ys.length (Nat.le_refl _)
            rw [take_all hz'] at hf
            have hst := run_storeCells' (P := P) q1 hle hz2.2.1
            subst hce
            have hlt2 : id < M.ab.length := (List.getElem?_eq_some_iff.1 g1).1
            have hall : (A.elems.drop off ++ ys).length = len + ys.length := by rw [List.length_append, hdl]
            have e3 : a.base + off * a.sz + len * P.cellsOf e = a.base + (off + len) * a.sz := by rw [hasz, Nat.add_mul]; omega
            refine ⟨.slice (some ⟨a.block, a.base + off * a.sz, none⟩) (len + ys.length) cap', M.setArr id ⟨a.block, a.base + off * a.sz, cap', ver + 1, a.sz, len + ys.length⟩, w.setRow a.block (splice cs (a.base + (off + len) * a.sz) zs'), ?_,
              moveArr_sound hh g1 (by have := ha.ver; show a.ver < ver + 1; omega) rfl rfl rfl (by rw [size_setRow]; exact Nat.le_refl _) (fun b _ hne => setRow_other hne) (.inl rfl)
              (fun f => ⟨rfl, ha.sz, hall.symm, hge, fun ho => by simp at ho, splice cs (a.base + (off + len) * a.sz) zs', tt, setRow_heap w a.block cs _ tt (0, 0) q1, ?_, ?_⟩), ⟨a.block, a.base + off * a.sz, cap', ver + 1, a.sz, len + ys.length⟩, a.block, a.base + off * a.sz, cap', ?_, Nat.le_refl _, rfl, hge, by simp, fun _ => ⟨by simp, fun _ => ⟨rfl, by simp⟩, by simp, by simp, fun _ => by simp⟩⟩
            · simp [Builtin.append_, run_underlying hu, run_underlying hux, run_sizeOf_info hi, lenOf_slice, hge, hf, addr_add, e3, hst]
            · rw [size_splice hle]
              have : (off + cap') * a.sz ≤ a.lim * a.sz := Nat.mul_le_mul_right _ (by omega)
              rw [Nat.add_mul] at this
              show a.base + off * a.sz + cap' * a.sz ≤ cs.size
              omega
            · have r := RowHas.splice (cs := cs) q3 hz2 (p := off + len) (by omega) (by rw [Nat.add_assoc]; omega)
              have r2 := RowHas.drop r off
              have e4 : (A.elems.take (off + len) ++ (ys ++ A.elems.drop (off + len + ys.length))).drop off = A.elems.drop off ++ ys := by
                rw [List.take_of_length_le (by omega), List.drop_eq_nil_of_le (as := A.elems) (by omega), List.append_nil, List.drop_append_of_le_length (by omega)]
              rw [e4] at r2
              exact RowHas.fr f r2
            · simp [Mu.setArr, List.getElem?_set, hlt2]
      · -- room that is known
        simp only [Option.some.injEq, Prod.mk.injEq] at h
        obtain ⟨rfl, rfl⟩ := h
        have hroom' : len + ys.length ≤ cap' ∧ off + len + ys.length ≤ A.elems.length ∧ (∀ k, cap = some k → len + ys.length ≤ k) := by
          cases cap with
          | some k =>
            have := Nat.le_of_ble_eq_true hroom
            have h1 := g5 k rfl
            have h2 := s.cut k rfl
            exact ⟨by omega, by rw [← ha.n]; omega, fun k' hk' => by injection hk'; omega⟩
          | none =>
            have := Nat.le_of_ble_eq_true hroom
            have h2 := s.whole rfl
            have := ha.le; have := ha.n
            exact ⟨by omega, this ▸ by omega, by simp⟩
        obtain ⟨r1, r2, r3⟩ := hroom'
        have hpos : 0 < cap' := by omega
        obtain ⟨rfl, rfl⟩ := s.at_ hpos
        obtain ⟨w', k1, k2⟩ := arr_splice (P := P) hh g1 hA (p := off + len) (by omega) (ys := ys) (zs := zs') (by rw [hasz]; exact hz') r2
        have hf := hfc ys.length (Nat.le_refl _)
        rw [take_all hz'] at hf
        subst hce
        refine ⟨.slice (some ⟨a.block, a.base + off * a.sz, none⟩) (len + ys.length) cap', M, w', ?_, k2, a, a.block, a.base + off * a.sz, cap', g1, g2, rfl, r1, g5, fun hv2 => ?_⟩
        · have e3 : a.base + off * a.sz + len * P.cellsOf e = a.base + (off + len) * a.sz := by rw [hasz, Nat.add_mul]; omega
          simp [Builtin.append_, run_underlying hu, run_underlying hux, run_sizeOf_info hi, lenOf_slice, r1, hf, addr_add, e3, k1]
        · have s := g6 hv2
          exact ⟨by rw [ha.n]; omega, s.at_, s.fits, s.cut, s.whole⟩
    · simp only [Option.some.injEq, Prod.mk.injEq] at h
      exact idle _ len cap' hemp g4 hce rfl (by rw [← h.1, ← h.2]) hx
  · simp at h
end
end Go.DM
namespace Go.DM

section
variable {F : Bool → Nat → Prop} {M : Mu} {w w' : World} {P : Program}

theorem copyV_sound {C : Ctx} {H : Heap} (hh : SimH F M w H) {t u ty : TypeId} {x y : V} {c d : Value} (hx : REv F M w x c) (hy : REv F M w y d) {v : V} {h' : Heap}
    (h : copyV P C H t x y = some (v, h')) : ∃ r M' w', (Builtin.copy_ #[t, u] ty #[c, d]).run P w = .ok r w' ∧ HS F M M' w w' h' ∧ RV F M' w' v r := by
  unfold copyV at h
  simp only [Option.bind_eq_some_iff] at h
  obtain ⟨e, he, ys, hys, h⟩ := h
  obtain ⟨hc, h⟩ := dead_eq h
  simp only [Bool.and_eq_true, List.all_eq_true] at hc
  obtain ⟨hw, hst, hl⟩ := hc
  obtain ⟨hu, i, hi⟩ := tElem_spec he
  have hl' : ∀ v ∈ ys, v.cells.length = P.cellsOf e := fun v hv => by simpa using hl v hv
  obtain ⟨zs, ad, cap0, rfl, hz, had, hfc⟩ := elems_src (P := P) hh hy hys hl'
  cases x with
  | nils =>
    obtain rfl := rev_nils hx
    simp only [Option.some.injEq, Prod.mk.injEq] at h
    obtain ⟨rfl, rfl⟩ := h
    have hf := hfc 0 (Nat.zero_le _)
    simp only [Nat.zero_mul, List.take_zero] at hf
    refine ⟨.int .i64 0, M, w, ?_, ⟨Fr.refl M w, rfl, fun _ _ _ => rfl, hh⟩, rv_int⟩
    have hm : Nat.min ys.length 0 = 0 := Nat.min_zero _
    simp [Builtin.copy_, run_underlying hu, lenOf_slice, run_sizeOf_info hi, hm, hf, goInt]
  | sl id ver off len cap =>
    obtain ⟨a, b, o, cap', g1, g2, rfl, g4, g5, g6⟩ := hx
    obtain ⟨et, ii, A, he2, _, _, hA, hsz⟩ := wide_sl hw
    rw [he] at he2; cases he2
    have ha := hh.amem id a A g1 hA
    have hasz : a.sz = P.cellsOf e := by rw [ha.sz, hsz]
    simp only [hA, Option.bind_some] at h
    obtain ⟨hc2, h⟩ := dead_eq h
    simp only [Bool.and_eq_true] at hc2
    obtain ⟨hv, hkn⟩ := hc2
    have hv' : A.ver = ver := by simpa using hv
    have hkn' := Nat.le_of_ble_eq_true hkn
    have s := g6 (by rw [ha.ver]; exact hv'.symm)
    obtain ⟨_, h⟩ := dead_eq h
    simp only [Option.some.injEq, Prod.mk.injEq] at h
    obtain ⟨rfl, rfl⟩ := h
    have hmin : min ys.length len ≤ ys.length := Nat.min_le_left _ _
    have hmin2 : min ys.length len ≤ len := Nat.min_le_right _ _
    have hf := hfc (min ys.length len) hmin
    have hzt := hz.take (min ys.length len) hmin
    have htl : (ys.take (min ys.length len)).length = min ys.length len := by simp
    have hadr : 0 < min ys.length len → b = a.block ∧ o = a.base + off * a.sz := fun hp => s.at_ (by omega)
    rcases Nat.eq_zero_or_pos (min ys.length len) with h0 | h0
    · refine ⟨.int .i64 (min ys.length len : Nat), M, w, ?_, ⟨Fr.refl M w, rfl, fun _ _ _ => rfl, ?_⟩, rv_int⟩
      · rw [h0] at hf ⊢
        simp only [Nat.zero_mul, List.take_zero] at hf
        have hm : Nat.min ys.length len = 0 := h0
        simp [Builtin.copy_, run_underlying hu, lenOf_slice, run_sizeOf_info hi, hm, hf, storeCells, goInt]
      · have e1 : H.arrs.set id { A with elems := A.elems.take off ++ (ys.take (min ys.length len) ++ A.elems.drop (off + min ys.length len)) } = H.arrs := by
          rw [h0]
          simp only [List.take_zero, List.nil_append, Nat.add_zero, List.take_append_drop]
          apply List.ext_getElem?
          intro k
          by_cases ek : id = k
          · subst ek
            rw [List.getElem?_set_self (List.getElem?_eq_some_iff.1 hA).1, hA]
          · rw [List.getElem?_set_ne ek]
        rw [e1]; exact hh
    · obtain ⟨rfl, rfl⟩ := hadr h0
      obtain ⟨w', k1, k2⟩ := arr_splice (P := P) hh g1 hA (p := off) (by omega) (ys := ys.take (min ys.length len)) (zs := zs.take (min ys.length len * P.cellsOf e)) (by rw [hasz]; exact hzt) (by rw [htl]; omega)
      rw [htl] at k2
      refine ⟨.int .i64 (min ys.length len : Nat), M, w', ?_, k2, rv_int⟩
      have hm : Nat.min ys.length len = min ys.length len := rfl
      simp [Builtin.copy_, run_underlying hu, lenOf_slice, run_sizeOf_info hi, hm, hf, k1, goInt]
  | _ => simp at h

theorem zeros_in {e : TypeId} {z : V} {zv : Value} (hl : z.cells.length = P.cellsOf e) (hs : zv.cells.size = P.cellsOf e) (hr : RList (RCell F M w) z.cells zv.cells) (n : Nat) :
    ElemsIn F M w (Builtin.zeroCells zv.cells n).toList (P.cellsOf e) (List.replicate n z) := by
  have get : ∀ j, j < n * P.cellsOf e → (Builtin.zeroCells zv.cells n).toList[j]? = some (zv.cells[j % zv.cells.size]!) := by
    intro j hj
    simp only [Builtin.zeroCells, Array.toList_map, Array.toList_range, List.getElem?_map]
    rw [List.getElem?_range (by rw [hs]; exact hj)]
    rfl
  have cell : ∀ k, k < P.cellsOf e → ∃ x, z.cells[k]? = some x ∧ RCell F M w x (zv.cells[k]!) := by
    intro k hk
    have hk2 : k < zv.cells.size := by omega
    refine ⟨z.cells[k]'(by omega), by simp, hr.2 k _ _ (by simp) ?_⟩
    simp [hk2]
  have len : (Builtin.zeroCells zv.cells n).toList.length = n * P.cellsOf e := by simp [Builtin.zeroCells, hs]
  refine ⟨by rw [len]; simp, fun y hy => ?_, fun i v hv => ?_⟩
  · obtain ⟨j, hj, rfl⟩ := List.mem_iff_getElem.1 hy
    have hj' : j < n * P.cellsOf e := by rw [← len]; exact hj
    have hp : 0 < P.cellsOf e := by rcases Nat.eq_zero_or_pos (P.cellsOf e) with h | h; · rw [h] at hj'; simp at hj'
                                    · exact h
    have := get j hj'
    rw [List.getElem?_eq_getElem hj] at this
    obtain ⟨x, _, hx⟩ := cell (j % zv.cells.size) (by rw [hs]; exact Nat.mod_lt _ hp)
    injection this with this
    rw [this]; exact hx.2
  · have hin : i < n := by have := (List.getElem?_eq_some_iff.1 hv).1; simpa using this
    have hvz : v = z := by rw [List.getElem?_replicate, if_pos hin] at hv; injection hv with hv; exact hv.symm
    subst hvz
    refine ⟨hl, fun k x hx => ?_⟩
    have hk : k < P.cellsOf e := by rw [← hl]; exact (List.getElem?_eq_some_iff.1 hx).1
    obtain ⟨x', h1, h2⟩ := cell k hk
    rw [hx] at h1; cases h1
    refine ⟨_, get _ (mul_lt_add hin hk), ?_⟩
    rw [hs, Nat.add_comm, Nat.add_mul_mod_self_right, Nat.mod_eq_of_lt hk]
    exact h2

theorem clearV_sound {H : Heap} (hh : SimH F M w H) {t ty : TypeId} {x : V} {c : Value} (hx : REv F M w x c) {v : V} {h' : Heap}
    (h : clearV P H t x = some (v, h')) : ∃ r M' w', (Builtin.clear_ #[t] ty #[c]).run P w = .ok r w' ∧ HS F M M' w w' h' ∧ RV F M' w' v r := by
  unfold clearV at h
  simp only [Option.bind_eq_some_iff] at h
  obtain ⟨e, he, z, hz, h⟩ := h
  obtain ⟨i, zv, hi, hzv, rfl, hl, hs, hr, hg⟩ := zOk_spec hz
  obtain ⟨hu, _⟩ := tElem_spec he
  have rtup : ∀ (M : Mu) (w : World), RV F M w (.tuple []) (.tuple #[]) := fun M w => ⟨#[], rfl, rfl, fun i x y hx => by simp at hx⟩
  cases hw : wideOk P H t x <;> rw [hw] at h <;> simp only [Bool.not_true, Bool.not_false, cond_true, cond_false] at h
  · simp at h
  cases x with
  | nils =>
    obtain rfl := rev_nils hx
    simp only [Option.some.injEq, Prod.mk.injEq] at h
    obtain ⟨rfl, rfl⟩ := h
    exact ⟨.tuple #[], M, w, by simp [Builtin.clear_, run_underlying hu], ⟨Fr.refl M w, rfl, fun _ _ _ => rfl, hh⟩, rtup M w⟩
  | sl id ver off len cap =>
    obtain ⟨a, b, o, cap', g1, g2, rfl, g4, g5, g6⟩ := hx
    obtain ⟨et, ii, A, he2, _, _, hA, hsz⟩ := wide_sl hw
    rw [he] at he2; cases he2
    have ha := hh.amem id a A g1 hA
    have hasz : a.sz = P.cellsOf e := by rw [ha.sz, hsz]
    simp only [hA, Option.bind_some] at h
    obtain ⟨hc2, h⟩ := dead_eq h
    simp only [Bool.and_eq_true] at hc2
    obtain ⟨hv, hkn⟩ := hc2
    have hv' : A.ver = ver := by simpa using hv
    have hkn' := Nat.le_of_ble_eq_true hkn
    have s := g6 (by rw [ha.ver]; exact hv'.symm)
    simp only [Option.some.injEq, Prod.mk.injEq] at h
    obtain ⟨rfl, rfl⟩ := h
    rcases Nat.eq_zero_or_pos len with h0 | h0
    · subst h0
      refine ⟨.tuple #[], M, w, by simp [Builtin.clear_, run_underlying hu], ⟨Fr.refl M w, rfl, fun _ _ _ => rfl, ?_⟩, rtup M w⟩
      have e1 : H.arrs.set id { A with elems := A.elems.take off ++ (List.replicate 0 (ofVal zv) ++ A.elems.drop (off + 0)) } = H.arrs := by
        simp only [List.replicate_zero, List.nil_append, Nat.add_zero, List.take_append_drop]
        apply List.ext_getElem?
        intro k
        by_cases ek : id = k
        · subst ek
          rw [List.getElem?_set_self (List.getElem?_eq_some_iff.1 hA).1, hA]
        · rw [List.getElem?_set_ne ek]
      rw [e1]; exact hh
    · obtain ⟨rfl, rfl⟩ := s.at_ (by omega)
      have hzin := zeros_in (F := F) (M := M) (w := w) (P := P) hl hs (hr F M w) len
      obtain ⟨w', k1, k2⟩ := arr_splice (P := P) hh g1 hA (p := off) (by omega) (ys := List.replicate len (ofVal zv)) (zs := (Builtin.zeroCells zv.cells len).toList) (by rw [hasz]; exact hzin) (by simpa using hkn')
      rw [List.length_replicate] at k2
      refine ⟨.tuple #[], M, w', ?_, k2, rtup M w'⟩
      obtain ⟨m, rfl⟩ : ∃ m, len = m + 1 := ⟨len - 1, by omega⟩
      simp [Builtin.clear_, run_underlying hu, run_zeroValue hi hzv, k1]
  | _ => simp at h

theorem wrap_in {n : Int} (h0 : -9223372036854775808 ≤ n) (h1 : n ≤ 9223372036854775807) : IntKind.i64.wrap n = n := by
  have e : IntKind.i64.wrap n = (if (true && decide (n % 18446744073709551616 ≥ 9223372036854775808)) = true then n % 18446744073709551616 - 18446744073709551616 else n % 18446744073709551616) := rfl
  rw [e]
  split <;> simp_all <;> omega

theorem map_range_zero (zc : Array Value) (m : Nat) : (Array.range (m * zc.size)).map (zc[· % zc.size]!) = Builtin.zeroCells zc m := rfl

theorem makeSliceV_sound {H : Heap} (hh : SimH F M w H) {t : TypeId} {l k : V} {lv kv : Value} (hl : REv F M w l lv) (hk : REv F M w k kv) {v : V} {h' : Heap}
    (h : makeSliceV P H t l k = some (v, h')) : ∃ r M' w', (Instr.makeSlice t lv kv).run P w = .ok r w' ∧ HS F M M' w w' h' ∧ RV F M' w' v r := by
  unfold makeSliceV at h
  simp only [Option.bind_eq_some_iff] at h
  obtain ⟨e, he, z, hz, n, hn, m, hm, h⟩ := h
  obtain ⟨hc, h⟩ := dead_eq h
  simp only [Bool.and_eq_true] at hc
  obtain ⟨h1, h2, h3⟩ := hc
  have h1 := Nat.le_of_ble_eq_true h1
  have h2 := Nat.le_of_ble_eq_true h2
  have h3 := Nat.le_of_ble_eq_true h3
  obtain ⟨i, zv, hi, hzv, rfl, hzl, hs, hr, hg⟩ := zOk_spec hz
  obtain ⟨hu, _⟩ := tElem_spec he
  obtain ⟨kl, nl, rfl, hn0, rfl⟩ := idxOf_sound hl hn
  obtain ⟨kc, nc, rfl, hc0, rfl⟩ := idxOf_sound hk hm
  simp only [Option.some.injEq, Prod.mk.injEq] at h
  obtain ⟨rfl, rfl⟩ := h
  have hbytes : i.bytes = P.bytesOf e := by simp [Program.bytesOf, hi]
  have hsize : i.size = P.cellsOf e := (cellsOf_eq hi).symm
  have wn : IntKind.i64.wrap nl = nl := wrap_in (by omega) (by omega)
  have wc : IntKind.i64.wrap nc = nc := wrap_in (by omega) (by omega)
  have p : Plus w (w.alloc (.cells (Builtin.zeroCells zv.cells nc.toNat) e)) (.cells (Builtin.zeroCells zv.cells nc.toNat) e) := Plus.alloc w _
  have hzin := zeros_in (F := F) (M := M) (w := w) (P := P) hzl hs (hr F M w) nc.toNat
  have hrow : RowHas F M w (Builtin.zeroCells zv.cells nc.toNat) 0 (P.cellsOf e) (List.replicate nc.toNat (ofVal zv)) := by
    have := hzin.row []
    simpa using this
  have hst := newArr_sound hh p rfl (lim := nc.toNat) (opn := false) hrow (by rw [size_zeroCells', hs]; exact Nat.le_refl _) (by simp) (by simp)
  rw [List.length_replicate] at hst
  refine ⟨.slice (some ⟨w.heap.size, 0, none⟩) nl.toNat nc.toNat, _, _, ?_, hst, ?_⟩
  · have g1 : ¬ nc < 0 := by omega
    have g2 : ¬ ((i.bytes : Int) * nc > 2 ^ 48) := by
      rw [hbytes]
      have : (P.bytesOf e : Int) * nc = ((nc.toNat * P.bytesOf e : Nat) : Int) := by
        rw [Int.natCast_mul, Int.toNat_of_nonneg hc0, Int.mul_comm]
      rw [this]; omega
    have g3 : ¬ nl < 0 := by omega
    have g4 : ¬ nl > nc := by omega
    have g2' : ¬ (281474976710656 < (i.bytes : Int) * nc) := by simpa using g2
    have hzc : (Array.range (nc.toNat * P.cellsOf e)).map (fun x => zv.cells[x % zv.cells.size]!) = Builtin.zeroCells zv.cells nc.toNat := by simp only [Builtin.zeroCells, hs]
    simp [Instr.makeSlice, run_underlying hu, asInt, asIntOf, typeInfo, hi, wn, wc, g1, g3, g4, run_sizeOf_info hi]
    rw [if_neg g2']
    by_cases h0 : nc.toNat * P.cellsOf e = 0
    · rw [if_pos h0, ← hzc, h0]
      have er : Array.range 0 = #[] := rfl
      simp [newRow, er]
    · rw [if_neg h0]
      simp [run_zeroValue hi hzv, newRow, hzc]
  · refine ⟨⟨w.heap.size, 0, nc.toNat, 0, P.cellsOf e, nc.toNat⟩, w.heap.size, 0, nc.toNat, ?_, Nat.le_refl _, rfl, h1, fun k hk => by injection hk, fun _ => ⟨by simpa using h1, fun _ => ⟨rfl, by simp⟩, by simp, fun k hk => by injection hk with hk; simp [hk], by simp⟩⟩
    simp only [Mu.addArr]
    rw [← hh.alen, List.getElem?_append_right (by omega)]
    simp

/-! literals and aggregates -/
theorem foldl_splice (off : Nat) : ∀ (l : List Value) (k : Nat) (cells : Array Value), off + k + l.length ≤ cells.size →
    (l.zipIdx k).foldl (fun cs (p : Value × Nat) => cs.setIfInBounds (off + p.2) p.1) cells = splice cells (off + k) l
  | [], k, cells, h => by simp [splice]
  | v :: rest, k, cells, h => by
    simp only [List.length_cons] at h
    rw [List.zipIdx_cons, List.foldl_cons]
    have ih := foldl_splice off rest (k + 1) (cells.setIfInBounds (off + k) v) (by simp; omega)
    rw [ih]
    simp only [splice, Array.toList_setIfInBounds]
    have e := list_seg_step cells.toList (off + k) v rest (by simp; omega)
    simp only [← Nat.add_assoc] at e ⊢
    rw [e]
    simp [Nat.add_assoc]

theorem fill_step {place : Nat → Option (Nat × Nat)} {cells : Array Value} {i : Nat} {v : Value} {rest : List (Nat × Value)} {off size : Nat} (hp : place i = some (off, size)) (hs : v.cells.size = size) (hf : off + v.cells.size ≤ cells.size) :
    Instr.fill place cells ((i, v) :: rest) = Instr.fill place (splice cells off v.cells.toList) rest := by
  have e : v.cells.zipIdx.foldl (fun cs (p : Value × Nat) => cs.setIfInBounds (off + p.2) p.1) cells = splice cells off v.cells.toList := by
    rw [← Array.foldl_toList, Array.toList_zipIdx]
    exact foldl_splice off v.cells.toList 0 cells (by simpa using hf)
  simp only [Instr.fill, hp]
  rw [if_neg (by simp; omega)]
  exact congrArg (fun c => Instr.fill place c rest) e

/-- The parts of a literal, each with its value. -/
def PList (F : Bool → Nat → Prop) (M : Mu) (w : World) (l : List (Nat × V)) (l' : List (Nat × Value)) : Prop :=
  l.length = l'.length ∧ ∀ (i : Nat) x y, l[i]? = some x → l'[i]? = some y → x.1 = y.1 ∧ REv F M w x.2 y.2

theorem RList.splice {l ys : List V} {cs cys : Array Value} {R : V → Value → Prop} (h : RList R l cs) (hy : RList R ys cys) {off : Nat} (hf : off + ys.length ≤ l.length) :
    RList R (l.take off ++ (ys ++ l.drop (off + ys.length))) (Go.DM.splice cs off cys.toList) := by
  have hyl : cys.toList.length = ys.length := by simpa using hy.1.symm
  have hle : off + cys.toList.length ≤ cs.size := by rw [hyl, ← h.1]; exact hf
  refine ⟨by rw [size_splice hle, ← h.1]; simp; omega, fun i x y hi hyv => ?_⟩
  rcases Nat.lt_or_ge i off with hio | hio
  · rw [List.getElem?_append_left (by simp; omega), List.getElem?_take, if_pos hio] at hi
    rw [splice_out hle i (.inl hio)] at hyv
    exact h.2 i x y hi hyv
  · rw [List.getElem?_append_right (by simp; omega)] at hi
    have e : i - (l.take off).length = i - off := by simp; omega
    rw [e] at hi
    rcases Nat.lt_or_ge (i - off) ys.length with hk | hk
    · rw [List.getElem?_append_left hk] at hi
      have e2 : i = off + (i - off) := by omega
      rw [e2, splice_in hle (i - off) (by omega)] at hyv
      exact hy.2 (i - off) x y hi (by simpa using hyv)
    · rw [List.getElem?_append_right hk, List.getElem?_drop] at hi
      have e2 : off + ys.length + (i - off - ys.length) = i := by omega
      rw [e2] at hi
      rw [splice_out hle i (.inr (by omega))] at hyv
      exact h.2 i x y hi hyv

theorem fillV_sound {place : Nat → Option (Nat × Nat)} : ∀ {l : List (Nat × V)} {l' : List (Nat × Value)} {cells r : List V} {cs : Array Value}, PList F M w l l' → RList (RCell F M w) cells cs → fillV place cells l = some r →
    ∃ cs', Instr.fill place cs l' = some cs' ∧ RList (RCell F M w) r cs'
  | [], l', cells, r, cs, hp, hc, h => by
    have : l' = [] := List.eq_nil_of_length_eq_zero (by simpa using hp.1.symm)
    subst this
    simp [fillV] at h
    subst h
    exact ⟨cs, rfl, hc⟩
  | (i, v) :: rest, l', cells, r, cs, hp, hc, h => by
    match l', hp with
    | [], hp => exact absurd hp.1 (by simp)
    | (i', c) :: rest', hp =>
      obtain ⟨rfl, hv⟩ := hp.2 0 (i, v) (i', c) rfl rfl
      simp only [fillV, Option.bind_eq_some_iff] at h
      obtain ⟨⟨off, size⟩, hpl, h⟩ := h
      obtain ⟨hq, h⟩ := dead_eq h
      simp only [Bool.and_eq_true] at hq
      obtain ⟨hst, hsz, hfit⟩ := hq
      have hcells := storable_cells hv hst
      have hsz' : v.cells.length = size := by simpa using hsz
      have hfit' := Nat.le_of_ble_eq_true hfit
      have hcl : c.cells.toList.length = v.cells.length := by simpa using hcells.1.symm
      obtain ⟨cs', h1, h2⟩ := fillV_sound (l := rest) (l' := rest') ⟨by simpa using hp.1, fun j x y hx hy => hp.2 (j + 1) x y (by simpa using hx) (by simpa using hy)⟩ (hc.splice hcells hfit') h
      refine ⟨cs', ?_, h2⟩
      rw [fill_step hpl (by rw [← hcells.1]; exact hsz') (by rw [← hcells.1, ← hc.1]; exact hfit')]
      exact h1
end
end Go.DM
