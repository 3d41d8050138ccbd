/-
  One operation. One operation, continued: the call, and every operation. Every operation.
-/
import Derived.Test.YtpfhhcjdknmbbaaGreatDoorA2
set_option linter.all false
set_option linter.unusedSimpArgs false
set_option linter.unusedVariables false
namespace Go.DM

/-- What the call of a function comes to, with a body or without one. -/
def CallsF (P : Program) (f : Nat) (cs : Array Value) (w : World) (R : Ending → World → Prop) : Prop :=
  (∃ fn, P.funcs[f]? = some fn ∧ fn.body.isNone = false ∧ (fn.name == "runtime.NumGoroutine") = false) ∧ Calls P f cs w R ∨ ∃ v w', (callFunc f cs).run P w = .ok (.value v) w' ∧ R (.returned v) w'

/-- What is asked of the functions that are called. -/
def SoundΦ1 (P : Program) (Φ : Oracle) : Prop :=
  ∀ lim f args H v H', Φ lim f args H = some (v, H') → ∀ (F : Bool → Nat → Prop) (M : Mu) (w : World) (cs : Array Value), M.lam = (fun _ => none) → SimH F M w H → RList (RX F M w) args cs →
    CallsF P f cs w fun e w' => ∃ c M', e = .returned c ∧ Fr M M' w w' ∧ M'.lam = (fun _ => none) ∧ SimH F M' w' H' ∧ RV F M' w' v c
def Heap.more (h : Heap) (A : Arr) : Heap := { h with arrs := h.arrs ++ [A] }
/-- A pure function neither changes the heap nor looks at what is new. -/
def PureΦ (E : Env) (Φ : Oracle) : Prop :=
  ∀ lim g args h v h', pureF E g = true → Φ lim g args h = some (v, h') → h' = h ∧ ∀ A, Φ lim g args (h.more A) = some (v, h.more A)
def SoundΦ (E : Env) (Φ : Oracle) : Prop := SoundΦ1 E.P Φ ∧ PureΦ E Φ

section
variable {F : Bool → Nat → Prop} {M : Mu} {w w' : World} {P : Program}

theorem SimS.put {s : List V} {a : Act} (h : SimS F M w s a) {v : V} {c : Value} (hv : REv F M w v c) (d : Option Nat) : SimS F M w (putV s d v) (a.put d c) := by
  cases d with
  | none => exact h
  | some d =>
    refine ⟨by simp [putV, Act.put, h.len], fun t x y hx hy => ?_, h.defers⟩
    simp only [putV] at hx
    simp only [Act.put] at hy
    by_cases e : d = t
    · subst e
      have hlt : d < s.length := by
        rcases Nat.lt_or_ge d s.length with h' | h'
        · exact h'
        · rw [List.getElem?_eq_none (by simpa using h')] at hx; simp at hx
      rw [List.getElem?_set_self hlt] at hx
      have hlt2 : d < a.tmps.size := h.len ▸ hlt
      simp [hlt2] at hy
      cases hx
      subst hy
      cases v with
      | box u => exact hv.elim
      | _ => exact hv
    · rw [List.getElem?_set_ne e] at hx
      rw [Array.getElem?_setIfInBounds_ne e] at hy
      exact h.slot t x y hx hy

theorem wp_of_run {o : Oper} {a : Act} {next : Act → World → Prop} {Q : Exit → Act → World → Prop} {c : Value} (hr : (execOp a.eval o).run P w = .ok (.value c) w') (h : next (a.put o.dst c) w') : o.wp P a w next Q := by
  unfold Oper.wp
  rw [hr]
  exact h
theorem wp_of_skip {o : Oper} {a : Act} {next : Act → World → Prop} {Q : Exit → Act → World → Prop} (hr : (execOp a.eval o).run P w = .ok .skip w') (h : next (a.put o.dst undef) w') : o.wp P a w next Q := by
  unfold Oper.wp
  rw [hr]
  exact h

theorem rev_undef : REv F M w undefV undef := ⟨#[], rfl, rfl, fun i x y hx => by simp at hx⟩

/-- A frame's own new variable. -/
theorem SimS.newLoc {s : List V} {H : Heap} {a : Act} (hs : SimS F M w s a) (hh : SimH F M w H) {o : Obj} (p : Plus w w' o) {d : Nat} {v : V} (hv : VarAt F (M.setLoc d w.heap.size) w' w.heap.size v)
    (hpend : ∀ (t : Nat) off, s[t]? ≠ some (.lptr d off)) : SimS F (M.setLoc d w.heap.size) w' (putV s (some d) (.box v)) (a.put (some d) (.pointer (some ⟨w.heap.size, 0, none⟩))) := by
  have f := fr_setLoc (M := M) p d
  refine ⟨by simp [putV, Act.put, hs.len], fun t x y hx hy => ?_, hs.defers⟩
  simp only [putV] at hx
  simp only [Act.put] at hy
  by_cases e : d = t
  · subst e
    have hlt : d < s.length := by
      rcases Nat.lt_or_ge d s.length with h' | h'
      · exact h'
      · rw [List.getElem?_eq_none (by simpa using h')] at hx; simp at hx
    rw [List.getElem?_set_self hlt] at hx
    have hlt2 : d < a.tmps.size := hs.len ▸ hlt
    simp [hlt2] at hy
    cases hx
    subst hy
    exact ⟨w.heap.size, by simp [Mu.setLoc], rfl, hv⟩
  · rw [List.getElem?_set_ne e] at hx
    rw [Array.getElem?_setIfInBounds_ne e] at hy
    have h0 := hs.slot t x y hx hy
    cases x with
    | lptr r off =>
      obtain ⟨b, h1, h2⟩ := h0
      have hne : r ≠ d := fun e' => hpend t off (by rw [hx, e'])
      exact ⟨b, by simp only [Mu.setLoc]; rw [if_neg hne]; exact h1, h2⟩
    | box u =>
      obtain ⟨b, h1, h2, h3⟩ := h0
      exact ⟨b, by simp only [Mu.setLoc]; rw [if_neg (fun e' => e e'.symm)]; exact h1, h2, h3.fr f (p.old (hh.lt (o := .loc t) h1))⟩
    | int za zb => exact RV.fr (F := F) (v := (.int za zb)) (c := y) f h0
    | bool za => exact RV.fr (F := F) (v := (.bool za)) (c := y) f h0
    | str za => exact RV.fr (F := F) (v := (.str za)) (c := y) f h0
    | nilp => exact RV.fr (F := F) (v := (.nilp)) (c := y) f h0
    | nils => exact RV.fr (F := F) (v := (.nils)) (c := y) f h0
    | nilfn => exact RV.fr (F := F) (v := (.nilfn)) (c := y) f h0
    | any => exact RV.fr (F := F) (v := (.any)) (c := y) f h0
    | ptr za zb => exact RV.fr (F := F) (v := (.ptr za zb)) (c := y) f h0
    | aptr za zb zc zd => exact RV.fr (F := F) (v := (.aptr za zb zc zd)) (c := y) f h0
    | fptr za zb => exact RV.fr (F := F) (v := (.fptr za zb)) (c := y) f h0
    | fl za zb zc => exact RV.fr (F := F) (v := (.fl za zb zc)) (c := y) f h0
    | sl za zb zc zd ze => exact RV.fr (F := F) (v := (.sl za zb zc zd ze)) (c := y) f h0
    | fn za zb => exact RV.fr (F := F) (v := (.fn za zb)) (c := y) f h0
    | agg za => exact RV.fr (F := F) (v := (.agg za)) (c := y) f h0
    | tuple za => exact RV.fr (F := F) (v := (.tuple za)) (c := y) f h0

theorem map_ev {s : List V} {a : Act} (hs : SimS F M w s a) (l : List Operand) : RList (REv F M w) (l.map (ev s)) (l.map a.eval).toArray :=
  ⟨by simp, fun i x y hx hy => by
    simp only [List.getElem?_map, Option.map_eq_some_iff] at hx
    obtain ⟨o, ho, rfl⟩ := hx
    simp only [List.getElem?_toArray, List.getElem?_map, ho, Option.map_some, Option.some.injEq] at hy
    subst hy
    exact ev_sound hs o⟩

theorem mapM_run {α β : Type} {f : α → Sem β} {g : α → β} : ∀ (l : List α), (∀ x ∈ l, (f x).run P w = .ok (g x) w) → (l.mapM f).run P w = .ok (l.map g) w
  | [], _ => rfl
  | x :: l, h => by
    rw [List.mapM_cons]
    simp [h x (by simp), mapM_run l (fun y hy => h y (by simp [hy]))]

theorem build_sound {t : TypeId} {z : V} {zv : Value} {i : TypeInfo} (hi : P.info? t = some i) (hzv : i.zero = some zv) (hok : buildOk P t = true) (hz : RList (RCell F M w) z.cells zv.cells)
    {parts : List (Nat × V)} {parts' : List (Nat × Value)} (hp : PList F M w parts parts') {l : List V} (h : fillV (placeOf P t) z.cells parts = some l) :
    ∃ c, (Instr.build t parts'.toArray).run P w = .ok c w ∧ RX F M w (.agg l) c := by
  obtain ⟨cs', h1, h2⟩ := fillV_sound hp hz h
  unfold buildOk at hok
  split at hok
  · rename_i fs hu
    rw [List.all_eq_true] at hok
    refine ⟨.agg cs', ?_, cs', rfl, h2⟩
    have hm : (fs.mapM fun f => (do pure (f.offset, ← sizeOf f.type) : Sem (Nat × Nat))).run P w = .ok (fs.map fun f => (f.offset, P.cellsOf f.type)) w := by
      obtain ⟨fl⟩ := fs
      rw [List.mapM_toArray, Sem.run_map, mapM_run (P := P) (w := w) (g := fun f : Field => (f.offset, P.cellsOf f.type)) fl (fun f hf => by
        obtain ⟨j, hj⟩ := Option.isSome_iff_exists.1 (hok f hf)
        simp [run_sizeOf_info hj])]
      simp
    have hplace : (fun k => (fs.map fun f => (f.offset, P.cellsOf f.type))[k]?) = placeOf P t := by
      funext k
      simp [placeOf, hu]
    simp only [Instr.build, Sem.run_bind, run_zeroValue hi hzv, Result.andThen_ok, run_underlying hu, hm, hplace, List.toList_toArray, h1, Sem.run_pure]
  · rename_i n e hu
    obtain ⟨j, hj⟩ := Option.isSome_iff_exists.1 hok
    refine ⟨.agg cs', ?_, cs', rfl, h2⟩
    have hplace : (fun k => some (k * P.cellsOf e, P.cellsOf e)) = placeOf P t := by
      funext k
      simp [placeOf, hu]
    simp only [Instr.build, Sem.run_bind, run_zeroValue hi hzv, Result.andThen_ok, run_underlying hu, run_sizeOf_info hj, hplace, List.toList_toArray, h1, Sem.run_pure]
  · simp at hok

/-- The elements of a literal. -/
theorem setPart_sound {sz : Nat} : ∀ {l : List (Nat × V)} {l' : List (Nat × Value)} {es r : List V} {cs : Array Value}, PList F M w l l' → ElemsIn F M w cs.toList sz es → setPart sz es l = some r →
    ∃ cs', Instr.fill (fun i => some (i * sz, sz)) cs l' = some cs' ∧ ElemsIn F M w cs'.toList sz r ∧ r.length = es.length
  | [], l', es, r, cs, hp, hc, h => by
    have : l' = [] := List.eq_nil_of_length_eq_zero (by simpa using hp.1.symm)
    subst this
    simp [setPart] at h
    subst h
    exact ⟨cs, rfl, hc, rfl⟩
  | (i, v) :: rest, l', es, r, cs, hp, hc, h => by
    match l', hp with
    | [], hp => exact absurd hp.1 (by simp)
    | (i', c) :: rest', hp =>
      obtain ⟨rfl, hv⟩ := hp.2 0 (i, v) (i', c) rfl rfl
      simp only [setPart] at h
      obtain ⟨hq, h⟩ := dead_eq h
      simp only [Bool.and_eq_true] at hq
      obtain ⟨hst, hsz, hlt⟩ := hq
      have hcells := storable_cells hv hst
      have hsz' : v.cells.length = sz := by simpa using hsz
      have hlt' : i < es.length := by simpa using hlt
      have hcs : cs.size = es.length * sz := by simpa using hc.1
      have hmul : (i + 1) * sz ≤ es.length * sz := Nat.mul_le_mul_right _ hlt'
      rw [Nat.add_mul, Nat.one_mul] at hmul
      have hcl : c.cells.size = v.cells.length := hcells.1.symm
      have hfit : i * sz + c.cells.size ≤ cs.size := by omega
      have hone : ElemsIn F M w c.cells.toList sz [v] := ⟨by simpa using hcells.1 ▸ hsz', hcells.one_cells, fun k e he => by
        have : k = 0 := by rcases Nat.eq_zero_or_pos k with h0 | h0; · exact h0
                           · rw [List.getElem?_eq_none (by simp; omega)] at he; cases he
        subst this
        simp at he; subst he
        refine ⟨hsz', fun j x hx => ?_⟩
        obtain ⟨y, h1, h2⟩ := hcells.one_of j x hx
        exact ⟨y, by simpa using h1, h2⟩⟩
      have hrow : RowHas F M w cs 0 sz es := by
        have := hc.row []
        simpa using this
      have hsp := RowHas.splice hrow hone (p := i) (by omega) (by rw [Nat.zero_add, hcs]; exact Nat.mul_le_mul_right _ hlt')
      have hset : es.take i ++ ([v] ++ es.drop (i + 1)) = es.set i v := by
        rw [List.set_eq_take_append_cons_drop, if_pos hlt']; rfl
      have hle : i * sz + c.cells.toList.length ≤ cs.size := by simpa using hfit
      have hnew : ElemsIn F M w (splice cs (i * sz) c.cells.toList).toList sz (es.set i v) := by
        refine ⟨by rw [Array.length_toList, size_splice hle, hcs]; simp, fun y hy => ?_, fun k e he => ?_⟩
        · simp only [splice, List.toList_toArray, List.mem_append] at hy
          rcases hy with (hy | hy) | hy
          · exact hc.2.1 y (List.mem_of_mem_take hy)
          · exact hcells.one_cells y hy
          · exact hc.2.1 y (List.mem_of_mem_drop hy)
        · rw [← hset] at he
          obtain ⟨k1, k2⟩ := hsp k e (by simpa using he)
          refine ⟨k1, fun j x hx => ?_⟩
          obtain ⟨y, h3, h4⟩ := k2 j x hx
          exact ⟨y, by simpa using h3, h4⟩
      obtain ⟨cs', h1, h2, h3⟩ := setPart_sound (l := rest) (l' := rest') ⟨by simpa using hp.1, fun j x y hx hy => hp.2 (j + 1) x y (by simpa using hx) (by simpa using hy)⟩ hnew h
      refine ⟨cs', ?_, h2, by rw [h3]; simp⟩
      rw [fill_step rfl (by rw [← hcells.1]; exact hsz') hfit]
      exact h1

theorem parts_ev {s : List V} {a : Act} (hs : SimS F M w s a) (l : List (Nat × Operand)) : PList F M w (l.map fun p => (p.1, ev s p.2)) (l.map fun p => (p.1, a.eval p.2)) :=
  ⟨by simp, fun i x y hx hy => by
    simp only [List.getElem?_map, Option.map_eq_some_iff] at hx hy
    obtain ⟨p, hp, rfl⟩ := hx
    obtain ⟨q, hq, rfl⟩ := hy
    rw [hp] at hq; cases hq
    exact ⟨rfl, ev_sound hs _⟩⟩

theorem buildSlice_run {H : Heap} (hh : SimH F M w H) {t et : TypeId} {ii : TypeInfo} {len : Nat} (hu : P.underlying t = some (.slice et)) (hi : P.info? et = some ii) (h1 : len * P.cellsOf et ≤ 16777216)
    {z : V} (hz : len = 0 ∨ zOk P et = some z) {parts : List (Nat × V)} {parts' : List (Nat × Value)} (hp : PList F M w parts parts') {es : List V} (h : setPart (P.cellsOf et) (List.replicate len z) parts = some es) :
    ∃ cs, (Instr.buildSlice t len parts'.toArray).run P w = .ok (.slice (some ⟨w.heap.size, 0, none⟩) len len) (w.alloc (.cells cs et)) ∧ ElemsIn F M w cs.toList (P.cellsOf et) es ∧ es.length = len := by
  have h1' : ¬ (len * P.cellsOf et > 16777216) := by omega
  rcases Nat.eq_zero_or_pos (len * P.cellsOf et) with h0 | h0
  · have hem : ElemsIn F M w (#[] : Array Value).toList (P.cellsOf et) (List.replicate len z) := by
      refine ⟨by simpa using h0.symm, by simp, fun i e he => ?_⟩
      have hin : i < len := by have := (List.getElem?_eq_some_iff.1 he).1; simpa using this
      rcases hz with rfl | hz
      · omega
      · obtain ⟨_, zv, _, _, rfl, hl, _, _, _⟩ := zOk_spec hz
        have hvz : e = ofVal zv := by rw [List.getElem?_replicate, if_pos hin] at he; injection he with he; exact he.symm
        subst hvz
        have hc0 : P.cellsOf et = 0 := by
          rcases Nat.mul_eq_zero.1 h0 with h | h
          · omega
          · exact h
        refine ⟨hl, fun k x hx => ?_⟩
        have := (List.getElem?_eq_some_iff.1 hx).1
        omega
    obtain ⟨cs', k1, k2, k3⟩ := setPart_sound (cs := #[]) hp hem h
    refine ⟨cs', ?_, k2, by simpa using k3⟩
    have er : Array.range 0 = #[] := rfl
    simp only [Instr.buildSlice, Sem.run_bind, run_underlying hu, Result.andThen_ok, run_sizeOf_info hi]
    simp [h0, er, k1, newRow]
  · have hlen : len ≠ 0 := by intro h; subst h; simp at h0
    have hz := hz.resolve_left hlen
    obtain ⟨i', zv, hi', hzv, rfl, hl, hs, hr, hg⟩ := zOk_spec hz
    rw [hi] at hi'; cases hi'
    have hin := zeros_in (F := F) (M := M) (w := w) (P := P) hl hs (hr F M w) len
    obtain ⟨cs', k1, k2, k3⟩ := setPart_sound (cs := Builtin.zeroCells zv.cells len) hp hin h
    refine ⟨cs', ?_, k2, by simpa using k3⟩
    have hne : ¬ (len * P.cellsOf et = 0) := by omega
    have hzc : (Array.range (len * P.cellsOf et)).map (fun x => zv.cells[x % zv.cells.size]!) = Builtin.zeroCells zv.cells len := by simp only [Builtin.zeroCells, hs]
    simp only [Instr.buildSlice, Sem.run_bind, run_underlying hu, Result.andThen_ok, run_sizeOf_info hi]
    rw [if_neg (by simpa using h1')]
    simp [hne, run_zeroValue hi hzv, hzc, k1, newRow]
end
end Go.DM
namespace Go.DM

section
variable {F F' : Bool → Nat → Prop} {M M' : Mu} {w w' : World} {P : Program}

/-! the same world, other owners -/
theorem RG.shift {O O' : Nat → Prop} (hb : ∀ g b, b < w.heap.size → O' b ∨ F' g b → O b ∨ F g b) {v : V} {c : Value} (h : RG F O w v c) : RG F' O' w v c := by
  induction h with
  | int k n => exact .int k n
  | bool b => exact .bool b
  | str s l h => exact .str s l h
  | nilp => exact .nilp
  | nils => exact .nils
  | nilfn => exact .nilfn
  | fn f => exact .fn f
  | fl tag tight es b o cap sz c hcap ht hlen hmem hone hrel hb' ih =>
    refine .fl tag tight es b o cap sz c hcap ht hlen hmem hone ih (fun hne => ?_)
    obtain ⟨h1, h2, h3⟩ := hb' hne
    refine ⟨h1, fun h => ?_, fun h => ?_⟩
    · exact (hb tag b h1 (.inl h)).elim h2 h3
    · exact (hb tag b h1 (.inr h)).elim h2 h3

theorem RA.shift (hb : ∀ g b, b < w.heap.size → M'.own b ∨ F' g b → M.own b ∨ F g b) (hv : M'.vb = M.vb) (ha : M'.ab = M.ab) {v : V} {c : Value} (h : RA F M w v c) : RA F' M' w v c := by
  cases v with
  | ptr id off => obtain ⟨b, h1, h2⟩ := h; exact ⟨b, by rw [hv]; exact h1, h2⟩
  | aptr id ver i off => obtain ⟨a, ad, h1, h2⟩ := h; exact ⟨a, ad, by rw [ha]; exact h1, h2⟩
  | sl id ver off len cap => obtain ⟨a, b, o, cap', h1, h2⟩ := h; exact ⟨a, b, o, cap', by rw [ha]; exact h1, h2⟩
  | int za zb => exact RG.shift (F := F) (F' := F') (O' := M'.own) (v := (.int za zb)) (c := c) hb h
  | bool za => exact RG.shift (F := F) (F' := F') (O' := M'.own) (v := (.bool za)) (c := c) hb h
  | str za => exact RG.shift (F := F) (F' := F') (O' := M'.own) (v := (.str za)) (c := c) hb h
  | nilp => exact RG.shift (F := F) (F' := F') (O' := M'.own) (v := (.nilp)) (c := c) hb h
  | nils => exact RG.shift (F := F) (F' := F') (O' := M'.own) (v := (.nils)) (c := c) hb h
  | nilfn => exact RG.shift (F := F) (F' := F') (O' := M'.own) (v := (.nilfn)) (c := c) hb h
  | any => exact RG.shift (F := F) (F' := F') (O' := M'.own) (v := (.any)) (c := c) hb h
  | lptr za zb => exact RG.shift (F := F) (F' := F') (O' := M'.own) (v := (.lptr za zb)) (c := c) hb h
  | box za => exact RG.shift (F := F) (F' := F') (O' := M'.own) (v := (.box za)) (c := c) hb h
  | fptr za zb => exact RG.shift (F := F) (F' := F') (O' := M'.own) (v := (.fptr za zb)) (c := c) hb h
  | fl za zb zc => exact RG.shift (F := F) (F' := F') (O' := M'.own) (v := (.fl za zb zc)) (c := c) hb h
  | fn za zb => exact RG.shift (F := F) (F' := F') (O' := M'.own) (v := (.fn za zb)) (c := c) hb h
  | agg za => exact RG.shift (F := F) (F' := F') (O' := M'.own) (v := (.agg za)) (c := c) hb h
  | tuple za => exact RG.shift (F := F) (F' := F') (O' := M'.own) (v := (.tuple za)) (c := c) hb h

theorem RS.shift (hb : ∀ g b, b < w.heap.size → M'.own b ∨ F' g b → M.own b ∨ F g b) (hv : M'.vb = M.vb) (ha : M'.ab = M.ab) {v : V} {c : Value} (h : RS F M w v c) : RS F' M' w v c := by
  cases v with
  | fn g caps => obtain ⟨cs, h1, h2⟩ := h; exact ⟨cs, h1, h2.imp fun _ _ => RA.shift hb hv ha⟩
  | int za zb => exact RA.shift (F := F) (F' := F') (v := (.int za zb)) (c := c) hb hv ha h
  | bool za => exact RA.shift (F := F) (F' := F') (v := (.bool za)) (c := c) hb hv ha h
  | str za => exact RA.shift (F := F) (F' := F') (v := (.str za)) (c := c) hb hv ha h
  | nilp => exact RA.shift (F := F) (F' := F') (v := (.nilp)) (c := c) hb hv ha h
  | nils => exact RA.shift (F := F) (F' := F') (v := (.nils)) (c := c) hb hv ha h
  | nilfn => exact RA.shift (F := F) (F' := F') (v := (.nilfn)) (c := c) hb hv ha h
  | any => exact RA.shift (F := F) (F' := F') (v := (.any)) (c := c) hb hv ha h
  | lptr za zb => exact RA.shift (F := F) (F' := F') (v := (.lptr za zb)) (c := c) hb hv ha h
  | box za => exact RA.shift (F := F) (F' := F') (v := (.box za)) (c := c) hb hv ha h
  | ptr za zb => exact RA.shift (F := F) (F' := F') (v := (.ptr za zb)) (c := c) hb hv ha h
  | aptr za zb zc zd => exact RA.shift (F := F) (F' := F') (v := (.aptr za zb zc zd)) (c := c) hb hv ha h
  | fptr za zb => exact RA.shift (F := F) (F' := F') (v := (.fptr za zb)) (c := c) hb hv ha h
  | fl za zb zc => exact RA.shift (F := F) (F' := F') (v := (.fl za zb zc)) (c := c) hb hv ha h
  | sl za zb zc zd ze => exact RA.shift (F := F) (F' := F') (v := (.sl za zb zc zd ze)) (c := c) hb hv ha h
  | agg za => exact RA.shift (F := F) (F' := F') (v := (.agg za)) (c := c) hb hv ha h
  | tuple za => exact RA.shift (F := F) (F' := F') (v := (.tuple za)) (c := c) hb hv ha h

theorem RCell.shift (hb : ∀ g b, b < w.heap.size → M'.own b ∨ F' g b → M.own b ∨ F g b) (hv : M'.vb = M.vb) (ha : M'.ab = M.ab) {v : V} {c : Value} (h : RCell F M w v c) : RCell F' M' w v c :=
  ⟨RS.shift hb hv ha h.1, h.2⟩

theorem VarAt.shift (hb : ∀ g b, b < w.heap.size → M'.own b ∨ F' g b → M.own b ∨ F g b) (hv : M'.vb = M.vb) (ha : M'.ab = M.ab) {b : Nat} {v : V} (h : VarAt F M w b v) : VarAt F' M' w b v := by
  obtain ⟨cs, t, h1, h2⟩ := h
  exact ⟨cs, t, h1, h2.imp fun _ _ => RCell.shift hb hv ha⟩

theorem ArrAt.shift (hb : ∀ g b, b < w.heap.size → M'.own b ∨ F' g b → M.own b ∨ F g b) (hv : M'.vb = M.vb) (ha : M'.ab = M.ab) {a : AI} {A : Arr} (h : ArrAt F M w a A) : ArrAt F' M' w a A := by
  obtain ⟨cs, t, h1, h2, h3⟩ := h.mem
  refine ⟨h.ver, h.sz, h.n, h.le, h.exact_, cs, t, h1, h2, fun i e he => ?_⟩
  obtain ⟨k1, k2⟩ := h3 i e he
  refine ⟨k1, fun k x hx => ?_⟩
  obtain ⟨y, y1, y2⟩ := k2 k x hx
  exact ⟨y, y1, RCell.shift hb hv ha y2⟩

/-- What is handed on: neither an address into a frozen slice nor a tuple. -/
theorem RX.shift (hb : ∀ g b, b < w.heap.size → M'.own b ∨ F' g b → M.own b ∨ F g b) (ho : ∀ b, M'.own b → M.own b) (hv : M'.vb = M.vb) (ha : M'.ab = M.ab) {v : V} {c : Value} (h : RX F M w v c) (hnf : v.storable = true) : RX F' M' w v c := by
  cases v with
  | agg l => obtain ⟨cs, h1, h2⟩ := h; exact ⟨cs, h1, h2.imp fun _ _ => RCell.shift hb hv ha⟩
  | fptr e o => simp [V.storable] at hnf
  | int za zb => exact RS.shift (F := F) (F' := F') (v := (.int za zb)) (c := c) hb hv ha h
  | bool za => exact RS.shift (F := F) (F' := F') (v := (.bool za)) (c := c) hb hv ha h
  | str za => exact RS.shift (F := F) (F' := F') (v := (.str za)) (c := c) hb hv ha h
  | nilp => exact RS.shift (F := F) (F' := F') (v := (.nilp)) (c := c) hb hv ha h
  | nils => exact RS.shift (F := F) (F' := F') (v := (.nils)) (c := c) hb hv ha h
  | nilfn => exact RS.shift (F := F) (F' := F') (v := (.nilfn)) (c := c) hb hv ha h
  | any => exact RS.shift (F := F) (F' := F') (v := (.any)) (c := c) hb hv ha h
  | lptr za zb => exact RS.shift (F := F) (F' := F') (v := (.lptr za zb)) (c := c) hb hv ha h
  | box za => exact RS.shift (F := F) (F' := F') (v := (.box za)) (c := c) hb hv ha h
  | ptr za zb => exact RS.shift (F := F) (F' := F') (v := (.ptr za zb)) (c := c) hb hv ha h
  | aptr za zb zc zd => exact RS.shift (F := F) (F' := F') (v := (.aptr za zb zc zd)) (c := c) hb hv ha h
  | fl za zb zc => exact RS.shift (F := F) (F' := F') (v := (.fl za zb zc)) (c := c) hb hv ha h
  | sl za zb zc zd ze => exact RS.shift (F := F) (F' := F') (v := (.sl za zb zc zd ze)) (c := c) hb hv ha h
  | fn za zb => exact RS.shift (F := F) (F' := F') (v := (.fn za zb)) (c := c) hb hv ha h
  | tuple za => exact RS.shift (F := F) (F' := F') (v := (.tuple za)) (c := c) hb hv ha h

/-! the callee's owners -/
def Mu.noLam (M : Mu) : Mu := { M with lam := fun _ => none }
def Mu.withLam (M : Mu) (l : Nat → Option Nat) : Mu := { M with lam := l }
def FLam (F : Bool → Nat → Prop) (M : Mu) : Bool → Nat → Prop := fun g b => F g b ∨ ∃ t, M.lam t = some b

theorem own_noLam {b : Nat} : M.own b ↔ M.noLam.own b ∨ ∃ t, M.lam t = some b := by
  constructor
  · rintro ⟨o, ho⟩
    cases o with
    | loc t => exact .inr ⟨t, ho⟩
    | var i => exact .inl ⟨.var i, ho⟩
    | arr j => exact .inl ⟨.arr j, ho⟩
  · rintro (⟨o, ho⟩ | ⟨t, ht⟩)
    · cases o with
      | loc t => cases ho
      | var i => exact ⟨.var i, ho⟩
      | arr j => exact ⟨.arr j, ho⟩
    · exact ⟨.loc t, ht⟩

theorem at_noLam {o : Ow} {b : Nat} (h : M.noLam.at o = some b) : M.at o = some b ∧ ∀ t, o ≠ .loc t := by
  cases o with
  | loc t => cases h
  | var i => exact ⟨h, by simp⟩
  | arr j => exact ⟨h, by simp⟩

theorem shift_down (g : Bool) (b : Nat) : M.noLam.own b ∨ FLam F M g b → M.own b ∨ F g b := by
  rintro (h | h | h)
  · exact .inl (own_noLam.2 (.inl h))
  · exact .inr h
  · exact .inl (own_noLam.2 (.inr h))

theorem SimH.down {H : Heap} (h : SimH F M w H) : SimH (FLam F M) M.noLam w H where
  vlen := h.vlen
  alen := h.alen
  vmem := fun i b v hi hv => (h.vmem i b v hi hv).shift (fun g b _ => shift_down g b) rfl rfl
  amem := fun j a A hj hA => (h.amem j a A hj hA).shift (fun g b _ => shift_down g b) rfl rfl
  inj := fun o o' b h1 h2 => h.inj o o' b (at_noLam h1).1 (at_noLam h2).1
  bound := fun b hb => h.bound b (own_noLam.2 (.inl hb))
  apart := fun g b hb hf => by
    obtain ⟨o, ho⟩ := hb
    rcases hf with hf | ⟨t, ht⟩
    · exact h.apart g b ⟨o, (at_noLam ho).1⟩ hf
    · exact (at_noLam ho).2 t (h.inj o (.loc t) b (at_noLam ho).1 ht)
  fbound := fun g b hf => by
    rcases hf with hf | ⟨t, ht⟩
    · exact h.fbound g b hf
    · exact h.bound b ⟨.loc t, ht⟩

section
variable {M1 : Mu} {H H1 : Heap}

/-- Behind a call, the frame's own variables come back. -/
theorem fr_up (hl : M1.lam = fun _ => none) (f : Fr M.noLam M1 w w') : Fr M (M1.withLam M.lam) w w' where
  os := f.os
  tape := f.tape
  output := f.output
  size := f.size
  keep := fun b hb hn => f.keep b hb fun h => hn (own_noLam.2 (.inl h))
  fresh := fun b hb => by
    obtain ⟨o, ho⟩ := hb
    cases o with
    | loc t => exact .inl ⟨.loc t, ho⟩
    | var i => exact (f.fresh b ⟨.var i, ho⟩).imp (fun h => own_noLam.2 (.inl h)) id
    | arr j => exact (f.fresh b ⟨.arr j, ho⟩).imp (fun h => own_noLam.2 (.inl h)) id
  vb := f.vb
  ab := f.ab

theorem locs_up (hh : SimH F M w H) (f : Fr M.noLam M1 w w') (t b : Nat) (ht : M.lam t = some b) : w'.heap[b]? = w.heap[b]? :=
  f.keep b (hh.bound b ⟨.loc t, ht⟩) (fun ⟨o, ho⟩ => (at_noLam ho).2 t (hh.inj o (.loc t) b (at_noLam ho).1 ht))

theorem shift_up (hh : SimH F M w H) (f : Fr M.noLam M1 w w') (hs : SimH (FLam F M) M1 w' H1) (hl : M1.lam = fun _ => none) (g : Bool) (b : Nat) :
    (M1.withLam M.lam).own b ∨ F g b → M1.own b ∨ FLam F M g b := by
  rintro (⟨o, ho⟩ | h)
  · cases o with
    | loc t => exact .inr (.inr ⟨t, ho⟩)
    | var i => exact .inl ⟨.var i, ho⟩
    | arr j => exact .inl ⟨.arr j, ho⟩
  · exact .inr (.inl h)

theorem SimH.up (hh : SimH F M w H) (f : Fr M.noLam M1 w w') (hs : SimH (FLam F M) M1 w' H1) (hl : M1.lam = fun _ => none) : HS F M (M1.withLam M.lam) w w' H1 where
  fr := fr_up hl f
  lam := rfl
  locs := fun t b ht => locs_up hh f t b ht
  sim := {
    vlen := hs.vlen
    alen := hs.alen
    vmem := fun i b v hi hv => (hs.vmem i b v hi hv).shift (fun g b _ => shift_up hh f hs hl g b) rfl rfl
    amem := fun j a A hj hA => (hs.amem j a A hj hA).shift (fun g b _ => shift_up hh f hs hl g b) rfl rfl
    inj := fun o o' b h1 h2 => by
      have back : ∀ o : Ow, (∀ t, o ≠ .loc t) → ∀ t b, (M1.withLam M.lam).at o = some b → M.lam t = some b → False := by
        intro o ho t b h1 h2
        have : M1.own b := by
          cases o with
          | loc t => exact absurd rfl (ho t)
          | var i => exact ⟨.var i, h1⟩
          | arr j => exact ⟨.arr j, h1⟩
        exact hs.apart true b this (.inr ⟨t, h2⟩)
      cases o with
      | loc t =>
        cases o' with
        | loc t' => exact hh.inj (.loc t) (.loc t') b h1 h2
        | var i => exact (back (.var i) (by simp) t b h2 h1).elim
        | arr j => exact (back (.arr j) (by simp) t b h2 h1).elim
      | var i =>
        cases o' with
        | loc t' => exact (back (.var i) (by simp) t' b h1 h2).elim
        | var i' => exact hs.inj (.var i) (.var i') b h1 h2
        | arr j => exact hs.inj (.var i) (.arr j) b h1 h2
      | arr j =>
        cases o' with
        | loc t' => exact (back (.arr j) (by simp) t' b h1 h2).elim
        | var i' => exact hs.inj (.arr j) (.var i') b h1 h2
        | arr j' => exact hs.inj (.arr j) (.arr j') b h1 h2
    bound := fun b hb => by
      obtain ⟨o, ho⟩ := hb
      cases o with
      | loc t => exact Nat.lt_of_lt_of_le (hh.bound b ⟨.loc t, ho⟩) f.size
      | var i => exact hs.bound b ⟨.var i, ho⟩
      | arr j => exact hs.bound b ⟨.arr j, ho⟩
    apart := fun g b hb hf => by
      obtain ⟨o, ho⟩ := hb
      cases o with
      | loc t => exact hh.apart g b ⟨.loc t, ho⟩ hf
      | var i => exact hs.apart g b ⟨.var i, ho⟩ (.inl hf)
      | arr j => exact hs.apart g b ⟨.arr j, ho⟩ (.inl hf)
    fbound := fun g b hf => Nat.lt_of_lt_of_le (hh.fbound g b hf) f.size }
end
end
end Go.DM
namespace Go.DM

section
variable {F : Bool → Nat → Prop} {M : Mu} {w w' : World} {E : Env}

/-- Whence the address of a frame's own variable comes. -/
def LSrc (o : Oper) (s : List V) (r : Nat) : Prop := Operand.tmp r ∈ o.op.operands ∨ ∃ (t : Nat) (off : Nat), s[t]? = some (.lptr r off)

theorem ofVal_lptr {c : Value} {r off : Nat} : ofVal c ≠ .lptr r off := by
  intro h
  have : RV (fun _ _ => False) ⟨[], [], fun _ => none⟩ default (ofVal c) c := ofVal_sound c
  rw [h] at this
  cases this

theorem ev_lsrc {o : Oper} {s : List V} {x : Operand} (hx : x ∈ o.op.operands) {r off : Nat} (h : ev s x = .lptr r off) : LSrc o s r := by
  cases x with
  | tmp t =>
    simp only [ev] at h
    split at h
    · cases h; exact .inl hx
    · rename_i v _ hv; subst h; exact .inr ⟨t, off, hv⟩
    · cases h
  | const c => exact absurd h ofVal_lptr
  | func f => cases h
  | global g => cases h

theorem rv_not_lptr {r off : Nat} {c : Value} (h : RV F M w (.lptr r off) c) : False := by cases h

theorem moveBy_lptr {n : Nat} {x : V} {r off : Nat} (h : moveBy n x = some (.lptr r off)) : ∃ off', x = .lptr r off' := by
  cases x <;> simp [moveBy] at h
  exact ⟨_, by rw [h.1]⟩

/-- What an operation of the evaluator promises of the model's. -/
def Goes (F : Bool → Nat → Prop) (M : Mu) (w : World) (P : Program) (o : Oper) (a : Act) (s : List V) (v : V) (st' : St) : Prop :=
  ∀ (next : Act → World → Prop) (Q : Exit → Act → World → Prop), (∀ M' w' c, Fr M M' w w' → SimH F M' w' st'.h → SimS F M' w' (putV st'.s o.dst v) (a.put o.dst c) → (∀ r off, v = .lptr r off → LSrc o s r) → next (a.put o.dst c) w') → o.wp P a w next Q

theorem goes_value {P : Program} {o : Oper} {a : Act} {s : List V} {v : V} {st' : St} {c : Value} (hr : (execOp a.eval o).run P w = .ok (.value c) w') {M' : Mu} (f : Fr M M' w w') (hh : SimH F M' w' st'.h)
    (hs : SimS F M' w' st'.s a) (hv : REv F M' w' v c) (hl : ∀ r off, v = .lptr r off → LSrc o s r) : Goes F M w P o a s v st' :=
  fun _ _ hn => wp_of_run hr (hn M' w' c f hh (hs.put hv o.dst) hl)
theorem goes_skip {P : Program} {o : Oper} {a : Act} {s : List V} {st' : St} (hr : (execOp a.eval o).run P w = .ok .skip w') {M' : Mu} (f : Fr M M' w w') (hh : SimH F M' w' st'.h)
    (hs : SimS F M' w' st'.s a) : Goes F M w P o a s undefV st' :=
  fun _ _ hn => wp_of_skip hr (hn M' w' undef f hh (hs.put rev_undef o.dst) (by simp [undefV]))
/-- An operation that only reads. -/
theorem goes_pure {P : Program} {o : Oper} {a : Act} {v : V} {s : List V} {H : Heap} {c : Value} (hs : SimS F M w s a) (hh : SimH F M w H) (hr : (execOp a.eval o).run P w = .ok (.value c) w) (hv : REv F M w v c) (hl : ∀ r off, v = .lptr r off → LSrc o s r) : Goes F M w P o a s v ⟨s, H⟩ :=
  goes_value hr (Fr.refl M w) hh hs hv hl
theorem goes_rv {P : Program} {o : Oper} {a : Act} {v : V} {s : List V} {H : Heap} {c : Value} (hs : SimS F M w s a) (hh : SimH F M w H) (hr : (execOp a.eval o).run P w = .ok (.value c) w) (hv : RV F M w v c) : Goes F M w P o a s v ⟨s, H⟩ :=
  goes_pure hs hh hr hv.toREv fun r off h => (rv_not_lptr (h ▸ hv)).elim
theorem goes_hs {P : Program} {o : Oper} {a : Act} {v : V} {s : List V} {H' : Heap} {c : Value} {M' : Mu} (hs : SimS F M w s a) (k : HS F M M' w w' H') (hr : (execOp a.eval o).run P w = .ok (.value c) w') (hv : RV F M' w' v c) : Goes F M w P o a s v ⟨s, H'⟩ :=
  goes_value hr k.fr k.sim (hs.hs k) hv.toREv fun r off h => (rv_not_lptr (h ▸ hv)).elim

theorem RA.toRX {v : V} {c : Value} (h : RA F M w v c) : RX F M w v c := by
  cases v with
  | fn f caps =>
    have h : RG F M.own w (.fn f caps) c := h
    exact (RG.toRS h).toRX
  | int za zb => exact RS.toRX (F := F) (v := (.int za zb)) (c := c) h
  | bool za => exact RS.toRX (F := F) (v := (.bool za)) (c := c) h
  | str za => exact RS.toRX (F := F) (v := (.str za)) (c := c) h
  | nilp => exact RS.toRX (F := F) (v := (.nilp)) (c := c) h
  | nils => exact RS.toRX (F := F) (v := (.nils)) (c := c) h
  | nilfn => exact RS.toRX (F := F) (v := (.nilfn)) (c := c) h
  | any => exact RS.toRX (F := F) (v := (.any)) (c := c) h
  | lptr za zb => exact RS.toRX (F := F) (v := (.lptr za zb)) (c := c) h
  | box za => exact RS.toRX (F := F) (v := (.box za)) (c := c) h
  | ptr za zb => exact RS.toRX (F := F) (v := (.ptr za zb)) (c := c) h
  | aptr za zb zc zd => exact RS.toRX (F := F) (v := (.aptr za zb zc zd)) (c := c) h
  | fptr za zb => exact RS.toRX (F := F) (v := (.fptr za zb)) (c := c) h
  | fl za zb zc => exact RS.toRX (F := F) (v := (.fl za zb zc)) (c := c) h
  | sl za zb zc zd ze => exact RS.toRX (F := F) (v := (.sl za zb zc zd ze)) (c := c) h
  | agg za => exact RS.toRX (F := F) (v := (.agg za)) (c := c) h
  | tuple za => exact RS.toRX (F := F) (v := (.tuple za)) (c := c) h

theorem REv.toRX {v : V} {c : Value} (h : REv F M w v c) (hs : v.storable = true) : RX F M w v c := by
  cases v with
  | lptr r o => simp [V.storable] at hs
  | box v => exact h.elim
  | tuple l => simp [V.storable] at hs
  | any => simp [V.storable] at hs
  | _ => exact h

theorem RV.shift {F' : Bool → Nat → Prop} {M' : Mu} (hb : ∀ g b, b < w.heap.size → M'.own b ∨ F' g b → M.own b ∨ F g b) (hv : M'.vb = M.vb) (ha : M'.ab = M.ab) {v : V} {c : Value} (h : RV F M w v c) (hr : resOk v = true)
    (ho : ∀ (v : V) c, RX F M w v c → v.storable = true → RX F' M' w v c) : RV F' M' w v c := by
  cases v with
  | tuple l =>
    obtain ⟨cs, h1, h2, h3⟩ := h
    refine ⟨cs, h1, h2, fun i x y hx hy => ho x y (h3 i x y hx hy) ?_⟩
    simp only [resOk, List.all_eq_true] at hr
    exact hr x (List.mem_of_getElem? hx)
  | any => trivial
  | int za zb => exact RX.toRV (F := F') (v := (.int za zb)) (c := c) (ho (.int za zb) c h hr)
  | bool za => exact RX.toRV (F := F') (v := (.bool za)) (c := c) (ho (.bool za) c h hr)
  | str za => exact RX.toRV (F := F') (v := (.str za)) (c := c) (ho (.str za) c h hr)
  | nilp => exact RX.toRV (F := F') (v := (.nilp)) (c := c) (ho (.nilp) c h hr)
  | nils => exact RX.toRV (F := F') (v := (.nils)) (c := c) (ho (.nils) c h hr)
  | nilfn => exact RX.toRV (F := F') (v := (.nilfn)) (c := c) (ho (.nilfn) c h hr)
  | lptr za zb => exact RX.toRV (F := F') (v := (.lptr za zb)) (c := c) (ho (.lptr za zb) c h hr)
  | box za => exact RX.toRV (F := F') (v := (.box za)) (c := c) (ho (.box za) c h hr)
  | ptr za zb => exact RX.toRV (F := F') (v := (.ptr za zb)) (c := c) (ho (.ptr za zb) c h hr)
  | aptr za zb zc zd => exact RX.toRV (F := F') (v := (.aptr za zb zc zd)) (c := c) (ho (.aptr za zb zc zd) c h hr)
  | fptr za zb => exact RX.toRV (F := F') (v := (.fptr za zb)) (c := c) (ho (.fptr za zb) c h hr)
  | fl za zb zc => exact RX.toRV (F := F') (v := (.fl za zb zc)) (c := c) (ho (.fl za zb zc) c h hr)
  | sl za zb zc zd ze => exact RX.toRV (F := F') (v := (.sl za zb zc zd ze)) (c := c) (ho (.sl za zb zc zd ze) c h hr)
  | fn za zb => exact RX.toRV (F := F') (v := (.fn za zb)) (c := c) (ho (.fn za zb) c h hr)
  | agg za => exact RX.toRV (F := F') (v := (.agg za)) (c := c) (ho (.agg za) c h hr)

theorem RX.lift {F' : Bool → Nat → Prop} {M' : Mu} (hb : ∀ g b, b < w.heap.size → M'.own b ∨ F' g b → M.own b ∨ F g b) (hv : M'.vb = M.vb) (ha : M'.ab = M.ab) {v : V} {c : Value} (h : RX F M w v c) (hnf : v.storable = true) : RX F' M' w v c := by
  cases v with
  | agg l => obtain ⟨cs, h1, h2⟩ := h; exact ⟨cs, h1, h2.imp fun _ _ => RCell.shift hb hv ha⟩
  | fptr e o => simp [V.storable] at hnf
  | int za zb => exact RS.shift (F := F) (F' := F') (v := (.int za zb)) (c := c) hb hv ha h
  | bool za => exact RS.shift (F := F) (F' := F') (v := (.bool za)) (c := c) hb hv ha h
  | str za => exact RS.shift (F := F) (F' := F') (v := (.str za)) (c := c) hb hv ha h
  | nilp => exact RS.shift (F := F) (F' := F') (v := (.nilp)) (c := c) hb hv ha h
  | nils => exact RS.shift (F := F) (F' := F') (v := (.nils)) (c := c) hb hv ha h
  | nilfn => exact RS.shift (F := F) (F' := F') (v := (.nilfn)) (c := c) hb hv ha h
  | any => exact RS.shift (F := F) (F' := F') (v := (.any)) (c := c) hb hv ha h
  | lptr za zb => exact RS.shift (F := F) (F' := F') (v := (.lptr za zb)) (c := c) hb hv ha h
  | box za => exact RS.shift (F := F) (F' := F') (v := (.box za)) (c := c) hb hv ha h
  | ptr za zb => exact RS.shift (F := F) (F' := F') (v := (.ptr za zb)) (c := c) hb hv ha h
  | aptr za zb zc zd => exact RS.shift (F := F) (F' := F') (v := (.aptr za zb zc zd)) (c := c) hb hv ha h
  | fl za zb zc => exact RS.shift (F := F) (F' := F') (v := (.fl za zb zc)) (c := c) hb hv ha h
  | sl za zb zc zd ze => exact RS.shift (F := F) (F' := F') (v := (.sl za zb zc zd ze)) (c := c) hb hv ha h
  | fn za zb => exact RS.shift (F := F) (F' := F') (v := (.fn za zb)) (c := c) hb hv ha h
  | tuple za => exact RS.shift (F := F) (F' := F') (v := (.tuple za)) (c := c) hb hv ha h

theorem RList.app {R : V → Value → Prop} {l l' : List V} {cs cs' : Array Value} (h : RList R l cs) (h' : RList R l' cs') : RList R (l ++ l') (cs ++ cs') := by
  refine ⟨by simp [h.1, h'.1], fun i x y hx hy => ?_⟩
  rcases Nat.lt_or_ge i l.length with hi | hi
  · rw [List.getElem?_append_left hi] at hx
    rw [Array.getElem?_append_left (h.1 ▸ hi)] at hy
    exact h.2 i x y hx hy
  · rw [List.getElem?_append_right hi] at hx
    rw [Array.getElem?_append_right (h.1 ▸ hi)] at hy
    rw [h.1] at hx
    exact h'.2 _ x y hx hy

theorem call_goes {Φ : Oracle} (hΦ : SoundΦ E Φ) {lim : Nat × Nat} {o : Oper} {cl : Call} {fo : Operand} (ho : o.op = .call cl) (hc : cl.callee = .value fo) {s : List V} {H : Heap} {a : Act} (hs : SimS F M w s a) (hh : SimH F M w H)
    {g : Nat} {caps : List V} (hf : ev s fo = .fn g caps) (hst : (cl.args.toList.map (ev s)).all V.storable = true) {v : V} {H' : Heap} (h : Φ lim g (cl.args.toList.map (ev s) ++ caps) H = some (v, H')) (hr : resOk v = true) :
    Goes F M w E.P o a s v ⟨s, H'⟩ := by
  intro next Q hn
  have hfe := ev_sound hs fo
  rw [hf] at hfe
  obtain ⟨cs, hcv, hcr⟩ := hfe
  have hargs := map_ev hs cl.args.toList
  rw [List.all_eq_true] at hst
  have hargs' : RList (RX (FLam F M) M.noLam w) (cl.args.toList.map (ev s)) (cl.args.map a.eval) := by
    refine ⟨by simp, fun i x y hx hy => ?_⟩
    have hsx := hst x (List.mem_of_getElem? hx)
    exact ((hargs.2 i x y hx (by simpa using hy)).toRX hsx).lift (fun g b _ => shift_down g b) rfl rfl hsx
  have hcaps' : RList (RX (FLam F M) M.noLam w) caps cs := hcr.imp fun _ _ hx => (RA.shift (fun g b _ => shift_down g b) rfl rfl hx).toRX
  have post : ∀ e w2, (∃ c M', e = Ending.returned c ∧ Fr M.noLam M' w w2 ∧ M'.lam = (fun _ => none) ∧ SimH (FLam F M) M' w2 H' ∧ RV (FLam F M) M' w2 v c) → ∃ c, e = .returned c ∧ next (a.put o.dst c) w2 := by
    intro e w2 hq
    obtain ⟨c, M1, rfl, hfr, hl, hsim, hv⟩ := hq
    have up := SimH.up hh hfr hsim hl
    have hv' : RV F (M1.withLam M.lam) w2 v c := RV.shift (fun g b _ => shift_up hh hfr hsim hl g b) rfl rfl hv hr (fun v c h1 h2 => h1.lift (fun g b _ => shift_up hh hfr hsim hl g b) rfl rfl h2)
    exact ⟨c, rfl, hn _ w2 c up.fr up.sim ((hs.hs up).put hv'.toREv o.dst) fun r off h => (rv_not_lptr (h ▸ hv')).elim⟩
  have hrun0 : (execOp a.eval o).run E.P w = (callFunc g (cl.args.map a.eval ++ cs)).run E.P w := by
    simp [execOp, ho, resolve, hc, hcv, Deferred.ofValue, invoke]
  rcases hΦ.1 lim g _ H v H' h (FLam F M) M.noLam w _ rfl hh.down (hargs'.app hcaps') with ⟨⟨fn, h1, h2, h3⟩, hcall⟩ | ⟨c, w2, hrun, hq⟩
  case inr =>
    obtain ⟨c', e, hk⟩ := post _ w2 hq
    cases e
    unfold Oper.wp
    rw [hrun0, hrun]
    exact hk
  unfold Oper.wp
  have hrun : (execOp a.eval o).run E.P w = .ok (.enter g (cl.args.map a.eval ++ cs)) w := by
    have h2' : fn.body ≠ none := by intro h; simp [h] at h2
    have h3' : fn.name ≠ "runtime.NumGoroutine" := by simpa using h3
    simp [execOp, ho, resolve, hc, hcv, Deferred.ofValue, invoke, callFunc, h1, h2', h3']
  rw [hrun, Oper.upon_enter]
  refine hcall.mono fun e w2 hq => ?_
  obtain ⟨c, rfl, hk⟩ := post e w2 hq
  exact hk


theorem tZero_spec {P : Program} {t : TypeId} {z : V} (h : tZero P t = some z) : ∃ i zv, P.info? t = some i ∧ i.zero = some zv ∧ z = ofVal zv := by
  unfold tZero at h
  simp only [Option.map_eq_some_iff, Option.bind_eq_some_iff] at h
  obtain ⟨zv, ⟨i, hi, hz⟩, rfl⟩ := h
  exact ⟨i, zv, hi, hz, rfl⟩

theorem atomic_ra {v : V} {c : Value} (h : REv F M w v c) (hv : v.atomic = true) : RA F M w v c := by
  cases v with
  | fn f caps =>
    have hg : (V.fn f caps).gnd = true := hv
    have h : RS F M w (.fn f caps) c := h
    exact h.toRG hg
  | agg l => simp [V.atomic, V.gnd] at hv
  | lptr r o => simp [V.atomic, V.gnd] at hv
  | box l => simp [V.atomic, V.gnd] at hv
  | tuple l => simp [V.atomic, V.gnd] at hv
  | any => simp [V.atomic, V.gnd] at hv
  | fptr e o => simp [V.atomic, V.gnd] at hv
  | _ => exact h

theorem asBool_run {b : Bool} {P : Program} : (asBool (.bool b)).run P w = .ok b w := rfl

theorem opX_sound {Φ : Oracle} (hΦ : SoundΦ E Φ) (hE : EnvOk E) {C : Ctx} {o : Oper} {s : List V} {H : Heap} {a : Act} (hs : SimS F M w s a) (hh : SimH F M w H)
    (hpend : ∀ d, o.dst = some d → (∃ t, o.op = .alloc t) ∨ (∃ t x, o.op = .box t x) → ∀ (t : Nat) off, s[t]? ≠ some (.lptr d off))
    {v : V} {st' : St} (h : opX E C Φ o ⟨s, H⟩ = some (v, st')) : Goes F M w E.P o a s v st' := by
  have newBox : ∀ (t : TypeId) (x : V) (c : Value) (n : Nat) (hc : RList (RCell F M w) x.cells c.cells), o.dst.isSome = true → (execOp a.eval o).run E.P w = .ok (.value (.pointer (some ⟨w.heap.size, 0, none⟩))) (w.alloc (.cells c.cells t)) →
      (∃ t, o.op = .alloc t) ∨ (∃ t x, o.op = .box t x) →
      (match o.dst with
        | some d => bif E.esc C.fn d then some (.ptr H.vars.length 0, ({ s := s, h := { H with vars := H.vars ++ [x] } } : St)) else some (.box x, ⟨s, H⟩)
        | none => none) = some (v, st') → Goes F M w E.P o a s v st' := by
    intro t x c n hc hd hrun hop h
    cases hdst : o.dst with
    | none => rw [hdst] at hd; cases hd
    | some d =>
      rw [hdst] at h
      simp only at h
      have p := Plus.alloc w (.cells c.cells t)
      cases he : E.esc C.fn d <;> rw [he] at h <;> simp only [cond_true, cond_false, Option.some.injEq, Prod.mk.injEq] at h
      · obtain ⟨rfl, rfl⟩ := h
        intro next Q hn
        have f := fr_setLoc (M := M) p d
        have hvar : VarAt F (M.setLoc d w.heap.size) (w.alloc (.cells c.cells t)) w.heap.size x := ⟨c.cells, t, p.new, hc.imp fun _ _ => RCell.fr f⟩
        have hsl := SimS.newLoc hs hh p hvar (hpend d hdst hop)
        exact wp_of_run hrun (hn _ _ _ f (SimH.setLoc hh p d) (by rw [hdst]; exact hsl) (by simp))
      · obtain ⟨rfl, rfl⟩ := h
        have f := fr_addVar (M := M) p
        have hvar : VarAt F (M.addVar w.heap.size) (w.alloc (.cells c.cells t)) w.heap.size x := ⟨c.cells, t, p.new, hc.imp fun _ _ => RCell.fr f⟩
        refine goes_value hrun f (SimH.addVar hh p hvar) (hs.plus hh p f rfl) ?_ ?_
        · exact ⟨w.heap.size, by simp [Mu.addVar, ← hh.vlen], rfl⟩
        · simp
  cases ho : o.op with
  | move x =>
    simp only [opX, ho, Option.some.injEq, Prod.mk.injEq] at h
    obtain ⟨rfl, rfl⟩ := h
    exact goes_pure hs hh (c := a.eval x) (by simp [execOp, ho]) (ev_sound hs x) fun r off h => ev_lsrc (by simp [ho, Op.operands]) h
  | assign x =>
    simp only [opX, ho] at h
    cases hl : (ev s x).isLptr <;> rw [hl] at h <;> simp at h
    obtain ⟨rfl, rfl⟩ := h
    exact goes_pure hs hh (c := a.eval x) (by simp [execOp, ho]) (ev_sound hs x) fun r off h => ev_lsrc (by simp [ho, Op.operands]) h
  | pick c x y =>
    simp only [opX, ho] at h
    have hc := ev_sound hs c
    cases hv : ev s c <;> rw [hv] at h <;> simp only [Option.some.injEq, Prod.mk.injEq, reduceCtorEq] at h
    rename_i b
    rw [hv] at hc
    have hc := rev_bool hc
    obtain ⟨rfl, rfl⟩ := h
    cases b
    · exact goes_pure hs hh (c := a.eval y) (by simp [execOp, ho, hc, asBool_run]) (ev_sound hs y) fun r off h => ev_lsrc (by simp [ho, Op.operands]) h
    · exact goes_pure hs hh (c := a.eval x) (by simp [execOp, ho, hc, asBool_run]) (ev_sound hs x) fun r off h => ev_lsrc (by simp [ho, Op.operands]) h
  | alloc t =>
    simp only [opX, ho, Option.bind_eq_some_iff] at h
    obtain ⟨z, hz, h⟩ := h
    obtain ⟨hq, h⟩ := dead_eq h
    simp only [Bool.and_eq_true] at hq
    obtain ⟨i, zv, hi, hzv, rfl⟩ := tZero_spec hz
    have hc := storable_cells (F := F) (M := M) (w := w) (ofVal_sound zv).toREv hq.1
    refine newBox t _ zv 0 hc ?_ ?_ (.inl ⟨t, ho⟩) h
    · cases hd : o.dst with
      | none => rw [hd] at h; cases h
      | some d => rfl
    · simp [execOp, ho, Instr.alloc, run_zeroValue hi hzv, newVar, newRow]
  | box t x =>
    simp only [opX, ho] at h
    obtain ⟨hq, h⟩ := dead_eq h
    simp only [Bool.and_eq_true] at hq
    have hc := storable_cells (ev_sound hs x) hq.1
    refine newBox t _ (a.eval x) 0 hc ?_ ?_ (.inr ⟨t, x, ho⟩) h
    · cases hd : o.dst with
      | none => rw [hd] at h; cases h
      | some d => rfl
    · simp [execOp, ho, Instr.box, newVar, newRow]
  | build t parts =>
    simp only [opX, ho, Option.bind_eq_some_iff] at h
    obtain ⟨z, hz, h⟩ := h
    obtain ⟨hq, h⟩ := dead_eq h
    simp only [Bool.and_eq_true] at hq
    obtain ⟨i, zv, hi, hzv, rfl⟩ := tZero_spec hz
    have hc := storable_cells (F := F) (M := M) (w := w) (ofVal_sound zv).toREv hq.2.1
    simp only [Option.map_eq_some_iff, Prod.mk.injEq] at h
    obtain ⟨l, hl, rfl, rfl⟩ := h
    obtain ⟨c, h1, h2⟩ := build_sound hi hzv hq.1 hc (parts_ev hs parts.toList) hl
    have e : (parts.map fun p => (p.1, a.eval p.2)) = (parts.toList.map fun p => (p.1, a.eval p.2)).toArray := by rw [← Array.toList_map, Array.toArray_toList]
    exact goes_rv hs hh (c := c) (by simp only [execOp, ho]; rw [e]; simp [h1]) h2.toRV
  | buildSlice t len parts =>
    simp only [opX, ho, Option.bind_eq_some_iff] at h
    obtain ⟨et, het, h⟩ := h
    obtain ⟨hq, h⟩ := dead_eq h
    simp only [Bool.and_eq_true] at hq
    simp only [Option.bind_eq_some_iff] at h
    obtain ⟨z, hz, es, hes, h⟩ := h
    obtain ⟨hu, ii, hi⟩ := tElem_spec het
    have hz' : len = 0 ∨ zOk E.P et = some z := by
      cases hl : Nat.beq len 0 <;> rw [hl] at hz
      · exact .inr hz
      · exact .inl (Nat.eq_of_beq_eq_true hl)
    obtain ⟨cs, h1, h2, h3⟩ := buildSlice_run hh hu hi (by simpa using hq.1) hz' (parts_ev hs parts.toList) hes
    have e : (parts.map fun p => (p.1, a.eval p.2)) = (parts.toList.map fun p => (p.1, a.eval p.2)).toArray := by rw [← Array.toList_map, Array.toArray_toList]
    have hrun : (execOp a.eval o).run E.P w = .ok (.value (.slice (some ⟨w.heap.size, 0, none⟩) len len)) (w.alloc (.cells cs et)) := by
      simp only [execOp, ho]; rw [e]; simp [h1]
    have p := Plus.alloc w (.cells cs et)
    cases hd : o.dst with
    | none => rw [hd] at h; cases h
    | some d =>
      rw [hd] at h
      simp only at h
      cases hown : E.own C.fn d <;> rw [hown] at h <;> simp only [cond_true, cond_false] at h
      · obtain ⟨hg, h⟩ := dead_eq h
        simp only [Option.some.injEq, Prod.mk.injEq] at h
        obtain ⟨rfl, rfl⟩ := h
        have f : Fr M M w (w.alloc (.cells cs et)) := fr_plus p (fun _ h => .inl h) (fun _ _ h => h) (fun _ _ h => h)
        refine goes_value hrun f (hh.keep f fun ow b hb _ => p.old (hh.lt hb)) (hs.plus hh p f rfl) ?_ (by simp)
        have hrow := (h2.row []).fr f
        simp only [List.append_nil, Array.toArray_toList] at hrow
        have hlt : w.heap.size < (w.alloc (.cells cs et)).heap.size := by rw [p.size]; omega
        have := fl_mk (F := F) (M := M) (w := w.alloc (.cells cs et)) (tag := true) (tight := true) (es := es) (b := w.heap.size) (o := 0) (cap := len) (n := E.P.cellsOf et) (by omega) (fun _ => h3.symm)
          (fun _ => ⟨hlt, fun ho => by have := hh.bound _ ho; omega, fun hf => by have := hh.fbound _ _ hf; omega⟩) (fun i v hv => by
            obtain ⟨k1, k2⟩ := hrow i v hv
            refine ⟨k1, fun k x hx => ?_⟩
            obtain ⟨y, y1, y2⟩ := k2 k x hx
            refine ⟨y, ?_, y2.1.toRG ?_, y2.2⟩
            · simp only [World.cell?, p.new]; simpa using y1
            · rw [List.all_eq_true] at hg
              have := hg v (List.mem_of_getElem? hv)
              rw [List.all_eq_true] at this
              exact this x (List.mem_of_getElem? hx))
        rw [h3] at this
        exact this
      · simp only [Option.some.injEq, Prod.mk.injEq] at h
        obtain ⟨rfl, rfl⟩ := h
        have hrow := h2.row []
        simp only [List.append_nil, Array.toArray_toList] at hrow
        have hst := newArr_sound hh p rfl (lim := len) (opn := false) hrow (by rw [← h3]; have := h2.1; simp at this; omega) (by omega) (fun _ => h3.symm)
        have hv := rv_new (F := F) (M := M) (w := w) hh (lim := len) (sz := E.P.cellsOf et) (n := len) (k := len) (cap := some len) (Nat.le_refl _) (Nat.le_refl _) (Nat.le_refl _) (fun c hc => by simpa using hc) (fun c hc => by cases hc; exact Nat.le_refl _) (by simp) (w.alloc (.cells cs et))
        rw [h3] at hst
        exact goes_hs hs hst hrun hv
  | load t p =>
    simp only [opX, ho, Option.map_eq_some_iff, Prod.mk.injEq] at h
    obtain ⟨v', hl, rfl, rfl⟩ := h
    obtain ⟨ad, c', h1, h2, h3⟩ := loadV_sound hs hh (ev_sound hs p) hl
    exact goes_rv hs hh (c := c') (by simp [execOp, ho, h1, Instr.loadAt, Instr.sureAddr, h2]) h3.toRV
  | store t p x =>
    simp only [opX, ho, Option.map_eq_some_iff, Prod.mk.injEq] at h
    obtain ⟨st1, hl, rfl, rfl⟩ := h
    obtain ⟨ad, w1, h1, h2, h3, h4, h5⟩ := storeV_sound hs hh (ev_sound hs p) (ev_sound hs x) hl
    exact goes_skip (by simp [execOp, ho, h1, Instr.storeAt, Instr.sureAddr, h2]) h3 h5 h4
  | nilCheck x =>
    have hx := ev_sound hs x
    have fin : ∀ c, a.eval x = c → (execOp a.eval o).run E.P w = .ok (.value c) w → ∀ v', ev s x = v' → Goes F M w E.P o a s v' ⟨s, H⟩ := by
      intro c hc hr v' hv'
      subst hc hv'
      exact goes_pure hs hh hr hx fun r off h => ev_lsrc (by simp [ho, Op.operands]) h
    simp only [opX, ho] at h
    split at h <;> simp only [Option.some.injEq, Prod.mk.injEq, reduceCtorEq] at h
    · rename_i r q hv; rw [hv] at hx; obtain ⟨b, _, hc⟩ := hx; obtain ⟨rfl, rfl⟩ := h
      exact fin _ rfl (by simp [execOp, ho, hc]) _ hv
    · rename_i r q hv; rw [hv] at hx; obtain ⟨b, hc⟩ := rev_ptr hx; obtain ⟨rfl, rfl⟩ := h
      exact fin _ rfl (by simp [execOp, ho, hc]) _ hv
    · rename_i r q j l hv; rw [hv] at hx; obtain ⟨_, ad, _, _, hc, _⟩ := hx; obtain ⟨rfl, rfl⟩ := h
      exact fin _ rfl (by simp [execOp, ho, hc]) _ hv
    · rename_i r q hv; rw [hv] at hx; obtain ⟨b, q', hc, _⟩ := hx; obtain ⟨rfl, rfl⟩ := h
      exact fin _ rfl (by simp [execOp, ho, hc]) _ hv
    · rename_i r q hv; rw [hv] at hx; obtain ⟨cs, hc⟩ := rev_fn hx; obtain ⟨rfl, rfl⟩ := h
      exact fin _ rfl (by simp [execOp, ho, hc]) _ hv
  | binOp op t x y ty =>
    simp only [opX, ho, Option.map_eq_some_iff, Prod.mk.injEq] at h
    obtain ⟨v', hl, rfl, rfl⟩ := h
    obtain ⟨r, h1, h2⟩ := binV_sound hE (ev_sound hs x) (ev_sound hs y) hl x y
    exact goes_rv hs hh (c := r) (by simp only [execOp, ho]; simp only [Sem.run_bind] at h1 ⊢; rw [h1]; rfl) h2
  | unOp op t x =>
    have hx := ev_sound hs x
    simp only [opX, ho] at h
    split at h <;> simp only [Option.some.injEq, Prod.mk.injEq, reduceCtorEq] at h
    · rename_i b hv; rw [hv] at hx; have hc := rev_bool hx; obtain ⟨rfl, rfl⟩ := h
      exact goes_rv hs hh (c := .bool (!b)) (by simp [execOp, ho, hc, Op.unary]) rv_bool
    · rename_i k n hv; rw [hv] at hx; have hc := rev_int hx; obtain ⟨rfl, rfl⟩ := h
      exact goes_rv hs hh (c := .int k (k.wrap (0 - n))) (by simp [execOp, ho, hc, Op.unary, Op.intArith]) rv_int
  | convert t1 t2 x =>
    have hx := ev_sound hs x
    simp only [opX, ho] at h
    split at h <;> simp only [Option.some.injEq, Prod.mk.injEq, reduceCtorEq] at h
    · rename_i d1 k k' n hu1 hu2 hv; rw [hv] at hx; have hc := rev_int hx; obtain ⟨rfl, rfl⟩ := h
      exact goes_rv hs hh (c := .int k (k.wrap n)) (by simp [execOp, ho, hc, convert, run_underlying hu1, run_underlying hu2, Conv.intToInt]) rv_int
    · rename_i l hu1 hu2 hv; rw [hv] at hx; obtain ⟨sb, hc, hl⟩ := rev_str hx; obtain ⟨rfl, rfl⟩ := h
      exact goes_rv hs hh (c := .string sb) (by simp [execOp, ho, hc, convert, run_underlying hu1, run_underlying hu2]) (rv_str hl)
  | makeFunc fn first caps =>
    simp only [opX, ho] at h
    split at h <;> try (simp at h; done)
    rename_i f
    obtain ⟨hq, h⟩ := dead_eq h
    simp only [Bool.and_eq_true, List.all_eq_true] at hq
    simp only [Option.some.injEq, Prod.mk.injEq] at h
    obtain ⟨rfl, rfl⟩ := h
    have hm := map_ev hs caps.toList
    have hfirst : first = #[] := by simpa using hq.1
    refine goes_rv hs hh (v := .fn f (caps.toList.map (ev s))) (c := .func (.func f) #[] (caps.map a.eval)) (by simp [execOp, ho, Instr.makeFunc, hfirst]) ⟨caps.map a.eval, rfl, by simp, fun i x y hx hy => ?_⟩
    exact atomic_ra (hm.2 i x y hx (by simpa using hy)) (hq.2 x (List.mem_of_getElem? hx))
  | makeSlice t l c =>
    simp only [opX, ho, Option.map_eq_some_iff, Prod.mk.injEq] at h
    obtain ⟨r, hl, rfl, rfl⟩ := h
    obtain ⟨c', M', w', h1, h2, h3⟩ := makeSliceV_sound hh (ev_sound hs l) (ev_sound hs c) hl
    exact goes_hs hs h2 (c := c') (by simp [execOp, ho, h1]) h3
  | slice t x lo hi mx =>
    simp only [opX, ho, Option.map_eq_some_iff, Prod.mk.injEq] at h
    obtain ⟨v', hl, rfl, rfl⟩ := h
    have hopt : ∀ q : Option Operand, ROpt F M w (q.map (ev s)) (q.map a.eval) := fun q => by
      cases q with
      | none => trivial
      | some q => exact ev_sound hs q
    obtain ⟨r, h1, h2⟩ := sliceV_sound hh (ev_sound hs x) (hopt lo) (hopt hi) (hopt mx) hl
    exact goes_rv hs hh (c := r) (by simp [execOp, ho, h1]) h2
  | fieldAddr t x f =>
    simp only [opX, ho, Option.map_eq_some_iff, Prod.mk.injEq] at h
    obtain ⟨v', hl, rfl, rfl⟩ := h
    obtain ⟨r, h1, h2⟩ := fieldAddrV_sound (ev_sound hs x) hl
    refine goes_pure hs hh (c := r) (by simp [execOp, ho, h1]) h2 fun r off h => ?_
    subst h
    simp only [fieldAddrV, Option.bind_eq_some_iff] at hl
    obtain ⟨q, _, hl⟩ := hl
    cases hz : Nat.beq (E.P.cellsOf q.2) 0 <;> rw [hz] at hl
    · obtain ⟨off', h'⟩ := moveBy_lptr hl
      exact ev_lsrc (by simp [ho, Op.operands]) h'
    · cases hl
  | indexAddr t x i =>
    simp only [opX, ho, Option.map_eq_some_iff, Prod.mk.injEq] at h
    obtain ⟨v', hl, rfl, rfl⟩ := h
    obtain ⟨r, h1, h2⟩ := indexAddrV_sound hh (ev_sound hs x) (ev_sound hs i) hl
    refine goes_pure hs hh (c := r) (by simp [execOp, ho, h1]) h2 fun r off h => ?_
    subst h
    simp only [indexAddrV, Option.bind_eq_some_iff] at hl
    obtain ⟨j, _, hl⟩ := hl
    split at hl
    · obtain ⟨_, hl⟩ := dead_eq hl
      simp at hl
    · obtain ⟨_, hl⟩ := dead_eq hl
      simp at hl
    · split at hl
      · obtain ⟨_, hl⟩ := dead_eq hl
        obtain ⟨off', h'⟩ := moveBy_lptr hl
        exact ev_lsrc (by simp [ho, Op.operands]) h'
      · cases hl
  | index t x i =>
    simp only [opX, ho, Option.map_eq_some_iff, Prod.mk.injEq] at h
    obtain ⟨v', hl, rfl, rfl⟩ := h
    obtain ⟨r, h1, h2⟩ := indexV_sound (ev_sound hs x) (ev_sound hs i) hl
    exact goes_rv hs hh (c := r) (by simp [execOp, ho, h1]) h2
  | extract x i =>
    have hx := ev_sound hs x
    simp only [opX, ho] at h
    split at h <;> simp only [Option.map_eq_some_iff, Prod.mk.injEq, reduceCtorEq] at h
    rename_i l hv
    rw [hv] at hx
    obtain ⟨cs, hc, hr⟩ := hx
    obtain ⟨y, hy, rfl, rfl⟩ := h
    obtain ⟨z, h1, h2⟩ := hr.one_of i y hy
    exact goes_rv hs hh (c := z) (by simp [execOp, ho, hc, Instr.extract, h1]) h2.toRV
  | call cl =>
    simp only [opX, ho] at h
    have hargs := map_ev hs cl.args.toList
    have eargs : cl.args.map a.eval = (cl.args.toList.map a.eval).toArray := by rw [← Array.toList_map, Array.toArray_toList]
    split at h
    · rename_i fo hcal
      split at h <;> try (simp at h; done)
      rename_i g caps hf
      obtain ⟨hst, h⟩ := dead_eq h
      simp only [Option.bind_eq_some_iff] at h
      obtain ⟨r, hr, h⟩ := h
      obtain ⟨hro, h⟩ := dead_eq h
      simp only [Option.some.injEq, Prod.mk.injEq] at h
      obtain ⟨rfl, rfl⟩ := h
      exact call_goes hΦ ho hcal hs hh hf hst hr hro
    · rename_i b hcal
      have hb : (execOp a.eval o).run E.P w = (builtin b cl.argTypes o.type (cl.args.map fun | .const _ => true | _ => false) (cl.args.map a.eval)).run E.P w := by
        simp [execOp, ho, resolve, hcal, invoke]
        rfl
      have one : ∀ x, cl.args.toList.map (ev s) = [x] → ∃ c, cl.args.map a.eval = #[c] ∧ REv F M w x c := by
        intro x hx
        rw [hx] at hargs
        rw [eargs]
        match hl : cl.args.toList.map a.eval, hargs with
        | [], hargs => exact absurd hargs.1 (by simp)
        | [c], hargs => exact ⟨c, rfl, hargs.2 0 x c rfl rfl⟩
        | _ :: _ :: _, hargs => exact absurd hargs.1 (by simp)
      have two : ∀ x y, cl.args.toList.map (ev s) = [x, y] → ∃ c d, cl.args.map a.eval = #[c, d] ∧ REv F M w x c ∧ REv F M w y d := by
        intro x y hx
        rw [hx] at hargs
        rw [eargs]
        match hl : cl.args.toList.map a.eval, hargs with
        | [], hargs => exact absurd hargs.1 (by simp)
        | [_], hargs => exact absurd hargs.1 (by simp)
        | [c, d], hargs => exact ⟨c, d, rfl, hargs.2 0 x c rfl rfl, hargs.2 1 y d rfl rfl⟩
        | _ :: _ :: _ :: _, hargs => exact absurd hargs.1 (by simp)
      have ts1 : ∀ t, cl.argTypes.toList = [t] → cl.argTypes = #[t] := fun t h => by rw [← Array.toArray_toList (xs := cl.argTypes), h]
      have ts2 : ∀ t u, cl.argTypes.toList = [t, u] → cl.argTypes = #[t, u] := fun t u h => by rw [← Array.toArray_toList (xs := cl.argTypes), h]
      split at h
      · rename_i x t hx ht
        simp only [Option.map_eq_some_iff, Prod.mk.injEq] at h
        obtain ⟨y, hy, rfl, rfl⟩ := h
        obtain ⟨c, hc, hxc⟩ := one x hx
        obtain ⟨r, h1, h2⟩ := lenV_sound (ty := o.type) hxc hy
        exact goes_rv hs hh (c := r) (by rw [hb, hc, ts1 t ht]; simp [builtin, h1]) h2
      · rename_i x t hx ht
        obtain ⟨hte, h⟩ := dead_eq h
        simp only [Option.map_eq_some_iff, Prod.mk.injEq] at h
        obtain ⟨y, hy, rfl, rfl⟩ := h
        obtain ⟨c, hc, hxc⟩ := one x hx
        obtain ⟨e, he⟩ := Option.isSome_iff_exists.1 hte
        obtain ⟨r, h1, h2⟩ := capV_sound (ty := o.type) (tElem_spec he).1 hxc hy
        exact goes_rv hs hh (c := r) (by rw [hb, hc, ts1 t ht]; simp [builtin, h1]) h2
      · rename_i x y t u hx ht
        obtain ⟨hte, h⟩ := dead_eq h
        simp only [Option.map_eq_some_iff, Prod.mk.injEq] at h
        obtain ⟨r, hr, rfl, rfl⟩ := h
        obtain ⟨c, d, hc, hxc, hyd⟩ := two x y hx
        obtain ⟨r', M', w', h1, h2, h3⟩ := appendV_sound (ty := o.type) hh hxc hyd hte hr
        exact goes_hs hs h2 (c := r') (by rw [hb, hc, ts2 t u ht]; simp [builtin, h1]) h3
      · rename_i x y t u hx ht
        simp only [Option.map_eq_some_iff, Prod.mk.injEq] at h
        obtain ⟨r, hr, rfl, rfl⟩ := h
        obtain ⟨c, d, hc, hxc, hyd⟩ := two x y hx
        obtain ⟨r', M', w', h1, h2, h3⟩ := copyV_sound (u := u) (ty := o.type) hh hxc hyd hr
        exact goes_hs hs h2 (c := r') (by rw [hb, hc, ts2 t u ht]; simp [builtin, h1]) h3
      · rename_i x t hx ht
        simp only [Option.map_eq_some_iff, Prod.mk.injEq] at h
        obtain ⟨r, hr, rfl, rfl⟩ := h
        obtain ⟨c, hc, hxc⟩ := one x hx
        obtain ⟨r', M', w', h1, h2, h3⟩ := clearV_sound (ty := o.type) hh hxc hr
        exact goes_hs hs h2 (c := r') (by rw [hb, hc, ts1 t ht]; simp [builtin, h1]) h3
      · simp only [Option.map_eq_some_iff, Prod.mk.injEq] at h
        obtain ⟨y, hy, rfl, rfl⟩ := h
        obtain ⟨r, h1, h2⟩ := mmV_sound (P := E.P) hy (by rw [← eargs] at hargs; exact hargs) cl.argTypes o.type
        simp only [if_true] at h1
        exact goes_rv hs hh (c := r) (by rw [hb]; simp [builtin, h1]) h2
      · simp only [Option.map_eq_some_iff, Prod.mk.injEq] at h
        obtain ⟨y, hy, rfl, rfl⟩ := h
        obtain ⟨r, h1, h2⟩ := mmV_sound (P := E.P) hy (by rw [← eargs] at hargs; exact hargs) cl.argTypes o.type
        simp only [if_false, Bool.false_eq_true] at h1
        exact goes_rv hs hh (c := r) (by rw [hb]; simp [builtin, h1]) h2
      · simp at h
    · simp at h
  | _ => simp [opX, ho] at h
end
end Go.DM
