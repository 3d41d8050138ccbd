/-
  Calls. The evaluator is sound. How the evaluator is reasoned about: what a code comes to, in the style of weakest preconditions. Rules by which a code's condition is worked out from the front.
-/
import Derived.Test.YtpfhhcjdknmbbaaGreatDoorA4
import Derived.Laws.Externs
set_option linter.all false
set_option linter.unusedSimpArgs false
set_option linter.unusedVariables false
namespace Go.DM

structure EnvFull (E : Env) : Prop extends EnvOk E where
  mixed : E.P.follows .mixedOrders = true
  ext : ∀ f kd, E.ext f = some kd → kd ≤ 1 → ∃ fn, E.P.funcs[f]? = some fn ∧ (fn.name == "runtime.NumGoroutine") = false ∧ fn.body.isNone = true ∧ Extern.findNext fn = none ∧
    ((kd = 0 ∧ Extern.find fn = some Extern.BytealgCount.count) ∨ (kd = 1 ∧ Extern.find fn = some Extern.BytealgIndexByte.indexByte))
  ins : ∀ f kd, E.ext f = some kd → 1 < kd → ∀ args H v H', insH E.P kd args H = some (v, H') → ∀ (F : Bool → Nat → Prop) (M : Mu) (w : World) (cs : Array Value), M.lam = (fun _ => none) → SimH F M w H → RList (RX F M w) args cs →
    CallsF E.P f cs w fun e w' => ∃ c M', e = .returned c ∧ Fr M M' w w' ∧ M'.lam = (fun _ => none) ∧ SimH F M' w' H' ∧ RV F M' w' v c
  code : ∀ f, E.ok f = true → ∀ fn, E.P.funcs[f]? = some fn → ∀ c, fn.body = some c → (fn.name == "runtime.NumGoroutine") = false ∧ codeOk E f c = true

section
variable {F : Bool → Nat → Prop} {M : Mu} {w w' : World} {E : Env} {Φ : Oracle}

theorem resV_run {s : List V} {H : Heap} {a : Act} (hs : SimS F M w s a) (hh : SimH F M w H) {r : ResultVar} {v : V} (h : resV E.P ⟨s, H⟩ r = some v) :
    ∃ c, (match r with | .tmp t => pure (a.tmps.getD t undef) | .cell q t => do loadVar t (← asAddr (a.tmps.getD q undef)) : Sem Value).run E.P w = .ok c w ∧ RV F M w v c := by
  cases r with
  | tmp t =>
    simp only [resV] at h
    have hv := ev_sound hs (.tmp t)
    refine ⟨_, rfl, ?_⟩
    cases he : ev s (.tmp t) <;> rw [he] at h hv <;> simp only [reduceCtorEq, Option.some.injEq] at h <;> subst h <;> first | exact hv | exact hv.elim
  | cell q t =>
    simp only [resV] at h
    obtain ⟨ad, c', h1, h2, h3⟩ := loadV_sound hs hh (ev_sound hs (.tmp q)) h
    have h1' : a.tmps.getD q undef = .pointer (some ad) := h1
    exact ⟨c', by simp only [h1']; simp [asAddr, h2], h3.toRV⟩

theorem resL_run {s : List V} {H : Heap} {a : Act} (hs : SimS F M w s a) (hh : SimH F M w H) : ∀ {l : List ResultVar} {vs : List V}, mapO (resV E.P ⟨s, H⟩) l = some vs →
    ∃ cs : List Value, (l.mapM fun r => (match r with | .tmp t => pure (a.tmps.getD t undef) | .cell q t => do loadVar t (← asAddr (a.tmps.getD q undef)) : Sem Value)).run E.P w = .ok cs w ∧ RList (RV F M w) vs cs.toArray
  | [], vs, h => by
    simp only [mapO, Option.some.injEq] at h
    subst h
    exact ⟨[], rfl, rfl, fun i x y hx => by simp at hx⟩
  | r :: l, vs, h => by
    simp only [mapO, Option.bind_eq_some_iff] at h
    obtain ⟨v, hv, vs', hvs, h⟩ := h
    cases h
    obtain ⟨c, h1, h2⟩ := resV_run hs hh hv
    obtain ⟨cs, h3, h4, h5⟩ := resL_run hs hh hvs
    refine ⟨c :: cs, ?_, by simpa using h4, fun i x y hx hy => ?_⟩
    · rw [List.mapM_cons]
      simp only [Sem.run_bind, h1, Result.andThen_ok, h3, Sem.run_pure]
    · cases i with
      | zero => simp at hx hy; subst hx hy; exact h2
      | succ i => exact h5 i x y (by simpa using hx) (by simpa using hy)

theorem rv_rx {v : V} {c : Value} (h : RV F M w v c) (hs : v.storable = true) : RX F M w v c := REv.toRX h.toREv hs

theorem results_run {fn : Func} {s : List V} {H : Heap} {a : Act} (hs : SimS F M w s a) (hh : SimH F M w H) {v : V} (h : resultsV E.P fn ⟨s, H⟩ = some v) :
    ∃ c, (results fn a.tmps).run E.P w = .ok c w ∧ RV F M w v c ∧ resOk v = true := by
  simp only [resultsV, Option.bind_eq_some_iff] at h
  obtain ⟨vs, hvs, h⟩ := h
  obtain ⟨cs, h1, h2, h3⟩ := resL_run (a := a) hs hh hvs
  have hrun : (results fn a.tmps).run E.P w = .ok (if h : cs.toArray.size = 1 then cs.toArray[0] else .tuple cs.toArray) w := by
    have e0 : results fn a.tmps = (do
        let vs ← fn.results.mapM fun r => (match r with | .tmp t => pure (a.tmps.getD t undef) | .cell q t => do loadVar t (← asAddr (a.tmps.getD q undef)) : Sem Value)
        pure (if h : vs.size = 1 then vs[0] else .tuple vs)) := rfl
    have e : fn.results = fn.results.toList.toArray := by simp
    rw [e0, e, List.mapM_toArray]
    simp only [Sem.run_bind, Sem.run_map, h1, Result.andThen_ok, Sem.run_pure]
  refine ⟨_, hrun, ?_⟩
  split at h
  · rename_i x
    obtain ⟨hr, h⟩ := dead_eq h
    cases h
    match cs, h2, h3 with
    | [c], h2, h3 => exact ⟨by simpa using h3 0 _ c rfl rfl, hr⟩
    | [], h2, _ => simp at h2
    | _ :: _ :: _, h2, _ => simp at h2
  · rename_i hne
    obtain ⟨hr, h⟩ := dead_eq h
    cases h
    have hsz : ¬ cs.toArray.size = 1 := by
      intro hsz
      rw [← h2] at hsz
      match vs, hsz, hne with
      | [x], _, hne => exact hne x rfl
    rw [dif_neg hsz]
    refine ⟨⟨cs.toArray, rfl, h2, fun i x y hx hy => ?_⟩, hr⟩
    rw [List.all_eq_true] at hr
    exact rv_rx (h3 i x y hx hy) (hr x (List.mem_of_getElem? hx))

theorem SimH.drop {H : Heap} (h : SimH F M w H) : SimH F M.noLam w H where
  vlen := h.vlen
  alen := h.alen
  vmem := fun i b v hi hv => (h.vmem i b v hi hv).shift (fun g b _ h' => h'.elim (fun h1 => .inl (own_noLam.2 (.inl h1))) .inr) rfl rfl
  amem := fun j a A hj hA => (h.amem j a A hj hA).shift (fun g b _ h' => h'.elim (fun h1 => .inl (own_noLam.2 (.inl h1))) .inr) rfl rfl
  inj := fun o o' b h1 h2 => h.inj o o' b (at_noLam h1).1 (at_noLam h2).1
  bound := fun b hb => h.bound b (own_noLam.2 (.inl hb))
  apart := fun g b hb => h.apart g b (own_noLam.2 (.inl hb))
  fbound := h.fbound

theorem rx_not_lptr {r off : Nat} {c : Value} (h : RX F M w (.lptr r off) c) : False := by cases h

theorem RX.toRSlot {v : V} {c : Value} (h : RX F M w v c) (t : Nat) : RSlot F M w t v c := by
  cases v with
  | lptr r o => cases h
  | box v => cases h
  | _ => exact h.toRV

theorem callBody_sound (hΦ : SoundΦ E Φ) (hE : EnvFull E) {k : Nat} {lim : Nat × Nat} {f : Nat} {args : List V} {H H' : Heap} {v : V} (h : callBody E Φ k lim f args H = some (v, H')) {cs : Array Value} (hh : SimH F M w H)
    (ha : RList (RX F M w) args cs) : (∃ fn, E.P.funcs[f]? = some fn ∧ fn.body.isNone = false ∧ (fn.name == "runtime.NumGoroutine") = false) ∧
    Calls E.P f cs w fun e w' => ∃ c M', e = .returned c ∧ Fr M M' w w' ∧ M'.lam = (fun _ => none) ∧ SimH F M' w' H' ∧ RV F M' w' v c ∧ resOk v = true := by
  unfold callBody at h
  obtain ⟨hok, h⟩ := dead_eq h
  simp only [Option.bind_eq_some_iff] at h
  obtain ⟨fn, hfn, c, hc, ⟨x, s', H1⟩, hx, h⟩ := h
  obtain ⟨hname, hcode⟩ := hE.code f hok fn hfn c hc
  refine ⟨⟨fn, hfn, by rw [hc]; rfl, hname⟩, calls_of_wp hfn hc ?_⟩
  have hs : SimS F M w (args ++ List.replicate (fn.ntmps - args.length) undefV) { tmps := cs ++ Array.replicate (fn.ntmps - cs.size) undef, defers := [] } := by
    refine ⟨by simp [ha.1], fun t y z hy hz => ?_, rfl⟩
    rcases Nat.lt_or_ge t args.length with ht | ht
    · rw [List.getElem?_append_left ht] at hy
      rw [Array.getElem?_append_left (ha.1 ▸ ht)] at hz
      exact (ha.2 t y z hy hz).toRSlot t
    · rw [List.getElem?_append_right ht] at hy
      rw [Array.getElem?_append_right (ha.1 ▸ ht)] at hz
      simp only [List.getElem?_replicate, Array.getElem?_replicate] at hy hz
      split at hy <;> simp at hy
      split at hz <;> simp at hz
      subst hy hz
      exact rev_undef
  have hno : NoL (args ++ List.replicate (fn.ntmps - args.length) undefV) := by
    intro t r off ht
    rcases Nat.lt_or_ge t args.length with h' | h'
    · rw [List.getElem?_append_left h'] at ht
      obtain ⟨y, _, hy⟩ := ha.one_of t _ ht
      exact rx_not_lptr hy
    · rw [List.getElem?_append_right h', List.getElem?_replicate] at ht
      split at ht <;> simp [undefV] at ht
  have fin : ∀ (M' : Mu) (w' : World) (a' : Act), Fr M M' w w' → SimH F M' w' H1 → SimS F M' w' s' a' → (resultsV E.P fn ⟨s', H1⟩).map (fun v => (v, H1)) = some (v, H') →
      a'.defers = [] ∧ ∃ c, (results fn a'.tmps).run E.P w' = .ok c w' ∧ ∃ c' M', Ending.returned c = .returned c' ∧ Fr M M' w w' ∧ M'.lam = (fun _ => none) ∧ SimH F M' w' H' ∧ RV F M' w' v c' ∧ resOk v = true := by
    intro M' w' a' fr k1 k2 h
    simp only [Option.map_eq_some_iff, Prod.mk.injEq] at h
    obtain ⟨v', hv, rfl, rfl⟩ := h
    obtain ⟨c, h1, h2, h3⟩ := results_run (a := a') k2 k1 hv
    refine ⟨k2.defers, c, h1, c, M'.noLam, rfl, ?_, rfl, k1.drop, ?_, h3⟩
    · exact ⟨fr.os, fr.tape, fr.output, fr.size, fr.keep, fun b hb => fr.fresh b (own_noLam.2 (.inl hb)), fr.vb, fr.ab⟩
    · have hb : ∀ g b, b < w'.heap.size → M'.noLam.own b ∨ F g b → M'.own b ∨ F g b := fun g b _ h' => h'.elim (fun h1 => .inl (own_noLam.2 (.inl h1))) .inr
      exact RV.shift hb rfl rfl h2 h3 (fun v c k1 k2 => k1.lift hb rfl rfl k2)
  cases x with
  | normal => exact exec_sound (C := ⟨f, lim.1, lim.2⟩) hΦ hE.toEnvOk hE.mixed k c hcode hx hs hh hno fun M' w' a' fr k1 k2 _ => fin M' w' a' fr k1 k2 h
  | ret => exact exec_sound (C := ⟨f, lim.1, lim.2⟩) hΦ hE.toEnvOk hE.mixed k c hcode hx hs hh hno fun M' w' a' fr k1 k2 _ => fin M' w' a' fr k1 k2 h
  | exit id => simp at h

/-! cutting off -/
def Mu.cut (M : Mu) (nv na : Nat) : Mu := ⟨M.vb.take nv, M.ab.take na, fun _ => none⟩

theorem at_cut {nv na : Nat} {o : Ow} {b : Nat} (h : (M.cut nv na).at o = some b) : M.at o = some b ∧ (∀ j, o = .arr j → j < na) ∧ (∀ i, o = .var i → i < nv) := by
  cases o with
  | loc t => cases h
  | var i =>
    simp only [Mu.at, Mu.cut, List.getElem?_take] at h
    split at h
    · exact ⟨h, by simp, fun i' e => by cases e; assumption⟩
    · cases h
  | arr j =>
    simp only [Mu.at, Mu.cut, List.getElem?_take] at h
    split at h
    · exact ⟨h, fun i' e => by cases e; assumption, by simp⟩
    · cases h

theorem own_cut {nv na b : Nat} (h : (M.cut nv na).own b) : M.own b := by
  obtain ⟨o, ho⟩ := h
  exact ⟨o, (at_cut ho).1⟩

theorem cut_not_own {H : Heap} (hh : SimH F M w H) {nv na j : Nat} {a : AI} (hj : M.ab[j]? = some a) (hna : na ≤ j) : ¬ (M.cut nv na).own a.block := by
  rintro ⟨o, ho⟩
  obtain ⟨h1, h2, _⟩ := at_cut ho
  have := hh.inj o (.arr j) a.block h1 (by simp [Mu.at, hj])
  have := h2 j this
  omega

theorem shift_cut {nv na : Nat} (g : Bool) (b : Nat) : (M.cut nv na).own b ∨ F g b → M.own b ∨ F g b := fun h => h.imp own_cut id

theorem RA.low {nv na : Nat} {v : V} {c : Value} (h : RA F M w v c) (hl : lowC0 nv na v = true) : RA F (M.cut nv na) w v c := by
  cases v with
  | ptr id off =>
    obtain ⟨b, h1, h2⟩ := h
    exact ⟨b, by simp only [Mu.cut, List.getElem?_take]; rw [if_pos (by simpa [lowC0] using hl)]; exact h1, h2⟩
  | aptr id ver i off =>
    obtain ⟨a, ad, h1, h2⟩ := h
    exact ⟨a, ad, by simp only [Mu.cut, List.getElem?_take]; rw [if_pos (by simpa [lowC0] using hl)]; exact h1, h2⟩
  | sl id ver off len cap =>
    obtain ⟨a, b, o, cap', h1, h2⟩ := h
    exact ⟨a, b, o, cap', by simp only [Mu.cut, List.getElem?_take]; rw [if_pos (by simpa [lowC0] using hl)]; exact h1, h2⟩
  | int za zb => exact RG.shift (F := F) (F' := F) (O' := (M.cut nv na).own) (v := (.int za zb)) (c := c) (fun g b _ => shift_cut g b) h
  | bool za => exact RG.shift (F := F) (F' := F) (O' := (M.cut nv na).own) (v := (.bool za)) (c := c) (fun g b _ => shift_cut g b) h
  | str za => exact RG.shift (F := F) (F' := F) (O' := (M.cut nv na).own) (v := (.str za)) (c := c) (fun g b _ => shift_cut g b) h
  | nilp => exact RG.shift (F := F) (F' := F) (O' := (M.cut nv na).own) (v := (.nilp)) (c := c) (fun g b _ => shift_cut g b) h
  | nils => exact RG.shift (F := F) (F' := F) (O' := (M.cut nv na).own) (v := (.nils)) (c := c) (fun g b _ => shift_cut g b) h
  | nilfn => exact RG.shift (F := F) (F' := F) (O' := (M.cut nv na).own) (v := (.nilfn)) (c := c) (fun g b _ => shift_cut g b) h
  | any => exact RG.shift (F := F) (F' := F) (O' := (M.cut nv na).own) (v := (.any)) (c := c) (fun g b _ => shift_cut g b) h
  | lptr za zb => exact RG.shift (F := F) (F' := F) (O' := (M.cut nv na).own) (v := (.lptr za zb)) (c := c) (fun g b _ => shift_cut g b) h
  | box za => exact RG.shift (F := F) (F' := F) (O' := (M.cut nv na).own) (v := (.box za)) (c := c) (fun g b _ => shift_cut g b) h
  | fptr za zb => exact RG.shift (F := F) (F' := F) (O' := (M.cut nv na).own) (v := (.fptr za zb)) (c := c) (fun g b _ => shift_cut g b) h
  | fl za zb zc => exact RG.shift (F := F) (F' := F) (O' := (M.cut nv na).own) (v := (.fl za zb zc)) (c := c) (fun g b _ => shift_cut g b) h
  | fn za zb => exact RG.shift (F := F) (F' := F) (O' := (M.cut nv na).own) (v := (.fn za zb)) (c := c) (fun g b _ => shift_cut g b) h
  | agg za => exact RG.shift (F := F) (F' := F) (O' := (M.cut nv na).own) (v := (.agg za)) (c := c) (fun g b _ => shift_cut g b) h
  | tuple za => exact RG.shift (F := F) (F' := F) (O' := (M.cut nv na).own) (v := (.tuple za)) (c := c) (fun g b _ => shift_cut g b) h

theorem RS.low {nv na : Nat} {v : V} {c : Value} (h : RS F M w v c) (hl : lowC nv na v = true) : RS F (M.cut nv na) w v c := by
  cases v with
  | fn g caps =>
    obtain ⟨cs, h1, h2⟩ := h
    simp only [lowC, List.all_eq_true] at hl
    exact ⟨cs, h1, h2.1, fun i x y hx hy => (h2.2 i x y hx hy).low (hl x (List.mem_of_getElem? hx))⟩
  | int za zb => exact RA.low (F := F) (M := M) (w := w) (v := (.int za zb)) (c := c) h hl
  | bool za => exact RA.low (F := F) (M := M) (w := w) (v := (.bool za)) (c := c) h hl
  | str za => exact RA.low (F := F) (M := M) (w := w) (v := (.str za)) (c := c) h hl
  | nilp => exact RA.low (F := F) (M := M) (w := w) (v := (.nilp)) (c := c) h hl
  | nils => exact RA.low (F := F) (M := M) (w := w) (v := (.nils)) (c := c) h hl
  | nilfn => exact RA.low (F := F) (M := M) (w := w) (v := (.nilfn)) (c := c) h hl
  | any => exact RA.low (F := F) (M := M) (w := w) (v := (.any)) (c := c) h hl
  | lptr za zb => exact RA.low (F := F) (M := M) (w := w) (v := (.lptr za zb)) (c := c) h hl
  | box za => exact RA.low (F := F) (M := M) (w := w) (v := (.box za)) (c := c) h hl
  | ptr za zb => exact RA.low (F := F) (M := M) (w := w) (v := (.ptr za zb)) (c := c) h hl
  | aptr za zb zc zd => exact RA.low (F := F) (M := M) (w := w) (v := (.aptr za zb zc zd)) (c := c) h hl
  | fptr za zb => exact RA.low (F := F) (M := M) (w := w) (v := (.fptr za zb)) (c := c) h hl
  | fl za zb zc => exact RA.low (F := F) (M := M) (w := w) (v := (.fl za zb zc)) (c := c) h hl
  | sl za zb zc zd ze => exact RA.low (F := F) (M := M) (w := w) (v := (.sl za zb zc zd ze)) (c := c) h hl
  | agg za => exact RA.low (F := F) (M := M) (w := w) (v := (.agg za)) (c := c) h hl
  | tuple za => exact RA.low (F := F) (M := M) (w := w) (v := (.tuple za)) (c := c) h hl

theorem RCell.low {nv na : Nat} {v : V} {c : Value} (h : RCell F M w v c) (hl : lowC nv na v = true) : RCell F (M.cut nv na) w v c := ⟨h.1.low hl, h.2⟩

theorem SimH.cut {H : Heap} (hh : SimH F M w H) {nv na : Nat} (hl : lowHeap nv na ⟨H.vars.take nv, H.arrs.take na⟩ = true) : SimH F (M.cut nv na) w ⟨H.vars.take nv, H.arrs.take na⟩ where
  vlen := by simp [Mu.cut, hh.vlen]
  alen := by simp [Mu.cut, hh.alen]
  vmem := fun i b v hi hv => by
    have hi' := hi
    simp only [Mu.cut, List.getElem?_take] at hi hv
    split at hi
    · rename_i hlt
      have hv2 := hv
      rw [if_pos hlt] at hv2
      obtain ⟨cs, t, h1, h2⟩ := hh.vmem i b v hi hv2
      refine ⟨cs, t, h1, h2.1, fun k x y hx hy => (h2.2 k x y hx hy).low ?_⟩
      simp only [lowHeap, Bool.and_eq_true, List.all_eq_true] at hl
      have := hl.1 v (List.mem_of_getElem? (i := i) (by rw [List.getElem?_take, if_pos hlt]; exact hv2))
      simp only [DM.low, List.all_eq_true] at this
      exact this x (List.mem_of_getElem? hx)
    · cases hi
  amem := fun j a A hj hA => by
    simp only [Mu.cut, List.getElem?_take] at hj hA
    split at hj
    · rename_i hlt
      rw [if_pos hlt] at hA
      have h0 := hh.amem j a A hj hA
      obtain ⟨cs, t, h1, h2, h3⟩ := h0.mem
      refine ⟨h0.ver, h0.sz, h0.n, h0.le, h0.exact_, cs, t, h1, h2, fun i e he => ?_⟩
      obtain ⟨k1, k2⟩ := h3 i e he
      refine ⟨k1, fun k x hx => ?_⟩
      obtain ⟨y, y1, y2⟩ := k2 k x hx
      refine ⟨y, y1, y2.low ?_⟩
      simp only [lowHeap, Bool.and_eq_true, List.all_eq_true] at hl
      have := hl.2 A (List.mem_of_getElem? (i := j) (by rw [List.getElem?_take, if_pos hlt]; exact hA)) e (List.mem_of_getElem? he)
      simp only [DM.low, List.all_eq_true] at this
      exact this x (List.mem_of_getElem? hx)
    · cases hj
  inj := fun o o' b h1 h2 => hh.inj o o' b (at_cut h1).1 (at_cut h2).1
  bound := fun b hb => hh.bound b (own_cut hb)
  apart := fun g b hb => hh.apart g b (own_cut hb)
  fbound := hh.fbound

/-! freezing -/
theorem mapO_all {α β : Type} {f : α → Option β} {l : List α} {r : List β} (h : mapO f l = some r) : ∀ (i : Nat) y, r[i]? = some y → ∃ x, l[i]? = some x ∧ f x = some y := by
  intro i y hy
  have hl := mapO_length h
  have hi : i < l.length := by rw [← hl]; exact (List.getElem?_eq_some_iff.1 hy).1
  obtain ⟨y', h1, h2⟩ := mapO_get h i l[i] (by simp [hi])
  rw [hy] at h1; cases h1
  exact ⟨l[i], by simp [hi], h2⟩

theorem frz_cell {H : Heap} (hh : SimH F M w H) {nv na : Nat} : ∀ (d : Nat) {v v' : V} {c : Value}, frz H nv na d v = some v' → RCell F M w v c → RCell F (M.cut nv na) w v' c
  | 0, v, v', c, h, _ => by simp [frz] at h
  | d + 1, v, v', c, h, hr => by
    have scalar : ∀ {v : V}, v.gnd = true → RCell F M w v c → RCell F (M.cut nv na) w v c := fun {v} hg hr => (hr.low (by cases v <;> simp_all [V.gnd, lowC, lowC0]))
    cases v with
    | agg l => exact absurd hr.1 (by intro h; cases h)
    | tuple l => exact absurd hr.1 (by intro h; cases h)
    | lptr r o => exact absurd hr.1 (by intro h; cases h)
    | box x => exact absurd hr.1 (by intro h; cases h)
    | any => exact absurd hr.1 (by intro h; cases h)
    | fptr e o => exact absurd hr.1 (by intro h; cases h)
    | ptr id o =>
      simp only [frz] at h
      obtain ⟨hq, h⟩ := dead_eq h
      cases h
      exact hr.low (by simpa [lowC, lowC0] using hq)
    | aptr id ver i o =>
      simp only [frz] at h
      obtain ⟨hq, h⟩ := dead_eq h
      cases h
      exact hr.low (by simpa [lowC, lowC0] using hq)
    | fn f caps =>
      simp only [frz] at h
      obtain ⟨hq, h⟩ := dead_eq h
      cases h
      exact hr.low (by simpa [lowC] using hq)
    | int k n => simp only [frz] at h; cases h; exact scalar rfl hr
    | bool b => simp only [frz] at h; cases h; exact scalar rfl hr
    | str s => simp only [frz] at h; cases h; exact scalar rfl hr
    | nilp => simp only [frz] at h; cases h; exact scalar rfl hr
    | nils => simp only [frz] at h; cases h; exact scalar rfl hr
    | nilfn => simp only [frz] at h; cases h; exact scalar rfl hr
    | fl t g es => simp only [frz] at h; cases h; exact scalar rfl hr
    | sl id ver off len cap =>
      simp only [frz] at h
      cases hid : Nat.blt id na <;> rw [hid] at h <;> simp only [cond_true, cond_false] at h
      · simp only [elemsOf, Option.bind_eq_some_iff] at h
        obtain ⟨es, ⟨A, hA, hes⟩, es', hes', h⟩ := h
        obtain ⟨hq, hes⟩ := dead_eq hes
        cases hes
        obtain ⟨hg, h⟩ := dead_eq h
        cases h
        simp only [Bool.and_eq_true] at hq
        obtain ⟨⟨a, b, o, cap', h1, h2, rfl, h4, h5, h6⟩, hone⟩ := hr
        have ha := hh.amem id a A h1 hA
        have hver : ver = a.ver := by rw [ha.ver]; exact ((by simpa using hq.1 : A.ver = ver)).symm
        have sl := h6 hver
        have hlen : (List.take len (A.elems.drop off)).length = len := by
          have : off + len ≤ A.elems.length := by simpa using hq.2
          simp; omega
        have hlen' : es'.length = len := by rw [mapO_length hes', hlen]
        refine ⟨?_, rfl⟩
        have hfin : RG F (M.cut nv na).own w (.fl true false es') (.slice (some ⟨b, o, none⟩) es'.length cap') := by
          refine fl_mk (n := a.sz) (M := M.cut nv na) (by omega) (by simp) (fun hne => ?_) (fun i e he => ?_)
          · have hpos : 0 < cap' := by
              have : 0 < es'.length := List.length_pos_iff.2 hne
              omega
            obtain ⟨rfl, _⟩ := sl.at_ hpos
            have hat : M.at (.arr id) = some a.block := by simp [Mu.at, h1]
            refine ⟨hh.lt hat, cut_not_own hh h1 ?_, hh.apart true _ ⟨_, hat⟩⟩
            rcases Nat.lt_or_ge id na with h' | h'
            · have hb : Nat.blt id na = true := by rw [Nat.blt_eq]; exact h'
              rw [hid] at hb; cases hb
            · exact h'
          · have hi : i < len := by rw [← hlen']; exact (List.getElem?_eq_some_iff.1 he).1
            have hpos : 0 < cap' := by omega
            obtain ⟨rfl, rfl⟩ := sl.at_ hpos
            obtain ⟨e0, he0, hf⟩ := mapO_all hes' i e he
            have he0' : A.elems[off + i]? = some e0 := by
              rw [List.getElem?_take, if_pos hi, List.getElem?_drop] at he0
              exact he0
            obtain ⟨cs, t, m1, m2, m3⟩ := ha.mem
            obtain ⟨k1, k2⟩ := m3 (off + i) e0 he0'
            rw [List.all_eq_true] at hg
            have hge := hg e (List.mem_of_getElem? he)
            rw [List.all_eq_true] at hge
            have cellat : ∀ (k : Nat) y, cs[a.base + ((off + i) * a.sz + k)]? = some y → w.cell? ⟨a.block, a.base + off * a.sz + (i * a.sz + k), none⟩ = some y := by
              intro k y hy
              have e1 : a.base + off * a.sz + (i * a.sz + k) = a.base + ((off + i) * a.sz + k) := by rw [Nat.add_mul]; omega
              simp only [World.cell?, m1, e1]
              simpa using hy
            have one : ∀ {x x' : V}, frz H nv na d x = some x' → (∃ k : Nat, e0.cells[k]? = some x) → x'.gnd = true → ∀ k : Nat, e0.cells[k]? = some x → ∃ y, w.cell? ⟨a.block, a.base + off * a.sz + (i * a.sz + k), none⟩ = some y ∧ RG F (M.cut nv na).own w x' y ∧ y.oneCell' = true := by
              intro x x' hfx _ hgx k hk
              obtain ⟨y, y1, y2⟩ := k2 k x hk
              have := frz_cell hh d hfx y2
              exact ⟨y, cellat k y y1, this.1.toRG hgx, y2.2⟩
            cases e0 with
            | agg l =>
              cases d with
              | zero => simp [frz] at hf
              | succ d =>
                simp only [frz, Option.map_eq_some_iff] at hf
                obtain ⟨l', hl', rfl⟩ := hf
                have k1' : l.length = a.sz := k1
                refine ⟨by show l'.length = a.sz; rw [mapO_length hl', k1'], fun k x hx => ?_⟩
                have hx : l'[k]? = some x := hx
                obtain ⟨x0, q1, q2⟩ := mapO_all hl' k x hx
                have hgx := hge x (List.mem_of_getElem? hx)
                obtain ⟨y, y1, y2⟩ := k2 k x0 q1
                have := frz_cell hh d q2 y2
                exact ⟨y, cellat k y y1, this.1.toRG hgx, y2.2⟩
            | int za zb => (have hcell := k2 0 (.int za zb) rfl; obtain ⟨y, y1, y2⟩ := hcell; have hr' := frz_cell hh d hf y2; have hce := hr'.cells; refine ⟨by rw [hce]; exact k1, fun k x hx => ?_⟩; rw [hce] at hx; cases k with | zero => (simp at hx; subst hx; exact ⟨y, cellat 0 y y1, hr'.1.toRG (hge e (by rw [hce]; simp)), y2.2⟩) | succ k => simp at hx)
            | bool za => (have hcell := k2 0 (.bool za) rfl; obtain ⟨y, y1, y2⟩ := hcell; have hr' := frz_cell hh d hf y2; have hce := hr'.cells; refine ⟨by rw [hce]; exact k1, fun k x hx => ?_⟩; rw [hce] at hx; cases k with | zero => (simp at hx; subst hx; exact ⟨y, cellat 0 y y1, hr'.1.toRG (hge e (by rw [hce]; simp)), y2.2⟩) | succ k => simp at hx)
            | str za => (have hcell := k2 0 (.str za) rfl; obtain ⟨y, y1, y2⟩ := hcell; have hr' := frz_cell hh d hf y2; have hce := hr'.cells; refine ⟨by rw [hce]; exact k1, fun k x hx => ?_⟩; rw [hce] at hx; cases k with | zero => (simp at hx; subst hx; exact ⟨y, cellat 0 y y1, hr'.1.toRG (hge e (by rw [hce]; simp)), y2.2⟩) | succ k => simp at hx)
            | nilp => (have hcell := k2 0 (.nilp) rfl; obtain ⟨y, y1, y2⟩ := hcell; have hr' := frz_cell hh d hf y2; have hce := hr'.cells; refine ⟨by rw [hce]; exact k1, fun k x hx => ?_⟩; rw [hce] at hx; cases k with | zero => (simp at hx; subst hx; exact ⟨y, cellat 0 y y1, hr'.1.toRG (hge e (by rw [hce]; simp)), y2.2⟩) | succ k => simp at hx)
            | nils => (have hcell := k2 0 (.nils) rfl; obtain ⟨y, y1, y2⟩ := hcell; have hr' := frz_cell hh d hf y2; have hce := hr'.cells; refine ⟨by rw [hce]; exact k1, fun k x hx => ?_⟩; rw [hce] at hx; cases k with | zero => (simp at hx; subst hx; exact ⟨y, cellat 0 y y1, hr'.1.toRG (hge e (by rw [hce]; simp)), y2.2⟩) | succ k => simp at hx)
            | nilfn => (have hcell := k2 0 (.nilfn) rfl; obtain ⟨y, y1, y2⟩ := hcell; have hr' := frz_cell hh d hf y2; have hce := hr'.cells; refine ⟨by rw [hce]; exact k1, fun k x hx => ?_⟩; rw [hce] at hx; cases k with | zero => (simp at hx; subst hx; exact ⟨y, cellat 0 y y1, hr'.1.toRG (hge e (by rw [hce]; simp)), y2.2⟩) | succ k => simp at hx)
            | any => (have hcell := k2 0 (.any) rfl; obtain ⟨y, y1, y2⟩ := hcell; have hr' := frz_cell hh d hf y2; have hce := hr'.cells; refine ⟨by rw [hce]; exact k1, fun k x hx => ?_⟩; rw [hce] at hx; cases k with | zero => (simp at hx; subst hx; exact ⟨y, cellat 0 y y1, hr'.1.toRG (hge e (by rw [hce]; simp)), y2.2⟩) | succ k => simp at hx)
            | lptr za zb => (have hcell := k2 0 (.lptr za zb) rfl; obtain ⟨y, y1, y2⟩ := hcell; have hr' := frz_cell hh d hf y2; have hce := hr'.cells; refine ⟨by rw [hce]; exact k1, fun k x hx => ?_⟩; rw [hce] at hx; cases k with | zero => (simp at hx; subst hx; exact ⟨y, cellat 0 y y1, hr'.1.toRG (hge e (by rw [hce]; simp)), y2.2⟩) | succ k => simp at hx)
            | box za => (have hcell := k2 0 (.box za) rfl; obtain ⟨y, y1, y2⟩ := hcell; have hr' := frz_cell hh d hf y2; have hce := hr'.cells; refine ⟨by rw [hce]; exact k1, fun k x hx => ?_⟩; rw [hce] at hx; cases k with | zero => (simp at hx; subst hx; exact ⟨y, cellat 0 y y1, hr'.1.toRG (hge e (by rw [hce]; simp)), y2.2⟩) | succ k => simp at hx)
            | ptr za zb => (have hcell := k2 0 (.ptr za zb) rfl; obtain ⟨y, y1, y2⟩ := hcell; have hr' := frz_cell hh d hf y2; have hce := hr'.cells; refine ⟨by rw [hce]; exact k1, fun k x hx => ?_⟩; rw [hce] at hx; cases k with | zero => (simp at hx; subst hx; exact ⟨y, cellat 0 y y1, hr'.1.toRG (hge e (by rw [hce]; simp)), y2.2⟩) | succ k => simp at hx)
            | aptr za zb zc zd => (have hcell := k2 0 (.aptr za zb zc zd) rfl; obtain ⟨y, y1, y2⟩ := hcell; have hr' := frz_cell hh d hf y2; have hce := hr'.cells; refine ⟨by rw [hce]; exact k1, fun k x hx => ?_⟩; rw [hce] at hx; cases k with | zero => (simp at hx; subst hx; exact ⟨y, cellat 0 y y1, hr'.1.toRG (hge e (by rw [hce]; simp)), y2.2⟩) | succ k => simp at hx)
            | fptr za zb => (have hcell := k2 0 (.fptr za zb) rfl; obtain ⟨y, y1, y2⟩ := hcell; have hr' := frz_cell hh d hf y2; have hce := hr'.cells; refine ⟨by rw [hce]; exact k1, fun k x hx => ?_⟩; rw [hce] at hx; cases k with | zero => (simp at hx; subst hx; exact ⟨y, cellat 0 y y1, hr'.1.toRG (hge e (by rw [hce]; simp)), y2.2⟩) | succ k => simp at hx)
            | fl za zb zc => (have hcell := k2 0 (.fl za zb zc) rfl; obtain ⟨y, y1, y2⟩ := hcell; have hr' := frz_cell hh d hf y2; have hce := hr'.cells; refine ⟨by rw [hce]; exact k1, fun k x hx => ?_⟩; rw [hce] at hx; cases k with | zero => (simp at hx; subst hx; exact ⟨y, cellat 0 y y1, hr'.1.toRG (hge e (by rw [hce]; simp)), y2.2⟩) | succ k => simp at hx)
            | sl za zb zc zd ze => (have hcell := k2 0 (.sl za zb zc zd ze) rfl; obtain ⟨y, y1, y2⟩ := hcell; have hr' := frz_cell hh d hf y2; have hce := hr'.cells; refine ⟨by rw [hce]; exact k1, fun k x hx => ?_⟩; rw [hce] at hx; cases k with | zero => (simp at hx; subst hx; exact ⟨y, cellat 0 y y1, hr'.1.toRG (hge e (by rw [hce]; simp)), y2.2⟩) | succ k => simp at hx)
            | fn za zb => (have hcell := k2 0 (.fn za zb) rfl; obtain ⟨y, y1, y2⟩ := hcell; have hr' := frz_cell hh d hf y2; have hce := hr'.cells; refine ⟨by rw [hce]; exact k1, fun k x hx => ?_⟩; rw [hce] at hx; cases k with | zero => (simp at hx; subst hx; exact ⟨y, cellat 0 y y1, hr'.1.toRG (hge e (by rw [hce]; simp)), y2.2⟩) | succ k => simp at hx)
            | tuple za => (have hcell := k2 0 (.tuple za) rfl; obtain ⟨y, y1, y2⟩ := hcell; have hr' := frz_cell hh d hf y2; have hce := hr'.cells; refine ⟨by rw [hce]; exact k1, fun k x hx => ?_⟩; rw [hce] at hx; cases k with | zero => (simp at hx; subst hx; exact ⟨y, cellat 0 y y1, hr'.1.toRG (hge e (by rw [hce]; simp)), y2.2⟩) | succ k => simp at hx)
        rw [hlen'] at hfin
        exact hfin
      · cases h
        exact hr.low (by simpa [lowC, lowC0] using hid)

theorem frz_rx {H : Heap} (hh : SimH F M w H) {nv na : Nat} {d : Nat} {v v' : V} {c : Value} (h : frz H nv na d v = some v') (hr : RX F M w v c) : RX F (M.cut nv na) w v' c := by
  have one : RS F M w v c → RX F (M.cut nv na) w v' c := fun hs => (frz_cell hh d h hs.cell).1.toRX
  cases v with
  | agg l =>
    cases d with
    | zero => simp [frz] at h
    | succ d =>
      simp only [frz, Option.map_eq_some_iff] at h
      obtain ⟨l', hl', rfl⟩ := h
      obtain ⟨cs, rfl, h2⟩ := hr
      refine ⟨cs, rfl, by rw [mapO_length hl', h2.1], fun i x y hx hy => ?_⟩
      obtain ⟨x0, q1, q2⟩ := mapO_all hl' i x hx
      exact frz_cell hh d q2 (h2.2 i x0 y q1 hy)
  | fptr e o => cases d <;> simp [frz] at h
  | _ => exact one hr

theorem frz_rv {H : Heap} (hh : SimH F M w H) {nv na : Nat} {d : Nat} {v v' : V} {c : Value} (h : frz H nv na d v = some v') (hr : RV F M w v c) : RV F (M.cut nv na) w v' c := by
  cases v with
  | tuple l =>
    cases d with
    | zero => simp [frz] at h
    | succ d =>
      simp only [frz, Option.map_eq_some_iff] at h
      obtain ⟨l', hl', rfl⟩ := h
      obtain ⟨cs, rfl, h2⟩ := hr
      refine ⟨cs, rfl, by rw [mapO_length hl', h2.1], fun i x y hx hy => ?_⟩
      obtain ⟨x0, q1, q2⟩ := mapO_all hl' i x hx
      exact frz_rx hh q2 (h2.2 i x0 y q1 hy)
  | any => cases d <;> simp [frz] at h
  | _ => exact (frz_rx hh h hr).toRV
end
end Go.DM
namespace Go.DM

section
variable {F F' : Bool → Nat → Prop} {M : Mu} {w w' : World} {E : Env}

/-! lending -/
/-- Nothing is owned. -/
def Mu.none : Mu := ⟨[], [], fun _ => .none⟩
theorem none_own {b : Nat} : ¬ Mu.none.own b := by
  rintro ⟨o, ho⟩
  cases o <;> simp [Mu.at, Mu.none] at ho
/-- What a pure callee may not hand out as its own. -/
def FPure (F : Bool → Nat → Prop) (M : Mu) : Bool → Nat → Prop := fun g b => F g b ∨ (g = true ∧ M.own b)

theorem shift_pure (g : Bool) (b : Nat) : Mu.none.own b ∨ FPure F M g b → M.own b ∨ F g b := by
  rintro (h | h | ⟨_, h⟩)
  · exact absurd h none_own
  · exact .inr h
  · exact .inl h

theorem SimH.lend {H : Heap} (hh : SimH F M w H) : SimH (FPure F M) Mu.none w ⟨[], []⟩ where
  vlen := rfl
  alen := rfl
  vmem := fun i b v hi => by simp [Mu.none] at hi
  amem := fun i b v hi => by simp [Mu.none] at hi
  inj := fun o o' b h1 => absurd ⟨o, h1⟩ none_own
  bound := fun b hb => absurd hb none_own
  apart := fun g b hb => absurd hb none_own
  fbound := fun g b hb => by
    rcases hb with h | ⟨_, h⟩
    · exact hh.fbound g b h
    · exact hh.bound b h

theorem brwC_sound {H : Heap} (hh : SimH F M w H) {v v' : V} {c : Value} (h : brwC H v = some v') (hr : RS F M w v c) : RCell (FPure F M) Mu.none w v' c := by
  refine ⟨?_, hr.one⟩
  have scalar : ∀ {v : V}, v.gnd = true → RS F M w v c → RS (FPure F M) Mu.none w v c := fun {v} hg hr => RG.toRS ((hr.toRG hg).shift (fun g b _ => shift_pure g b))
  cases v with
  | sl id ver off len cap =>
    simp only [brwC, elemsOf, Option.bind_eq_some_iff] at h
    obtain ⟨es, ⟨A, hA, hes⟩, h⟩ := h
    obtain ⟨hq, hes⟩ := dead_eq hes
    cases hes
    obtain ⟨hg, h⟩ := dead_eq h
    cases h
    simp only [Bool.and_eq_true] at hq
    obtain ⟨a, b, o, cap', h1, h2, rfl, h4, h5, h6⟩ := hr
    have ha := hh.amem id a A h1 hA
    have hver : ver = a.ver := by rw [ha.ver]; exact ((by simpa using hq.1 : A.ver = ver)).symm
    have sl := h6 hver
    have hlen : (List.take len (A.elems.drop off)).length = len := by
      have : off + len ≤ A.elems.length := by simpa using hq.2
      simp; omega
    have hfin : RG (FPure F M) Mu.none.own w (.fl false (tightOf cap len) (List.take len (A.elems.drop off))) (.slice (some ⟨b, o, none⟩) (List.take len (A.elems.drop off)).length cap') := by
      refine fl_mk (n := a.sz) (M := Mu.none) (by omega) (fun ht => ?_) (fun hne => ?_) (fun i e he => ?_)
      · cases cap with
        | none => cases ht
        | some k =>
          have hk : k = len := by simpa [tightOf] using ht
          rw [hlen, ← hk]; exact h5 k rfl
      · have hpos : 0 < cap' := by
          have : 0 < (List.take len (A.elems.drop off)).length := List.length_pos_iff.2 hne
          omega
        obtain ⟨rfl, _⟩ := sl.at_ hpos
        have hat : M.at (.arr id) = some a.block := by simp [Mu.at, h1]
        refine ⟨hh.lt hat, none_own, fun hf => ?_⟩
        rcases hf with hf | ⟨hf, _⟩
        · exact hh.apart false _ ⟨_, hat⟩ hf
        · cases hf
      · have hi : i < len := by rw [← hlen]; exact (List.getElem?_eq_some_iff.1 he).1
        have hpos : 0 < cap' := by omega
        obtain ⟨rfl, rfl⟩ := sl.at_ hpos
        have he0' : A.elems[off + i]? = some e := by
          have he0 := he
          rw [List.getElem?_take, if_pos hi, List.getElem?_drop] at he0
          exact he0
        obtain ⟨cs, t, m1, m2, m3⟩ := ha.mem
        obtain ⟨k1, k2⟩ := m3 (off + i) e he0'
        rw [List.all_eq_true] at hg
        have hge := hg e (List.mem_of_getElem? he)
        rw [List.all_eq_true] at hge
        refine ⟨k1, fun k x hx => ?_⟩
        obtain ⟨y, y1, y2⟩ := k2 k x hx
        refine ⟨y, ?_, ((y2.1.toRG (hge x (List.mem_of_getElem? hx))).shift (fun g b _ => shift_pure g b)), y2.2⟩
        have e1 : a.base + off * a.sz + (i * a.sz + k) = a.base + ((off + i) * a.sz + k) := by rw [Nat.add_mul]; omega
        simp only [World.cell?, m1, e1]
        simpa using y1
    rw [hlen] at hfin
    exact RG.toRS hfin
  | int za zb => (simp only [brwC] at h; obtain ⟨hg, h⟩ := dead_eq h; cases h; exact scalar hg hr)
  | bool za => (simp only [brwC] at h; obtain ⟨hg, h⟩ := dead_eq h; cases h; exact scalar hg hr)
  | str za => (simp only [brwC] at h; obtain ⟨hg, h⟩ := dead_eq h; cases h; exact scalar hg hr)
  | nilp => (simp only [brwC] at h; obtain ⟨hg, h⟩ := dead_eq h; cases h; exact scalar hg hr)
  | nils => (simp only [brwC] at h; obtain ⟨hg, h⟩ := dead_eq h; cases h; exact scalar hg hr)
  | nilfn => (simp only [brwC] at h; obtain ⟨hg, h⟩ := dead_eq h; cases h; exact scalar hg hr)
  | any => (simp only [brwC] at h; obtain ⟨hg, h⟩ := dead_eq h; cases h; exact scalar hg hr)
  | lptr za zb => (simp only [brwC] at h; obtain ⟨hg, h⟩ := dead_eq h; cases h; exact scalar hg hr)
  | box za => (simp only [brwC] at h; obtain ⟨hg, h⟩ := dead_eq h; cases h; exact scalar hg hr)
  | ptr za zb => (simp only [brwC] at h; obtain ⟨hg, h⟩ := dead_eq h; cases h; exact scalar hg hr)
  | aptr za zb zc zd => (simp only [brwC] at h; obtain ⟨hg, h⟩ := dead_eq h; cases h; exact scalar hg hr)
  | fptr za zb => (simp only [brwC] at h; obtain ⟨hg, h⟩ := dead_eq h; cases h; exact scalar hg hr)
  | fl za zb zc => (simp only [brwC] at h; obtain ⟨hg, h⟩ := dead_eq h; cases h; exact scalar hg hr)
  | fn za zb => (simp only [brwC] at h; obtain ⟨hg, h⟩ := dead_eq h; cases h; exact scalar hg hr)
  | agg za => (simp only [brwC] at h; obtain ⟨hg, h⟩ := dead_eq h; cases h; exact scalar hg hr)
  | tuple za => (simp only [brwC] at h; obtain ⟨hg, h⟩ := dead_eq h; cases h; exact scalar hg hr)

theorem brw_sound {H : Heap} (hh : SimH F M w H) {v v' : V} {c : Value} (h : brw H v = some v') (hr : RX F M w v c) : RX (FPure F M) Mu.none w v' c := by
  have one : RS F M w v c → brwC H v = some v' → RX (FPure F M) Mu.none w v' c := fun hs h => (brwC_sound hh h hs).1.toRX
  cases v with
  | agg l =>
    simp only [brw, Option.map_eq_some_iff] at h
    obtain ⟨l', hl', rfl⟩ := h
    obtain ⟨cs, rfl, h2⟩ := hr
    refine ⟨cs, rfl, by rw [mapO_length hl', h2.1], fun i x y hx hy => ?_⟩
    obtain ⟨x0, q1, q2⟩ := mapO_all hl' i x hx
    exact brwC_sound hh q2 (h2.2 i x0 y q1 hy).1
  | fptr e o => simp [brw, brwC, V.gnd] at h
  | int za zb => exact one hr h
  | bool za => exact one hr h
  | str za => exact one hr h
  | nilp => exact one hr h
  | nils => exact one hr h
  | nilfn => exact one hr h
  | any => exact one hr h
  | lptr za zb => exact one hr h
  | box za => exact one hr h
  | ptr za zb => exact one hr h
  | aptr za zb zc zd => exact one hr h
  | fl za zb zc => exact one hr h
  | sl za zb zc zd ze => exact one hr h
  | fn za zb => exact one hr h
  | tuple za => exact one hr h

theorem brws_sound {H : Heap} (hh : SimH F M w H) {l l' : List V} {cs : Array Value} (h : mapO (brw H) l = some l') (hr : RList (RX F M w) l cs) : RList (RX (FPure F M) Mu.none w) l' cs := by
  refine ⟨by rw [mapO_length h, hr.1], fun i x y hx hy => ?_⟩
  obtain ⟨x0, q1, q2⟩ := mapO_all h i x hx
  exact brw_sound hh q2 (hr.2 i x0 y q1 hy)

/-! what comes back from a pure callee -/
theorem RG.clean {O' : Nat → Prop} (hb : ∀ b, b < w.heap.size → O' b ∨ F' true b → F true b) {O : Nat → Prop} {v : V} {c : Value} (h : RG F O w v c) : ∀ (d : Nat), clean d v = true → RG F' O' w v c := by
  induction h with
  | int k n => intro _ _; exact .int k n
  | bool b => intro _ _; exact .bool b
  | str s l h => intro _ _; exact .str s l h
  | nilp => intro _ _; exact .nilp
  | nils => intro _ _; exact .nils
  | nilfn => intro _ _; exact .nilfn
  | fn f => intro _ _; exact .fn f
  | fl tag tight es b o cap sz c hcap ht hlen hmem hone hrel hb' ih =>
    intro d hd
    cases d with
    | zero => simp [DM.clean] at hd
    | succ d =>
      simp only [DM.clean, Bool.and_eq_true, List.all_eq_true] at hd
      obtain ⟨rfl, hd⟩ := hd
      refine .fl true tight es b o cap sz c hcap ht hlen hmem hone (fun i k hi hk => ?_) (fun hne => ?_)
      · have hcl := hd (es.getD i undefV) (by
          simp only [List.getD, List.getElem?_eq_getElem hi, Option.getD_some]
          exact List.getElem_mem hi)
        have hk' : k < (es.getD i undefV).cells.length := by rw [hlen i hi]; exact hk
        cases he : es.getD i undefV with
        | agg l =>
          rw [he] at hcl hk'
          cases d with
          | zero => simp [DM.clean] at hcl
          | succ d =>
            simp only [DM.clean, List.all_eq_true] at hcl
            have hk2 : k < l.length := hk'
            refine ih i k hi hk d (hcl _ ?_)
            unfold cellAt
            rw [he]
            simp only [V.cells, List.getD, List.getElem?_eq_getElem hk2, Option.getD_some]
            exact List.getElem_mem hk2
        | _ =>
          rw [he] at hcl hk'
          have hk0 : k = 0 := by simp [V.cells] at hk'; exact hk'
          subst hk0
          exact ih i 0 hi hk d (by unfold cellAt; rw [he]; simpa [V.cells] using hcl)
      · obtain ⟨h1, _, h3⟩ := hb' hne
        exact ⟨h1, fun h => h3 (hb b h1 (.inl h)), fun h => h3 (hb b h1 (.inr h))⟩

theorem clean_gnd {d : Nat} {v : V} (h : clean d v = true) (h1 : ∀ l, v ≠ .agg l) (h2 : ∀ l, v ≠ .tuple l) : v.gnd = true := by
  cases d with
  | zero => simp [clean] at h
  | succ d =>
    cases v with
    | agg l => exact absurd rfl (h1 l)
    | tuple l => exact absurd rfl (h2 l)
    | fn f caps => simpa [clean, V.gnd] using h
    | lptr r o => simp [clean] at h
    | box v => simp [clean] at h
    | any => simp [clean] at h
    | ptr i o => simp [clean] at h
    | aptr i v j o => simp [clean] at h
    | fptr e o => simp [clean] at h
    | sl i v j o c => simp [clean] at h
    | _ => rfl

theorem rcell_clean {M' : Mu} (hb : ∀ b, b < w.heap.size → M'.own b ∨ F' true b → F true b) {v : V} {c : Value} (h : RCell F M w v c) {d : Nat} (hc : clean d v = true) : RCell F' M' w v c := by
  have hg : v.gnd = true := clean_gnd hc (fun l e => by subst e; exact absurd h.1 (by intro h; cases h)) (fun l e => by subst e; exact absurd h.1 (by intro h; cases h))
  exact ⟨RG.toRS (RG.clean hb (h.1.toRG hg) d hc), h.2⟩

theorem rx_clean {M' : Mu} (hb : ∀ b, b < w.heap.size → M'.own b ∨ F' true b → F true b) {v : V} {c : Value} (h : RX F M w v c) {d : Nat} (hc : clean d v = true) : RX F' M' w v c := by
  have one : RS F M w v c → RX F' M' w v c := fun hs => (rcell_clean hb hs.cell hc).1.toRX
  cases v with
  | agg l =>
    cases d with
    | zero => simp [clean] at hc
    | succ d =>
      simp only [clean, List.all_eq_true] at hc
      obtain ⟨cs, h1, h2⟩ := h
      exact ⟨cs, h1, h2.1, fun i x y hx hy => rcell_clean hb (h2.2 i x y hx hy) (hc x (List.mem_of_getElem? hx))⟩
  | fptr e o => cases d <;> simp [clean] at hc
  | int za zb => exact one h
  | bool za => exact one h
  | str za => exact one h
  | nilp => exact one h
  | nils => exact one h
  | nilfn => exact one h
  | any => exact one h
  | lptr za zb => exact one h
  | box za => exact one h
  | ptr za zb => exact one h
  | aptr za zb zc zd => exact one h
  | fl za zb zc => exact one h
  | sl za zb zc zd ze => exact one h
  | fn za zb => exact one h
  | tuple za => exact one h

theorem rv_clean {M' : Mu} (hb : ∀ b, b < w.heap.size → M'.own b ∨ F' true b → F true b) {v : V} {c : Value} (h : RV F M w v c) {d : Nat} (hc : clean d v = true) : RV F' M' w v c := by
  cases v with
  | tuple l =>
    cases d with
    | zero => simp [clean] at hc
    | succ d =>
      simp only [clean, List.all_eq_true] at hc
      obtain ⟨cs, h1, h2⟩ := h
      exact ⟨cs, h1, h2.1, fun i x y hx hy => rx_clean hb (h2.2 i x y hx hy) (hc x (List.mem_of_getElem? hx))⟩
  | any => trivial
  | int za zb => exact (rx_clean (F := F) (F' := F') hb (v := (.int za zb)) (c := c) h hc).toRV
  | bool za => exact (rx_clean (F := F) (F' := F') hb (v := (.bool za)) (c := c) h hc).toRV
  | str za => exact (rx_clean (F := F) (F' := F') hb (v := (.str za)) (c := c) h hc).toRV
  | nilp => exact (rx_clean (F := F) (F' := F') hb (v := (.nilp)) (c := c) h hc).toRV
  | nils => exact (rx_clean (F := F) (F' := F') hb (v := (.nils)) (c := c) h hc).toRV
  | nilfn => exact (rx_clean (F := F) (F' := F') hb (v := (.nilfn)) (c := c) h hc).toRV
  | lptr za zb => exact (rx_clean (F := F) (F' := F') hb (v := (.lptr za zb)) (c := c) h hc).toRV
  | box za => exact (rx_clean (F := F) (F' := F') hb (v := (.box za)) (c := c) h hc).toRV
  | ptr za zb => exact (rx_clean (F := F) (F' := F') hb (v := (.ptr za zb)) (c := c) h hc).toRV
  | aptr za zb zc zd => exact (rx_clean (F := F) (F' := F') hb (v := (.aptr za zb zc zd)) (c := c) h hc).toRV
  | fptr za zb => exact (rx_clean (F := F) (F' := F') hb (v := (.fptr za zb)) (c := c) h hc).toRV
  | fl za zb zc => exact (rx_clean (F := F) (F' := F') hb (v := (.fl za zb zc)) (c := c) h hc).toRV
  | sl za zb zc zd ze => exact (rx_clean (F := F) (F' := F') hb (v := (.sl za zb zc zd ze)) (c := c) h hc).toRV
  | fn za zb => exact (rx_clean (F := F) (F' := F') hb (v := (.fn za zb)) (c := c) h hc).toRV
  | agg za => exact (rx_clean (F := F) (F' := F') hb (v := (.agg za)) (c := c) h hc).toRV

theorem ext_sound (hE : EnvFull E) {f kd : Nat} (hk : E.ext f = some kd) (hk1 : kd ≤ 1) {args : List V} {v : V} (h : extV kd args = some v) {cs : Array Value} (ha : RList (RX F M w) args cs) :
    ∃ c, (callFunc f cs).run E.P w = .ok (.value c) w ∧ RV F M w v c := by
  obtain ⟨fn, h1, h2, h3, h4, h5⟩ := hE.ext f kd hk hk1
  unfold extV at h
  split at h
  · rename_i s c
    obtain ⟨y0, hy0, r0⟩ := ha.one_of 0 _ rfl
    obtain ⟨y1, hy1, r1⟩ := ha.one_of 1 _ rfl
    obtain ⟨b, rfl, rfl⟩ := rev_str (RX.toRV r0).toREv
    obtain rfl := rev_int (RX.toRV r1).toREv
    have hcs : cs = #[.string b, .int .u8 c] := by
      have hsz : cs.size = 2 := by simpa using ha.1.symm
      apply Array.ext_getElem?
      intro i
      match i with
      | 0 => rw [hy0]; rfl
      | 1 => rw [hy1]; rfl
      | i + 2 => rw [Array.getElem?_eq_none (by omega)]; rfl
    subst hcs
    rcases h5 with ⟨rfl, h5⟩ | ⟨rfl, h5⟩
    · simp only [Nat.beq_refl, cond_true, Option.some.injEq] at h
      subst h
      exact ⟨_, by rw [run_callFunc_extern h1 h2 h3 h4 h5, Lib.run_countString]; rfl, rv_int⟩
    · have e : Nat.beq 1 0 = false := rfl
      simp only [e, cond_false, Nat.beq_refl, cond_true, Option.some.injEq] at h
      subst h
      exact ⟨_, by rw [run_callFunc_extern h1 h2 h3 h4 h5, Lib.run_indexByteString]; rfl, rv_int⟩
  · cases h

theorem brwC_more {h : Heap} {v u : V} {A : Arr} (e : brwC h v = some u) : brwC (h.more A) v = some u := by
  cases v with
  | sl id ver off len cap =>
    simp only [brwC, elemsOf, Option.bind_eq_some_iff] at e ⊢
    obtain ⟨es, ⟨B, hB, h1⟩, h2⟩ := e
    refine ⟨es, ⟨B, ?_, h1⟩, h2⟩
    simp only [Heap.more]
    rw [List.getElem?_append_left (List.getElem?_eq_some_iff.1 hB).1]
    exact hB
  | _ => exact e
theorem mapO_more {f g : V → Option V} (hfg : ∀ v u, f v = some u → g v = some u) : ∀ {l r : List V}, mapO f l = some r → mapO g l = some r
  | [], r, h => h
  | x :: l, r, h => by
    simp only [mapO, Option.bind_eq_some_iff] at h ⊢
    obtain ⟨y, h1, ys, h2, h3⟩ := h
    exact ⟨y, hfg x y h1, ys, mapO_more hfg h2, h3⟩
theorem brw_more {h : Heap} {v u : V} {A : Arr} (e : brw h v = some u) : brw (h.more A) v = some u := by
  cases v with
  | agg l =>
    simp only [brw, Option.map_eq_some_iff] at e ⊢
    obtain ⟨r, h1, h2⟩ := e
    exact ⟨r, mapO_more (fun v u => brwC_more) h1, h2⟩
  | _ => simp only [brw] at e ⊢; exact brwC_more e
theorem callN_pure : ∀ n, PureΦ E (callN E n)
  | 0 => fun lim f args h v h' _ e => by simp [callN] at e
  | n + 1 => fun lim f args h v h' hp e => by
    unfold pureF at hp
    cases hm : E.mode f <;> rw [hm] at hp <;> simp only [Bool.false_eq_true] at hp
    have hx : E.ext f = none := by cases hx : E.ext f <;> rw [hx] at hp <;> simp at hp ⊢
    simp only [callN, hx, hm, Option.bind_eq_some_iff] at e ⊢
    obtain ⟨args', ha, r, hb, v2, hf, h2⟩ := e
    obtain ⟨hc, h2⟩ := dead_eq h2
    simp only [Option.some.injEq, Prod.mk.injEq] at h2
    obtain ⟨rfl, rfl⟩ := h2
    exact ⟨rfl, fun A => ⟨args', mapO_more (fun v u => brw_more) ha, r, hb, v2, hf, by rw [hc]; rfl⟩⟩

theorem callN_sound (hE : EnvFull E) : ∀ n, SoundΦ E (callN E n)
  | 0 => ⟨fun lim f args H v H' h => by simp [callN] at h, callN_pure 0⟩
  | n + 1 => ⟨fun lim f args H v H' h F M w cs hl hh ha => by
    have ih := callN_sound hE n
    simp only [callN] at h
    split at h
    · -- without a body
      rename_i kd hkd
      simp only [extH] at h
      cases hb : Nat.ble kd 1 with
      | true =>
        simp only [hb, cond_true, Option.map_eq_some_iff, Prod.mk.injEq] at h
        obtain ⟨v', hv, rfl, rfl⟩ := h
        obtain ⟨c, hrun, hrv⟩ := ext_sound hE hkd (Nat.le_of_ble_eq_true hb) hv ha
        exact .inr ⟨c, w, hrun, c, M, rfl, Fr.refl M w, hl, hh, hrv⟩
      | false =>
        simp only [hb, cond_false] at h
        have h1 : 1 < kd := by
          apply Nat.lt_of_not_le
          intro hle
          rw [Nat.ble_eq_true_of_le hle] at hb
          cases hb
        exact hE.ins f kd hkd h1 args H v H' h F M w cs hl hh ha
    split at h
    · -- pure
      simp only [Option.bind_eq_some_iff] at h
      obtain ⟨args', hargs, ⟨v1, H1⟩, hb, v2, hf, h⟩ := h
      obtain ⟨hc, h⟩ := dead_eq h
      simp only [Option.some.injEq, Prod.mk.injEq] at h
      obtain ⟨rfl, rfl⟩ := h
      obtain ⟨h1, hcall⟩ := callBody_sound ih hE hb (hh.lend) (brws_sound hh hargs ha)
      refine .inl ⟨h1, hcall.mono fun e w2 hq => ?_⟩
      obtain ⟨c, M1, rfl, fr, _, hs1, hv, _⟩ := hq
      have f : Fr M M w w2 := ⟨fr.os, fr.tape, fr.output, fr.size, fun b hb hn => fr.keep b hb none_own, fun b hb => .inl hb, fun i b h => h, fun j a h => ⟨a, h, Nat.le_refl _, fun _ => rfl⟩⟩
      refine ⟨c, M, rfl, f, hl, hh.keep f (fun o b ho _ => fr.keep b (hh.lt ho) none_own), ?_⟩
      have hv2 := frz_rv hs1 hf hv
      refine rv_clean (fun b hlt h => ?_) hv2 hc
      rcases h with h | h
      · exact .inr ⟨rfl, h⟩
      · exact .inl h
    · -- shared
      simp only [Option.bind_eq_some_iff] at h
      obtain ⟨⟨v1, H1⟩, hb, v2, hf, h⟩ := h
      obtain ⟨hlow, h⟩ := dead_eq h
      simp only [Option.some.injEq, Prod.mk.injEq] at h
      obtain ⟨rfl, rfl⟩ := h
      obtain ⟨h1, hcall⟩ := callBody_sound ih hE hb hh ha
      refine .inl ⟨h1, hcall.mono fun e w2 hq => ?_⟩
      obtain ⟨c, M1, rfl, fr, hl1, hs1, hv, _⟩ := hq
      refine ⟨c, M1.cut H.vars.length H.arrs.length, rfl, ?_, rfl, hs1.cut hlow, frz_rv hs1 hf hv⟩
      refine ⟨fr.os, fr.tape, fr.output, fr.size, fr.keep, fun b hb => fr.fresh b (own_cut hb), fun i b hi => ?_, fun j a hj => ?_⟩
      · have : i < H.vars.length := by rw [← hh.vlen]; exact (List.getElem?_eq_some_iff.1 hi).1
        simp only [Mu.cut, List.getElem?_take]
        rw [if_pos this]; exact fr.vb i b hi
      · have : j < H.arrs.length := by rw [← hh.alen]; exact (List.getElem?_eq_some_iff.1 hj).1
        obtain ⟨a', k1, k2, k3⟩ := fr.ab j a hj
        refine ⟨a', ?_, k2, k3⟩
        simp only [Mu.cut, List.getElem?_take]
        rw [if_pos this]; exact k1
    · -- raw
      obtain ⟨h1, hcall⟩ := callBody_sound ih hE h hh ha
      refine .inl ⟨h1, hcall.mono fun e w2 hq => ?_⟩
      obtain ⟨c, M1, rfl, fr, hl1, hs1, hv, _⟩ := hq
      exact ⟨c, M1, rfl, fr, hl1, hs1, hv⟩, callN_pure (n + 1)⟩

end
end Go.DM
namespace Go.DM

/-- From some depth on, the call comes to v and h'. -/
def Ev (E : Env) (f : Nat) (args : List V) (h : Heap) (v : V) (h' : Heap) : Prop := ∃ n0, ∀ n, n0 ≤ n → ∀ lim, callN E n lim f args h = some (v, h')

theorem Ev.unique {E : Env} {f : Nat} {args : List V} {h : Heap} {v v2 : V} {h' h2 : Heap} (a : Ev E f args h v h') (b : Ev E f args h v2 h2) : v = v2 ∧ h' = h2 := by
  obtain ⟨n, hn⟩ := a
  obtain ⟨m, hm⟩ := b
  have h1 := hn (max n m) (Nat.le_max_left _ _) (0, 0)
  have h2 := hm (max n m) (Nat.le_max_right _ _) (0, 0)
  rw [h1] at h2
  simpa using h2

def CallP (E : Env) (f : Nat) (args : List V) (h : Heap) (K : V → Heap → Prop) : Prop := ∃ v h', Ev E f args h v h' ∧ K v h'

theorem callP_iff {E : Env} {f : Nat} {args : List V} {h : Heap} {v : V} {h' : Heap} (a : Ev E f args h v h') {K : V → Heap → Prop} : CallP E f args h K ↔ K v h' :=
  ⟨fun ⟨_, _, b, k⟩ => by obtain ⟨rfl, rfl⟩ := a.unique b; exact k, fun k => ⟨v, h', a, k⟩⟩

def optP {α : Type} (o : Option α) (K : α → Prop) : Prop := match o with
  | some a => K a
  | none => False
theorem optP_some {α : Type} {a : α} {K : α → Prop} : optP (some a) K = K a := rfl
theorem optP_none {α : Type} {K : α → Prop} : optP none K = False := rfl
theorem optP_map {α β : Type} {f : α → β} {o : Option α} {K : β → Prop} : optP (o.map f) K = optP o fun a => K (f a) := by cases o <;> rfl
theorem optP_bind {α β : Type} {f : α → Option β} {o : Option α} {K : β → Prop} : optP (o.bind f) K = optP o fun a => optP (f a) K := by cases o <;> rfl
theorem optP_cond {α : Type} {c : Bool} {o : Option α} {K : α → Prop} : optP (bif c then o else none) K = (c = true ∧ optP o K) := by cases c <;> simp [optP]
theorem optP_spec {α : Type} {o : Option α} {K : α → Prop} : optP o K ↔ ∃ a, o = some a ∧ K a := by cases o <;> simp [optP]

section
variable (E : Env) (fn : Nat)

/-- One operation. -/
def wX (o : Oper) (st : St) (K : V → St → Prop) : Prop :=
  match o.op with
  | .call c =>
    (match c.callee with
    | .value f => (match ev st.s f with
      | .fn g caps => (c.args.toList.map (ev st.s)).all V.storable = true ∧ CallP E g (c.args.toList.map (ev st.s) ++ caps) st.h fun v h => resOk v = true ∧ K v { st with h := h }
      | _ => False)
    | _ => optP (opX E ⟨fn, 0, 0⟩ (fun _ _ _ _ => none) o st) fun r => K r.1 r.2)
  | _ => optP (opX E ⟨fn, 0, 0⟩ (fun _ _ _ _ => none) o st) fun r => K r.1 r.2

def wStep (an : Option (List (Nat × Nat × Bool))) (ops : Array Oper) (i : Nat) (st : St) (K : St → Prop) : Prop :=
  match ops[i]? with
  | none => K st
  | some o => optP (wantedV ops o st.s) fun w =>
    (w = true → preOk an i o st.s = true ∧ wX E fn o st fun v st' => postOk an i o st.h st'.h = true ∧ K { st' with s := putV st'.s o.dst v }) ∧
    (w = false → K { st with s := putV st.s o.dst undefV })

def wOps (an : Option (List (Nat × Nat × Bool))) (ops : Array Oper) : List Nat → St → (St → Prop) → Prop
  | [], st, K => K st
  | i :: l, st, K => wStep E fn an ops i st fun st' => wOps an ops l st' K

/-- A loop: it comes to an end. -/
def LoopP (c : Code) (st : St) (Q : Ex → St → Prop) : Prop :=
  ∃ x st', (∃ n0 m0, ∀ n, n0 ≤ n → ∀ m, m0 ≤ m → iter (exec E ⟨fn, 0, 0⟩ (callN E n) n c) m st = some (x, st')) ∧ Q x st'

def wD : Code → St → (Ex → St → Prop) → Prop
  | .skip, st, Q => Q .normal st
  | .region id ops draw, st, Q => wOps E fn (bif draw then some (E.ann fn id) else none) ops (List.range ops.size) st fun st' => Q .normal { st' with s := tidy ops st'.s }
  | .seq a b, st, Q => wD a st fun x st' => match x with
    | .normal => wD b st' Q
    | .exit id => Q (.exit id) st'
    | .ret => Q .ret st'
  | .cond c a b, st, Q => match ev st.s c with
    | .bool t => (t = true → wD a st Q) ∧ (t = false → wD b st Q)
    | _ => False
  | .block id c, st, Q => wD c st fun x st' => match x with
    | .normal => Q .normal st'
    | .exit j => bif Nat.beq j id then Q .normal st' else Q (.exit j) st'
    | .ret => Q .ret st'
  | .loop c, st, Q => LoopP E fn c st Q
  | .exit id, st, Q => Q (.exit id) st
  | .label _, st, Q => Q .normal st
  | .ret, st, Q => Q .ret st
  | _, _, _ => False

/-- From some depth on, the code comes to x and st'. -/
def Runs (c : Code) (st : St) (x : Ex) (st' : St) : Prop := ∃ n0, ∀ n, n0 ≤ n → exec E ⟨fn, 0, 0⟩ (callN E n) n c st = some (x, st')
end

section
variable {E : Env} {fn : Nat}

theorem wX_sound {o : Oper} {st : St} {K : V → St → Prop} (h : wX E fn o st K) : ∃ v st', (∃ n0, ∀ n, n0 ≤ n → opX E ⟨fn, 0, 0⟩ (callN E n) o st = some (v, st')) ∧ K v st' := by
  have other : (∀ Φ, opX E ⟨fn, 0, 0⟩ Φ o st = opX E ⟨fn, 0, 0⟩ (fun _ _ _ _ => none) o st) → optP (opX E ⟨fn, 0, 0⟩ (fun _ _ _ _ => none) o st) (fun r => K r.1 r.2) →
      ∃ v st', (∃ n0, ∀ n, n0 ≤ n → opX E ⟨fn, 0, 0⟩ (callN E n) o st = some (v, st')) ∧ K v st' := by
    intro h1 h2
    obtain ⟨⟨v, st'⟩, h3, h4⟩ := optP_spec.1 h2
    exact ⟨v, st', ⟨0, fun n _ => by rw [h1, h3]⟩, h4⟩
  unfold wX at h
  split at h
  · rename_i c ho
    split at h
    · rename_i f hc
      split at h
      · rename_i g caps hf
        obtain ⟨h1, v, h', ⟨n0, hev⟩, hr, hk⟩ := h
        refine ⟨v, _, ⟨n0, fun n hn => ?_⟩, hk⟩
        simp only [opX, ho, hc, hf, h1, cond_true, hev n hn, Option.bind_some, hr]
      · exact h.elim
    · rename_i hc
      refine other (fun Φ => ?_) h
      simp only [opX, ho]
      all_goals (split <;> first | rfl | (rename_i f hf; exact absurd hf (hc f)))
  · rename_i hno
    refine other (fun Φ => ?_) h
    cases ho : o.op <;> first | (simp only [opX, ho]; done) | (exact absurd ho (hno _))

theorem wStep_sound {an : Option (List (Nat × Nat × Bool))} {ops : Array Oper} {i : Nat} {st : St} {K : St → Prop} (h : wStep E fn an ops i st K) : ∃ st', (∃ n0, ∀ n, n0 ≤ n → opStep E ⟨fn, 0, 0⟩ (callN E n) an ops i st = some st') ∧ K st' := by
  unfold wStep at h
  cases ho : ops[i]? with
  | none => rw [ho] at h; exact ⟨st, ⟨0, fun n _ => by simp only [opStep, ho]⟩, h⟩
  | some o =>
    rw [ho] at h
    simp only at h
    obtain ⟨w, hw, h1, h2⟩ := optP_spec.1 h
    cases w with
    | false => exact ⟨_, ⟨0, fun n _ => by rw [opStep_eq ho, hw]; rfl⟩, h2 rfl⟩
    | true =>
      obtain ⟨hp, hx⟩ := h1 rfl
      obtain ⟨v, st', ⟨n0, hn⟩, hq, hk⟩ := wX_sound hx
      refine ⟨_, ⟨n0, fun n h => ?_⟩, hk⟩
      rw [opStep_eq ho, hw]
      simp only [Option.bind_some, cond_true, hp, hn n h, hq]

theorem wOps_sound {an : Option (List (Nat × Nat × Bool))} {ops : Array Oper} : ∀ {l : List Nat} {st : St} {K : St → Prop}, wOps E fn an ops l st K → ∃ st', (∃ n0, ∀ n, n0 ≤ n → opsRun E ⟨fn, 0, 0⟩ (callN E n) an ops l st = some st') ∧ K st'
  | [], st, K, h => ⟨st, ⟨0, fun n _ => rfl⟩, h⟩
  | i :: l, st, K, h => by
    obtain ⟨st1, ⟨n1, h1⟩, h2⟩ := wStep_sound h
    obtain ⟨st2, ⟨n2, h3⟩, h4⟩ := wOps_sound h2
    exact ⟨st2, ⟨max n1 n2, fun n hn => by simp only [opsRun, h1 n (by omega), Option.bind_some, h3 n (by omega)]⟩, h4⟩

theorem wD_sound : ∀ (c : Code) {st : St} {Q : Ex → St → Prop}, wD E fn c st Q → ∃ x st', Runs E fn c st x st' ∧ Q x st' := by
  intro c
  induction c with
  | skip => exact fun {st Q} h => ⟨_, _, ⟨0, fun n _ => rfl⟩, h⟩
  | label l => exact fun {st Q} h => ⟨_, _, ⟨0, fun n _ => rfl⟩, h⟩
  | exit id => exact fun {st Q} h => ⟨_, _, ⟨0, fun n _ => rfl⟩, h⟩
  | ret => exact fun {st Q} h => ⟨_, _, ⟨0, fun n _ => rfl⟩, h⟩
  | region id ops draw =>
    intro st Q h
    obtain ⟨st', ⟨n0, h1⟩, h2⟩ := wOps_sound h
    exact ⟨_, _, ⟨n0, fun n hn => by simp only [exec, h1 n hn, Option.map_some]⟩, h2⟩
  | seq a b iha ihb =>
    intro st Q h
    obtain ⟨x, st1, ⟨n1, h1⟩, h2⟩ := iha h
    cases x with
    | normal =>
      obtain ⟨y, st2, ⟨n2, h3⟩, h4⟩ := ihb h2
      exact ⟨y, st2, ⟨max n1 n2, fun n hn => by simp only [exec, h1 n (by omega), Option.bind_some, h3 n (by omega)]⟩, h4⟩
    | exit id => exact ⟨_, _, ⟨n1, fun n hn => by simp only [exec, h1 n hn, Option.bind_some]⟩, h2⟩
    | ret => exact ⟨_, _, ⟨n1, fun n hn => by simp only [exec, h1 n hn, Option.bind_some]⟩, h2⟩
  | cond c a b iha ihb =>
    intro st Q h
    simp only [wD] at h
    split at h
    · rename_i t ht
      cases t with
      | true =>
        obtain ⟨x, st1, ⟨n1, h1⟩, h2⟩ := iha (h.1 rfl)
        exact ⟨x, st1, ⟨n1, fun n hn => by simp only [exec, ht, cond_true, h1 n hn]⟩, h2⟩
      | false =>
        obtain ⟨x, st1, ⟨n1, h1⟩, h2⟩ := ihb (h.2 rfl)
        exact ⟨x, st1, ⟨n1, fun n hn => by simp only [exec, ht, cond_false, h1 n hn]⟩, h2⟩
    · exact h.elim
  | block id c ih =>
    intro st Q h
    obtain ⟨x, st1, ⟨n1, h1⟩, h2⟩ := ih h
    cases x with
    | normal => exact ⟨_, _, ⟨n1, fun n hn => by simp only [exec, h1 n hn, Option.map_some]⟩, h2⟩
    | ret => exact ⟨_, _, ⟨n1, fun n hn => by simp only [exec, h1 n hn, Option.map_some]⟩, h2⟩
    | exit j =>
      simp only at h2
      cases hb : Nat.beq j id with
      | true => rw [hb] at h2; exact ⟨_, _, ⟨n1, fun n hn => by simp only [exec, h1 n hn, Option.map_some, hb, cond_true]⟩, h2⟩
      | false => rw [hb] at h2; exact ⟨_, _, ⟨n1, fun n hn => by simp only [exec, h1 n hn, Option.map_some, hb, cond_false]⟩, h2⟩
  | loop c ih =>
    intro st Q h
    obtain ⟨x, st', ⟨n0, m0, h1⟩, h2⟩ := h
    exact ⟨x, st', ⟨max n0 m0, fun n hn => by simp only [exec]; exact h1 n (by omega) n (by omega)⟩, h2⟩
  | _ => intro st Q h; exact h.elim

/-- A loop's round. -/
theorem LoopP.round {c : Code} {st : St} {Q : Ex → St → Prop} (h : wD E fn c st fun x st' => match x with
    | .normal => LoopP E fn c st' Q
    | .exit id => Q (.exit id) st'
    | .ret => Q .ret st') : LoopP E fn c st Q := by
  obtain ⟨x, st1, ⟨n1, h1⟩, h2⟩ := wD_sound c h
  cases x with
  | normal =>
    obtain ⟨y, st2, ⟨n2, m2, h3⟩, h4⟩ := h2
    refine ⟨y, st2, ⟨max n1 n2, m2 + 1, fun n hn m hm => ?_⟩, h4⟩
    obtain ⟨m', rfl⟩ : ∃ m', m = m' + 1 := ⟨m - 1, by omega⟩
    simp only [iter, h1 n (by omega), Option.bind_some, h3 n (by omega) m' (by omega)]
  | exit id =>
    refine ⟨_, _, ⟨n1, 1, fun n hn m hm => ?_⟩, h2⟩
    obtain ⟨m', rfl⟩ : ∃ m', m = m' + 1 := ⟨m - 1, by omega⟩
    simp only [iter, h1 n hn, Option.bind_some]
  | ret =>
    refine ⟨_, _, ⟨n1, 1, fun n hn m hm => ?_⟩, h2⟩
    obtain ⟨m', rfl⟩ : ∃ m', m = m' + 1 := ⟨m - 1, by omega⟩
    simp only [iter, h1 n hn, Option.bind_some]

theorem optP_mono {α : Type} {o : Option α} {K K' : α → Prop} (h : optP o K) (hk : ∀ a, K a → K' a) : optP o K' := by
  cases o with
  | none => exact h
  | some a => exact hk a h
theorem wX_mono {o : Oper} {st : St} {K K' : V → St → Prop} (h : wX E fn o st K) (hk : ∀ v st, K v st → K' v st) : wX E fn o st K' := by
  unfold wX at *
  split
  · rename_i c ho
    simp only [ho] at h
    split
    · rename_i f hc
      simp only [hc] at h
      split
      · rename_i g caps hf
        simp only [hf] at h
        obtain ⟨h1, v, h', he, hr, hK⟩ := h
        exact ⟨h1, v, h', he, hr, hk _ _ hK⟩
      · rename_i hf
        split at h
        · rename_i g caps hf'; exact absurd hf' (hf g caps)
        · exact h
    · rename_i hc
      split at h
      · rename_i f hf; exact absurd hf (hc f)
      · exact optP_mono h fun r hr => hk _ _ hr
  · rename_i hno
    split at h
    · rename_i c ho; exact absurd ho (hno c)
    · exact optP_mono h fun r hr => hk _ _ hr
theorem wStep_mono {an : Option (List (Nat × Nat × Bool))} {ops : Array Oper} {i : Nat} {st : St} {K K' : St → Prop} (h : wStep E fn an ops i st K) (hk : ∀ st, K st → K' st) : wStep E fn an ops i st K' := by
  unfold wStep at *
  split
  · rename_i ho; rw [ho] at h; exact hk _ h
  · rename_i o ho
    rw [ho] at h
    exact optP_mono h fun w hw => ⟨fun e => ⟨(hw.1 e).1, wX_mono (hw.1 e).2 fun v st hv => ⟨hv.1, hk _ hv.2⟩⟩, fun e => hk _ (hw.2 e)⟩
theorem wOps_mono {an : Option (List (Nat × Nat × Bool))} {ops : Array Oper} : ∀ {l : List Nat} {st : St} {K K' : St → Prop}, wOps E fn an ops l st K → (∀ st, K st → K' st) → wOps E fn an ops l st K'
  | [], _, _, _, h, hk => hk _ h
  | _ :: _, _, _, _, h, hk => wStep_mono h fun _ h' => wOps_mono h' hk
theorem wD_mono : ∀ (c : Code) {st : St} {Q Q' : Ex → St → Prop}, wD E fn c st Q → (∀ x st, Q x st → Q' x st) → wD E fn c st Q' := by
  intro c
  induction c with
  | skip => exact fun h hk => hk _ _ h
  | label l => exact fun h hk => hk _ _ h
  | exit id => exact fun h hk => hk _ _ h
  | ret => exact fun h hk => hk _ _ h
  | region id ops draw => exact fun h hk => wOps_mono h fun st h => hk _ _ h
  | seq a b iha ihb =>
    exact fun h hk => iha h fun x st h => by
      cases x with
      | normal => exact ihb h hk
      | exit id => exact hk _ _ h
      | ret => exact hk _ _ h
  | cond c a b iha ihb =>
    intro st Q Q' h hk
    simp only [wD] at h ⊢
    split at h
    · rename_i t ht
      exact ⟨fun e => iha (h.1 e) hk, fun e => ihb (h.2 e) hk⟩
    · exact h.elim
  | block id c ih =>
    exact fun h hk => ih h fun x st h => by
      cases x with
      | normal => exact hk _ _ h
      | ret => exact hk _ _ h
      | exit j =>
        simp only at h ⊢
        cases hb : Nat.beq j id <;> rw [hb] at h <;> exact hk _ _ h
  | loop c ih => exact fun ⟨x, st', h1, h2⟩ hk => ⟨x, st', h1, hk _ _ h2⟩
  | _ => exact fun h _ => h.elim

theorem LoopP.ind {c : Code} {Q : Ex → St → Prop} (I : Nat → St → Prop) (round : ∀ k st, I k st → wD E fn c st fun x st' => match x with
    | .normal => ∃ k', k' < k ∧ I k' st'
    | .exit id => Q (.exit id) st'
    | .ret => Q .ret st') : ∀ k st, I k st → LoopP E fn c st Q := by
  intro k
  induction k using Nat.strongRecOn with
  | _ k ih =>
    exact fun st hI => LoopP.round (wD_mono c (round k st hI) fun x st' h => by
      cases x with
      | normal => obtain ⟨k', hk, hI'⟩ := h; exact ih k' hk st' hI'
      | exit id => exact h
      | ret => exact h)

/-! calls -/
/-- What a function's body comes to. -/
def BodyP (E : Env) (f : Nat) (args : List V) (h : Heap) (K : V → Heap → Prop) : Prop :=
  ∃ fn c, E.ok f = true ∧ E.P.funcs[f]? = some fn ∧ fn.body = some c ∧ wD E f c ⟨args ++ List.replicate (fn.ntmps - args.length) undefV, h⟩ fun x st =>
    match x with
    | .exit _ => False
    | _ => optP (resultsV E.P fn st) fun v => K v st.h

theorem bodyP_sound {f : Nat} {args : List V} {h : Heap} {K : V → Heap → Prop} (hb : BodyP E f args h K) :
    ∃ v h', (∃ n0, ∀ n, n0 ≤ n → callBody E (callN E n) n (0, 0) f args h = some (v, h')) ∧ K v h' := by
  obtain ⟨fn, c, hok, hfn, hc, hw⟩ := hb
  obtain ⟨x, st, ⟨n0, h1⟩, h2⟩ := wD_sound c hw
  cases x with
  | exit id => exact h2.elim
  | normal =>
    obtain ⟨v, hv, hk⟩ := optP_spec.1 h2
    exact ⟨v, _, ⟨n0, fun n hn => by simp only [callBody, hok, cond_true, hfn, Option.bind_some, hc, h1 n hn, hv, Option.map_some]⟩, hk⟩
  | ret =>
    obtain ⟨v, hv, hk⟩ := optP_spec.1 h2
    exact ⟨v, _, ⟨n0, fun n hn => by simp only [callBody, hok, cond_true, hfn, Option.bind_some, hc, h1 n hn, hv, Option.map_some]⟩, hk⟩

theorem ev_of_pure {f : Nat} {args : List V} {h : Heap} {v : V} (hx : E.ext f = none) (hm : E.mode f = .pure) {args' : List V} (ha : mapO (brw h) args = some args')
    (hb : BodyP E f args' ⟨[], []⟩ fun v1 h1 => optP (frz h1 0 0 9 v1) fun v2 => clean 9 v2 = true ∧ v2 = v) : Ev E f args h v h := by
  obtain ⟨v1, h1, ⟨n0, hn⟩, hk⟩ := bodyP_sound hb
  obtain ⟨v2, h3, h4, rfl⟩ := optP_spec.1 hk
  refine ⟨n0 + 1, fun n h lim => ?_⟩
  obtain ⟨m, rfl⟩ : ∃ m, n = m + 1 := ⟨n - 1, by omega⟩
  simp only [callN, hx, hm, ha, Option.bind_some, hn m (by omega), h3, h4, cond_true]

theorem ev_of_raw {f : Nat} {args : List V} {h h' : Heap} {v : V} (hx : E.ext f = none) (hm : E.mode f = .raw) (hb : BodyP E f args h fun v1 h1 => v1 = v ∧ h1 = h') : Ev E f args h v h' := by
  obtain ⟨v1, h1, ⟨n0, hn⟩, rfl, rfl⟩ := bodyP_sound hb
  refine ⟨n0 + 1, fun n h lim => ?_⟩
  obtain ⟨m, rfl⟩ : ∃ m, n = m + 1 := ⟨n - 1, by omega⟩
  simp only [callN, hx, hm, hn m (by omega)]

theorem ev_of_shared {f : Nat} {args : List V} {h h' : Heap} {v : V} (hx : E.ext f = none) (hm : E.mode f = .shared) (hb : BodyP E f args h fun v1 h1 => optP (frz h1 h.vars.length h.arrs.length 9 v1) fun v2 =>
    lowHeap h.vars.length h.arrs.length ⟨h1.vars.take h.vars.length, h1.arrs.take h.arrs.length⟩ = true ∧ v2 = v ∧ (⟨h1.vars.take h.vars.length, h1.arrs.take h.arrs.length⟩ : Heap) = h') : Ev E f args h v h' := by
  obtain ⟨v1, h1, ⟨n0, hn⟩, hk⟩ := bodyP_sound hb
  obtain ⟨v2, h3, h4, rfl, rfl⟩ := optP_spec.1 hk
  refine ⟨n0 + 1, fun n h lim => ?_⟩
  obtain ⟨m, rfl⟩ : ∃ m, n = m + 1 := ⟨n - 1, by omega⟩
  simp only [callN, hx, hm, hn m (by omega), Option.bind_some, h3, h4, cond_true]
end

/-- The evaluator's word counts for the model. -/
theorem Ev.calls {E : Env} (hE : EnvFull E) {f : Nat} {args : List V} {v : V} {fn : Func} (hf : E.P.funcs[f]? = some fn) (hb : fn.body ≠ none) (hname : fn.name ≠ "runtime.NumGoroutine") (h : Ev E f args ⟨[], []⟩ v ⟨[], []⟩) {F : Bool → Nat → Prop} {w : World} {cs : Array Value} (hF : ∀ g b, F g b → b < w.heap.size)
    (ha : RList (RX F Mu.none w) args cs) : Calls E.P f cs w fun e w' => ∃ c M', e = .returned c ∧ Fr Mu.none M' w w' ∧ RV F M' w' v c := by
  obtain ⟨n, hn⟩ := h
  have hh : SimH F Mu.none w ⟨[], []⟩ := {
    vlen := rfl
    alen := rfl
    vmem := fun i b v hi => by simp [Mu.none] at hi
    amem := fun i b v hi => by simp [Mu.none] at hi
    inj := fun o o' b h1 => absurd ⟨o, h1⟩ none_own
    bound := fun b hb => absurd hb none_own
    apart := fun g b hb => absurd hb none_own
    fbound := hF }
  rcases (callN_sound hE n).1 (0, 0) f args ⟨[], []⟩ v ⟨[], []⟩ (hn n (Nat.le_refl _) (0, 0)) F Mu.none w cs rfl hh ha with h1 | ⟨c, w', h1, _⟩
  · exact h1.2.mono fun e w' ⟨c, M', h1, h2, _, _, h5⟩ => ⟨c, M', h1, h2, h5⟩
  · simp [callFunc, hf, hb, hname] at h1
end Go.DM
namespace Go.DM

@[congr] theorem optP_congr {α : Type} {o o' : Option α} (h : o = o') {K : α → Prop} : optP o K = optP o' K := by rw [h]
@[congr] theorem callP_congr {E : Env} {f f' : Nat} {args args' : List V} {h h' : Heap} (hf : f = f') (ha : args = args') (hh : h = h') {K : V → Heap → Prop} : CallP E f args h K = CallP E f' args' h' K := by rw [hf, ha, hh]
@[congr] theorem loopP_congr {E : Env} {fn : Nat} {c : Code} {st st' : St} (hs : st = st') {Q : Ex → St → Prop} : LoopP E fn c st Q = LoopP E fn c st' Q := by rw [hs]

theorem optP_ncond {α : Type} {c : Bool} {o : Option α} {K : α → Prop} : optP (bif c then none else o) K = (c = false ∧ optP o K) := by cases c <;> simp [optP]
theorem optP_cond2 {α : Type} {c : Bool} {o o' : Option α} {K : α → Prop} : optP (bif c then o else o') K = ((c = true → optP o K) ∧ (c = false → optP o' K)) := by cases c <;> simp [optP]

section
variable {E : Env} {fn : Nat}

/-- An operation, told apart from its place. -/
def wO (E : Env) (fn : Nat) (an : Option (List (Nat × Nat × Bool))) (i : Nat) (o : Oper) (st : St) (K : St → Prop) : Prop :=
  preOk an i o st.s = true ∧ wX E fn o st fun v st' => postOk an i o st.h st'.h = true ∧ K { st' with s := putV st'.s o.dst v }

def wL (E : Env) (fn : Nat) (an : Option (List (Nat × Nat × Bool))) (ops : Array Oper) : List Oper → Nat → St → (St → Prop) → Prop
  | [], _, st, K => K st
  | o :: l, i, st, K => match o.guard with
    | none => wO E fn an i o st fun st' => wL E fn an ops l (i + 1) st' K
    | some g => optP (wantedV ops o st.s) fun w => (w = true → wO E fn an i o st fun st' => wL E fn an ops l (i + 1) st' K) ∧ (w = false → wL E fn an ops l (i + 1) { st with s := putV st.s o.dst undefV } K)

theorem wOps_of_wL {an : Option (List (Nat × Nat × Bool))} {ops : Array Oper} : ∀ (l : List Oper) (k : Nat) {st : St} {K : St → Prop}, (∀ j, l[j]? = ops[k + j]?) → wL E fn an ops l k st K → wOps E fn an ops (List.range' k l.length) st K
  | [], k, st, K, _, h => h
  | o :: l, k, st, K, hl, h => by
    have h0 : ops[k]? = some o := by simpa using (hl 0).symm
    have ih : ∀ st', wL E fn an ops l (k + 1) st' K → wOps E fn an ops (List.range' (k + 1) l.length) st' K := fun st' h' =>
      wOps_of_wL l (k + 1) (fun j => by have := hl (j + 1); simp only [List.getElem?_cons_succ] at this; rw [this]; congr 1; omega) h'
    rw [List.length_cons, List.range'_succ]
    show wStep E fn an ops k st _
    unfold wStep
    rw [h0]
    simp only [wL] at h
    split at h
    · rename_i hg
      have hw : wantedV ops o st.s = some true := by simp only [wantedV, hg]
      simp only
      rw [hw]
      exact ⟨fun _ => ⟨h.1, wX_mono h.2 fun v st' h' => ⟨h'.1, ih _ h'.2⟩⟩, fun e => by cases e⟩
    · exact optP_mono h fun w hw => ⟨fun e => ⟨(hw.1 e).1, wX_mono (hw.1 e).2 fun v st' h' => ⟨h'.1, ih _ h'.2⟩⟩, fun e => ih _ (hw.2 e)⟩

/-- As wD, region by region over the list of operations. -/
def wC (E : Env) (fn : Nat) : Code → St → (Ex → St → Prop) → Prop
  | .skip, st, Q => Q .normal st
  | .region id ops draw, st, Q => wL E fn (bif draw then some (E.ann fn id) else none) ops ops.toList 0 st fun st' => Q .normal { st' with s := tidy ops st'.s }
  | .seq a b, st, Q => wC E fn a st fun x st' => match x with
    | .normal => wC E fn b st' Q
    | .exit id => Q (.exit id) st'
    | .ret => Q .ret st'
  | .cond c a b, st, Q => match ev st.s c with
    | .bool t => (t = true → wC E fn a st Q) ∧ (t = false → wC E fn b st Q)
    | _ => False
  | .block id c, st, Q => wC E fn c st fun x st' => match x with
    | .normal => Q .normal st'
    | .exit j => bif Nat.beq j id then Q .normal st' else Q (.exit j) st'
    | .ret => Q .ret st'
  | .loop c, st, Q => LoopP E fn c st Q
  | .exit id, st, Q => Q (.exit id) st
  | .label _, st, Q => Q .normal st
  | .ret, st, Q => Q .ret st
  | _, _, _ => False

theorem wD_of_wC : ∀ (c : Code) {st : St} {Q : Ex → St → Prop}, wC E fn c st Q → wD E fn c st Q := by
  intro c
  induction c with
  | region id ops draw =>
    intro st Q h
    simp only [wD, List.range_eq_range']
    have := wOps_of_wL ops.toList 0 (fun j => by simp) h
    simpa using this
  | seq a b iha ihb =>
    exact fun h => wD_mono a (iha h) fun x st h => by
      cases x with
      | normal => exact ihb h
      | exit id => exact h
      | ret => exact h
  | cond c a b iha ihb =>
    intro st Q h
    simp only [wC] at h
    simp only [wD]
    cases hv : ev st.s c <;> rw [hv] at h <;> simp only at h ⊢
    exact ⟨fun e => iha (h.1 e), fun e => ihb (h.2 e)⟩
  | block id c ih => exact fun h => ih h
  | _ => exact fun h => h

theorem LoopP.roundC {c : Code} {st : St} {Q : Ex → St → Prop} (h : wC E fn c st fun x st' => match x with
    | .normal => LoopP E fn c st' Q
    | .exit id => Q (.exit id) st'
    | .ret => Q .ret st') : LoopP E fn c st Q := LoopP.round (wD_of_wC c h)

theorem LoopP.indC {c : Code} {Q : Ex → St → Prop} (I : Nat → St → Prop) (round : ∀ k st, I k st → wC E fn c st fun x st' => match x with
    | .normal => ∃ k', k' < k ∧ I k' st'
    | .exit id => Q (.exit id) st'
    | .ret => Q .ret st') : ∀ k st, I k st → LoopP E fn c st Q := LoopP.ind I fun k st h => wD_of_wC c (round k st h)

theorem bodyP_of {f : Nat} {args : List V} {h : Heap} {K : V → Heap → Prop} {func : Func} {c : Code} (hok : E.ok f = true) (hf : E.P.funcs[f]? = some func) (hc : func.body = some c)
    (hw : wC E f c ⟨args ++ List.replicate (func.ntmps - args.length) undefV, h⟩ fun x st =>
    match x with
    | .exit _ => False
    | .normal => optP (resultsV E.P func st) fun v => K v st.h
    | .ret => optP (resultsV E.P func st) fun v => K v st.h) : BodyP E f args h K :=
  ⟨func, c, hok, hf, hc, wD_mono c (wD_of_wC c hw) fun x st h => by cases x <;> exact h⟩

/-! the rules: what is to come stands as data, so that 'simp' works from the front -/
inductive Todo where
  | code (c : Code)
  | blk (id : Nat)

def kont (E : Env) (fn : Nat) (Q : Ex → St → Prop) : List Todo → Ex → St → Prop
  | [], x, st => Q x st
  | .code c :: k, .normal, st => wC E fn c st fun x st' => kont E fn Q k x st'
  | .code _ :: k, .exit id, st => kont E fn Q k (.exit id) st
  | .code _ :: k, .ret, st => kont E fn Q k .ret st
  | .blk _ :: k, .normal, st => kont E fn Q k .normal st
  | .blk id :: k, .exit j, st => bif Nat.beq j id then kont E fn Q k .normal st else kont E fn Q k (.exit j) st
  | .blk _ :: k, .ret, st => kont E fn Q k .ret st

def wS (E : Env) (fn : Nat) (c : Code) (k : List Todo) (st : St) (Q : Ex → St → Prop) : Prop := wC E fn c st fun x st' => kont E fn Q k x st'
def wR (E : Env) (fn : Nat) (an : Option (List (Nat × Nat × Bool))) (ops : Array Oper) (l : List Oper) (i : Nat) (k : List Todo) (st : St) (Q : Ex → St → Prop) : Prop :=
  wL E fn an ops l i st fun st' => kont E fn Q k .normal { st' with s := tidy ops st'.s }
/-- Behind an operation's value. -/
def wV (E : Env) (fn : Nat) (an : Option (List (Nat × Nat × Bool))) (ops : Array Oper) (l : List Oper) (i : Nat) (k : List Todo) (d : Option Nat) (o : Option (V × St)) (Q : Ex → St → Prop) : Prop :=
  optP o fun r => wR E fn an ops l i k { r.2 with s := putV r.2.s d r.1 } Q
/-- Behind a value alone: the state stays. -/
def wP (E : Env) (fn : Nat) (an : Option (List (Nat × Nat × Bool))) (ops : Array Oper) (l : List Oper) (i : Nat) (k : List Todo) (d : Option Nat) (st : St) (o : Option V) (Q : Ex → St → Prop) : Prop :=
  optP o fun v => wR E fn an ops l i k { st with s := putV st.s d v } Q
/-- The check behind a call of an annotated region. -/
def callOk (an : Option (List (Nat × Nat × Bool))) (i : Nat) (h h' : Heap) : Bool :=
  match an with
  | none => true
  | some l => bif annLoc l i then heapEq h h' else bif annV0 l i then heapEq0 h h' else true
/-- A call. -/
def wK (E : Env) (fn : Nat) (an : Option (List (Nat × Nat × Bool))) (ops : Array Oper) (l : List Oper) (i : Nat) (k : List Todo) (d : Option Nat) (s : List V) (g : Nat) (args : List V) (h : Heap) (Q : Ex → St → Prop) : Prop :=
  CallP E g args h fun v h' => resOk v = true ∧ callOk an i h h' = true ∧ wR E fn an ops l (i + 1) k ⟨putV s d v, h'⟩ Q
def newV (E : Env) (fn d : Nat) (z : V) (st : St) : V × St := bif E.esc fn d then (.ptr st.h.vars.length 0, { st with h := { st.h with vars := st.h.vars ++ [z] } }) else (.box z, st)
def newS (E : Env) (fn d : Nat) (es : List V) (len sz : Nat) (st : St) : Option (V × St) :=
  bif E.own fn d then some (.sl st.h.arrs.length 0 0 len (some len), { st with h := { st.h with arrs := st.h.arrs ++ [⟨es, 0, false, sz⟩] } })
  else bif es.all (fun v => v.cells.all V.gnd) then some (.fl true true es, st) else none
def zeroV (P : Program) (t : TypeId) : Option V := (tZero P t).bind fun z => bif z.storable && z.cells.length == P.cellsOf t then some z else none
def buildV (P : Program) (t : TypeId) (ps : List (Nat × V)) : Option V :=
  (tZero P t).bind fun z => bif buildOk P t && (z.storable && z.cells.length == P.cellsOf t) then (fillV (placeOf P t) z.cells ps).map V.agg else none
def notV (op : UnOp) (x : V) : Option V :=
  match op, x with
  | .not, .bool b => some (.bool (!b))
  | .neg, .int k n => some (.int k (k.wrap (0 - n)))
  | _, _ => none
def chkV (x : V) : Option V :=
  match x with
  | .lptr s o => some (.lptr s o)
  | .ptr i o => some (.ptr i o)
  | .aptr i v j o => some (.aptr i v j o)
  | .fptr v o => some (.fptr v o)
  | .fn f cs => some (.fn f cs)
  | _ => none
def convV (P : Program) (t1 t2 : TypeId) (x : V) : Option V :=
  match P.underlying t1, P.underlying t2, x with
  | some _, some (.int k), .int _ n => some (.int k (k.wrap n))
  | some .string, some .string, .str l => some (.str l)
  | _, _, _ => none
def extrV (x : V) (j : Nat) : Option V :=
  match x with
  | .tuple l => l[j]?
  | _ => none
def mkV (f : Nat) (e : Bool) (cs : List V) : Option V := bif e && cs.all V.atomic then some (.fn f cs) else none
def pickV (c x y : V) : Option V :=
  match c with
  | .bool t => some (bif t then x else y)
  | _ => none
/-- A condition. -/
def wB (E : Env) (fn : Nat) (v : V) (a b : Code) (k : List Todo) (st : St) (Q : Ex → St → Prop) : Prop :=
  match v with
  | .bool t => (t = true → wS E fn a k st Q) ∧ (t = false → wS E fn b k st Q)
  | _ => False
/-- A loop. -/
def wLp (E : Env) (fn : Nat) (c : Code) (k : List Todo) (st : St) (Q : Ex → St → Prop) : Prop := LoopP E fn c st fun x st' => kont E fn Q k x st'

section
variable {k : List Todo} {st : St} {Q : Ex → St → Prop}
theorem kont_nil {x : Ex} : kont E fn Q [] x st = Q x st := rfl
theorem kont_code {c : Code} : kont E fn Q (.code c :: k) .normal st = wS E fn c k st Q := rfl
theorem kont_code_exit {c : Code} {id : Nat} : kont E fn Q (.code c :: k) (.exit id) st = kont E fn Q k (.exit id) st := rfl
theorem kont_code_ret {c : Code} : kont E fn Q (.code c :: k) .ret st = kont E fn Q k .ret st := rfl
theorem kont_blk {id : Nat} : kont E fn Q (.blk id :: k) .normal st = kont E fn Q k .normal st := rfl
theorem kont_blk_exit {id j : Nat} : kont E fn Q (.blk id :: k) (.exit j) st = bif Nat.beq j id then kont E fn Q k .normal st else kont E fn Q k (.exit j) st := rfl
theorem kont_blk_ret {id : Nat} : kont E fn Q (.blk id :: k) .ret st = kont E fn Q k .ret st := rfl

theorem wC_mono {c : Code} : ∀ {st : St} {Q Q' : Ex → St → Prop}, wC E fn c st Q → (∀ x st, Q x st → Q' x st) → wC E fn c st Q' := by
  have wLm : ∀ {an : Option (List (Nat × Nat × Bool))} {ops : Array Oper} (l : List Oper) (i : Nat) {st : St} {K K' : St → Prop}, wL E fn an ops l i st K → (∀ st, K st → K' st) → wL E fn an ops l i st K' := by
    intro an ops l
    induction l with
    | nil => exact fun i st K K' h hk => hk _ h
    | cons o l ih =>
      intro i st K K' h hk
      simp only [wL] at h ⊢
      split at h
      · exact ⟨h.1, wX_mono h.2 fun v st' h' => ⟨h'.1, ih _ h'.2 hk⟩⟩
      · exact optP_mono h fun w hw => ⟨fun e => ⟨(hw.1 e).1, wX_mono (hw.1 e).2 fun v st' h' => ⟨h'.1, ih _ h'.2 hk⟩⟩, fun e => ih _ (hw.2 e) hk⟩
  induction c with
  | region id ops draw => exact fun h hk => wLm _ _ h fun st h => hk _ _ h
  | seq a b iha ihb =>
    exact fun h hk => iha h fun x st h => by
      cases x with
      | normal => exact ihb h hk
      | exit id => exact hk _ _ h
      | ret => exact hk _ _ h
  | cond c a b iha ihb =>
    intro st Q Q' h hk
    simp only [wC] at h ⊢
    split at h
    · exact ⟨fun e => iha (h.1 e) hk, fun e => ihb (h.2 e) hk⟩
    · exact h.elim
  | block id c ih =>
    exact fun h hk => ih h fun x st h => by
      cases x with
      | normal => exact hk _ _ h
      | ret => exact hk _ _ h
      | exit j =>
        simp only at h ⊢
        cases hb : Nat.beq j id <;> rw [hb] at h <;> exact hk _ _ h
  | loop c ih => exact fun ⟨x, st', h1, h2⟩ hk => ⟨x, st', h1, hk _ _ h2⟩
  | skip => exact fun h hk => hk _ _ h
  | label l => exact fun h hk => hk _ _ h
  | exit id => exact fun h hk => hk _ _ h
  | ret => exact fun h hk => hk _ _ h
  | _ => exact fun h _ => h.elim

/-- The start of a function. -/
theorem wC_of_wS {c : Code} (h : wS E fn c [] st Q) : wC E fn c st Q := h

theorem wS_seq {a b : Code} : wS E fn (.seq a b) k st Q = wS E fn a (.code b :: k) st Q := by
  unfold wS
  show wC E fn a st _ = _
  congr 1
  funext x st'
  cases x <;> rfl
theorem wS_block {id : Nat} {c : Code} : wS E fn (.block id c) k st Q = wS E fn c (.blk id :: k) st Q := by
  unfold wS
  show wC E fn c st _ = _
  congr 1
  funext x st'
  cases x with
  | exit j => simp only [kont]
  | _ => rfl
theorem wS_skip : wS E fn .skip k st Q = kont E fn Q k .normal st := rfl
theorem wS_label {l : Nat} : wS E fn (.label l) k st Q = kont E fn Q k .normal st := rfl
theorem wS_exit {id : Nat} : wS E fn (.exit id) k st Q = kont E fn Q k (.exit id) st := rfl
theorem wS_ret : wS E fn .ret k st Q = kont E fn Q k .ret st := rfl
theorem wS_loop {c : Code} : wS E fn (.loop c) k st Q = wLp E fn c k st Q := rfl
theorem wS_cond {c : Operand} {a b : Code} {s : List V} {h : Heap} : wS E fn (.cond c a b) k ⟨s, h⟩ Q = wB E fn (ev s c) a b k ⟨s, h⟩ Q := rfl
theorem wB_bool {t : Bool} {a b : Code} : wB E fn (.bool t) a b k st Q = ((t = true → wS E fn a k st Q) ∧ (t = false → wS E fn b k st Q)) := rfl
theorem wS_region {id : Nat} {l : List Oper} : wS E fn (.region id ⟨l⟩ false) k st Q = wR E fn none ⟨l⟩ l 0 k st Q := rfl
theorem wS_draw {id : Nat} {l : List Oper} : wS E fn (.region id ⟨l⟩ true) k st Q = wR E fn (some (E.ann fn id)) ⟨l⟩ l 0 k st Q := rfl
theorem tidyF_nil {s : List V} : tidyF [] s = s := rfl
def tidyAt (s : List V) (d : Nat) : Option V → List V
  | some (.lptr _ _) => s.set d .any
  | _ => s
theorem tidyF_cons {d : Nat} {op : Op} {ty : TypeId} {pos : String} {af : Array Edge} {g : Option (Nat × Bool)} {l : List Oper} {s : List V} : tidyF (⟨some d, op, ty, pos, af, g⟩ :: l) s = tidyF l (tidyAt s d s[d]?) := rfl
theorem tidyF_none {op : Op} {ty : TypeId} {pos : String} {af : Array Edge} {g : Option (Nat × Bool)} {l : List Oper} {s : List V} : tidyF (⟨none, op, ty, pos, af, g⟩ :: l) s = tidyF l s := rfl
section
variable {ops : Array Oper} {l : List Oper} {i : Nat} {s : List V} {h : Heap} {d : Option Nat} {d' : Nat} {ty : TypeId} {pos : String} {af : Array Edge} {an : Option (List (Nat × Nat × Bool))}
theorem wR_nil {lo : List Oper} : wR E fn an ⟨lo⟩ [] i k ⟨s, h⟩ Q = kont E fn Q k .normal ⟨tidyF lo s, h⟩ := rfl
theorem wV_some {v : V} : wV E fn an ops l i k d (some (v, ⟨s, h⟩)) Q = wR E fn an ops l i k ⟨putV s d v, h⟩ Q := rfl
theorem wV_none : wV E fn an ops l i k d none Q = False := rfl
theorem wV_cond {c : Bool} {o : Option (V × St)} : wV E fn an ops l i k d (bif c then o else none) Q = (c = true ∧ wV E fn an ops l i k d o Q) := optP_cond
theorem wV_ncond {c : Bool} {o : Option (V × St)} : wV E fn an ops l i k d (bif c then none else o) Q = (c = false ∧ wV E fn an ops l i k d o Q) := optP_ncond
theorem wP_some {v : V} : wP E fn an ops l i k d ⟨s, h⟩ (some v) Q = wR E fn an ops l i k ⟨putV s d v, h⟩ Q := rfl
theorem wP_none : wP E fn an ops l i k d st none Q = False := rfl
theorem wP_cond {c : Bool} {o : Option V} : wP E fn an ops l i k d st (bif c then o else none) Q = (c = true ∧ wP E fn an ops l i k d st o Q) := optP_cond
theorem wP_ncond {c : Bool} {o : Option V} : wP E fn an ops l i k d st (bif c then none else o) Q = (c = false ∧ wP E fn an ops l i k d st o Q) := optP_ncond
theorem callOk_none {h h' : Heap} : callOk none i h h' = true := rfl
theorem callOk_same {h : Heap} : callOk an i h h = true := by
  cases an with
  | none => rfl
  | some l => simp only [callOk, heapEq_refl, heapEq0_refl]; cases annLoc l i <;> cases annV0 l i <;> rfl
theorem wK_ev {g : Nat} {args : List V} {v : V} {h' : Heap} (he : Ev E g args h v h') : wK E fn an ops l i k d s g args h Q = (resOk v = true ∧ callOk an i h h' = true ∧ wR E fn an ops l (i + 1) k ⟨putV s d v, h'⟩ Q) := propext (callP_iff he)

theorem preOk_plain {o : Oper} (h1 : addrOf o.op = none) (h2 : ∀ t x lo hi mx, o.op ≠ .slice t x lo hi mx) (h3 : ∀ t x j, o.op ≠ .indexAddr t x j) : preOk an i o s = true := by
  unfold preOk
  cases an with
  | none => rfl
  | some l =>
    simp only [h1] <;> cases ho : o.op <;> first | rfl | exact absurd ho (h2 _ _ _ _ _) | exact absurd ho (h3 _ _ _)
theorem postOk_plain {o : Oper} {h h' : Heap} (h1 : isCall o.op = false) : postOk an i o h h' = true := by
  unfold postOk
  cases an with
  | none => rfl
  | some l => simp only [h1, Bool.false_and, cond_false]

theorem opX_pick {C : Ctx} {Φ : Oracle} {c x y : Operand} : opX E C Φ ⟨d, .pick c x y, ty, pos, af, none⟩ ⟨s, h⟩ = (pickV (ev s c) (ev s x) (ev s y)).map fun v => (v, ⟨s, h⟩) := by
  simp only [opX, pickV]; cases ev s c <;> rfl
theorem opX_unOp {C : Ctx} {Φ : Oracle} {op : UnOp} {t : TypeId} {x : Operand} : opX E C Φ ⟨d, .unOp op t x, ty, pos, af, none⟩ ⟨s, h⟩ = (notV op (ev s x)).map fun v => (v, ⟨s, h⟩) := by
  simp only [opX, notV]; cases op <;> cases ev s x <;> rfl
theorem opX_nilCheck {C : Ctx} {Φ : Oracle} {x : Operand} : opX E C Φ ⟨d, .nilCheck x, ty, pos, af, none⟩ ⟨s, h⟩ = (chkV (ev s x)).map fun v => (v, ⟨s, h⟩) := by
  simp only [opX, chkV]; cases ev s x <;> rfl
theorem opX_convert {C : Ctx} {Φ : Oracle} {t1 t2 : TypeId} {x : Operand} : opX E C Φ ⟨d, .convert t1 t2 x, ty, pos, af, none⟩ ⟨s, h⟩ = (convV E.P t1 t2 (ev s x)).map fun v => (v, ⟨s, h⟩) := by
  simp only [opX, convV]
  cases E.P.underlying t1 with
  | none => rfl
  | some d1 => cases E.P.underlying t2 with
    | none => rfl
    | some d2 => cases d2 <;> cases ev s x <;> first | rfl | (cases d1 <;> rfl)
theorem opX_extract {C : Ctx} {Φ : Oracle} {x : Operand} {j : Nat} : opX E C Φ ⟨d, .extract x j, ty, pos, af, none⟩ ⟨s, h⟩ = (extrV (ev s x) j).map fun v => (v, ⟨s, h⟩) := by
  simp only [opX, extrV]; cases ev s x <;> rfl
theorem opX_makeFunc {C : Ctx} {Φ : Oracle} {f : Nat} {first cs : Array Operand} : opX E C Φ ⟨d, .makeFunc (.func f) first cs, ty, pos, af, none⟩ ⟨s, h⟩ = (mkV f first.isEmpty (cs.toList.map (ev s))).map fun v => (v, ⟨s, h⟩) := by
  simp only [opX, mkV]; cases (first.isEmpty && (cs.toList.map (ev s)).all V.atomic) <;> rfl
theorem opX_build {C : Ctx} {Φ : Oracle} {t : TypeId} {ps : Array (Nat × Operand)} : opX E C Φ ⟨d, .build t ps, ty, pos, af, none⟩ ⟨s, h⟩ = (buildV E.P t (ps.toList.map fun p => (p.1, ev s p.2))).map fun v => (v, ⟨s, h⟩) := by
  simp only [opX, buildV]
  cases tZero E.P t with
  | none => rfl
  | some z =>
    simp only [Option.bind_some]
    cases (buildOk E.P t && (z.storable && z.cells.length == E.P.cellsOf t))
    · rfl
    · simp only [cond_true, Option.map_map]; rfl
theorem opX_alloc {Φ : Oracle} {t : TypeId} : opX E ⟨fn, 0, 0⟩ Φ ⟨some d', .alloc t, ty, pos, af, none⟩ ⟨s, h⟩ = (zeroV E.P t).map fun z => newV E fn d' z ⟨s, h⟩ := by
  simp only [opX, zeroV]
  cases tZero E.P t with
  | none => rfl
  | some z =>
    simp only [Option.bind_some, newV]
    cases (z.storable && z.cells.length == E.P.cellsOf t)
    · rfl
    · simp only [cond_true, Option.map_some]; cases E.esc fn d' <;> rfl
theorem opX_box {Φ : Oracle} {t : TypeId} {x : Operand} : opX E ⟨fn, 0, 0⟩ Φ ⟨some d', .box t x, ty, pos, af, none⟩ ⟨s, h⟩ = bif (ev s x).storable && (ev s x).cells.length == E.P.cellsOf t then some (newV E fn d' (ev s x) ⟨s, h⟩) else none := by
  simp only [opX, newV]
  cases ((ev s x).storable && (ev s x).cells.length == E.P.cellsOf t)
  · rfl
  · simp only [cond_true]; cases E.esc fn d' <;> rfl
theorem wR_call {c : Call} {f : Operand} {g : Nat} {caps : List V} (hc : c.callee = .value f) (hf : ev s f = .fn g caps) : wR E fn an ops (⟨d, .call c, ty, pos, af, none⟩ :: l) i k ⟨s, h⟩ Q =
    ((c.args.toList.map (ev s)).all V.storable = true ∧ wK E fn an ops l i k d s g (c.args.toList.map (ev s) ++ caps) h Q) := by
  have hp : preOk an i ⟨d, .call c, ty, pos, af, none⟩ s = true := preOk_plain rfl (by simp) (by simp)
  have hq : ∀ h', postOk an i ⟨d, .call c, ty, pos, af, none⟩ h h' = callOk an i h h' := fun h' => by cases an <;> rfl
  simp only [wR, wL, wO, hp, wX, hc, hf, hq, true_and, wK]

theorem wR_move {x : Operand} : wR E fn an ops (⟨d, .move x, ty, pos, af, none⟩ :: l) i k ⟨s, h⟩ Q = wR E fn an ops l (i + 1) k ⟨putV s d (ev s x), h⟩ Q := by
  have hp : preOk an i ⟨d, .move x, ty, pos, af, none⟩ s = true := preOk_plain rfl (by simp) (by simp)
  have hq : ∀ h h', postOk an i ⟨d, .move x, ty, pos, af, none⟩ h h' = true := fun h h' => postOk_plain rfl
  simp only [wR, wL, wO, hp, wX, hq, true_and, opX, optP_map, wP, wV, optP_some]
theorem wR_binOp {op : BinOp} {t : TypeId} {x y : Operand} {t2 : TypeId} : wR E fn an ops (⟨d, .binOp op t x y t2, ty, pos, af, none⟩ :: l) i k ⟨s, h⟩ Q = wP E fn an ops l (i + 1) k d ⟨s, h⟩ (binV E op t (ev s x) (ev s y)) Q := by
  have hp : preOk an i ⟨d, .binOp op t x y t2, ty, pos, af, none⟩ s = true := preOk_plain rfl (by simp) (by simp)
  have hq : ∀ h h', postOk an i ⟨d, .binOp op t x y t2, ty, pos, af, none⟩ h h' = true := fun h h' => postOk_plain rfl
  simp only [wR, wL, wO, hp, wX, hq, true_and, opX, optP_map, wP, wV]
theorem wR_assign {x : Operand} : wR E fn an ops (⟨d, .assign x, ty, pos, af, none⟩ :: l) i k ⟨s, h⟩ Q = wV E fn an ops l (i + 1) k d (bif (ev s x).isLptr then none else some (ev s x, ⟨s, h⟩)) Q := by
  have hp : preOk an i ⟨d, .assign x, ty, pos, af, none⟩ s = true := preOk_plain rfl (by simp) (by simp)
  have hq : ∀ h h', postOk an i ⟨d, .assign x, ty, pos, af, none⟩ h h' = true := fun h h' => postOk_plain rfl
  simp only [wR, wL, wO, hp, wX, hq, true_and, opX, optP_map, wP, wV]
theorem wR_fieldAddr {t : TypeId} {x : Operand} {f : Nat} : wR E fn an ops (⟨d, .fieldAddr t x f, ty, pos, af, none⟩ :: l) i k ⟨s, h⟩ Q = wP E fn an ops l (i + 1) k d ⟨s, h⟩ (fieldAddrV E.P t (ev s x) f) Q := by
  have hp : preOk an i ⟨d, .fieldAddr t x f, ty, pos, af, none⟩ s = true := preOk_plain rfl (by simp) (by simp)
  have hq : ∀ h h', postOk an i ⟨d, .fieldAddr t x f, ty, pos, af, none⟩ h h' = true := fun h h' => postOk_plain rfl
  simp only [wR, wL, wO, hp, wX, hq, true_and, opX, optP_map, wP, wV]
theorem wR_index {t : TypeId} {x y : Operand} : wR E fn an ops (⟨d, .index t x y, ty, pos, af, none⟩ :: l) i k ⟨s, h⟩ Q = wP E fn an ops l (i + 1) k d ⟨s, h⟩ (indexV E.P t (ev s x) (ev s y)) Q := by
  have hp : preOk an i ⟨d, .index t x y, ty, pos, af, none⟩ s = true := preOk_plain rfl (by simp) (by simp)
  have hq : ∀ h h', postOk an i ⟨d, .index t x y, ty, pos, af, none⟩ h h' = true := fun h h' => postOk_plain rfl
  simp only [wR, wL, wO, hp, wX, hq, true_and, opX, optP_map, wP, wV]
theorem wR_makeSlice {t : TypeId} {x y : Operand} : wR E fn an ops (⟨d, .makeSlice t x y, ty, pos, af, none⟩ :: l) i k ⟨s, h⟩ Q = wV E fn an ops l (i + 1) k d ((makeSliceV E.P h t (ev s x) (ev s y)).map fun r => (r.1, ⟨s, r.2⟩)) Q := by
  have hp : preOk an i ⟨d, .makeSlice t x y, ty, pos, af, none⟩ s = true := preOk_plain rfl (by simp) (by simp)
  have hq : ∀ h h', postOk an i ⟨d, .makeSlice t x y, ty, pos, af, none⟩ h h' = true := fun h h' => postOk_plain rfl
  simp only [wR, wL, wO, hp, wX, hq, true_and, opX, optP_map, wP, wV]
theorem wR_build {t : TypeId} {ps : Array (Nat × Operand)} : wR E fn an ops (⟨d, .build t ps, ty, pos, af, none⟩ :: l) i k ⟨s, h⟩ Q = wP E fn an ops l (i + 1) k d ⟨s, h⟩ (buildV E.P t (ps.toList.map fun p => (p.1, ev s p.2))) Q := by
  have hp : preOk an i ⟨d, .build t ps, ty, pos, af, none⟩ s = true := preOk_plain rfl (by simp) (by simp)
  have hq : ∀ h h', postOk an i ⟨d, .build t ps, ty, pos, af, none⟩ h h' = true := fun h h' => postOk_plain rfl
  simp only [wR, wL, wO, hp, wX, hq, true_and, opX_build, optP_map, wP, wV]
theorem wR_alloc {t : TypeId} : wR E fn an ops (⟨some d', .alloc t, ty, pos, af, none⟩ :: l) i k ⟨s, h⟩ Q = wV E fn an ops l (i + 1) k (some d') ((zeroV E.P t).map fun z => newV E fn d' z ⟨s, h⟩) Q := by
  have hp : preOk an i ⟨some d', .alloc t, ty, pos, af, none⟩ s = true := preOk_plain rfl (by simp) (by simp)
  have hq : ∀ h h', postOk an i ⟨some d', .alloc t, ty, pos, af, none⟩ h h' = true := fun h h' => postOk_plain rfl
  simp only [wR, wL, wO, hp, wX, hq, true_and, opX_alloc, optP_map, wP, wV]
theorem wR_box {t : TypeId} {x : Operand} : wR E fn an ops (⟨some d', .box t x, ty, pos, af, none⟩ :: l) i k ⟨s, h⟩ Q = wV E fn an ops l (i + 1) k (some d') (bif (ev s x).storable && (ev s x).cells.length == E.P.cellsOf t then some (newV E fn d' (ev s x) ⟨s, h⟩) else none) Q := by
  have hp : preOk an i ⟨some d', .box t x, ty, pos, af, none⟩ s = true := preOk_plain rfl (by simp) (by simp)
  have hq : ∀ h h', postOk an i ⟨some d', .box t x, ty, pos, af, none⟩ h h' = true := fun h h' => postOk_plain rfl
  simp only [wR, wL, wO, hp, wX, hq, true_and, opX_box, optP_map, wP, wV]
theorem wR_buildSlice {t : TypeId} {len : Nat} {ps : Array (Nat × Operand)} : wR E fn an ops (⟨some d', .buildSlice t len ps, ty, pos, af, none⟩ :: l) i k ⟨s, h⟩ Q = wV E fn an ops l (i + 1) k (some d') ((tElem E.P t).bind fun et => bif Nat.ble (len * E.P.cellsOf et) 16777216 && Nat.blt 0 (E.P.cellsOf et) then
      (bif Nat.beq len 0 then some undefV else zOk E.P et).bind fun z => (setPart (E.P.cellsOf et) (List.replicate len z) (ps.toList.map fun p => (p.1, ev s p.2))).bind fun es => newS E fn d' es len (E.P.cellsOf et) ⟨s, h⟩ else none) Q := by
  have hp : preOk an i ⟨some d', .buildSlice t len ps, ty, pos, af, none⟩ s = true := preOk_plain rfl (by simp) (by simp)
  have hq : ∀ h h', postOk an i ⟨some d', .buildSlice t len ps, ty, pos, af, none⟩ h h' = true := fun h h' => postOk_plain rfl
  simp only [wR, wL, wO, hp, wX, hq, true_and, opX, optP_map, wP, wV, newS]
theorem wR_pick {c x y : Operand} : wR E fn an ops (⟨d, .pick c x y, ty, pos, af, none⟩ :: l) i k ⟨s, h⟩ Q = wP E fn an ops l (i + 1) k d ⟨s, h⟩ (pickV (ev s c) (ev s x) (ev s y)) Q := by
  have hp : preOk an i ⟨d, .pick c x y, ty, pos, af, none⟩ s = true := preOk_plain rfl (by simp) (by simp)
  have hq : ∀ h h', postOk an i ⟨d, .pick c x y, ty, pos, af, none⟩ h h' = true := fun h h' => postOk_plain rfl
  simp only [wR, wL, wO, hp, wX, hq, true_and, opX_pick, optP_map, wP, wV]
theorem wR_unOp {op : UnOp} {t : TypeId} {x : Operand} : wR E fn an ops (⟨d, .unOp op t x, ty, pos, af, none⟩ :: l) i k ⟨s, h⟩ Q = wP E fn an ops l (i + 1) k d ⟨s, h⟩ (notV op (ev s x)) Q := by
  have hp : preOk an i ⟨d, .unOp op t x, ty, pos, af, none⟩ s = true := preOk_plain rfl (by simp) (by simp)
  have hq : ∀ h h', postOk an i ⟨d, .unOp op t x, ty, pos, af, none⟩ h h' = true := fun h h' => postOk_plain rfl
  simp only [wR, wL, wO, hp, wX, hq, true_and, opX_unOp, optP_map, wP, wV]
theorem wR_nilCheck {x : Operand} : wR E fn an ops (⟨d, .nilCheck x, ty, pos, af, none⟩ :: l) i k ⟨s, h⟩ Q = wP E fn an ops l (i + 1) k d ⟨s, h⟩ (chkV (ev s x)) Q := by
  have hp : preOk an i ⟨d, .nilCheck x, ty, pos, af, none⟩ s = true := preOk_plain rfl (by simp) (by simp)
  have hq : ∀ h h', postOk an i ⟨d, .nilCheck x, ty, pos, af, none⟩ h h' = true := fun h h' => postOk_plain rfl
  simp only [wR, wL, wO, hp, wX, hq, true_and, opX_nilCheck, optP_map, wP, wV]
theorem wR_convert {t1 t2 : TypeId} {x : Operand} : wR E fn an ops (⟨d, .convert t1 t2 x, ty, pos, af, none⟩ :: l) i k ⟨s, h⟩ Q = wP E fn an ops l (i + 1) k d ⟨s, h⟩ (convV E.P t1 t2 (ev s x)) Q := by
  have hp : preOk an i ⟨d, .convert t1 t2 x, ty, pos, af, none⟩ s = true := preOk_plain rfl (by simp) (by simp)
  have hq : ∀ h h', postOk an i ⟨d, .convert t1 t2 x, ty, pos, af, none⟩ h h' = true := fun h h' => postOk_plain rfl
  simp only [wR, wL, wO, hp, wX, hq, true_and, opX_convert, optP_map, wP, wV]
theorem wR_extract {x : Operand} {j : Nat} : wR E fn an ops (⟨d, .extract x j, ty, pos, af, none⟩ :: l) i k ⟨s, h⟩ Q = wP E fn an ops l (i + 1) k d ⟨s, h⟩ (extrV (ev s x) j) Q := by
  have hp : preOk an i ⟨d, .extract x j, ty, pos, af, none⟩ s = true := preOk_plain rfl (by simp) (by simp)
  have hq : ∀ h h', postOk an i ⟨d, .extract x j, ty, pos, af, none⟩ h h' = true := fun h h' => postOk_plain rfl
  simp only [wR, wL, wO, hp, wX, hq, true_and, opX_extract, optP_map, wP, wV]
theorem wR_makeFunc {f : Nat} {first cs : Array Operand} : wR E fn an ops (⟨d, .makeFunc (.func f) first cs, ty, pos, af, none⟩ :: l) i k ⟨s, h⟩ Q = wP E fn an ops l (i + 1) k d ⟨s, h⟩ (mkV f first.isEmpty (cs.toList.map (ev s))) Q := by
  have hp : preOk an i ⟨d, .makeFunc (.func f) first cs, ty, pos, af, none⟩ s = true := preOk_plain rfl (by simp) (by simp)
  have hq : ∀ h h', postOk an i ⟨d, .makeFunc (.func f) first cs, ty, pos, af, none⟩ h h' = true := fun h h' => postOk_plain rfl
  simp only [wR, wL, wO, hp, wX, hq, true_and, opX_makeFunc, optP_map, wP, wV]
theorem wR_loadN {t : TypeId} {p : Operand} : wR E fn none ops (⟨d, .load t p, ty, pos, af, none⟩ :: l) i k ⟨s, h⟩ Q = wP E fn none ops l (i + 1) k d ⟨s, h⟩ (loadV E.P ⟨s, h⟩ t (ev s p)) Q := by
  simp only [wR, wL, wO, preOk, wX, postOk, true_and, opX, optP_map, wP]
theorem wR_loadA {A : List (Nat × Nat × Bool)} {t : TypeId} {p : Operand} : wR E fn (some A) ops (⟨d, .load t p, ty, pos, af, none⟩ :: l) i k ⟨s, h⟩ Q = (annOk A i (ev s p) = true ∧ wP E fn (some A) ops l (i + 1) k d ⟨s, h⟩ (loadV E.P ⟨s, h⟩ t (ev s p)) Q) := by
  have hq : ∀ h h', postOk (some A) i ⟨d, .load t p, ty, pos, af, none⟩ h h' = true := fun h h' => postOk_plain rfl
  simp only [wR, wL, wO, preOk, addrOf, wX, hq, true_and, opX, optP_map, wP]
theorem wR_storeN {t : TypeId} {p x : Operand} : wR E fn none ops (⟨d, .store t p x, ty, pos, af, none⟩ :: l) i k ⟨s, h⟩ Q = wV E fn none ops l (i + 1) k d ((storeV E.P ⟨fn, 0, 0⟩ ⟨s, h⟩ t (ev s p) (ev s x)).map fun st => (undefV, st)) Q := by
  simp only [wR, wL, wO, preOk, wX, postOk, true_and, opX, optP_map, wV]
theorem wR_storeA {A : List (Nat × Nat × Bool)} {t : TypeId} {p x : Operand} : wR E fn (some A) ops (⟨d, .store t p x, ty, pos, af, none⟩ :: l) i k ⟨s, h⟩ Q = (annOk A i (ev s p) = true ∧ wV E fn (some A) ops l (i + 1) k d ((storeV E.P ⟨fn, 0, 0⟩ ⟨s, h⟩ t (ev s p) (ev s x)).map fun st => (undefV, st)) Q) := by
  have hq : ∀ h h', postOk (some A) i ⟨d, .store t p x, ty, pos, af, none⟩ h h' = true := fun h h' => postOk_plain rfl
  simp only [wR, wL, wO, preOk, addrOf, wX, hq, true_and, opX, optP_map, wV]
theorem wR_sliceN {t : TypeId} {x : Operand} {lo hi mx : Option Operand} : wR E fn none ops (⟨d, .slice t x lo hi mx, ty, pos, af, none⟩ :: l) i k ⟨s, h⟩ Q = wP E fn none ops l (i + 1) k d ⟨s, h⟩ (sliceV E.P h t (ev s x) (lo.map (ev s)) (hi.map (ev s)) (mx.map (ev s))) Q := by
  simp only [wR, wL, wO, preOk, wX, postOk, true_and, opX, optP_map, wP]
theorem wR_sliceA {A : List (Nat × Nat × Bool)} {t : TypeId} {x : Operand} {lo hi mx : Option Operand} : wR E fn (some A) ops (⟨d, .slice t x lo hi mx, ty, pos, af, none⟩ :: l) i k ⟨s, h⟩ Q = ((!(annLoc A i) || !(ev s x).isSl) = true ∧ wP E fn (some A) ops l (i + 1) k d ⟨s, h⟩ (sliceV E.P h t (ev s x) (lo.map (ev s)) (hi.map (ev s)) (mx.map (ev s))) Q) := by
  have hq : ∀ h h', postOk (some A) i ⟨d, .slice t x lo hi mx, ty, pos, af, none⟩ h h' = true := fun h h' => postOk_plain rfl
  simp only [wR, wL, wO, preOk, addrOf, wX, hq, true_and, opX, optP_map, wP]
theorem wR_indexAddrN {t : TypeId} {x y : Operand} : wR E fn none ops (⟨d, .indexAddr t x y, ty, pos, af, none⟩ :: l) i k ⟨s, h⟩ Q = wP E fn none ops l (i + 1) k d ⟨s, h⟩ (indexAddrV E.P h t (ev s x) (ev s y)) Q := by
  simp only [wR, wL, wO, preOk, wX, postOk, true_and, opX, optP_map, wP]
theorem wR_indexAddrA {A : List (Nat × Nat × Bool)} {t : TypeId} {x y : Operand} : wR E fn (some A) ops (⟨d, .indexAddr t x y, ty, pos, af, none⟩ :: l) i k ⟨s, h⟩ Q = ((!(annLoc A i) || !(ev s x).isSl) = true ∧ wP E fn (some A) ops l (i + 1) k d ⟨s, h⟩ (indexAddrV E.P h t (ev s x) (ev s y)) Q) := by
  have hq : ∀ h h', postOk (some A) i ⟨d, .indexAddr t x y, ty, pos, af, none⟩ h h' = true := fun h h' => postOk_plain rfl
  simp only [wR, wL, wO, preOk, addrOf, wX, hq, true_and, opX, optP_map, wP]
theorem wR_len {c : Call} {x : V} {t : TypeId} (hc : c.callee = .builtin .len) (ha : c.args.toList.map (ev s) = [x]) (ht : c.argTypes.toList = [t]) : wR E fn none ops (⟨d, .call c, ty, pos, af, none⟩ :: l) i k ⟨s, h⟩ Q = wP E fn none ops l (i + 1) k d ⟨s, h⟩ (lenV E.P t x) Q := by
  simp only [wR, wL, wO, preOk, wX, hc, postOk, true_and, opX, ha, ht, optP_map, optP_cond, wP, wV]
theorem wR_append {c : Call} {x y : V} {t u : TypeId} (hc : c.callee = .builtin .append) (ha : c.args.toList.map (ev s) = [x, y]) (ht : c.argTypes.toList = [t, u]) : wR E fn none ops (⟨d, .call c, ty, pos, af, none⟩ :: l) i k ⟨s, h⟩ Q = ((tElem E.P u).isSome = true ∧ wV E fn none ops l (i + 1) k d ((appendV E.P ⟨fn, 0, 0⟩ h t x y).map fun r => (r.1, ⟨s, r.2⟩)) Q) := by
  simp only [wR, wL, wO, preOk, wX, hc, postOk, true_and, opX, ha, ht, optP_map, optP_cond, wP, wV]

end
end
end
end Go.DM
