/-
  Sorting thirteen records, twelve of which are in order; slices.SortFunc. pdqsort of thirteen records, twelve of which are in order; slices.SortFunc. slices.CompactFunc on records: a list in strict order, or one with one twin. compose.order: records in order, each once.
-/
import Derived.Test.YtpfhhcjdknmbbaaGreatDoorF2
set_option linter.all false
set_option linter.unusedSimpArgs false
set_option linter.unusedVariables false
namespace Go.DM
open Go.Proofs
set_option maxRecDepth 100000
section
variable {E : Env} {fn : Nat} {an : Option (List (Nat × Nat × Bool))} {ops : Array Oper} {l : List Oper} {i : Nat} {k : List Todo} {d : Option Nat} {s : List V} {Q : Ex → St → Prop} {h : Heap} {vs : List V} {ar : List Arr}

/-- One round of a loop, then the loop again. -/
def roundK (E : Env) (fn : Nat) (c : Code) (k : List Todo) (Q : Ex → St → Prop) : Ex → St → Prop
  | .normal, st => wLp E fn c k st Q
  | .exit id, st => kont E fn Q k (.exit id) st
  | .ret, st => kont E fn Q k .ret st
@[simp] theorem roundK_normal {c : Code} {st : St} : roundK E fn c k Q .normal st = wLp E fn c k st Q := rfl
@[simp] theorem roundK_exit {c : Code} {id : Nat} {st : St} : roundK E fn c k Q (.exit id) st = kont E fn Q k (.exit id) st := rfl
@[simp] theorem roundK_ret {c : Code} {st : St} : roundK E fn c k Q .ret st = kont E fn Q k .ret st := rfl
theorem wLp_round {c : Code} {st : St} (h : wS E fn c [] st (roundK E fn c k Q)) : wLp E fn c k st Q := by
  refine LoopP.roundC (wC_mono h fun x st h => ?_)
  cases x with
  | normal => exact h
  | exit id => exact h
  | ret => exact h

theorem isort0_ev {id ver n a : Nat} {o : Bool} {cap : Option Nat} {rs : List Rec} (hA : ar[id]? = some ⟨rs.map encR, ver, o, 12⟩) (hn : rs.length = n) (hn1 : n ≤ 1000) (han : a ≤ n) :
    ∃ v h', Ev TE 273 [.sl id ver 0 n cap, .int .i64 a, .int .i64 a, .fn 183 []] ⟨vs, ar⟩ v h' ∧ ISort vs ar id ver o a a rs v h' := by
  refine spec_raw 53 [] rfl rfl rfl Tryz.func273 rfl rfl rfl fun Q hQ hN => ?_
  have hself : ar = ar.set id ⟨rs.map encR, ver, o, 12⟩ := by
    have := (List.getElem?_eq_some_iff.1 hA).2
    rw [← this]; simp
  have e1 : IntKind.i64.wrap ((a : Int) + 1) = ((a + 1 : Nat) : Int) := wrap_id (by omega) (by omega)
  have e2 : ¬ (a + 1 < a) := by omega
  have e3 : ¬ ((a : Int) + 1 < a) := by omega
  simp [e1]
  refine wLp_once ?_
  simp (maxSteps := 10000000) [e2, e3, hQ, hN]
  exact ⟨rs, rfl, by rw [← hself], rs.take a, [], [], rs.drop a, by simp, by simp, by rw [List.length_take]; omega, by simp, .refl _, by simp [Sorted]⟩
theorem isort'_ev {id ver n a b : Nat} {o : Bool} {cap : Option Nat} {rs : List Rec} (hA : ar[id]? = some ⟨rs.map encR, ver, o, 12⟩) (hn : rs.length = n) (hn1 : n ≤ 1000) (hok : ∀ r ∈ rs, OkR r) (hab : a ≤ b) (hbn : b ≤ n) :
    ∃ v h', Ev TE 273 [.sl id ver 0 n cap, .int .i64 a, .int .i64 b, .fn 183 []] ⟨vs, ar⟩ v h' ∧ ISort vs ar id ver o a b rs v h' := by
  by_cases e : a = b
  · subst e; exact isort0_ev hA hn hn1 hbn
  · exact isort_ev hA hn hn1 hok (by omega) hbn
theorem pdq12'_ev {id ver n a b : Nat} {o : Bool} {cap : Option Nat} {rs : List Rec} {lim : Int} (hA : ar[id]? = some ⟨rs.map encR, ver, o, 12⟩) (hn : rs.length = n) (hn1 : n ≤ 1000) (hok : ∀ r ∈ rs, OkR r) (hab : a ≤ b) (hbn : b ≤ n) (h12 : b ≤ a + 12) :
    ∃ v h', Ev TE 233 [.sl id ver 0 n cap, .int .i64 a, .int .i64 b, .int .i64 lim, .fn 183 []] ⟨vs, ar⟩ v h' ∧ ISort vs ar id ver o a b rs v h' := by
  refine spec_raw 148 [] rfl rfl rfl Tryz.func233 rfl rfl rfl fun Q hQ hN => ?_
  simp
  refine wLp_once ?_
  have e1 : IntKind.i64.wrap ((b : Int) - a) = (b : Int) - a := wrap_id (by omega) (by omega)
  have e2 : (b : Int) - a ≤ 12 := by omega
  simp (maxSteps := 10000000) [e1, e2]
  refine wK_spec _ (isort'_ev hA hn hn1 hok hab hbn) ?_
  rintro v h' hs
  obtain ⟨rs', rfl, rfl, hseg⟩ := hs
  simp [hQ]
  exact ⟨rs', rfl, rfl, hseg⟩
theorem len13_ev : Ev TE 209 [.int .u64 13] h (.int .i64 4) h := ev_of_run (n := 30) (by kernel_rfl)

theorem perm_sorted {l m : List Rec} (hl : Sorted l) (hm : Sorted m) (hp : l.Perm m) : l = m :=
  hp.eq_of_pairwise (fun a b _ _ h1 h2 => by
    have := cmpR_swap a b
    exact cmpR_zero.1 (by omega)) hl hm

theorem seg_perm {a b : Nat} {rs rs' : List Rec} (h : SegSort a b rs rs') : rs'.Perm rs := by
  obtain ⟨pre, seg, seg', post, rfl, rfl, _, _, hp, _⟩ := h
  exact (List.Perm.append_right post hp).append_left pre

/-- Parted, then both sides sorted: sorted. -/
theorem parted_sorted {rs L L1 L2 : List Rec} {p : Rec} {mid : Nat} (h : Parted rs p L mid) (h1 : (SegSort 0 mid L L1 ∧ SegSort (mid + 1) 13 L1 L2) ∨ (SegSort (mid + 1) 13 L L1 ∧ SegSort 0 mid L1 L2)) : Sorted L2 ∧ L2.Perm rs := by
  obtain ⟨X, Y, hX, hXl, hlo, hhi⟩ : ∃ X Y, L = X ++ p :: Y ∧ X.length = mid ∧ (∀ x ∈ X, cmpR x p < 0) ∧ (∀ y ∈ Y, ¬ cmpR y p < 0) := by
    have hm : mid < L.length := (List.getElem?_eq_some_iff.1 h.at_).1
    have hv := (List.getElem?_eq_some_iff.1 h.at_).2
    refine ⟨L.take mid, L.drop (mid + 1), ?_, by rw [List.length_take]; omega, fun x hx => ?_, fun y hy => ?_⟩
    · rw [← hv, List.getElem_cons_drop hm, List.take_append_drop]
    · obtain ⟨k, hk, rfl⟩ := List.mem_take_iff_getElem.1 hx
      exact h.lo k _ (by omega) (List.getElem?_eq_getElem (by omega))
    · obtain ⟨k, hk, rfl⟩ := List.mem_drop_iff_getElem.1 hy
      exact h.hi (mid + 1 + k) _ (by omega) (List.getElem?_eq_getElem (by omega))
  have hYl : mid + 1 + Y.length = 13 := by have := h.len; rw [hX] at this; simp at this; omega
  have key : ∀ X' Y', X'.Perm X → Y'.Perm Y → Sorted X' → Sorted Y' → L2 = X' ++ p :: Y' → Sorted L2 ∧ L2.Perm rs := by
    intro X' Y' hpx hpy hsx hsy e
    constructor
    · rw [e]; unfold Sorted
      rw [List.pairwise_append, List.pairwise_cons]
      refine ⟨hsx, ⟨fun y hy => le_of_not (hhi y (hpy.mem_iff.1 hy)), hsy⟩, fun x hx y hy => ?_⟩
      have h1 := le_of_lt' (hlo x (hpx.mem_iff.1 hx))
      rcases List.mem_cons.1 hy with rfl | hy
      · exact h1
      · exact le_trans' h1 (le_of_not (hhi y (hpy.mem_iff.1 hy)))
    · rw [e]
      refine List.Perm.trans ?_ (hX ▸ h.perm)
      exact hpx.append (hpy.cons p)
  rcases h1 with ⟨⟨pre, seg, seg', post, e1, e2, e3, e4, e5, e6⟩, ⟨pre', seg2, seg2', post2, f1, f2, f3, f4, f5, f6⟩⟩ | ⟨⟨pre, seg, seg', post, e1, e2, e3, e4, e5, e6⟩, ⟨pre', seg2, seg2', post2, f1, f2, f3, f4, f5, f6⟩⟩
  · have : pre = [] := List.length_eq_zero_iff.1 e3
    subst this
    simp at e1 e2 e4
    rw [hX] at e1
    obtain ⟨g1, g2⟩ := List.append_inj e1 (by omega)
    subst g1; subst g2
    have hsl := e5.length_eq
    have e7 : L1 = (seg' ++ [p]) ++ Y := by rw [e2]; simp
    rw [e7] at f1
    obtain ⟨g1, g2⟩ := List.append_inj f1 (by simp; omega)
    have : post2 = [] := by
      have h3 : Y.length = seg2.length + post2.length := by rw [g2, List.length_append]
      exact List.length_eq_zero_iff.1 (by omega)
    subst this
    simp at g2
    refine key seg' seg2' e5 (g2 ▸ f5) e6 f6 ?_
    rw [f2, ← g1]; simp
  · have e7 : (X ++ [p]) ++ Y = pre ++ (seg ++ post) := by rw [← e1, hX]; simp
    obtain ⟨g1, g2⟩ := List.append_inj e7 (by simp; omega)
    have : post = [] := by
      have h3 : Y.length = seg.length + post.length := by rw [g2, List.length_append]
      exact List.length_eq_zero_iff.1 (by omega)
    subst this
    simp at g2
    have : pre' = [] := List.length_eq_zero_iff.1 f3
    subst this
    simp at f1 f2 f4
    have e8 : X ++ (p :: seg') = seg2 ++ post2 := by rw [← f1, e2, ← g1]; simp
    obtain ⟨g3, g4⟩ := List.append_inj e8 (by omega)
    subst g3
    exact key seg2' seg' f5 (g2 ▸ e5) f6 e6 (by rw [f2, ← g4])
end
end Go.DM
namespace Go.DM
open Go.Proofs
set_option maxRecDepth 100000
section
variable {h : Heap} {vs : List V} {ar : List Arr}
theorem strict_sorted {A : List Rec} (h : Strict A) : Sorted A := List.Pairwise.imp (fun {_ _} h => Int.le_of_lt h) h
theorem strict_at {A : List Rec} {i j : Nat} {x y : Rec} (h : Strict A) (hij : i < j) (hx : A[i]? = some x) (hy : A[j]? = some y) : cmpR x y < 0 := by
  obtain ⟨h1, rfl⟩ := List.getElem?_eq_some_iff.1 hx
  obtain ⟨h2, rfl⟩ := List.getElem?_eq_some_iff.1 hy
  exact List.pairwise_iff_getElem.1 h i j h1 h2 hij
def SortP (vs : List V) (ar : List Arr) (id ver : Nat) (o : Bool) (rs : List Rec) (v : V) (h' : Heap) : Prop := ∃ w rs', v = .tuple [] ∧ h' = ⟨vs ++ w, ar.set id ⟨rs'.map encR, ver, o, 12⟩⟩ ∧ rs'.Perm rs ∧ Sorted rs'
set_option maxHeartbeats 4000000 in
theorem pdq13_ev {id ver : Nat} {o : Bool} {cap : Option Nat} {A : List Rec} {z : Rec} (hA : ar[id]? = some ⟨(A ++ [z]).map encR, ver, o, 12⟩) (hn : A.length = 12) (hs : Strict A) (hok : ∀ r ∈ A ++ [z], OkR r) :
    ∃ v h', Ev TE 233 [.sl id ver 0 13 cap, .int .i64 0, .int .i64 13, .int .i64 4, .fn 183 []] ⟨vs, ar⟩ v h' ∧ SortP vs ar id ver o (A ++ [z]) v h' := by
  refine spec_raw 148 [] rfl rfl rfl Tryz.func233 rfl rfl rfl fun Q hQ hN => ?_
  have hid : id < ar.length := (List.getElem?_eq_some_iff.1 hA).1
  have hself : ar = ar.set id ⟨(A ++ [z]).map encR, ver, o, 12⟩ := by
    have := (List.getElem?_eq_some_iff.1 hA).2
    rw [← this]; simp
  obtain ⟨x3, h3⟩ : ∃ x, A[3]? = some x := ⟨_, List.getElem?_eq_getElem (by omega)⟩
  obtain ⟨x6, h6⟩ : ∃ x, A[6]? = some x := ⟨_, List.getElem?_eq_getElem (by omega)⟩
  obtain ⟨x9, h9⟩ : ∃ x, A[9]? = some x := ⟨_, List.getElem?_eq_getElem (by omega)⟩
  obtain ⟨x0, h0⟩ : ∃ x, A[0]? = some x := ⟨_, List.getElem?_eq_getElem (by omega)⟩
  obtain ⟨w, hw⟩ : ∃ x, A[11]? = some x := ⟨_, List.getElem?_eq_getElem (by omega)⟩
  have okA : ∀ {j : Nat} {x}, A[j]? = some x → OkR x := fun hx => hok _ (List.mem_append_left _ (List.mem_of_getElem? hx))
  have atA : ∀ {j : Nat} {x}, A[j]? = some x → (A ++ [z])[j]? = some x := fun {j x} hx => by
    rw [List.getElem?_append_left (List.getElem?_eq_some_iff.1 hx).1]; exact hx
  have atE : ∀ {j : Nat} {x}, A[j]? = some x → ((A ++ [z]).map encR)[j]? = some (encR x) := fun hx => by
    rw [List.getElem?_map, atA hx]; rfl
  have hpiv := pivot_ev (vs := vs) (cap := cap) hA (by simp [hn]) (atE h3) (atE h6) (atE h9) (okA h3) (okA h6) (okA h9) (by have := strict_at hs (by omega) h3 h6; have := cmpR_swap x3 x6; omega) (by have := strict_at hs (by omega) h6 h9; have := cmpR_swap x6 x9; omega)
  have hpar := partial_ev (vs := vs ++ [.int .i64 0]) (cap := cap) hA hn hs hok hw
  have w13 : IntKind.i64.wrap 13 = 13 := wrap_id (by omega) (by omega)
  have q1 : Int.tdiv 13 8 = 1 := by decide
  have w1 : IntKind.i64.wrap 1 = 1 := wrap_id (by omega) (by omega)
  simp
  refine wLp_round ?_
  simp (maxSteps := 10000000) [w13]
  by_cases hzw : cmpR z w < 0
  case neg =>
    have e : (!decide (cmpR z w < 0)) = true := by simp [hzw]
    rw [e] at hpar
    simp (maxSteps := 10000000) [wK_ev hpiv, wK_ev hpar, hQ, hN]
    refine ⟨[.int .i64 0], A ++ [z], rfl, by rw [← hself], .refl _, ?_⟩
    unfold Sorted
    rw [List.pairwise_append]
    refine ⟨strict_sorted hs, by simp, fun x hx y hy => ?_⟩
    simp at hy
    subst hy
    obtain ⟨j, hj, rfl⟩ := List.mem_iff_getElem.1 hx
    have hwz := le_of_not hzw
    by_cases e : j = 11
    · subst e
      have := (List.getElem?_eq_some_iff.1 hw).2
      rw [this]; exact hwz
    · exact le_trans' (Int.le_of_lt (strict_at hs (show j < 11 by omega) (List.getElem?_eq_getElem hj) hw)) hwz
  have e : (!decide (cmpR z w < 0)) = false := by simp [hzw]
  rw [e] at hpar
  simp (maxSteps := 10000000) [wK_ev hpiv, wK_ev hpar]
  refine wK_spec _ (part_ev hA (by simp [hn]) hok (atA h6) (atA h0)) ?_
  rintro v h' hp
  obtain ⟨L, mid, b, rfl, rfl, hpt⟩ := hp
  have hm13 : mid < 13 := by have := (List.getElem?_eq_some_iff.1 hpt.at_).1; have := hpt.len; omega
  have okL : ∀ r ∈ L, OkR r := fun r hr => hok r (hpt.perm.mem_iff.1 hr)
  have wm0 : IntKind.i64.wrap ((mid : Int) - 0) = mid := by rw [wrap_id (by omega) (by omega)]; omega
  have wm : IntKind.i64.wrap (mid : Int) = mid := wrap_id (by omega) (by omega)
  have wm1 : IntKind.i64.wrap (13 - (mid : Int)) = 13 - (mid : Int) := wrap_id (by omega) (by omega)
  have wm2 : IntKind.i64.wrap ((mid : Int) + 1) = ((mid + 1 : Nat) : Int) := wrap_id (by omega) (by omega)
  have wm3 : IntKind.i64.wrap (13 - ((mid + 1 : Nat) : Int)) = 13 - ((mid + 1 : Nat) : Int) := wrap_id (by omega) (by omega)
  have hidL : ∀ A, (ar.set id A)[id]? = some A := fun A => by rw [List.getElem?_set_self hid]
  by_cases hlt : (mid : Int) < 13 - (mid : Int)
  · simp (maxSteps := 10000000) [q1, w1, wm0, wm, wm1, hlt]
    have hc := pdq12'_ev (vs := vs ++ [.int .i64 0]) (ar := ar.set id ⟨L.map encR, ver, o, 12⟩) (cap := cap) (lim := 4) (a := 0) (b := mid) (hidL _) hpt.len (by omega) okL (by omega) (by omega) (by omega)
    refine wK_spec _ hc ?_
    rintro v h' hp
    obtain ⟨L1, rfl, rfl, hs1⟩ := hp
    have okL1 : ∀ r ∈ L1, OkR r := fun r hr => okL r ((seg_perm hs1).mem_iff.1 hr)
    have hl1 : L1.length = 13 := by rw [(seg_perm hs1).length_eq]; exact hpt.len
    have wle : 13 - ((mid + 1 : Nat) : Int) ≤ 12 := by omega
    simp (maxSteps := 10000000) [wm2, -Int.natCast_add]
    refine wLp_once ?_
    simp (maxSteps := 10000000) [wm3, wle, -Int.natCast_add]
    have hc := isort'_ev (vs := vs ++ [.int .i64 0]) (ar := ar.set id ⟨L1.map encR, ver, o, 12⟩) (cap := cap) (a := mid + 1) (b := 13) (hidL _) hl1 (by omega) okL1 (by omega) (by omega)
    refine wK_spec _ hc ?_
    rintro v h' hp
    obtain ⟨L2, rfl, rfl, hs2⟩ := hp
    have hfin := parted_sorted hpt (.inl ⟨hs1, hs2⟩)
    simp (maxSteps := 10000000) [hQ]
    exact ⟨[.int .i64 0], L2, rfl, rfl, hfin.2, hfin.1⟩
  · simp (maxSteps := 10000000) [q1, w1, wm0, wm, wm1, hlt, wm2, -Int.natCast_add]
    have hc := pdq12'_ev (vs := vs ++ [.int .i64 0]) (ar := ar.set id ⟨L.map encR, ver, o, 12⟩) (cap := cap) (lim := 4) (a := mid + 1) (b := 13) (hidL _) hpt.len (by omega) okL (by omega) (by omega) (by omega)
    refine wK_spec _ hc ?_
    rintro v h' hp
    obtain ⟨L1, rfl, rfl, hs1⟩ := hp
    have okL1 : ∀ r ∈ L1, OkR r := fun r hr => okL r ((seg_perm hs1).mem_iff.1 hr)
    have hl1 : L1.length = 13 := by rw [(seg_perm hs1).length_eq]; exact hpt.len
    have wle : (mid : Int) ≤ 12 := by omega
    simp (maxSteps := 10000000)
    refine wLp_once ?_
    simp (maxSteps := 10000000) [wm, wm0, wle]
    have hc := isort'_ev (vs := vs ++ [.int .i64 0]) (ar := ar.set id ⟨L1.map encR, ver, o, 12⟩) (cap := cap) (a := 0) (b := mid) (hidL _) hl1 (by omega) okL1 (by omega) (by omega)
    refine wK_spec _ hc ?_
    rintro v h' hp
    obtain ⟨L2, rfl, rfl, hs2⟩ := hp
    have hfin := parted_sorted hpt (.inr ⟨hs1, hs2⟩)
    simp (maxSteps := 10000000) [hQ]
    exact ⟨[.int .i64 0], L2, rfl, rfl, hfin.2, hfin.1⟩

/-- slices.SortFunc: records that are few, or in order but for the last. -/
theorem sort_ev {id ver n : Nat} {o : Bool} {cap : Option Nat} {rs : List Rec} (hA : ar[id]? = some ⟨rs.map encR, ver, o, 12⟩) (hn : rs.length = n) (hn0 : n ≤ 12 ∨ ∃ A z, rs = A ++ [z] ∧ A.length = 12 ∧ Strict A) (hok : ∀ r ∈ rs, OkR r) :
    ∃ v h', Ev TE 182 [.sl id ver 0 n cap, .fn 183 []] ⟨vs, ar⟩ v h' ∧ SortP vs ar id ver o rs v h' := by
  refine spec_raw 14 [] rfl rfl rfl Tryz.func182 rfl rfl rfl fun Q hQ hN => ?_
  rcases hn0 with h12 | ⟨A, z, rfl, hl, hs⟩
  · obtain ⟨x, hx⟩ := len_ev (h := ⟨vs, ar⟩) (n := n) (by omega)
    have w : IntKind.u64.wrap (n : Int) = n := (by decide : ∀ n : Nat, n < 13 → IntKind.u64.wrap (n : Int) = n) n (by omega)
    have hc := pdq12'_ev (vs := vs) (cap := cap) (lim := x) (a := 0) (b := n) hA hn (by omega) hok (by omega) (by omega) (by omega)
    simp [w, wK_ev hx]
    refine wK_spec _ hc ?_
    rintro v h' hp
    obtain ⟨L2, rfl, rfl, hs2⟩ := hp
    simp [hQ, hN]
    obtain ⟨pre, seg, seg', post, rfl, rfl, h1, h2, h3, h4⟩ := hs2
    have : pre = [] := List.length_eq_zero_iff.1 h1
    subst this
    simp at h2 hn
    have : post = [] := List.length_eq_zero_iff.1 (by omega)
    subst this
    exact ⟨[], seg', rfl, by simp, by simpa using h3, by simpa using h4⟩
  · have : n = 13 := by rw [← hn]; simp [hl]
    subst this
    have w : IntKind.u64.wrap 13 = 13 := by decide
    have hc := pdq13_ev (vs := vs) (cap := cap) hA hl hs hok
    simp [w, wK_ev len13_ev]
    refine wK_spec _ hc ?_
    rintro v h' hp
    obtain ⟨w, rs', rfl, rfl, h1, h2⟩ := hp
    simp [hQ, hN]
    exact ⟨w, rs', rfl, rfl, h1, h2⟩
end
end Go.DM
namespace Go.DM
open Go.Proofs
set_option maxRecDepth 100000
section
variable {h : Heap} {vs : List V} {ar : List Arr}
theorem strict_ne {A : List Rec} {i j : Nat} {x y : Rec} (h : Strict A) (hij : i < j) (hx : A[i]? = some x) (hy : A[j]? = some y) : y ≠ x := fun e => by
  have := strict_at h hij hx hy
  rw [e, cmpR_self] at this
  omega
set_option maxHeartbeats 4000000 in
/-- Nothing to cut. -/
theorem compact_strict {id ver n : Nat} {o : Bool} {cap : Option Nat} {rs : List Rec} (hA : ar[id]? = some ⟨rs.map encR, ver, o, 12⟩) (hn : rs.length = n) (hn1 : n ≤ 1000) (hs : Strict rs) (hok : ∀ r ∈ rs, OkR r) :
    Ev TE 184 [.sl id ver 0 n cap, .fn 125 []] ⟨vs, ar⟩ (.sl id ver 0 n cap) ⟨vs, ar⟩ := by
  refine ev_raw 66 [.tmp 4] rfl rfl rfl Tryz.func184 rfl rfl rfl fun Q hQ hN => ?_
  by_cases h2 : n < 2
  · have h2' : (n : Int) < 2 := by omega
    simp [h2, h2', hQ]
  have h2' : ¬ (n : Int) < 2 := by omega
  simp [h2, h2']
  obtain ⟨I, hI⟩ : ∃ I : Nat → (Nat → V) → Heap → Prop, I = fun m f hp => ∃ i : Nat, i + m = n ∧ 1 ≤ i ∧ f 5 = .int .i64 i ∧ hp = ⟨vs, ar⟩ := ⟨_, rfl⟩
  refine wLp_ind [4, 5, 6, 7, 12, 13, 14, 15, 16, 17, 18, 19, 20, 21, 22, 23, 24, 25, 26, 27, 28, 29, 30, 31, 32, 33, 34, 35, 36, 37, 38, 39, 40, 41, 42, 43, 44, 45, 46, 47, 48, 49, 50, 51, 52, 53, 54, 55, 56, 57, 58, 59, 60, 61, 62, 63, 64] I (n - 1) (by rw [hI]; exact ⟨1, by omega, by omega, rfl, rfl⟩) ?_
  intro m f hp hi
  rw [hI] at hi
  obtain ⟨i, hm, hi1, f5, rfl⟩ := hi
  by_cases hin : i < n
  · have hinI : (i : Int) < n := by omega
    obtain ⟨x, hx⟩ : ∃ x, rs[i]? = some x := ⟨_, List.getElem?_eq_getElem (by omega)⟩
    obtain ⟨y, hy⟩ : ∃ y, rs[i - 1]? = some y := ⟨_, List.getElem?_eq_getElem (by omega)⟩
    have hxo := hok x (List.mem_of_getElem? hx)
    have hyo := hok y (List.mem_of_getElem? hy)
    have hne : x ≠ y := strict_ne hs (by omega) hy hx
    obtain ⟨es, hes⟩ : ∃ es, es = rs.map encR := ⟨_, rfl⟩
    rw [← hes] at hA
    have hel : es.length = n := by rw [hes]; simp [hn]
    have gx : es[i]'(by omega) = encR x := get_of (by rw [hes, List.getElem?_map, hx]; rfl) _
    have gy : es[i - 1]'(by omega) = encR y := get_of (by rw [hes, List.getElem?_map, hy]; rfl) _
    have e1 : IntKind.i64.wrap ((i : Int) - 1) = ((i - 1 : Nat) : Int) := by rw [wrap_id (by omega) (by omega)]; omega
    have e2 : IntKind.i64.wrap ((i : Int) + 1) = ((i + 1 : Nat) : Int) := wrap_id (by omega) (by omega)
    have hi1n : i - 1 < n := by omega
    simp (maxSteps := 10000000) [-getAt, -dirtyAt, dirtyAt_hit, dirtyAt_miss, dirtyAt_done, dirtyAt_rest, f5, hin, hinI, hA, hel, gx, gy, e1, e2, hxo, hyo, hne, hi1n]
    refine loopK_normal ?_ (m - 1) ?_ ?_
    · rfl
    · omega
    rw [hI]
    exact ⟨i + 1, by omega, by omega, rfl, rfl⟩
  · have hinI : ¬ (i : Int) < n := by omega
    simp (maxSteps := 10000000) [-getAt, -dirtyAt, dirtyAt_hit, dirtyAt_miss, dirtyAt_done, dirtyAt_rest, f5, hin, hinI, hQ]
def zR : V := .agg [.str [], .str [], .str [], .str [], .int .i64 0, .int .i64 0, .int .i64 0, .int .i64 0, .int .i64 0, .int .i64 0, .int .i64 0, .nils]
set_option maxHeartbeats 8000000 in
/-- One twin is cut. -/
theorem compact_twin {id ver n : Nat} {o : Bool} {P R : List Rec} {x : Rec} (hA : ar[id]? = some ⟨(P ++ x :: x :: R).map encR, ver, o, 12⟩) (hn : (P ++ x :: R).length = n) (hn1 : n ≤ 1000) (hs : Strict (P ++ x :: R)) (hok : ∀ r ∈ P ++ x :: R, OkR r) :
    Ev TE 184 [.sl id ver 0 (n + 1) none, .fn 125 []] ⟨vs, ar⟩ (.sl id ver 0 n none) ⟨vs, ar.set id ⟨(P ++ x :: R).map encR ++ [zR], ver, o, 12⟩⟩ := by
  refine ev_raw 66 [.tmp 4] rfl rfl rfl Tryz.func184 rfl rfl rfl fun Q hQ hN => ?_
  have hid : id < ar.length := (List.getElem?_eq_some_iff.1 hA).1
  have hset : ∀ A, (ar.set id A)[id]? = some A := fun A => by rw [List.getElem?_set_self hid]
  have hself : ar = ar.set id ⟨(P ++ x :: x :: R).map encR, ver, o, 12⟩ := by
    have := (List.getElem?_eq_some_iff.1 hA).2
    rw [← this]; simp
  have hnl : P.length + 1 + R.length = n := by rw [← hn]; simp; omega
  have h2 : ¬ n + 1 < 2 := by omega
  have h2' : ¬ (n : Int) + 1 < 2 := by omega
  simp [h2, h2']
  obtain ⟨I, hI⟩ : ∃ I : Nat → (Nat → V) → Heap → Prop, I = fun m f hp => ∃ i : Nat, i + m = P.length + 1 ∧ 1 ≤ i ∧ f 5 = .int .i64 i ∧ hp = ⟨vs, ar⟩ := ⟨_, rfl⟩
  refine wLp_ind [4, 5, 6, 7, 12, 13, 14, 15, 16, 17, 18, 19, 20, 21, 22, 23, 24, 25, 26, 27, 28, 29, 30, 31, 32, 33, 34, 35, 36, 37, 38, 39, 40, 41, 42, 43, 44, 45, 46, 47, 48, 49, 50, 51, 52, 53, 54, 55, 56, 57, 58, 59, 60, 61, 62, 63, 64] I P.length (by rw [hI]; exact ⟨1, by omega, by omega, rfl, rfl⟩) ?_
  intro m f hp hi
  rw [hI] at hi
  obtain ⟨i, hm, hi1, f5, rfl⟩ := hi
  have hin : i < n + 1 := by omega
  have hinI : (i : Int) < (n : Int) + 1 := by omega
  have hinI' : (i : Int) < ((n + 1 : Nat) : Int) := by omega
  obtain ⟨es, hes⟩ : ∃ es, es = (P ++ x :: x :: R).map encR := ⟨_, rfl⟩
  rw [← hes] at hA
  have hel : es.length = n + 1 := by rw [hes]; simp; omega
  have e1 : IntKind.i64.wrap ((i : Int) - 1) = ((i - 1 : Nat) : Int) := by rw [wrap_id (by omega) (by omega)]; omega
  have e2 : IntKind.i64.wrap ((i : Int) + 1) = ((i + 1 : Nat) : Int) := wrap_id (by omega) (by omega)
  have hi1n : i - 1 < n + 1 := by omega
  by_cases hit : i < P.length + 1
  · have hat : ∀ j, j ≤ P.length → (P ++ x :: x :: R)[j]? = (P ++ x :: R)[j]? := fun j hj => by
      by_cases e : j < P.length
      · rw [List.getElem?_append_left e, List.getElem?_append_left e]
      · have : j = P.length := by omega
        subst this
        simp
    obtain ⟨a, ha⟩ : ∃ x', (P ++ x :: R)[i]? = some x' := ⟨_, List.getElem?_eq_getElem (by omega)⟩
    obtain ⟨b, hb⟩ : ∃ x', (P ++ x :: R)[i - 1]? = some x' := ⟨_, List.getElem?_eq_getElem (by omega)⟩
    have hao := hok a (List.mem_of_getElem? ha)
    have hbo := hok b (List.mem_of_getElem? hb)
    have hne : a ≠ b := strict_ne hs (by omega) hb ha
    have gx : es[i]'(by omega) = encR a := get_of (by rw [hes, List.getElem?_map, hat _ (by omega), ha]; rfl) _
    have gy : es[i - 1]'(by omega) = encR b := get_of (by rw [hes, List.getElem?_map, hat _ (by omega), hb]; rfl) _
    simp (maxSteps := 10000000) [-getAt, -dirtyAt, dirtyAt_hit, dirtyAt_miss, dirtyAt_done, dirtyAt_rest, f5, hin, hinI, hinI', hA, hel, gx, gy, e1, e2, hao, hbo, hne, hi1n]
    refine loopK_normal ?_ (m - 1) ?_ ?_
    · rfl
    · omega
    rw [hI]
    exact ⟨i + 1, by omega, by omega, rfl, rfl⟩
  obtain ⟨p, hp⟩ : ∃ p, p = P.length := ⟨_, rfl⟩
  have hiP : i = p + 1 := by omega
  subst hiP
  have hxo := hok x (by simp)
  rw [← hp] at hnl hm hit
  have gx : es[p + 1]'(by omega) = encR x := get_of (by rw [hes, List.getElem?_map, hp]; simp) _
  have gy : es[p]'(by omega) = encR x := get_of (by rw [hes, List.getElem?_map, hp]; simp) _
  have hpn : p ≤ n := by omega
  have hpn1 : p < n + 1 := by omega
  have hpi : (0 : Int) ≤ (p : Int) + 1 := by omega
  have hsub : n + 1 - (p + 1) = n - p := by omega
  have e1' : IntKind.i64.wrap (((p + 1 : Nat) : Int) - 1) = (p : Int) := by rw [wrap_id (by omega) (by omega)]; omega
  simp (maxSteps := 10000000) [-getAt, -dirtyAt, dirtyAt_hit, dirtyAt_miss, dirtyAt_done, dirtyAt_rest, f5, hin, hinI, hinI', hA, hel, gx, gy, e1', hxo, hi1n, hpn, hpn1, hpi, hsub, -Int.natCast_add]
  obtain ⟨J, hJ⟩ : ∃ J : Nat → (Nat → V) → Heap → Prop, J = fun m g hp => ∃ (c : Nat) (W : List Rec) (y : Rec) (R2 : List Rec), W ++ y :: R2 = P ++ x :: R ∧ R2.length = m ∧ W.length + 1 = p + c ∧ 1 ≤ c ∧ g 5 = .int .i64 ((p + c : Nat) : Int) ∧ g 7 = .int .i64 c ∧ hp = ⟨vs, ar.set id ⟨(W ++ y :: y :: R2).map encR, ver, o, 12⟩⟩ := ⟨_, rfl⟩
  refine wLp_ind [5, 7, 32, 33, 34, 35, 36, 37, 38, 39, 40, 41, 42, 43, 44, 45, 46, 47, 48, 49, 50, 51, 52, 53, 54, 55, 56, 57, 58] J R.length (by rw [hJ]; exact ⟨1, P, x, R, rfl, rfl, by omega, by omega, rfl, rfl, by rw [← hself]⟩) ?_
  intro m1 g hp1 hi1
  rw [hJ] at hi1
  obtain ⟨c, W, y, R2, hU, hm1, hW, hc1, g5, g7, rfl⟩ := hi1
  have hUl : W.length + 1 + R2.length = n := by rw [← hn, ← hU]; simp; omega
  obtain ⟨es2, hes2⟩ : ∃ es, es = (W ++ y :: y :: R2).map encR := ⟨_, rfl⟩
  have hel2 : es2.length = n + 1 := by rw [hes2]; simp; omega
  have hyo : OkR y := hok y (by rw [← hU]; simp)
  have hW' : W.length = p + c - 1 := by omega
  cases R2 with
  | cons r R3 =>
    have hro : OkR r := hok r (by rw [← hU]; simp)
    have hne : r ≠ y := by
      rw [← hU] at hs
      exact strict_ne hs (show W.length < W.length + 1 by omega) (by simp) (by simp)
    simp at hUl hm1
    have hcn : c < n - p := by omega
    have hcn' : (c : Int) < ((n - p : Nat) : Int) := by omega
    have hc1n : c - 1 < n - p := by omega
    have gr : es2[p + 1 + c]'(by omega) = encR r := get_of (by rw [hes2, List.getElem?_map, show p + 1 + c = W.length + 2 by omega]; simp) _
    have gy2 : es2[p + 1 + (c - 1)]'(by omega) = encR y := get_of (by rw [hes2, List.getElem?_map, show p + 1 + (c - 1) = W.length + 1 by omega]; simp) _
    have gy3 : es2[p + c]'(by omega) = encR y := get_of (by rw [hes2, List.getElem?_map, show p + c = W.length + 1 by omega]; simp) _
    have hb1 : p + 1 + c < n + 1 := by omega
    have hb2 : p + 1 + (c - 1) < n + 1 := by omega
    have hb3 : p + c < n + 1 := by omega
    have hb3I : (0 : Int) ≤ (p : Int) + c := by omega
    have d1 : IntKind.i64.wrap ((c : Int) - 1) = ((c - 1 : Nat) : Int) := by rw [wrap_id (by omega) (by omega)]; omega
    have d2 : IntKind.i64.wrap ((c : Int) + 1) = ((c + 1 : Nat) : Int) := wrap_id (by omega) (by omega)
    have d3 : IntKind.i64.wrap (((p + c : Nat) : Int) + 1) = ((p + (c + 1) : Nat) : Int) := wrap_id (by omega) (by omega)
    obtain ⟨es3, hes3⟩ : ∃ es, es = (((W ++ [y]) ++ r :: r :: R3).map encR) := ⟨_, rfl⟩
    have hsw : es2.set (p + c) (encR r) = es3 := by
      rw [hes3, hes2, ← List.map_set]
      congr 1
      rw [List.set_append_right _ _ (by omega), show p + c - W.length = 1 by omega]
      simp
    rw [← hes2]
    simp (maxSteps := 10000000) [-getAt, -setAt, setE, -dirtyAt, dirtyAt_hit, dirtyAt_miss, dirtyAt_done, dirtyAt_rest, g5, g7, hset, hel2, hcn, hcn', hc1n, gr, gy2, gy3, hb1, hb2, hb3, hb3I, d1, d2, d3, hyo, hro, hne, hsw, -Int.natCast_add]
    refine loopK_normal ?_ (m1 - 1) ?_ ?_
    · rfl
    · omega
    rw [hJ]
    exact ⟨c + 1, W ++ [y], r, R3, by rw [← hU]; simp, by omega, by simp; omega, by omega, rfl, rfl, by rw [hes3]⟩
  | nil =>
    simp at hUl hm1
    have hcn : ¬ c < n - p := by omega
    have hcn' : ¬ (c : Int) < ((n - p : Nat) : Int) := by omega
    have hpc : p + c = n := by omega
    rw [hpc] at g5
    have h10 : n + 1 - n = 1 := by omega
    have htk : List.take n es2 ++ zR :: List.drop (n + 1) es2 = (P ++ x :: R).map encR ++ [zR] := by
      rw [List.drop_of_length_le (by omega), hes2, ← hU]
      congr 1
      rw [← List.map_take]
      congr 1
      rw [show W ++ y :: [y] = (W ++ [y]) ++ [y] by simp, List.take_left' (by simp; omega)]
    rw [← hes2]
    simp (maxSteps := 10000000) [-getAt, -dirtyAt, dirtyAt_hit, dirtyAt_miss, dirtyAt_done, dirtyAt_rest, g5, g7, hset, hel2, hcn, hcn', h10, clearV, htk, hQ]
    exact congrArg (fun es => ar.set id ⟨es, ver, o, 12⟩) (htk.trans (by simp))
end
end Go.DM
namespace Go.DM
open Go.Proofs
set_option maxRecDepth 100000
section
variable {h : Heap} {vs : List V} {ar : List Arr}
theorem set11 {r : Rec} : setAt 11 [.fl true false (r.smp.map (.int .i64))] (encR r) = some (encR r) := rfl
theorem get11 {r : Rec} : getAt false 1 11 (encR r) = some (.fl true false (r.smp.map (.int .i64))) := rfl
theorem set_same {α : Type} {l : List α} {i : Nat} (h : i < l.length) : l.set i l[i] = l := List.set_getElem_self h

def OrdP (vs : List V) (ar : List Arr) (rs : List Rec) (v : V) (h' : Heap) : Prop := ∃ w rs' o es, v = .sl ar.length 0 0 rs'.length none ∧ h' = ⟨vs ++ w, ar ++ [⟨es, 0, o, 12⟩]⟩ ∧ rs'.length ≤ es.length ∧ es.take rs'.length = rs'.map encR ∧ Strict rs' ∧ (∀ x, x ∈ rs' ↔ x ∈ rs) ∧ (Strict rs → rs' = rs ∧ es = rs.map encR)

/-- A sorted list of records that are all in A or z: strict, or with one twin. -/
theorem sorted_twin {A rs : List Rec} {z : Rec} (hs : Strict A) (hp : rs.Perm (A ++ [z])) (hr : Sorted rs) : Strict rs ∨ ∃ P x R, rs = P ++ x :: x :: R ∧ Strict (P ++ x :: R) := by
  by_cases hz : z ∈ A
  · right
    obtain ⟨P, R, rfl⟩ := List.append_of_mem hz
    refine ⟨P, z, R, ?_, hs⟩
    refine perm_sorted hr ?_ (hp.trans ?_)
    · have h1 := strict_sorted hs
      unfold Sorted at h1 ⊢
      rw [List.pairwise_append, List.pairwise_cons] at h1
      rw [List.pairwise_append, List.pairwise_cons, List.pairwise_cons]
      refine ⟨h1.1, ⟨fun y hy => ?_, h1.2.1⟩, fun x hx y hy => ?_⟩
      · rcases List.mem_cons.1 hy with rfl | hy
        · rw [cmpR_self]; omega
        · exact h1.2.1.1 y hy
      · rcases List.mem_cons.1 hy with rfl | hy
        · exact h1.2.2 x hx _ (by simp)
        · exact h1.2.2 x hx y hy
    · simpa [List.perm_append_comm] using (List.perm_append_comm (l₁ := P ++ z :: R) (l₂ := [z])).trans (List.perm_middle (l₁ := P) (a := z) (l₂ := z :: R)).symm
  · left
    have hnd : rs.Nodup := hp.nodup_iff.2 (by
      rw [List.nodup_append]
      exact ⟨strict_nodup hs, by simp, fun a ha b hb e => hz (by simp at hb; rw [← hb, ← e]; exact ha)⟩)
    refine List.Pairwise.imp₂ (fun a b h1 h2 => ?_) hr hnd
    rcases Int.lt_or_eq_of_le h1 with h | h
    · exact h
    · exact absurd (cmpR_zero.1 h) h2
theorem strict_eq {l m : List Rec} (hl : Strict l) (hm : Strict m) (h : ∀ x, x ∈ l ↔ x ∈ m) : l = m := sorted_unique ltR_irrefl (fun _ _ _ => ltR_trans) hl hm h
set_option maxHeartbeats 4000000 in
theorem order_ev {A : List Rec} {z : Rec} {rs : List Rec} {x : V} (hcl : Ev TE 120 [x] ⟨vs, ar⟩ (.sl ar.length 0 0 rs.length none) ⟨vs, ar ++ [⟨rs.map encR, 0, true, 12⟩]⟩) (hx : x.storable = true) (hrs : (rs = A ++ [z] ∧ A.length ≤ 12) ∨ (rs = A ∧ A.length ≤ 12)) (hs : Strict A) (hok : ∀ r ∈ rs, OkR r) :
    ∃ v h', Ev TE 122 [x] ⟨vs, ar⟩ v h' ∧ OrdP vs ar rs v h' := by
  refine spec_raw 27 [.tmp 2] rfl rfl rfl Tryz.func122 rfl rfl rfl fun Q hQ hN => ?_
  have hAt : ∀ Y : Arr, (ar ++ [Y])[ar.length]? = some Y := fun Y => by simp
  have hSt : ∀ X Y : Arr, (ar ++ [X]).set ar.length Y = ar ++ [Y] := fun X Y => by simp
  simp [wK_ev hcl, hx]
  obtain ⟨n, hn⟩ : ∃ n, n = rs.length := ⟨_, rfl⟩
  rw [← hn]
  have hn13 : n ≤ 13 := by
    rcases hrs with ⟨h, h'⟩ | ⟨h, h'⟩
    · rw [hn, h]; simp; omega
    · rw [hn, h]; omega
  obtain ⟨I, hI⟩ : ∃ I : Nat → (Nat → V) → Heap → Prop, I = fun m f hp => ∃ i : Nat, i + m = n ∧ f 9 = .int .i64 i ∧ hp = ⟨vs, ar ++ [⟨rs.map encR, 0, true, 12⟩]⟩ := ⟨_, rfl⟩
  refine wLp_ind [4, 9, 10, 11, 12, 13, 14, 15, 16, 17, 18, 19, 20, 21, 22] I n (by rw [hI]; exact ⟨0, by omega, rfl, rfl⟩) ?_
  intro m f hp hi
  rw [hI] at hi
  obtain ⟨i, hm, f9, rfl⟩ := hi
  by_cases hin : i < n
  · have hinI : (i : Int) < n := by omega
    obtain ⟨r, hr⟩ : ∃ r, rs[i]? = some r := ⟨_, List.getElem?_eq_getElem (by omega)⟩
    have hro := hok r (List.mem_of_getElem? hr)
    have hrp : 1 ≤ r.smp.length := hro.pos
    have hrl : r.smp.length ≤ 100000 := by have := hro.len; omega
    obtain ⟨es, hes⟩ : ∃ es, es = rs.map encR := ⟨_, rfl⟩
    rw [← hes]
    have hel : es.length = n := by rw [hes]; simp [hn]
    have gr : es[i]'(by omega) = encR r := get_of (by rw [hes, List.getElem?_map, hr]; rfl) _
    have hss : es.set i (encR r) = es := by rw [← gr]; exact set_same (by omega)
    have e2 : IntKind.i64.wrap ((i : Int) + 1) = ((i + 1 : Nat) : Int) := wrap_id (by omega) (by omega)
    simp (maxSteps := 10000000) [-getAt, -setAt, set11, get11, -dirtyAt, dirtyAt_hit, dirtyAt_miss, dirtyAt_done, dirtyAt_rest, f9, hin, hinI, hAt, hSt, hel, gr, hss, e2, hrp, hrl]
    refine loopK_normal ?_ (m - 1) ?_ ?_
    · rfl
    · omega
    rw [hI]
    exact ⟨i + 1, by omega, rfl, by rw [hes]⟩
  · have hinI : ¬ (i : Int) < n := by omega
    simp (maxSteps := 10000000) [-dirtyAt, dirtyAt_hit, dirtyAt_miss, dirtyAt_done, dirtyAt_rest, f9, hin, hinI]
    have hsort := sort_ev (vs := vs) (cap := none) (hAt ⟨rs.map encR, 0, true, 12⟩) hn.symm (by
      rcases hrs with ⟨h, h'⟩ | ⟨h, h'⟩
      · by_cases h12 : n ≤ 12
        · exact .inl h12
        · exact .inr ⟨A, z, h, by rw [h] at hn; simp at hn; omega, hs⟩
      · exact .inl (by rw [hn, h]; exact h')) hok
    refine wK_spec _ hsort ?_
    rintro v h' hp
    obtain ⟨w, L, rfl, rfl, hperm, hsrt⟩ := hp
    have hLn : L.length = n := by rw [hperm.length_eq, hn]
    have okL : ∀ r ∈ L, OkR r := fun r hr => hok r (hperm.mem_iff.1 hr)
    have htw : Strict L ∨ ∃ P x R, L = P ++ x :: x :: R ∧ Strict (P ++ x :: R) := by
      rcases hrs with ⟨h, _⟩ | ⟨h, _⟩
      · exact sorted_twin hs (h ▸ hperm) hsrt
      · left
        have : L = A := perm_sorted hsrt (strict_sorted hs) (h ▸ hperm)
        rw [this]; exact hs
    rcases htw with hst | ⟨P, y, R, hL, hst⟩
    · have hcp := compact_strict (vs := vs ++ w) (cap := none) (ar := ar ++ [⟨L.map encR, 0, true, 12⟩]) (hAt ⟨L.map encR, 0, true, 12⟩) hLn (by omega) hst okL
      simp (maxSteps := 10000000) [hSt, wK_ev hcp, hQ, -List.append_assoc]
      exact ⟨w, L, true, L.map encR, by rw [hLn], rfl, by simp, by simp, hst, fun x => hperm.mem_iff, fun h => by rw [strict_eq hst h fun x => hperm.mem_iff]; exact ⟨rfl, rfl⟩⟩
    · have hPn : (P ++ y :: R).length + 1 = n := by rw [← hLn, hL]; simp; omega
      have hmem : ∀ x, x ∈ P ++ y :: R ↔ x ∈ rs := fun x => by
        rw [← hperm.mem_iff, hL]; simp
      have hcp := compact_twin (vs := vs ++ w) (ar := ar ++ [⟨L.map encR, 0, true, 12⟩]) (id := ar.length) (ver := 0) (o := true) (by rw [hAt, hL]) rfl (by omega) hst fun r hr => hok r ((hmem r).1 hr)
      rw [hPn] at hcp
      simp (maxSteps := 10000000) [hSt, wK_ev hcp, hQ, -List.append_assoc, -List.length_append, -List.map_append]
      refine ⟨w, P ++ y :: R, true, (P ++ y :: R).map encR ++ [zR], rfl, ?_, by simp, List.take_left' (by simp), hst, hmem, fun h => ?_⟩
      · rfl
      · exfalso
        have h1 := perm_sorted hsrt (strict_sorted h) hperm
        rw [hL] at h1
        have h2 := strict_nodup h
        rw [← h1] at h2
        simp [List.nodup_append] at h2
end
end Go.DM
