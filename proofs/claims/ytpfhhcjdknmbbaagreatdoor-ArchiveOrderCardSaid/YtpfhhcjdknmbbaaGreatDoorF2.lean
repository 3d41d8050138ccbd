/-
  Are two records the same? Sorting at most twelve records; order's copy. Partition of thirteen records. Partition of thirteen records: from its text. Printed by mk_r8.py.
-/
import Derived.Test.YtpfhhcjdknmbbaaGreatDoorF1
set_option linter.all false
set_option linter.unusedSimpArgs false
set_option linter.unusedVariables false
namespace Go.DM
open Go.Proofs
set_option maxRecDepth 100000
section
variable {fn : Nat} {an : Option (List (Nat × Nat × Bool))} {ops : Array Oper} {l : List Oper} {i : Nat} {kk : List Todo} {d : Option Nat} {s : List V} {Q : Ex → St → Prop} {h : Heap} {vs : List V} {ar : List Arr}

theorem equal_ev {t g t' g' : Bool} {v w : List Int} (hn : v.length ≤ 100000) : Ev TE 185 [.fl t g (v.map (.int .i64)), .fl t' g' (w.map (.int .i64))] h (.bool (decide (v = w))) h := by
  refine ev_pure 26 [.tmp 4] rfl rfl rfl Tryz.func185 rfl rfl rfl (args' := [.fl t g (v.map (.int .i64)), .fl t' g' (w.map (.int .i64))]) rfl fun Q hQ hN => ?_
  by_cases hl : v.length = w.length
  · have b1 : ((v.length : Int) != w.length) = false := by simp [hl]
    simp [b1]
    obtain ⟨I, hI⟩ : ∃ I : Nat → (Nat → V) → Heap → Prop, I = fun m f hp => ∃ j : Nat, j + m = v.length ∧ f 13 = .int .i64 j ∧ v.take j = w.take j ∧ hp = ⟨[], []⟩ := ⟨_, rfl⟩
    refine wLp_ind [4, 5, 13, 14, 15, 16, 17, 18, 19, 20, 21, 22, 23, 24, 25] I v.length (by rw [hI]; exact ⟨0, by simp, rfl, by simp, rfl⟩) ?_
    intro m f hp hi
    rw [hI] at hi
    obtain ⟨j, hm, f13, ho, rfl⟩ := hi
    by_cases hlt : j < v.length
    · have hlw : j < w.length := by omega
      obtain ⟨x, hx⟩ : ∃ x, v[j] = x := ⟨_, rfl⟩
      obtain ⟨y, hy⟩ : ∃ y, w[j] = y := ⟨_, rfl⟩
      have e1 : IntKind.i64.wrap ((j : Int) + 1) = ((j + 1 : Nat) : Int) := wrap_id (by omega) (by omega)
      by_cases hxy : x = y
      · have b2 : (x != y) = false := by simp [hxy]
        simp [f13, hlt, hlw, hx, hy, b2, e1]
        refine loopK_normal ?_ (m - 1) ?_ ?_
        · rfl
        · omega
        rw [hI]
        exact ⟨j + 1, by omega, rfl, by rw [List.take_add_one, List.take_add_one, ho]; simp [hlt, hlw, hx, hy, hxy], rfl⟩
      · have b2 : (x != y) = true := by simp [hxy]
        have hne : v ≠ w := fun e => hxy (by subst e; rw [← hx, ← hy])
        simp [f13, hlt, hlw, hx, hy, b2, hQ, hne]
    · have he : v = w := by
        have h1 : v.take j = v := List.take_of_length_le (by omega)
        have h2 : w.take j = w := List.take_of_length_le (by omega)
        rw [← h1, ← h2, ho]
      have hlw : ¬ j < w.length := by omega
      simp [f13, hlt, hlw, hQ, he]
  · have b1 : ((v.length : Int) != w.length) = true := by simp; omega
    have hne : v ≠ w := fun e => hl (by rw [e])
    simp [b1, hQ, hne]
@[simp] theorem wK_185 {t g t' g' : Bool} {v w : List Int} (hn : v.length ≤ 100000) : wK TE fn an ops l i kk d s 185 [.fl t g (v.map (.int .i64)), .fl t' g' (w.map (.int .i64))] h Q = wR TE fn an ops l (i + 1) kk ⟨putV s d (.bool (decide (v = w))), h⟩ Q := by
  rw [wK_ev (equal_ev hn)]; simp

theorem stB_eq {a b : Nat} (ha : a < 6) (hb : b < 6) : (stB a == stB b) = decide (a = b) := by
  have h1 : a = 0 ∨ a = 1 ∨ a = 2 ∨ a = 3 ∨ a = 4 ∨ a = 5 := by omega
  have h2 : b = 0 ∨ b = 1 ∨ b = 2 ∨ b = 3 ∨ b = 4 ∨ b = 5 := by omega
  rcases h1 with rfl | rfl | rfl | rfl | rfl | rfl <;> rcases h2 with rfl | rfl | rfl | rfl | rfl | rfl <;> decide

set_option maxHeartbeats 8000000 in
theorem same_ev {a b : Rec} (ha : OkR a) (hb : OkR b) : Ev TE 125 [encR a, encR b] h (.bool (decide (a = b))) h := by
  refine ev_pure 59 [.tmp 4] rfl rfl rfl Tryz.func125 rfl rfl rfl (args' := [encR a, encR b]) rfl fun Q hQ hN => ?_
  have h3 : a.smp.length ≤ 100000 := by have := ha.len; omega
  by_cases c1 : a.i = b.i
  · have d1 : (stB a.i == stB b.i) = true := by rw [stB_eq ha.i hb.i]; simp [c1]
    by_cases c2 : a.first = b.first
    · have d2 : ((a.first : Int) == b.first) = true := by simp [c2]
      by_cases c3 : a.err = b.err
      · have d3 : ((a.err : Int) == b.err) = true := by simp [c3]
        by_cases c4 : a.seq = b.seq
        · have d4 : ((a.seq : Int) == b.seq) = true := by simp [c4]
          have he : (a = b) ↔ (a.smp = b.smp) := by
            cases a; cases b
            simp only at c1 c2 c3 c4
            subst c1 c2 c3 c4
            simp
          simp [encR, d1, d2, d3, d4, h3, hQ, he]
        · have d4 : ((a.seq : Int) == b.seq) = false := by simp; omega
          have hne : a ≠ b := fun e => c4 (by rw [e])
          simp [encR, d1, d2, d3, d4, hQ, hne]
      · have d3 : ((a.err : Int) == b.err) = false := by simp; omega
        have hne : a ≠ b := fun e => c3 (by rw [e])
        simp [encR, d1, d2, d3, hQ, hne]
    · have d2 : ((a.first : Int) == b.first) = false := by simp; omega
      have hne : a ≠ b := fun e => c2 (by rw [e])
      simp [encR, d1, d2, hQ, hne]
  · have d1 : (stB a.i == stB b.i) = false := by rw [stB_eq ha.i hb.i]; simp [c1]
    have hne : a ≠ b := fun e => c1 (by rw [e])
    simp [encR, d1, hQ, hne]
@[simp] theorem wK_125 {a b : Rec} (ha : OkR a) (hb : OkR b) : wK TE fn an ops l i kk d s 125 [encR a, encR b] h Q = wR TE fn an ops l (i + 1) kk ⟨putV s d (.bool (decide (a = b))), h⟩ Q := by
  rw [wK_ev (same_ev ha hb)]; simp

/-- A copy of numbers. -/
theorem clone_ev {t g : Bool} {w : List Int} (h0 : 1 ≤ w.length) (h1 : w.length ≤ 100000) : Ev TE 94 [.fl t g (w.map (.int .i64))] h (.fl true false (w.map (.int .i64))) h := by
  refine ev_pure 8 [.tmp 2] rfl rfl rfl Tryz.func94 rfl rfl rfl (args' := [.fl t g (w.map (.int .i64))]) rfl fun Q hQ hN => ?_
  have hem : w.isEmpty = false := by cases w <;> simp at h0 ⊢
  have hb : w.length * 8 ≤ 140737488355328 := by omega
  simp [nilEq_fl, appendV, grow, hem, hb, hQ]
@[simp] theorem wK_94 {t g : Bool} {w : List Int} (h0 : 1 ≤ w.length) (h1 : w.length ≤ 100000) : wK TE fn an ops l i kk d s 94 [.fl t g (w.map (.int .i64))] h Q = wR TE fn an ops l (i + 1) kk ⟨putV s d (.fl true false (w.map (.int .i64))), h⟩ Q := by
  rw [wK_ev (clone_ev h0 h1)]; simp

/-- A copy of records. -/
theorem cloneR_fl {t g : Bool} {rs : List Rec} (h0 : 1 ≤ rs.length) (h1 : rs.length ≤ 1000) : Ev TE 120 [.fl t g (rs.map encR)] ⟨vs, ar⟩ (.sl ar.length 0 0 rs.length none) ⟨vs, ar ++ [⟨rs.map encR, 0, true, 12⟩]⟩ := by
  refine ev_raw 8 [.tmp 2] rfl rfl rfl Tryz.func120 rfl rfl rfl fun Q hQ hN => ?_
  have hem : rs.isEmpty = false := by cases rs <;> simp at h0 ⊢
  have hb : rs.length * 144 ≤ 140737488355328 := by omega
  simp [nilEq_fl, appendV, grow, hem, hb, hQ]
theorem cloneR_sl {id ver : Nat} {o : Bool} {cap : Option Nat} {rs : List Rec} {es : List V} (hA : ar[id]? = some ⟨es, ver, o, 12⟩) (hle : rs.length ≤ es.length) (he : es.take rs.length = rs.map encR) (h0 : 1 ≤ rs.length) (h1 : rs.length ≤ 1000) :
    Ev TE 120 [.sl id ver 0 rs.length cap] ⟨vs, ar⟩ (.sl ar.length 0 0 rs.length none) ⟨vs, ar ++ [⟨rs.map encR, 0, true, 12⟩]⟩ := by
  refine ev_raw 8 [.tmp 2] rfl rfl rfl Tryz.func120 rfl rfl rfl fun Q hQ hN => ?_
  have hem : rs.isEmpty = false := by cases rs <;> simp at h0 ⊢
  have hb : rs.length * 144 ≤ 140737488355328 := by omega
  simp [nilEq_sl, appendV, grow, hem, hb, hQ, hA, hle, he]
end
end Go.DM
namespace Go.DM
open Go.Proofs
set_option maxRecDepth 100000
section
variable {E : Env} {fn : Nat} {an : Option (List (Nat × Nat × Bool))} {ops : Array Oper} {l : List Oper} {i : Nat} {k : List Todo} {d : Option Nat} {s : List V} {Q : Ex → St → Prop} {h : Heap} {vs : List V} {ar : List Arr}

/-- A loop that doesn't come round. -/
def onceK (Q : Ex → St → Prop) : Ex → St → Prop
  | .normal, _ => False
  | .exit id, st => Q (.exit id) st
  | .ret, st => Q .ret st
@[simp] theorem onceK_exit {P : Ex → St → Prop} {id : Nat} {st : St} : onceK P (.exit id) st = P (.exit id) st := rfl
@[simp] theorem onceK_ret {P : Ex → St → Prop} {st : St} : onceK P .ret st = P .ret st := rfl
theorem wLp_once {c : Code} {st : St} (h : wS E fn c [] st (onceK (kont E fn Q k))) : wLp E fn c k st Q := by
  refine LoopP.roundC (wC_mono h fun x st h => ?_)
  cases x with
  | normal => exact h.elim
  | exit id => exact h
  | ret => exact h

theorem pdq12_ev {id ver n a b : Nat} {o : Bool} {cap : Option Nat} {rs : List Rec} {lim : Int} (hA : ar[id]? = some ⟨rs.map encR, ver, o, 12⟩) (hn : rs.length = n) (hn1 : n ≤ 1000) (hok : ∀ r ∈ rs, OkR r) (hab : a < b) (hbn : b ≤ n) (h12 : b ≤ a + 12) :
    ∃ v h', Ev TE 233 [.sl id ver 0 n cap, .int .i64 a, .int .i64 b, .int .i64 lim, .fn 183 []] ⟨vs, ar⟩ v h' ∧ ISort vs ar id ver o a b rs v h' := by
  refine spec_raw 148 [] rfl rfl rfl Tryz.func233 rfl rfl rfl fun Q hQ hN => ?_
  simp
  refine wLp_once ?_
  have e1 : IntKind.i64.wrap ((b : Int) - a) = (b : Int) - a := wrap_id (by omega) (by omega)
  have e2 : (b : Int) - a ≤ 12 := by omega
  simp (maxSteps := 10000000) [e1, e2]
  refine wK_spec _ (isort_ev hA hn hn1 hok hab hbn) ?_
  rintro v h' hs
  obtain ⟨rs', rfl, rfl, hseg⟩ := hs
  simp [hQ]
  exact ⟨rs', rfl, rfl, hseg⟩

theorem len_ev {n : Nat} (hn : n ≤ 13) : ∃ x : Int, Ev TE 209 [.int .u64 n] h (.int .i64 x) h := by
  have : n = 0 ∨ n = 1 ∨ n = 2 ∨ n = 3 ∨ n = 4 ∨ n = 5 ∨ n = 6 ∨ n = 7 ∨ n = 8 ∨ n = 9 ∨ n = 10 ∨ n = 11 ∨ n = 12 ∨ n = 13 := by omega
  rcases this with rfl | rfl | rfl | rfl | rfl | rfl | rfl | rfl | rfl | rfl | rfl | rfl | rfl | rfl
  · exact ⟨0, ev_of_run (n := 30) (by kernel_rfl)⟩
  · exact ⟨1, ev_of_run (n := 30) (by kernel_rfl)⟩
  · exact ⟨2, ev_of_run (n := 30) (by kernel_rfl)⟩
  · exact ⟨2, ev_of_run (n := 30) (by kernel_rfl)⟩
  · exact ⟨3, ev_of_run (n := 30) (by kernel_rfl)⟩
  · exact ⟨3, ev_of_run (n := 30) (by kernel_rfl)⟩
  · exact ⟨3, ev_of_run (n := 30) (by kernel_rfl)⟩
  · exact ⟨3, ev_of_run (n := 30) (by kernel_rfl)⟩
  · exact ⟨4, ev_of_run (n := 30) (by kernel_rfl)⟩
  · exact ⟨4, ev_of_run (n := 30) (by kernel_rfl)⟩
  · exact ⟨4, ev_of_run (n := 30) (by kernel_rfl)⟩
  · exact ⟨4, ev_of_run (n := 30) (by kernel_rfl)⟩
  · exact ⟨4, ev_of_run (n := 30) (by kernel_rfl)⟩
  · exact ⟨4, ev_of_run (n := 30) (by kernel_rfl)⟩
end
end Go.DM
namespace Go.DM
open Go.Proofs
set_option maxRecDepth 100000
section
variable {E : Env} {fn : Nat} {Q : Ex → St → Prop} {k : List Todo} {s0 : List V} {h0 : Heap}
def loopX (D : List Nat) (s0 : List V) (I : Nat → (Nat → V) → Heap → Prop) (m : Nat) (R : (Nat → V) → Heap → Prop) (id : Nat) : Ex → St → Prop
  | .normal, st => st.s = dirtyAt (slot st.s) D 0 s0 ∧ ∃ m', m' < m ∧ I m' (slot st.s) st.h
  | .exit j, st => j = id ∧ st.s = dirtyAt (slot st.s) D 0 s0 ∧ R (slot st.s) st.h
  | .ret, _ => False
theorem loopX_normal {D : List Nat} {I : Nat → (Nat → V) → Heap → Prop} {R : (Nat → V) → Heap → Prop} {m id : Nat} {s : List V} {h : Heap} (hs : s = dirtyAt (slot s) D 0 s0) (m' : Nat) (hm : m' < m) (hI : I m' (slot s) h) : loopX D s0 I m R id .normal ⟨s, h⟩ := ⟨hs, m', hm, hI⟩
theorem loopX_exit {D : List Nat} {I : Nat → (Nat → V) → Heap → Prop} {R : (Nat → V) → Heap → Prop} {m id : Nat} {s : List V} {h : Heap} (hs : s = dirtyAt (slot s) D 0 s0) (hR : R (slot s) h) : loopX D s0 I m R id (.exit id) ⟨s, h⟩ := ⟨rfl, hs, hR⟩
/-- A loop of which it is known what holds at its one way out. -/
theorem wLp_mid {c : Code} (D : List Nat) (I : Nat → (Nat → V) → Heap → Prop) (m0 : Nat) (hI : I m0 (slot s0) h0) (R : (Nat → V) → Heap → Prop) (id : Nat)
    (round : ∀ m f h, I m f h → wS E fn c [] ⟨dirtyAt f D 0 s0, h⟩ (loopX D s0 I m R id)) (after : ∀ f h, R f h → kont E fn Q k (.exit id) ⟨dirtyAt f D 0 s0, h⟩) : wLp E fn c k ⟨s0, h0⟩ Q :=
  wLp_ind D I m0 hI fun m f h hi => by
    refine wC_mono (round m f h hi) fun x st hx => ?_
    obtain ⟨s, hp⟩ := st
    cases x with
    | normal => exact hx
    | exit j =>
      obtain ⟨rfl, h1, h2⟩ := hx
      simp only at h1 h2
      show kont E fn Q k (.exit j) ⟨s, hp⟩
      rw [h1]; exact after _ _ h2
    | ret => exact hx.elim

structure Inv (rs : List Rec) (p : Rec) (L : List Rec) (i j : Nat) : Prop where
  perm : L.Perm rs
  len : L.length = 13
  piv : L[0]? = some p
  i1 : 1 ≤ i
  j12 : j ≤ 12
  ij : i ≤ j + 1
  lo : ∀ (k : Nat) x, 1 ≤ k → k < i → L[k]? = some x → cmpR x p < 0
  hi : ∀ (k : Nat) x, j < k → L[k]? = some x → ¬ cmpR x p < 0
theorem Inv.up {rs L : List Rec} {p x : Rec} {i j : Nat} (h : Inv rs p L i j) (hij : i ≤ j) (hx : L[i]? = some x) (hc : cmpR x p < 0) : Inv rs p L (i + 1) j :=
  ⟨h.perm, h.len, h.piv, by omega, h.j12, by omega, fun k y h1 h2 h3 => by
    by_cases e : k = i
    · subst e
      rw [hx] at h3
      rw [← Option.some.inj h3]; exact hc
    · exact h.lo k y h1 (by omega) h3, h.hi⟩
theorem Inv.down {rs L : List Rec} {p x : Rec} {i j : Nat} (h : Inv rs p L i j) (hij : i ≤ j) (hx : L[j]? = some x) (hc : ¬ cmpR x p < 0) : Inv rs p L i (j - 1) := by
  have h0 := h.i1
  have h12 := h.j12
  refine ⟨h.perm, h.len, h.piv, h.i1, by omega, by omega, h.lo, fun k y h1 h3 => ?_⟩
  by_cases e : k = j
  · subst e
    rw [hx] at h3
    rw [← Option.some.inj h3]; exact hc
  · exact h.hi k y (by omega) h3
theorem swap_perm {L : List Rec} {i j : Nat} {x y : Rec} (hi : L[i]? = some x) (hj : L[j]? = some y) : ((L.set i y).set j x).Perm L := by
  have h1 : i < L.length := (List.getElem?_eq_some_iff.1 hi).1
  have h2 : j < L.length := (List.getElem?_eq_some_iff.1 hj).1
  have e1 : L[i] = x := (List.getElem?_eq_some_iff.1 hi).2
  have e2 : L[j] = y := (List.getElem?_eq_some_iff.1 hj).2
  have := @List.set_set_perm _ L i j h1 h2
  rw [e1, e2] at this
  exact this
theorem Inv.swap {rs L : List Rec} {p x y : Rec} {i j : Nat} (h : Inv rs p L i j) (hij : i < j) (hx : L[i]? = some x) (hy : L[j]? = some y) (hcx : ¬ cmpR x p < 0) (hcy : cmpR y p < 0) : Inv rs p ((L.set i y).set j x) (i + 1) (j - 1) where
  perm := (swap_perm hx hy).trans h.perm
  len := by simp [h.len]
  piv := by
    have := h.i1
    rw [List.getElem?_set_ne (by omega), List.getElem?_set_ne (by omega)]; exact h.piv
  i1 := by have := h.i1; omega
  j12 := by have := h.j12; omega
  ij := by omega
  lo := fun k z h1 h2 h3 => by
    have hl := h.len
    have := h.j12
    rw [List.getElem?_set_ne (by omega)] at h3
    by_cases e : k = i
    · subst e
      rw [List.getElem?_set_self (by omega)] at h3
      rw [← Option.some.inj h3]; exact hcy
    · rw [List.getElem?_set_ne (by omega)] at h3
      exact h.lo k z h1 (by omega) h3
  hi := fun k z h1 h3 => by
    have hl := h.len
    have := h.j12
    by_cases e : k = j
    · subst e
      rw [List.getElem?_set_self (by rw [List.length_set]; omega)] at h3
      rw [← Option.some.inj h3]; exact hcx
    · rw [List.getElem?_set_ne (by omega), List.getElem?_set_ne (by omega)] at h3
      exact h.hi k z (by omega) h3

/-- Parted: what lies ahead of mid is less than p, what lies behind isn't. -/
structure Parted (rs : List Rec) (p : Rec) (L : List Rec) (mid : Nat) : Prop where
  perm : L.Perm rs
  len : L.length = 13
  at_ : L[mid]? = some p
  lo : ∀ (k : Nat) x, k < mid → L[k]? = some x → cmpR x p < 0
  hi : ∀ (k : Nat) x, mid < k → L[k]? = some x → ¬ cmpR x p < 0
theorem Inv.fin {rs L : List Rec} {p y : Rec} {i j : Nat} (h : Inv rs p L i j) (hij : j < i) (hy : L[j]? = some y) : Parted rs p ((L.set j p).set 0 y) j where
  perm := (swap_perm hy h.piv).trans h.perm
  len := by simp [h.len]
  at_ := by
    have hl := h.len
    have := h.j12
    by_cases e : j = 0
    · subst e
      rw [h.piv] at hy
      rw [List.getElem?_set_self (by rw [List.length_set]; omega), Option.some.inj hy]
    · rw [List.getElem?_set_ne (by omega), List.getElem?_set_self (by omega)]
  lo := fun k z h1 h3 => by
    have hl := h.len
    have := h.j12
    have := h.ij
    by_cases e : k = 0
    · subst e
      rw [List.getElem?_set_self (by rw [List.length_set]; omega)] at h3
      rw [← Option.some.inj h3]
      exact h.lo j y (by omega) (by omega) hy
    · rw [List.getElem?_set_ne (by omega), List.getElem?_set_ne (by omega)] at h3
      exact h.lo k z (by omega) (by omega) h3
  hi := fun k z h1 h3 => by
    rw [List.getElem?_set_ne (by omega), List.getElem?_set_ne (by omega)] at h3
    exact h.hi k z h1 h3
end
end Go.DM
namespace Go.DM
open Go.Proofs
set_option maxRecDepth 100000
section
variable {h : Heap} {vs : List V} {ar : List Arr}
theorem setE {u v : Rec} : setAt 0 (encR v).cells (encR u) = some (encR v) := rfl
def PartP (vs : List V) (ar : List Arr) (id ver : Nat) (o : Bool) (rs : List Rec) (p : Rec) (v : V) (h' : Heap) : Prop := ∃ (L : List Rec) (mid : Nat) (b : Bool), v = .tuple [.int .i64 mid, .bool b] ∧ h' = ⟨vs, ar.set id ⟨L.map encR, ver, o, 12⟩⟩ ∧ Parted rs p L mid
set_option maxHeartbeats 8000000 in
theorem part_ev {id ver : Nat} {o : Bool} {cap : Option Nat} {rs : List Rec} {p r0 : Rec} (hA : ar[id]? = some ⟨rs.map encR, ver, o, 12⟩) (hn : rs.length = 13) (hok : ∀ r ∈ rs, OkR r) (hp : rs[6]? = some p) (h0 : rs[0]? = some r0) :
    ∃ v h', Ev TE 280 [.sl id ver 0 13 cap, .int .i64 0, .int .i64 13, .int .i64 6, .fn 183 []] ⟨vs, ar⟩ v h' ∧ PartP vs ar id ver o rs p v h' := by
  refine spec_raw 178 [.tmp 10, .tmp 11] rfl rfl rfl Tryz.func280 rfl rfl rfl fun Q hQ hN => ?_
  have hid : id < ar.length := (List.getElem?_eq_some_iff.1 hA).1
  have hset : ∀ A, (ar.set id A)[id]? = some A := fun A => by rw [List.getElem?_set_self hid]
  have hpo : OkR p := hok p (List.mem_of_getElem? hp)
  have hok' : ∀ L : List Rec, L.Perm rs → ∀ x ∈ L, OkR x := fun L hL x hx => hok x (hL.mem_iff.1 hx)
  obtain ⟨es0, hes0⟩ : ∃ es, es = rs.map encR := ⟨_, rfl⟩
  rw [← hes0] at hA
  have hl0 : es0.length = 13 := by rw [hes0]; simp [hn]
  have g6 : es0[6]'(by omega) = encR p := get_of (by rw [hes0, List.getElem?_map, hp]; rfl) _
  have g0 : es0[0]'(by omega) = encR r0 := get_of (by rw [hes0, List.getElem?_map, h0]; rfl) _
  obtain ⟨L1, hL1⟩ : ∃ L, L = (rs.set 0 p).set 6 r0 := ⟨_, rfl⟩
  obtain ⟨es1, hes1⟩ : ∃ es, es = L1.map encR := ⟨_, rfl⟩
  have hsw : (es0.set 0 (encR p)).set 6 (encR r0) = es1 := by rw [hes1, hL1, hes0, List.map_set, List.map_set]
  have w12 : IntKind.i64.wrap 12 = 12 := wrap_id (by omega) (by omega)
  have inv1 : Inv rs p L1 1 12 := by
    have hperm : L1.Perm rs := by rw [hL1]; exact swap_perm h0 hp
    have hlen : L1.length = 13 := by rw [hperm.length_eq]; exact hn
    refine ⟨hperm, hlen, ?_, by omega, by omega, by omega, fun k x h1 h2 => by omega, fun k x h1 h2 => ?_⟩
    · rw [hL1, List.getElem?_set_ne (by omega), List.getElem?_set_self (by omega)]
    · have := (List.getElem?_eq_some_iff.1 h2).1
      omega
  simp (maxSteps := 10000000) [-getAt, -setAt, setE, -dirtyAt, dirtyAt_hit, dirtyAt_miss, dirtyAt_done, dirtyAt_rest, hset, hA, hl0, g6, g0, hsw, w12]
  obtain ⟨I1, hI1⟩ : ∃ I : Nat → (Nat → V) → Heap → Prop, I = fun m f hp => ∃ i : Nat, i + m = 20 ∧ 1 ≤ i ∧ f 12 = .int .i64 i ∧ Inv rs p L1 i 12 ∧ hp = ⟨vs, ar.set id ⟨es1, ver, o, 12⟩⟩ := ⟨_, rfl⟩
  obtain ⟨RI1, hRI1⟩ : ∃ R : (Nat → V) → Heap → Prop, R = fun f hp => ∃ i : Nat, 1 ≤ i ∧ f 12 = .int .i64 i ∧ Inv rs p L1 i 12 ∧ (i ≤ 12 → ∃ x, L1[i]? = some x ∧ ¬ cmpR x p < 0) ∧ hp = ⟨vs, ar.set id ⟨es1, ver, o, 12⟩⟩ := ⟨_, rfl⟩
  refine wLp_mid [12, 32, 33, 34, 35, 36, 37, 38, 39, 40, 41, 42, 43, 44, 45, 46, 47, 48, 49] I1 (20 - 1) (by rw [hI1]; exact ⟨1, by have := inv1.ij; have := inv1.j12; omega, by omega, rfl, inv1, rfl⟩) RI1 0 ?_ ?_
  · intro m f hp hi
    rw [hI1] at hi
    obtain ⟨i, hm, hi0, f12, hv, rfl⟩ := hi
    have hlen := hv.len
    have hj12 := hv.j12
    have hi1 := hv.i1
    have hpv : es1[0]'(by rw [hes1]; simp [hlen]) = encR p := get_of (by rw [hes1, List.getElem?_map, hv.piv]; rfl) _
    by_cases hij : i ≤ 12
    · have hil : i < L1.length := by omega
      obtain ⟨x, hx⟩ : ∃ x, L1[i]? = some x := ⟨_, List.getElem?_eq_getElem hil⟩
      have hxo : OkR x := hok' _ hv.perm x (List.mem_of_getElem? hx)
      have hix : es1[i]'(by rw [hes1]; simp [hlen]; omega) = encR x := get_of (by rw [hes1, List.getElem?_map, hx]; rfl) _
      have hel : es1.length = 13 := by rw [hes1]; simp [hlen]
      have hi13 : i < 13 := by omega
      have hijI : (i : Int) ≤ 12 := by omega
      have e1 : IntKind.i64.wrap ((i : Int) + 1) = ((i + 1 : Nat) : Int) := wrap_id (by omega) (by omega)
      by_cases hc : cmpR x p < 0
      · simp (maxSteps := 10000000) [-getAt, -setAt, setE, -dirtyAt, dirtyAt_hit, dirtyAt_miss, dirtyAt_done, dirtyAt_rest, f12, hij, hijI, hset, hel, hi13, hix, hpv, hxo, hpo, hc, e1]
        refine loopX_normal ?_ (m - 1) ?_ ?_
        · rfl
        · omega
        rw [hI1]
        exact ⟨i + 1, by omega, by omega, rfl, hv.up hij hx hc, rfl⟩
      · simp (maxSteps := 10000000) [-getAt, -setAt, setE, -dirtyAt, dirtyAt_hit, dirtyAt_miss, dirtyAt_done, dirtyAt_rest, f12, hij, hijI, hset, hel, hi13, hix, hpv, hxo, hpo, hc]
        exact loopX_exit (by rfl) (by rw [hRI1]; exact ⟨i, hi0, rfl, hv, fun _ => ⟨x, hx, hc⟩, rfl⟩)
    · have hijI : ¬ (i : Int) ≤ 12 := by omega
      simp (maxSteps := 10000000) [-getAt, -setAt, setE, -dirtyAt, dirtyAt_hit, dirtyAt_miss, dirtyAt_done, dirtyAt_rest, f12, hij, hijI]
      exact loopX_exit (by rfl) (by rw [hRI1]; exact ⟨i, hi0, rfl, hv, fun h => absurd h hij, rfl⟩)
  
  intro f1 hp1 hr1
  rw [hRI1] at hr1
  obtain ⟨i1, hi1, f12, inv2, hstop1, rfl⟩ := hr1
  simp (maxSteps := 10000000) [-getAt, -setAt, setE, -dirtyAt, dirtyAt_hit, dirtyAt_miss, dirtyAt_done, dirtyAt_rest, f12]
  obtain ⟨J1, hJ1⟩ : ∃ I : Nat → (Nat → V) → Heap → Prop, I = fun m f hp => ∃ j : Nat, j = m ∧ j ≤ 12 ∧ f 13 = .int .i64 j ∧ Inv rs p L1 i1 j ∧ hp = ⟨vs, ar.set id ⟨es1, ver, o, 12⟩⟩ := ⟨_, rfl⟩
  obtain ⟨RJ1, hRJ1⟩ : ∃ R : (Nat → V) → Heap → Prop, R = fun f hp => ∃ j : Nat, j ≤ 12 ∧ f 13 = .int .i64 j ∧ Inv rs p L1 i1 j ∧ (i1 ≤ j → ∃ x, L1[j]? = some x ∧ cmpR x p < 0) ∧ hp = ⟨vs, ar.set id ⟨es1, ver, o, 12⟩⟩ := ⟨_, rfl⟩
  refine wLp_mid [13, 50, 51, 52, 53, 54, 55, 56, 57, 58, 59, 60, 61, 62, 63, 64, 65, 66, 67, 68] J1 12 (by rw [hJ1]; exact ⟨12, rfl, by omega, rfl, inv2, rfl⟩) RJ1 2 ?_ ?_
  · intro m f hp hi
    rw [hJ1] at hi
    obtain ⟨j, hm, hj0, f13, hv, rfl⟩ := hi
    have hlen := hv.len
    have hj12 := hv.j12
    have hi1 := hv.i1
    have hpv : es1[0]'(by rw [hes1]; simp [hlen]) = encR p := get_of (by rw [hes1, List.getElem?_map, hv.piv]; rfl) _
    by_cases hij : i1 ≤ j
    · have hjl : j < L1.length := by omega
      obtain ⟨x, hx⟩ : ∃ x, L1[j]? = some x := ⟨_, List.getElem?_eq_getElem hjl⟩
      have hxo : OkR x := hok' _ hv.perm x (List.mem_of_getElem? hx)
      have hix : es1[j]'(by rw [hes1]; simp [hlen]; omega) = encR x := get_of (by rw [hes1, List.getElem?_map, hx]; rfl) _
      have hel : es1.length = 13 := by rw [hes1]; simp [hlen]
      have hj13 : j < 13 := by omega
      have hijI : (i1 : Int) ≤ (j : Int) := by omega
      have e1 : IntKind.i64.wrap ((j : Int) - 1) = ((j - 1 : Nat) : Int) := by rw [wrap_id (by omega) (by omega)]; omega
      by_cases hc : cmpR x p < 0
      · simp (maxSteps := 10000000) [-getAt, -setAt, setE, -dirtyAt, dirtyAt_hit, dirtyAt_miss, dirtyAt_done, dirtyAt_rest, f13, f12, hij, hijI, hset, hel, hj13, hix, hpv, hxo, hpo, hc]
        exact loopX_exit (by rfl) (by rw [hRJ1]; exact ⟨j, hj0, rfl, hv, fun _ => ⟨x, hx, hc⟩, rfl⟩)
      · simp (maxSteps := 10000000) [-getAt, -setAt, setE, -dirtyAt, dirtyAt_hit, dirtyAt_miss, dirtyAt_done, dirtyAt_rest, f13, f12, hij, hijI, hset, hel, hj13, hix, hpv, hxo, hpo, hc, e1]
        refine loopX_normal ?_ (m - 1) ?_ ?_
        · rfl
        · omega
        rw [hJ1]
        exact ⟨j - 1, by omega, by omega, rfl, hv.down hij hx hc, rfl⟩
    · have hijI : ¬ (i1 : Int) ≤ (j : Int) := by omega
      simp (maxSteps := 10000000) [-getAt, -setAt, setE, -dirtyAt, dirtyAt_hit, dirtyAt_miss, dirtyAt_done, dirtyAt_rest, f13, f12, hij, hijI]
      exact loopX_exit (by rfl) (by rw [hRJ1]; exact ⟨j, hj0, rfl, hv, fun h => absurd h hij, rfl⟩)
  
  intro f2 hp2 hr2
  rw [hRJ1] at hr2
  obtain ⟨j1, hj1, f13, inv3, hstop2, rfl⟩ := hr2
  by_cases hle1 : i1 ≤ j1
  case neg =>
    have hlenF := inv3.len
    have hj12F := inv3.j12
    have hjl : j1 < L1.length := by omega
    obtain ⟨y, hy⟩ : ∃ y, L1[j1]? = some y := ⟨_, List.getElem?_eq_getElem hjl⟩
    have helF : es1.length = 13 := by rw [hes1]; simp [hlenF]
    have hpvF : es1[0]'(by omega) = encR p := get_of (by rw [hes1, List.getElem?_map, inv3.piv]; rfl) _
    have hyvF : es1[j1]'(by omega) = encR y := get_of (by rw [hes1, List.getElem?_map, hy]; rfl) _
    have hj13F : j1 < 13 := by omega
    have hgF : (es1.set j1 (encR p))[0]'(by rw [List.length_set]; omega) = encR p := by
      rw [List.getElem_set]
      split
      · rfl
      · exact hpvF
    have hgt : i1 > j1 := by omega
    have hgtI : (i1 : Int) > j1 := by omega
    have hgtI' : (j1 : Int) < i1 := by omega
    have hpart := inv3.fin hgt hy
    obtain ⟨esF, hesF⟩ : ∃ es, es = ((L1.set j1 p).set 0 y).map encR := ⟨_, rfl⟩
    have hswF : (es1.set j1 (encR p)).set 0 (encR y) = esF := by rw [hesF, hes1, List.map_set, List.map_set]
    simp (maxSteps := 10000000) [-getAt, -setAt, setE, -dirtyAt, dirtyAt_hit, dirtyAt_miss, dirtyAt_done, dirtyAt_rest, f12, f13, hset, helF, hpvF, hyvF, hgF, hj13F, hgt, hgtI, hgtI', hswF, hQ, hN]
    rw [hesF]
    exact ⟨_, _, _, rfl, rfl, hpart⟩
    
  have hlenS1 := inv3.len
  have hjS1 := inv3.j12
  have hiS1 := inv3.i1
  obtain ⟨y1, hy1, hcy1⟩ := hstop2 hle1
  obtain ⟨x1, hx1, hcx1⟩ := hstop1 (by omega)
  have hne1 : i1 ≠ j1 := by
    intro e
    rw [e, hy1] at hx1
    rw [← Option.some.inj hx1] at hcx1
    exact hcx1 hcy1
  have inv41 := inv3.swap (by omega) hx1 hy1 hcx1 hcy1
  have hel1 : es1.length = 13 := by rw [hes1]; simp [hlenS1]
  have hxv1 : es1[i1]'(by omega) = encR x1 := get_of (by rw [hes1, List.getElem?_map, hx1]; rfl) _
  have hyv1 : es1[j1]'(by omega) = encR y1 := get_of (by rw [hes1, List.getElem?_map, hy1]; rfl) _
  have hgS1 : (es1.set i1 (encR y1))[j1]'(by rw [List.length_set]; omega) = encR y1 := by rw [List.getElem_set_ne hne1]; exact hyv1
  have hi131 : i1 < 13 := by omega
  have hj131 : j1 < 13 := by omega
  have hng1 : ¬ (i1 > j1) := by omega
  have hle'1 : i1 ≤ j1 := by omega
  have hngI1 : ¬ ((i1 : Int) > j1) := by omega
  have hleI1 : (i1 : Int) ≤ j1 := by omega
  have hngI'1 : ¬ ((j1 : Int) < i1) := by omega
  have ea1 : IntKind.i64.wrap ((i1 : Int) + 1) = ((i1 + 1 : Nat) : Int) := wrap_id (by omega) (by omega)
  have eb1 : IntKind.i64.wrap ((j1 : Int) - 1) = ((j1 - 1 : Nat) : Int) := by rw [wrap_id (by omega) (by omega)]; omega
  obtain ⟨esS1, hesS1⟩ : ∃ es, es = ((L1.set i1 y1).set j1 x1).map encR := ⟨_, rfl⟩
  have hswS1 : (es1.set i1 (encR y1)).set j1 (encR x1) = esS1 := by rw [hesS1, hes1, List.map_set, List.map_set]
  simp (maxSteps := 10000000) [-getAt, -setAt, setE, -dirtyAt, dirtyAt_hit, dirtyAt_miss, dirtyAt_done, dirtyAt_rest, f12, f13, hset, hel1, hxv1, hyv1, hgS1, hi131, hj131, hng1, hle'1, hngI1, hleI1, hngI'1, hswS1, ea1, eb1]
  
  obtain ⟨P, hP⟩ : ∃ I : Nat → (Nat → V) → Heap → Prop, I = fun m f hp => ∃ (L : List Rec) (i j : Nat), m + i = j + 40 ∧ f 12 = .int .i64 i ∧ f 13 = .int .i64 j ∧ Inv rs p L i j ∧ hp = ⟨vs, ar.set id ⟨L.map encR, ver, o, 12⟩⟩ := ⟨_, rfl⟩
  obtain ⟨RP, hRP⟩ : ∃ I : (Nat → V) → Heap → Prop, I = fun f hp => ∃ (L : List Rec) (i j : Nat), j < i ∧ f 12 = .int .i64 i ∧ f 13 = .int .i64 j ∧ Inv rs p L i j ∧ hp = ⟨vs, ar.set id ⟨L.map encR, ver, o, 12⟩⟩ := ⟨_, rfl⟩
  refine wLp_mid [12, 13, 105, 106, 107, 108, 109, 110, 111, 112, 113, 114, 115, 116, 117, 118, 119, 120, 121, 122, 123, 124, 125, 126, 127, 128, 129, 130, 131, 132, 133, 134, 135, 136, 137, 138, 139, 140, 141, 142, 143, 144, 145, 146, 147, 148, 149, 150, 151, 152, 153, 154, 155, 156, 157, 158, 159, 160, 161, 162] P (j1 - 1 + 40 - (i1 + 1)) (by rw [hP]; exact ⟨_, i1 + 1, j1 - 1, by omega, rfl, rfl, inv41, by rw [hesS1]⟩) RP 4 ?_ ?_
  · intro m f hp hi
    rw [hP] at hi
    obtain ⟨L2, i2, j2, hm, f12, f13, inv5, rfl⟩ := hi
    obtain ⟨es2, hes2⟩ : ∃ es, es = L2.map encR := ⟨_, rfl⟩
    rw [← hes2]
    have h5a := inv5.i1
    have h5b := inv5.j12
    have h5c := inv5.ij
    simp (maxSteps := 10000000) [-getAt, -setAt, setE, -dirtyAt, dirtyAt_hit, dirtyAt_miss, dirtyAt_done, dirtyAt_rest, f12, f13]
    obtain ⟨I2, hI2⟩ : ∃ I : Nat → (Nat → V) → Heap → Prop, I = fun m f hp => ∃ i : Nat, i + m = 20 ∧ i2 ≤ i ∧ f 12 = .int .i64 i ∧ Inv rs p L2 i j2 ∧ hp = ⟨vs, ar.set id ⟨es2, ver, o, 12⟩⟩ := ⟨_, rfl⟩
    obtain ⟨RI2, hRI2⟩ : ∃ R : (Nat → V) → Heap → Prop, R = fun f hp => ∃ i : Nat, i2 ≤ i ∧ f 12 = .int .i64 i ∧ Inv rs p L2 i j2 ∧ (i ≤ j2 → ∃ x, L2[i]? = some x ∧ ¬ cmpR x p < 0) ∧ hp = ⟨vs, ar.set id ⟨es2, ver, o, 12⟩⟩ := ⟨_, rfl⟩
    refine wLp_mid [12, 105, 106, 107, 108, 109, 110, 111, 112, 113, 114, 115, 116, 117, 118, 119, 120, 121, 122] I2 (20 - i2) (by rw [hI2]; exact ⟨i2, by have := inv5.ij; have := inv5.j12; omega, by omega, rfl, inv5, rfl⟩) RI2 6 ?_ ?_
    · intro m f hp hi
      rw [hI2] at hi
      obtain ⟨i, hm, hi0, f12, hv, rfl⟩ := hi
      have hlen := hv.len
      have hj12 := hv.j12
      have hi1 := hv.i1
      have hpv : es2[0]'(by rw [hes2]; simp [hlen]) = encR p := get_of (by rw [hes2, List.getElem?_map, hv.piv]; rfl) _
      by_cases hij : i ≤ j2
      · have hil : i < L2.length := by omega
        obtain ⟨x, hx⟩ : ∃ x, L2[i]? = some x := ⟨_, List.getElem?_eq_getElem hil⟩
        have hxo : OkR x := hok' _ hv.perm x (List.mem_of_getElem? hx)
        have hix : es2[i]'(by rw [hes2]; simp [hlen]; omega) = encR x := get_of (by rw [hes2, List.getElem?_map, hx]; rfl) _
        have hel : es2.length = 13 := by rw [hes2]; simp [hlen]
        have hi13 : i < 13 := by omega
        have hijI : (i : Int) ≤ (j2 : Int) := by omega
        have e1 : IntKind.i64.wrap ((i : Int) + 1) = ((i + 1 : Nat) : Int) := wrap_id (by omega) (by omega)
        by_cases hc : cmpR x p < 0
        · simp (maxSteps := 10000000) [-getAt, -setAt, setE, -dirtyAt, dirtyAt_hit, dirtyAt_miss, dirtyAt_done, dirtyAt_rest, f12, f13, hij, hijI, hset, hel, hi13, hix, hpv, hxo, hpo, hc, e1]
          refine loopX_normal ?_ (m - 1) ?_ ?_
          · rfl
          · omega
          rw [hI2]
          exact ⟨i + 1, by omega, by omega, rfl, hv.up hij hx hc, rfl⟩
        · simp (maxSteps := 10000000) [-getAt, -setAt, setE, -dirtyAt, dirtyAt_hit, dirtyAt_miss, dirtyAt_done, dirtyAt_rest, f12, f13, hij, hijI, hset, hel, hi13, hix, hpv, hxo, hpo, hc]
          exact loopX_exit (by rfl) (by rw [hRI2]; exact ⟨i, hi0, rfl, hv, fun _ => ⟨x, hx, hc⟩, rfl⟩)
      · have hijI : ¬ (i : Int) ≤ (j2 : Int) := by omega
        simp (maxSteps := 10000000) [-getAt, -setAt, setE, -dirtyAt, dirtyAt_hit, dirtyAt_miss, dirtyAt_done, dirtyAt_rest, f12, f13, hij, hijI]
        exact loopX_exit (by rfl) (by rw [hRI2]; exact ⟨i, hi0, rfl, hv, fun h => absurd h hij, rfl⟩)
    
    intro f3 hp3 hr3
    rw [hRI2] at hr3
    obtain ⟨i3, hi3, f12', inv6, hstop3, rfl⟩ := hr3
    simp (maxSteps := 10000000) [-getAt, -setAt, setE, -dirtyAt, dirtyAt_hit, dirtyAt_miss, dirtyAt_done, dirtyAt_rest, f12', f13]
    obtain ⟨J2, hJ2⟩ : ∃ I : Nat → (Nat → V) → Heap → Prop, I = fun m f hp => ∃ j : Nat, j = m ∧ j ≤ j2 ∧ f 13 = .int .i64 j ∧ Inv rs p L2 i3 j ∧ hp = ⟨vs, ar.set id ⟨es2, ver, o, 12⟩⟩ := ⟨_, rfl⟩
    obtain ⟨RJ2, hRJ2⟩ : ∃ R : (Nat → V) → Heap → Prop, R = fun f hp => ∃ j : Nat, j ≤ j2 ∧ f 13 = .int .i64 j ∧ Inv rs p L2 i3 j ∧ (i3 ≤ j → ∃ x, L2[j]? = some x ∧ cmpR x p < 0) ∧ hp = ⟨vs, ar.set id ⟨es2, ver, o, 12⟩⟩ := ⟨_, rfl⟩
    refine wLp_mid [13, 123, 124, 125, 126, 127, 128, 129, 130, 131, 132, 133, 134, 135, 136, 137, 138, 139, 140, 141] J2 j2 (by rw [hJ2]; exact ⟨j2, rfl, by omega, rfl, inv6, rfl⟩) RJ2 8 ?_ ?_
    · intro m f hp hi
      rw [hJ2] at hi
      obtain ⟨j, hm, hj0, f13, hv, rfl⟩ := hi
      have hlen := hv.len
      have hj12 := hv.j12
      have hi1 := hv.i1
      have hpv : es2[0]'(by rw [hes2]; simp [hlen]) = encR p := get_of (by rw [hes2, List.getElem?_map, hv.piv]; rfl) _
      by_cases hij : i3 ≤ j
      · have hjl : j < L2.length := by omega
        obtain ⟨x, hx⟩ : ∃ x, L2[j]? = some x := ⟨_, List.getElem?_eq_getElem hjl⟩
        have hxo : OkR x := hok' _ hv.perm x (List.mem_of_getElem? hx)
        have hix : es2[j]'(by rw [hes2]; simp [hlen]; omega) = encR x := get_of (by rw [hes2, List.getElem?_map, hx]; rfl) _
        have hel : es2.length = 13 := by rw [hes2]; simp [hlen]
        have hj13 : j < 13 := by omega
        have hijI : (i3 : Int) ≤ (j : Int) := by omega
        have e1 : IntKind.i64.wrap ((j : Int) - 1) = ((j - 1 : Nat) : Int) := by rw [wrap_id (by omega) (by omega)]; omega
        by_cases hc : cmpR x p < 0
        · simp (maxSteps := 10000000) [-getAt, -setAt, setE, -dirtyAt, dirtyAt_hit, dirtyAt_miss, dirtyAt_done, dirtyAt_rest, f13, f12', hij, hijI, hset, hel, hj13, hix, hpv, hxo, hpo, hc]
          exact loopX_exit (by rfl) (by rw [hRJ2]; exact ⟨j, hj0, rfl, hv, fun _ => ⟨x, hx, hc⟩, rfl⟩)
        · simp (maxSteps := 10000000) [-getAt, -setAt, setE, -dirtyAt, dirtyAt_hit, dirtyAt_miss, dirtyAt_done, dirtyAt_rest, f13, f12', hij, hijI, hset, hel, hj13, hix, hpv, hxo, hpo, hc, e1]
          refine loopX_normal ?_ (m - 1) ?_ ?_
          · rfl
          · omega
          rw [hJ2]
          exact ⟨j - 1, by omega, by omega, rfl, hv.down hij hx hc, rfl⟩
      · have hijI : ¬ (i3 : Int) ≤ (j : Int) := by omega
        simp (maxSteps := 10000000) [-getAt, -setAt, setE, -dirtyAt, dirtyAt_hit, dirtyAt_miss, dirtyAt_done, dirtyAt_rest, f13, f12', hij, hijI]
        exact loopX_exit (by rfl) (by rw [hRJ2]; exact ⟨j, hj0, rfl, hv, fun h => absurd h hij, rfl⟩)
    
    intro f4 hp4 hr4
    rw [hRJ2] at hr4
    obtain ⟨j3, hj3, f13', inv7, hstop4, rfl⟩ := hr4
    by_cases hle2 : i3 ≤ j3
    case neg =>
      have hgt : i3 > j3 := by omega
      have hgtI : (i3 : Int) > j3 := by omega
      have hgtI' : (j3 : Int) < i3 := by omega
      simp (maxSteps := 10000000) [-getAt, -setAt, setE, -dirtyAt, dirtyAt_hit, dirtyAt_miss, dirtyAt_done, dirtyAt_rest, f12', f13', hgt, hgtI, hgtI']
      exact loopX_exit (by rfl) (by rw [hRP]; exact ⟨L2, i3, j3, hgt, rfl, rfl, inv7, by rw [hes2]⟩)
    have hlenS2 := inv7.len
    have hjS2 := inv7.j12
    have hiS2 := inv7.i1
    obtain ⟨y2, hy2, hcy2⟩ := hstop4 hle2
    obtain ⟨x2, hx2, hcx2⟩ := hstop3 (by omega)
    have hne2 : i3 ≠ j3 := by
      intro e
      rw [e, hy2] at hx2
      rw [← Option.some.inj hx2] at hcx2
      exact hcx2 hcy2
    have inv42 := inv7.swap (by omega) hx2 hy2 hcx2 hcy2
    have hel2 : es2.length = 13 := by rw [hes2]; simp [hlenS2]
    have hxv2 : es2[i3]'(by omega) = encR x2 := get_of (by rw [hes2, List.getElem?_map, hx2]; rfl) _
    have hyv2 : es2[j3]'(by omega) = encR y2 := get_of (by rw [hes2, List.getElem?_map, hy2]; rfl) _
    have hgS2 : (es2.set i3 (encR y2))[j3]'(by rw [List.length_set]; omega) = encR y2 := by rw [List.getElem_set_ne hne2]; exact hyv2
    have hi132 : i3 < 13 := by omega
    have hj132 : j3 < 13 := by omega
    have hng2 : ¬ (i3 > j3) := by omega
    have hle'2 : i3 ≤ j3 := by omega
    have hngI2 : ¬ ((i3 : Int) > j3) := by omega
    have hleI2 : (i3 : Int) ≤ j3 := by omega
    have hngI'2 : ¬ ((j3 : Int) < i3) := by omega
    have ea2 : IntKind.i64.wrap ((i3 : Int) + 1) = ((i3 + 1 : Nat) : Int) := wrap_id (by omega) (by omega)
    have eb2 : IntKind.i64.wrap ((j3 : Int) - 1) = ((j3 - 1 : Nat) : Int) := by rw [wrap_id (by omega) (by omega)]; omega
    obtain ⟨esS2, hesS2⟩ : ∃ es, es = ((L2.set i3 y2).set j3 x2).map encR := ⟨_, rfl⟩
    have hswS2 : (es2.set i3 (encR y2)).set j3 (encR x2) = esS2 := by rw [hesS2, hes2, List.map_set, List.map_set]
    simp (maxSteps := 10000000) [-getAt, -setAt, setE, -dirtyAt, dirtyAt_hit, dirtyAt_miss, dirtyAt_done, dirtyAt_rest, f12', f13', hset, hel2, hxv2, hyv2, hgS2, hi132, hj132, hng2, hle'2, hngI2, hleI2, hngI'2, hswS2, ea2, eb2]
    
    refine loopX_normal (by rfl) (j3 - 1 + 40 - (i3 + 1)) ?_ ?_
    · omega
    rw [hP]
    exact ⟨_, i3 + 1, j3 - 1, by omega, rfl, rfl, inv42, by rw [hesS2]⟩
  intro f hp hi
  rw [hRP] at hi
  obtain ⟨L2, i2, j2, hlt, f12, f13, inv8, rfl⟩ := hi
  obtain ⟨es2, hes2⟩ : ∃ es, es = L2.map encR := ⟨_, rfl⟩
  rw [← hes2]
  have hlenF := inv8.len
  have hj12F := inv8.j12
  have hjl : j2 < L2.length := by omega
  obtain ⟨y, hy⟩ : ∃ y, L2[j2]? = some y := ⟨_, List.getElem?_eq_getElem hjl⟩
  have helF : es2.length = 13 := by rw [hes2]; simp [hlenF]
  have hpvF : es2[0]'(by omega) = encR p := get_of (by rw [hes2, List.getElem?_map, inv8.piv]; rfl) _
  have hyvF : es2[j2]'(by omega) = encR y := get_of (by rw [hes2, List.getElem?_map, hy]; rfl) _
  have hj13F : j2 < 13 := by omega
  have hgF : (es2.set j2 (encR p))[0]'(by rw [List.length_set]; omega) = encR p := by
    rw [List.getElem_set]
    split
    · rfl
    · exact hpvF
  have hgt : i2 > j2 := hlt
  have hgtI : (i2 : Int) > j2 := by omega
  have hgtI' : (j2 : Int) < i2 := by omega
  have hpart := inv8.fin hgt hy
  obtain ⟨esF, hesF⟩ : ∃ es, es = ((L2.set j2 p).set 0 y).map encR := ⟨_, rfl⟩
  have hswF : (es2.set j2 (encR p)).set 0 (encR y) = esF := by rw [hesF, hes2, List.map_set, List.map_set]
  simp (maxSteps := 10000000) [-getAt, -setAt, setE, -dirtyAt, dirtyAt_hit, dirtyAt_miss, dirtyAt_done, dirtyAt_rest, f12, f13, hset, helF, hpvF, hyvF, hgF, hj13F, hgt, hgtI, hgtI', hswF, hQ, hN]
  rw [hesF]
  exact ⟨_, _, _, rfl, rfl, hpart⟩
  
end
end Go.DM
