/-
  Records: valid, their times, their order. The order of records. Insertion sort of records in an own array. The pivot of thirteen records.
-/
import Derived.Test.YtpfhhcjdknmbbaaGreatDoorC3
set_option linter.all false
set_option linter.unusedSimpArgs false
set_option linter.unusedVariables false
namespace Go.DM
open Go.Proofs
set_option maxRecDepth 100000
section
variable {fn : Nat} {an : Option (List (Nat × Nat × Bool))} {ops : Array Oper} {l : List Oper} {i : Nat} {kk : List Todo} {d : Option Nat} {s : List V} {Q : Ex → St → Prop} {h : Heap}

theorem in_ev {x a b : Int} (h1 : a ≤ x) (h2 : x ≤ b) : Ev TE 111 [.int .i64 x, .int .i64 a, .int .i64 b] h (.bool true) h := by
  refine ev_pure 15 [.tmp 6] rfl rfl rfl Tryz.func111 rfl rfl rfl rfl fun Q hQ hN => ?_
  simp [hQ, h1, h2]
@[simp] theorem wK_111 {x a b : Int} (h1 : a ≤ x) (h2 : x ≤ b) : wK TE fn an ops l i kk d s 111 [.int .i64 x, .int .i64 a, .int .i64 b] h Q = wR TE fn an ops l (i + 1) kk ⟨putV s d (.bool true), h⟩ Q := by
  rw [wK_ev (in_ev h1 h2)]; simp
theorem in2_ev {x a b : Int} (h1 : a ≤ x) (h2 : x ≤ b) : Ev TE 176 [.int .i64 x, .int .i64 a, .int .i64 b] h (.bool true) h := by
  refine ev_pure 15 [.tmp 6] rfl rfl rfl Tryz.func176 rfl rfl rfl rfl fun Q hQ hN => ?_
  simp [hQ, h1, h2]
@[simp] theorem wK_176 {x a b : Int} (h1 : a ≤ x) (h2 : x ≤ b) : wK TE fn an ops l i kk d s 176 [.int .i64 x, .int .i64 a, .int .i64 b] h Q = wR TE fn an ops l (i + 1) kk ⟨putV s d (.bool true), h⟩ Q := by
  rw [wK_ev (in2_ev h1 h2)]; simp

theorem ratevalid_ev : Ev TE 175 [.agg [.int .i64 100, .int .i64 1]] h (.bool true) h := ev_of_run (n := 40) (by kernel_rfl)
@[simp] theorem wK_175 : wK TE fn an ops l i kk d s 175 [.agg [.int .i64 100, .int .i64 1]] h Q = wR TE fn an ops l (i + 1) kk ⟨putV s d (.bool true), h⟩ Q := by
  rw [wK_ev ratevalid_ev]; simp
theorem micros_ev : Ev TE 230 [.agg [.int .i64 100, .int .i64 1]] h (.int .i64 1000000) h := ev_of_run (n := 40) (by kernel_rfl)
@[simp] theorem wK_230 : wK TE fn an ops l i kk d s 230 [.agg [.int .i64 100, .int .i64 1]] h Q = wR TE fn an ops l (i + 1) kk ⟨putV s d (.int .i64 1000000), h⟩ Q := by
  rw [wK_ev micros_ev]; simp
theorem after_ev {k : Int} (h0 : 0 ≤ k) (h1 : k ≤ 1000000) : Ev TE 177 [.agg [.int .i64 100, .int .i64 1], .int .i64 k] h (.int .i64 (10000 * k)) h := by
  refine ev_pure 12 [.tmp 4] rfl rfl rfl Tryz.func177 rfl rfl rfl rfl fun Q hQ hN => ?_
  have e1 : IntKind.i64.wrap (k * 1000000) = k * 1000000 := wrap_id (by omega) (by omega)
  have e2 : (k * 1000000).tdiv 100 = 10000 * k := by rw [Int.tdiv_eq_ediv_of_nonneg (by omega)]; omega
  have e3 : IntKind.i64.wrap (10000 * k) = 10000 * k := wrap_id (by omega) (by omega)
  simp [hQ, e1, e2, e3]
@[simp] theorem wK_177 {k : Int} (h0 : 0 ≤ k) (h1 : k ≤ 1000000) : wK TE fn an ops l i kk d s 177 [.agg [.int .i64 100, .int .i64 1], .int .i64 k] h Q = wR TE fn an ops l (i + 1) kk ⟨putV s d (.int .i64 (10000 * k)), h⟩ Q := by
  rw [wK_ev (after_ev h0 h1)]; simp
theorem time_ev {k : Int} (h0 : 0 ≤ k) (h1 : k ≤ 1000000) : Ev TE 112 [.int .i64 0, .agg [.int .i64 100, .int .i64 1], .int .i64 k] h (.tuple [.int .i64 (10000 * k), .int .i64 0]) h := by
  refine ev_pure 24 [.tmp 6, .tmp 7] rfl rfl rfl Tryz.func112 rfl rfl rfl rfl fun Q hQ hN => ?_
  have h2 : k ≤ 16777216 := by omega
  have e3 : IntKind.i64.wrap (10000 * k) = 10000 * k := wrap_id (by omega) (by omega)
  simp [hQ, h0, h1, h2, e3]
@[simp] theorem wK_112 {k : Int} (h0 : 0 ≤ k) (h1 : k ≤ 1000000) : wK TE fn an ops l i kk d s 112 [.int .i64 0, .agg [.int .i64 100, .int .i64 1], .int .i64 k] h Q = wR TE fn an ops l (i + 1) kk ⟨putV s d (.tuple [.int .i64 (10000 * k), .int .i64 0]), h⟩ Q := by
  rw [wK_ev (time_ev h0 h1)]; simp

theorem srcvalid_ev {n : Nat} (hn : n < 6) : Ev TE 110 [.agg [.str [65, 66], .str [83, stB n], .str [48, 48], .str [66, 72, 90]]] h (.bool true) h := by
  have : n = 0 ∨ n = 1 ∨ n = 2 ∨ n = 3 ∨ n = 4 ∨ n = 5 := by omega
  rcases this with rfl | rfl | rfl | rfl | rfl | rfl <;> exact ev_of_run (n := 40) (by kernel_rfl)
@[simp] theorem wK_110 {n : Nat} (hn : n < 6) : wK TE fn an ops l i kk d s 110 [.agg [.str [65, 66], .str [83, stB n], .str [48, 48], .str [66, 72, 90]]] h Q = wR TE fn an ops l (i + 1) kk ⟨putV s d (.bool true), h⟩ Q := by
  rw [wK_ev (srcvalid_ev hn)]; simp

theorem okx_ev {x : Int} (h1 : -1000000 ≤ x) (h2 : x ≤ 1000000) : Ev TE 114 [.int .i64 x] h (.bool false) h := by
  refine ev_raw 6 [.tmp 2] rfl rfl rfl Tryz.func114 rfl rfl rfl fun Q hQ hN => ?_
  have h3 : -1073741823 ≤ x := by omega
  have h4 : x ≤ 1073741823 := by omega
  simp [hQ, h3, h4]
@[simp] theorem wK_114 {x : Int} (h1 : -1000000 ≤ x) (h2 : x ≤ 1000000) : wK TE fn an ops l i kk d s 114 [.int .i64 x] h Q = wR TE fn an ops l (i + 1) kk ⟨putV s d (.bool false), h⟩ Q := by
  rw [wK_ev (okx_ev h1 h2)]; simp

theorem index_ev {t g : Bool} {w : List Int} (hn : w.length ≤ 1000000) (hw : ∀ x ∈ w, -1000000 ≤ x ∧ x ≤ 1000000) : Ev TE 178 [.fl t g (w.map (.int .i64)), .fn 114 []] h (.int .i64 (-1)) h := by
  refine ev_raw 19 [.tmp 4] rfl rfl rfl Tryz.func178 rfl rfl rfl fun Q hQ hN => ?_
  simp
  obtain ⟨I, hI⟩ : ∃ I : Nat → (Nat → V) → Heap → Prop, I = fun m f hp => ∃ j : Nat, j + m = w.length ∧ f 8 = .int .i64 j ∧ hp = h := ⟨_, rfl⟩
  refine wLp_ind [4, 5, 8, 9, 10, 11, 12, 13, 14, 15, 16, 17, 18] I w.length (by rw [hI]; exact ⟨0, by simp, rfl, rfl⟩) ?_
  intro m f hp hi
  rw [hI] at hi
  obtain ⟨j, hm, f8, rfl⟩ := hi
  by_cases hlt : j < w.length
  · obtain ⟨x, hx⟩ : ∃ x, w[j] = x := ⟨_, rfl⟩
    have hxb := hw x (hx ▸ List.getElem_mem _)
    have e1 : IntKind.i64.wrap ((j : Int) + 1) = ((j + 1 : Nat) : Int) := wrap_id (by omega) (by omega)
    simp [f8, hlt, hx, hxb, e1]
    refine loopK_normal ?_ (m - 1) ?_ ?_
    · rfl
    · omega
    rw [hI]
    exact ⟨j + 1, by omega, rfl, rfl⟩
  · simp [f8, hlt, hQ]
theorem contains_ev {t g : Bool} {w : List Int} (hn : w.length ≤ 1000000) (hw : ∀ x ∈ w, -1000000 ≤ x ∧ x ≤ 1000000) : Ev TE 113 [.fl t g (w.map (.int .i64)), .fn 114 []] h (.bool false) h := by
  refine ev_raw 9 [.tmp 4] rfl rfl rfl Tryz.func113 rfl rfl rfl fun Q hQ hN => ?_
  simp
  rw [wK_ev (index_ev hn hw)]
  simp [hQ]

theorem valid_ev {r : Rec} (hr : OkR r) : Ev TE 55 [encR r] h (.bool true) h := by
  refine ev_pure 68 [.tmp 2] rfl rfl rfl Tryz.func55 rfl rfl rfl (args' := [encR r]) rfl fun Q hQ hN => ?_
  obtain ⟨h1, h2, h3, h4, h5, h6⟩ := hr
  have e0 : r.smp.length ≤ 1000000 := by omega
  have e1 : (1 : Int) ≤ r.smp.length := by omega
  have e2 : (r.smp.length : Int) ≤ 65536 := by omega
  have e3 : IntKind.i64.wrap (16777216 - (r.smp.length : Int)) = 16777216 - r.smp.length := wrap_id (by omega) (by omega)
  have e4 : (r.first : Int) ≤ 16777216 - r.smp.length := by omega
  have e5 : (r.err : Int) ≤ 1099511627776 := by omega
  have e6 : (r.seq : Int) ≤ 1073741824 := by omega
  have e7 : IntKind.i64.wrap ((r.first : Int) + r.smp.length) = (r.first : Int) + r.smp.length := wrap_id (by omega) (by omega)
  have e8 : (r.first : Int) + r.smp.length ≤ 1000000 := by omega
  have e9 : 0 ≤ (r.first : Int) + r.smp.length := by omega
  have e10 : 10000 * ((r.first : Int) + r.smp.length) ≤ 9007199254740992 := by omega
  simp [encR, h1, e1, e2, e3, e4, e5, e6, e7, e8, e9, e10]
  rw [wK_ev (contains_ev e0 h6)]
  simp [hQ]
end
end Go.DM
namespace Go.DM
open Go.Proofs
set_option maxRecDepth 100000
section
variable {fn : Nat} {an : Option (List (Nat × Nat × Bool))} {ops : Array Oper} {l : List Oper} {i : Nat} {kk : List Todo} {d : Option Nat} {s : List V} {Q : Ex → St → Prop} {h : Heap}

@[simp] theorem encR_st {r : Rec} : (encR r).storable = true := (rfl)
@[simp] theorem encR_len {r : Rec} : (encR r).cells.length = 12 := (rfl)
@[simp] theorem wK_55 {r : Rec} (hr : OkR r) : wK TE fn an ops l i kk d s 55 [encR r] h Q = wR TE fn an ops l (i + 1) kk ⟨putV s d (.bool true), h⟩ Q := by
  rw [wK_ev (valid_ev hr)]; simp
theorem rtime_ev {r : Rec} (hr : OkR r) : Ev TE 166 [encR r, .int .i64 0] h (.int .i64 (10000 * (r.first : Int))) h := by
  refine ev_pure 20 [.tmp 4] rfl rfl rfl Tryz.func166 rfl rfl rfl (args' := [encR r, .int .i64 0]) rfl fun Q hQ hN => ?_
  have h3 := hr.len
  have e1 : IntKind.i64.wrap (r.first : Int) = (r.first : Int) := wrap_id (by omega) (by omega)
  have e2 : (r.first : Int) ≤ 1000000 := by omega
  simp [encR, e1, e2, hQ]
@[simp] theorem wK_166 {r : Rec} (hr : OkR r) : wK TE fn an ops l i kk d s 166 [encR r, .int .i64 0] h Q = wR TE fn an ops l (i + 1) kk ⟨putV s d (.int .i64 (10000 * (r.first : Int))), h⟩ Q := by
  rw [wK_ev (rtime_ev hr)]; simp
theorem getAt_all {v : V} {n : Nat} {c : List V} (hv : v = .agg c) (hn : c.length = n) : getAt true n 0 v = some v := by subst hv; simp [getAt, ← hn]
@[simp] theorem getAt_encR {r : Rec} : getAt true 12 0 (encR r) = some (encR r) := getAt_all rfl rfl
theorem begin_ev {r : Rec} (hr : OkR r) : Ev TE 234 [encR r] h (.int .i64 (10000 * (r.first : Int))) h := by
  refine ev_pure 8 [.tmp 2] rfl rfl rfl Tryz.func234 rfl rfl rfl (args' := [encR r]) rfl fun Q hQ hN => ?_
  simp [-getAt, hr, hQ]
@[simp] theorem wK_234 {r : Rec} (hr : OkR r) : wK TE fn an ops l i kk d s 234 [encR r] h Q = wR TE fn an ops l (i + 1) kk ⟨putV s d (.int .i64 (10000 * (r.first : Int))), h⟩ Q := by
  rw [wK_ev (begin_ev hr)]; simp

theorem nan_ev {x : Int} : Ev TE 252 [.int .i64 x] h (.bool false) h := by
  refine ev_pure 6 [.tmp 2] rfl rfl rfl Tryz.func252 rfl rfl rfl rfl fun Q hQ hN => ?_
  simp [hQ]
@[simp] theorem wK_252 {x : Int} : wK TE fn an ops l i kk d s 252 [.int .i64 x] h Q = wR TE fn an ops l (i + 1) kk ⟨putV s d (.bool false), h⟩ Q := by
  rw [wK_ev nan_ev]; simp
theorem cmp_ev {a b : Int} : Ev TE 210 [.int .i64 a, .int .i64 b] h (.int .i64 (cmpI a b)) h := by
  refine ev_pure 20 [.tmp 4] rfl rfl rfl Tryz.func210 rfl rfl rfl rfl fun Q hQ hN => ?_
  by_cases h1 : a < b
  · simp [hQ, h1, cmpI]
  · by_cases h2 : b < a
    · simp [hQ, h1, h2, cmpI]
    · simp [hQ, h1, h2, cmpI]
@[simp] theorem wK_210 {a b : Int} : wK TE fn an ops l i kk d s 210 [.int .i64 a, .int .i64 b] h Q = wR TE fn an ops l (i + 1) kk ⟨putV s d (.int .i64 (cmpI a b)), h⟩ Q := by
  rw [wK_ev cmp_ev]; simp

def orL : List Int → Int
  | [] => 0
  | x :: l => if x = 0 then orL l else x
theorem or_ev {t g : Bool} {w : List Int} (hn : w.length ≤ 1000) : Ev TE 126 [.fl t g (w.map (.int .i64))] h (.int .i64 (orL w)) h := by
  refine ev_pure 18 [.tmp 2] rfl rfl rfl Tryz.func126 rfl rfl rfl (args' := [.fl t g (w.map (.int .i64))]) rfl fun Q hQ hN => ?_
  simp
  obtain ⟨I, hI⟩ : ∃ I : Nat → (Nat → V) → Heap → Prop, I = fun m f hp => ∃ j : Nat, j + m = w.length ∧ f 8 = .int .i64 j ∧ orL (w.drop j) = orL w ∧ hp = ⟨[], []⟩ := ⟨_, rfl⟩
  refine wLp_ind [2, 5, 8, 9, 10, 11, 12, 13, 14, 15, 16] I w.length (by rw [hI]; exact ⟨0, by simp, rfl, rfl, rfl⟩) ?_
  intro m f hp hi
  rw [hI] at hi
  obtain ⟨j, hm, f8, ho, rfl⟩ := hi
  by_cases hlt : j < w.length
  · obtain ⟨x, hx⟩ : ∃ x, w[j] = x := ⟨_, rfl⟩
    have e1 : IntKind.i64.wrap ((j : Int) + 1) = ((j + 1 : Nat) : Int) := wrap_id (by omega) (by omega)
    have hd : w.drop j = x :: w.drop (j + 1) := by rw [List.drop_eq_getElem_cons hlt, hx]
    rw [hd, orL] at ho
    by_cases hz : x = 0
    · rw [if_pos hz] at ho
      have hz' : (x != 0) = false := by simp [hz]
      simp [f8, hlt, hx, hz', e1]
      refine loopK_normal ?_ (m - 1) ?_ ?_
      · rfl
      · omega
      rw [hI]
      exact ⟨j + 1, by omega, rfl, ho, rfl⟩
    · rw [if_neg hz] at ho
      have hz' : (x != 0) = true := by simp [hz]
      simp [f8, hlt, hx, hz', hQ]
      exact ho
  · have : w.drop j = [] := List.drop_eq_nil_of_le (by omega)
    rw [this] at ho
    simp [f8, hlt, hQ, ← ho, orL]
@[simp] theorem wK_126 {t g : Bool} {a b c e f p q r x y z : Int} : wK TE fn an ops l i kk d s 126 [.fl t g [.int .i64 a, .int .i64 b, .int .i64 c, .int .i64 e, .int .i64 f, .int .i64 p, .int .i64 q, .int .i64 r, .int .i64 x, .int .i64 y, .int .i64 z]] h Q = wR TE fn an ops l (i + 1) kk ⟨putV s d (.int .i64 (orL [a, b, c, e, f, p, q, r, x, y, z])), h⟩ Q := by
  exact (wK_ev (or_ev (t := t) (g := g) (w := [a, b, c, e, f, p, q, r, x, y, z]) (by simp))).trans (by simp)

theorem cmpl_ev {t g t' g' : Bool} {v w : List Int} (hn : v.length ≤ 100000) (hn' : w.length ≤ 100000) : Ev TE 235 [.fl t g (v.map (.int .i64)), .fl t' g' (w.map (.int .i64))] h (.int .i64 (cmpL v w)) h := by
  refine ev_pure 36 [.tmp 4] rfl rfl rfl Tryz.func235 rfl rfl rfl (args' := [.fl t g (v.map (.int .i64)), .fl t' g' (w.map (.int .i64))]) rfl fun Q hQ hN => ?_
  simp
  obtain ⟨I, hI⟩ : ∃ I : Nat → (Nat → V) → Heap → Prop, I = fun m f hp => ∃ j : Nat, j + m = v.length ∧ j ≤ w.length ∧ f 11 = .int .i64 j ∧ cmpL (v.drop j) (w.drop j) = cmpL v w ∧ hp = ⟨[], []⟩ := ⟨_, rfl⟩
  refine wLp_ind [4, 5, 6, 7, 8, 11, 12, 13, 14, 15, 16, 17, 18, 19, 20, 21, 22, 23, 24, 25, 26, 27, 28, 29, 30] I v.length (by rw [hI]; exact ⟨0, by simp, by simp, rfl, rfl, rfl⟩) ?_
  intro m f hp hi
  rw [hI] at hi
  obtain ⟨j, hm, hjw, f11, ho, rfl⟩ := hi
  by_cases hlt : j < v.length
  · obtain ⟨x, hx⟩ : ∃ x, v[j] = x := ⟨_, rfl⟩
    have e1 : IntKind.i64.wrap ((j : Int) + 1) = ((j + 1 : Nat) : Int) := wrap_id (by omega) (by omega)
    have hd : v.drop j = x :: v.drop (j + 1) := by rw [List.drop_eq_getElem_cons hlt, hx]
    by_cases hlw : j < w.length
    · obtain ⟨y, hy⟩ : ∃ y, w[j] = y := ⟨_, rfl⟩
      have hd' : w.drop j = y :: w.drop (j + 1) := by rw [List.drop_eq_getElem_cons hlw, hy]
      have hnl : ¬ w.length ≤ j := by omega
      rw [hd, hd', cmpL] at ho
      by_cases hz : cmpI x y = 0
      · rw [if_pos hz] at ho
        have hz' : (cmpI x y != 0) = false := by simp [hz]
        simp [f11, hlt, hx, hlw, hy, hnl, hz', e1]
        refine loopK_normal ?_ (m - 1) ?_ ?_
        · rfl
        · omega
        rw [hI]
        exact ⟨j + 1, by omega, by omega, rfl, ho, rfl⟩
      · rw [if_neg hz] at ho
        have hz' : (cmpI x y != 0) = true := by simp [hz]
        simp [f11, hlt, hx, hlw, hy, hnl, hz', hQ]
        exact ho
    · have hnl : w.length ≤ j := by omega
      have hd' : w.drop j = [] := List.drop_eq_nil_of_le hnl
      rw [hd, hd', cmpL] at ho
      simp [f11, hlt, hx, hnl, hQ, ← ho]
  · have hd : v.drop j = [] := List.drop_eq_nil_of_le (by omega)
    have hj : j = v.length := by omega
    by_cases hlw : v.length < w.length
    · obtain ⟨y, hy⟩ : ∃ y, w[j]'(by omega) = y := ⟨_, rfl⟩
      have hd' : w.drop j = y :: w.drop (j + 1) := by rw [List.drop_eq_getElem_cons (by omega), hy]
      rw [hd, hd', cmpL] at ho
      simp [f11, hlt, hlw, hQ, ← ho]
    · have hd' : w.drop j = [] := List.drop_eq_nil_of_le (by omega)
      rw [hd, hd', cmpL] at ho
      simp [f11, hlt, hlw, hQ, ← ho]
@[simp] theorem wK_235 {t g t' g' : Bool} {v w : List Int} (hn : v.length ≤ 100000) (hn' : w.length ≤ 100000) : wK TE fn an ops l i kk d s 235 [.fl t g (v.map (.int .i64)), .fl t' g' (w.map (.int .i64))] h Q = wR TE fn an ops l (i + 1) kk ⟨putV s d (.int .i64 (cmpL v w)), h⟩ Q := by
  rw [wK_ev (cmpl_ev hn hn')]; simp

theorem srccmp_ev {a b : Nat} (ha : a < 6) (hb : b < 6) : Ev TE 64 [.agg [.str [65, 66], .str [83, stB a], .str [48, 48], .str [66, 72, 90]], .agg [.str [65, 66], .str [83, stB b], .str [48, 48], .str [66, 72, 90]]] h (.int .i64 (cmpI a b)) h := by
  have h1 : a = 0 ∨ a = 1 ∨ a = 2 ∨ a = 3 ∨ a = 4 ∨ a = 5 := by omega
  have h2 : b = 0 ∨ b = 1 ∨ b = 2 ∨ b = 3 ∨ b = 4 ∨ b = 5 := by omega
  rcases h1 with rfl | rfl | rfl | rfl | rfl | rfl <;> rcases h2 with rfl | rfl | rfl | rfl | rfl | rfl <;> exact ev_of_run (n := 40) (by kernel_rfl)
@[simp] theorem wK_64 {a b : Nat} (ha : a < 6) (hb : b < 6) : wK TE fn an ops l i kk d s 64 [.agg [.str [65, 66], .str [83, stB a], .str [48, 48], .str [66, 72, 90]], .agg [.str [65, 66], .str [83, stB b], .str [48, 48], .str [66, 72, 90]]] h Q = wR TE fn an ops l (i + 1) kk ⟨putV s d (.int .i64 (cmpI a b)), h⟩ Q := by
  rw [wK_ev (srccmp_ev ha hb)]; simp

theorem orL_key {a b : Rec} : orL [cmpI a.i b.i, cmpI (10000 * (a.first : Int)) (10000 * b.first), cmpI 0 0, cmpI a.first b.first, cmpI 100 100, cmpI 1 1, cmpI a.err b.err, cmpI 0 0, cmpI a.seq b.seq, cmpI a.smp.length b.smp.length, cmpL a.smp b.smp] = cmpR a b := by
  have e : cmpI (10000 * (a.first : Int)) (10000 * b.first) = cmpI a.first b.first := by
    unfold cmpI
    by_cases h1 : (a.first : Int) < b.first
    · rw [if_pos h1, if_pos (by omega)]
    · rw [if_neg h1, if_neg (by omega)]
      by_cases h2 : (b.first : Int) < a.first
      · rw [if_pos h2, if_pos (by omega)]
      · rw [if_neg h2, if_neg (by omega)]
  simp only [orL, e, cmpI_self, if_true, cmpR, key, cmpL]
  by_cases h1 : cmpI (a.i : Int) b.i = 0 <;> simp only [h1, if_true, if_false]
  by_cases h2 : cmpI (a.first : Int) b.first = 0 <;> simp only [h2, if_true, if_false]
  by_cases h3 : cmpI (a.err : Int) b.err = 0 <;> simp only [h3, if_true, if_false]
  by_cases h4 : cmpI (a.seq : Int) b.seq = 0 <;> simp only [h4, if_true, if_false]
  by_cases h5 : cmpI (a.smp.length : Int) b.smp.length = 0 <;> simp only [h5, if_true, if_false]
  by_cases h6 : cmpL a.smp b.smp = 0 <;> simp [h6]

set_option maxHeartbeats 4000000 in
theorem compare_ev {a b : Rec} (ha : OkR a) (hb : OkR b) : Ev TE 183 [encR a, encR b] h (.int .i64 (cmpR a b)) h := by
  refine ev_pure 68 [.tmp 4] rfl rfl rfl Tryz.func183 rfl rfl rfl (args' := [encR a, encR b]) rfl fun Q hQ hN => ?_
  have h1 := ha.i
  have h2 := hb.i
  have h3 : a.smp.length ≤ 100000 := by have := ha.len; omega
  have h4 : b.smp.length ≤ 100000 := by have := hb.len; omega
  have g1 : getAt true 4 0 (encR a) = some (.agg [.str [65, 66], .str [83, stB a.i], .str [48, 48], .str [66, 72, 90]]) := rfl
  have g2 : getAt true 4 0 (encR b) = some (.agg [.str [65, 66], .str [83, stB b.i], .str [48, 48], .str [66, 72, 90]]) := rfl
  have f1 : ∀ r : Rec, getAt false 1 4 (encR r) = some (.int .i64 0) := fun r => rfl
  have f2 : ∀ r : Rec, getAt false 1 5 (encR r) = some (.int .i64 r.first) := fun r => rfl
  have f3 : ∀ r : Rec, getAt false 1 6 (encR r) = some (.int .i64 100) := fun r => rfl
  have f4 : ∀ r : Rec, getAt false 1 7 (encR r) = some (.int .i64 1) := fun r => rfl
  have f5 : ∀ r : Rec, getAt false 1 8 (encR r) = some (.int .i64 r.err) := fun r => rfl
  have f6 : ∀ r : Rec, getAt false 1 9 (encR r) = some (.int .i64 0) := fun r => rfl
  have f7 : ∀ r : Rec, getAt false 1 10 (encR r) = some (.int .i64 r.seq) := fun r => rfl
  have f8 : ∀ r : Rec, getAt false 1 11 (encR r) = some (.fl true false (r.smp.map (.int .i64))) := fun r => rfl
  simp [-getAt, ha, hb, h1, h2, h3, h4, g1, g2, f1, f2, f3, f4, f5, f6, f7, f8, hQ, orL_key]
end
end Go.DM
namespace Go.DM
open Go.Proofs
set_option maxRecDepth 100000

def Sorted (l : List Rec) : Prop := l.Pairwise fun x y => cmpR x y ≤ 0
theorem le_trans' {a b c : Rec} (h : cmpR a b ≤ 0) (k : cmpR b c ≤ 0) : cmpR a c ≤ 0 := by
  rcases Int.lt_or_eq_of_le h with h | h
  · rcases Int.lt_or_eq_of_le k with k | k
    · exact Int.le_of_lt (ltR_trans h k)
    · rw [← cmpR_zero.1 k]; exact Int.le_of_lt h
  · rw [cmpR_zero.1 h]; exact k
theorem le_of_not {a b : Rec} (h : ¬ cmpR a b < 0) : cmpR b a ≤ 0 := by rw [cmpR_swap]; omega
theorem le_of_lt' {a b : Rec} (h : cmpR a b < 0) : cmpR a b ≤ 0 := Int.le_of_lt h

def SegSort (a b : Nat) (rs rs' : List Rec) : Prop := ∃ pre seg seg' post, rs = pre ++ (seg ++ post) ∧ rs' = pre ++ (seg' ++ post) ∧ pre.length = a ∧ a + seg.length = b ∧ seg'.Perm seg ∧ Sorted seg'

section
variable {fn : Nat} {an : Option (List (Nat × Nat × Bool))} {ops : Array Oper} {l : List Oper} {i : Nat} {kk : List Todo} {d : Option Nat} {s : List V} {Q : Ex → St → Prop} {h : Heap} {vs : List V} {ar : List Arr}

@[simp] theorem wK_183 {a b : Rec} (ha : OkR a) (hb : OkR b) : wK TE fn an ops l i kk d s 183 [encR a, encR b] h Q = wR TE fn an ops l (i + 1) kk ⟨putV s d (.int .i64 (cmpR a b)), h⟩ Q := by
  rw [wK_ev (compare_ev ha hb)]; simp

theorem get_mid {L R : List Rec} {x : Rec} : ((L ++ x :: R).map encR)[L.length]? = some (encR x) := by simp
theorem get_mid' {L R : List Rec} {x y : Rec} : (((L ++ [y]) ++ x :: R).map encR)[L.length]? = some (encR y) := by simp
theorem set_mid {L R : List Rec} {x y : Rec} : ((((L ++ [y]) ++ x :: R).map encR).set (L.length + 1) (encR y)).set L.length (encR x) = ((L ++ x :: (y :: R)).map encR) := by simp

def ISort (vs : List V) (ar : List Arr) (id ver : Nat) (o : Bool) (a b : Nat) (rs : List Rec) (v : V) (h' : Heap) : Prop := ∃ rs', v = .tuple [] ∧ h' = ⟨vs, ar.set id ⟨rs'.map encR, ver, o, 12⟩⟩ ∧ SegSort a b rs rs'
set_option maxHeartbeats 4000000 in
theorem isort_ev {id ver n a b : Nat} {o : Bool} {cap : Option Nat} {rs : List Rec} (hA : ar[id]? = some ⟨rs.map encR, ver, o, 12⟩) (hn : rs.length = n) (hn1 : n ≤ 1000) (hok : ∀ r ∈ rs, OkR r) (hab : a < b) (hbn : b ≤ n) :
    ∃ v h', Ev TE 273 [.sl id ver 0 n cap, .int .i64 a, .int .i64 b, .fn 183 []] ⟨vs, ar⟩ v h' ∧ ISort vs ar id ver o a b rs v h' := by
  refine spec_raw 53 [] rfl rfl rfl Tryz.func273 rfl rfl rfl fun Q hQ hN => ?_
  have hid : id < ar.length := (List.getElem?_eq_some_iff.1 hA).1
  have hset : ∀ A, (ar.set id A)[id]? = some A := fun A => by rw [List.getElem?_set_self hid]
  have hself : ar = ar.set id ⟨rs.map encR, ver, o, 12⟩ := by
    have := (List.getElem?_eq_some_iff.1 hA).2
    rw [← this]; simp
  have e1 : IntKind.i64.wrap ((a : Int) + 1) = ((a + 1 : Nat) : Int) := wrap_id (by omega) (by omega)
  simp [e1]
  obtain ⟨pre, seg, post, hrs, hp1, hp2⟩ : ∃ pre seg post, rs = pre ++ (seg ++ post) ∧ pre.length = a ∧ a + seg.length = b := ⟨rs.take a, (rs.drop a).take (b - a), (rs.drop a).drop (b - a), by rw [List.take_append_drop, List.take_append_drop], by rw [List.length_take]; omega, by rw [List.length_take, List.length_drop]; omega⟩
  obtain ⟨I, hI⟩ : ∃ I : Nat → (Nat → V) → Heap → Prop, I = fun m f hp => ∃ (A B A' : List Rec), seg = A ++ B ∧ 0 < A.length ∧ B.length = m ∧ A'.Perm A ∧ Sorted A' ∧ f 8 = .int .i64 ((a + A.length : Nat) : Int) ∧ hp = ⟨vs, ar.set id ⟨(pre ++ (A' ++ (B ++ post))).map encR, ver, o, 12⟩⟩ := ⟨_, rfl⟩
  refine wLp_ind [8, 9, 12, 13, 14, 15, 16, 17, 18, 19, 20, 21, 22, 23, 24, 25, 26, 27, 28, 29, 30, 31, 32, 33, 34, 35, 36, 37, 38, 39, 40, 41, 42, 43, 44, 45, 46, 47, 48, 49, 50, 51, 52] I (b - a - 1) ?_ ?_
  · rw [hI]
    cases seg with
    | nil => simp at hp2; omega
    | cons x B => exact ⟨[x], B, [x], rfl, by simp, by simp at hp2 ⊢; omega, .refl _, by simp [Sorted], rfl, by rw [hself] ; simp [hrs]⟩
  intro m f hp hi
  rw [hI] at hi
  obtain ⟨A, B, A', hAB, hA0, hBm, hperm, hsort, f8, rfl⟩ := hi
  have hlA : A'.length = A.length := hperm.length_eq
  have hsl : seg.length = A.length + B.length := by rw [hAB, List.length_append]
  by_cases hlt : a + A.length < b
  · cases B with
    | nil => simp at hsl; omega
    | cons x B =>
      simp at hsl hBm
      have e2 : IntKind.i64.wrap (((a + A.length : Nat) : Int) + 1) = ((a + A.length + 1 : Nat) : Int) := wrap_id (by omega) (by omega)
      obtain ⟨q, hq⟩ : ∃ q, q = a + A.length := ⟨_, rfl⟩
      rw [← hq] at f8 hlt e2
      simp [f8, hlt]
      obtain ⟨J, hJ⟩ : ∃ J : Nat → (Nat → V) → Heap → Prop, J = fun m g hp => ∃ (S1 S2 : List Rec), A' = S1 ++ S2 ∧ S1.length = m ∧ (∀ y ∈ S2, cmpR x y < 0) ∧ g 9 = .int .i64 ((a + m : Nat) : Int) ∧ hp = ⟨vs, ar.set id ⟨((pre ++ S1) ++ x :: (S2 ++ (B ++ post))).map encR, ver, o, 12⟩⟩ := ⟨_, rfl⟩
      refine wLp_ind [9, 18, 19, 20, 21, 22, 23, 24, 25, 26, 27, 28, 29, 30, 31, 32, 33, 34, 35, 36, 37, 38, 39, 40, 41, 42, 43, 44, 45, 46, 47, 48, 49, 50, 51, 52] J A'.length (by rw [hJ]; exact ⟨A', [], by simp, rfl, by simp, by rw [hlA, ← hq]; rfl, by simp⟩) ?_
      intro m1 g hp1 hi1
      rw [hJ] at hi1
      obtain ⟨S1, S2, hS, hm1, hgt, g9, rfl⟩ := hi1
      have hxo : OkR x := hok x (by rw [hrs, hAB]; simp)
      have hyo : ∀ y ∈ S1, OkR y := fun y hy => hok y (by
        have h1 : y ∈ A' := by rw [hS]; simp [hy]
        have h2 : y ∈ A := hperm.mem_iff.1 h1
        rw [hrs, hAB]; simp [h2])
      have hss := hsort
      rw [hS] at hss
      have hs3 := List.pairwise_append.1 hss
      have done : ∀ (S1 S2 : List Rec), A' = S1 ++ S2 → (∀ y ∈ S2, cmpR x y < 0) → (∀ y ∈ S1, cmpR y x ≤ 0) → (S1 ++ x :: S2).Perm (A ++ [x]) ∧ Sorted (S1 ++ x :: S2) := fun S1 S2 hS h1 h2 => by
        have hss := hsort
        rw [hS] at hss
        have hs3 := List.pairwise_append.1 hss
        refine ⟨?_, ?_⟩
        · have h3 : (S1 ++ x :: S2).Perm (x :: (S1 ++ S2)) := List.perm_middle
          have h4 : (x :: (S1 ++ S2)).Perm (x :: A) := by rw [← hS]; exact List.Perm.cons x hperm
          have h5 : (A ++ [x]).Perm (x :: A) := by
            have := List.perm_middle (l₁ := A) (l₂ := []) (a := x)
            simpa using this
          exact (h3.trans h4).trans h5.symm
        · unfold Sorted
          rw [List.pairwise_append]
          refine ⟨hs3.1, List.pairwise_cons.2 ⟨fun y hy => le_of_lt' (h1 y hy), hs3.2.1⟩, fun y hy z hz => ?_⟩
          rcases List.mem_cons.1 hz with rfl | hz
          · exact h2 y hy
          · exact hs3.2.2 y hy z hz
      have out : ∀ (S1 S2 : List Rec), A' = S1 ++ S2 → (∀ y ∈ S2, cmpR x y < 0) → (∀ y ∈ S1, cmpR y x ≤ 0) → ∃ (A0 B0 A1 : List Rec), seg = A0 ++ B0 ∧ 0 < A0.length ∧ B0.length = m - 1 ∧ A1.Perm A0 ∧ Sorted A1 ∧ q + 1 = a + A0.length ∧ ((pre ++ S1) ++ x :: (S2 ++ (B ++ post))) = pre ++ (A1 ++ (B0 ++ post)) := fun S1 S2 hS h1 h2 =>
        ⟨A ++ [x], B, S1 ++ x :: S2, by rw [hAB]; simp, by simp, by omega, (done S1 S2 hS h1 h2).1, (done S1 S2 hS h1 h2).2, by simp; omega, by simp⟩
      obtain ⟨es, hes⟩ : ∃ es, es = ((pre ++ S1) ++ x :: (S2 ++ (B ++ post))).map encR := ⟨_, rfl⟩
      rw [← hes]
      have fin : ∀ (s : List V) (S1 S2 : List Rec), A' = S1 ++ S2 → (∀ y ∈ S2, cmpR x y < 0) → (∀ y ∈ S1, cmpR y x ≤ 0) → es = ((pre ++ S1) ++ x :: (S2 ++ (B ++ post))).map encR → slot s 8 = .int .i64 ((q : Int) + 1) → I (m - 1) (slot s) ⟨vs, ar.set id ⟨es, ver, o, 12⟩⟩ := fun s S1 S2 hS h1 h2 he h8 => by
        obtain ⟨A0, B0, A1, o1, o2, o3, o4, o5, o6, o7⟩ := out S1 S2 hS h1 h2
        rw [hI]
        refine ⟨A0, B0, A1, o1, o2, o3, o4, o5, ?_, by rw [he, o7]⟩
        rw [h8, ← o6]; rfl
      rcases List.eq_nil_or_concat S1 with rfl | ⟨S1', y, rfl⟩
      · simp at hm1
        subst hm1
        have hna : ¬ a < a := by omega
        simp [g9, e2]
        refine loopK_normal ?_ (m - 1) ?_ ?_
        · rfl
        · omega
        exact fin _ [] S2 hS hgt (by simp) hes rfl
      · rw [List.concat_eq_append] at *
        have hy := hyo y (by simp)
        obtain ⟨p1, hp1'⟩ : ∃ p1, p1 = (pre ++ S1').length := ⟨_, rfl⟩
        have hm1' : a + m1 = p1 + 1 := by rw [hp1', ← hm1]; simp; omega
        have hpq : pre ++ (S1' ++ [y]) ++ x :: (S2 ++ (B ++ post)) = ((pre ++ S1') ++ [y]) ++ x :: (S2 ++ (B ++ post)) := by simp
        rw [hpq] at hes
        have k1 : es[p1 + 1]? = some (encR x) := by
          have := get_mid (L := (pre ++ S1') ++ [y]) (R := S2 ++ (B ++ post)) (x := x)
          rw [hes, hp1']; rw [List.length_append] at this; exact this
        have k2 : es[p1]? = some (encR y) := by rw [hes, hp1']; exact get_mid'
        have k3 : (es.set (p1 + 1) (encR y)).set p1 (encR x) = ((pre ++ S1') ++ x :: ((y :: S2) ++ (B ++ post))).map encR := by
          rw [hes, hp1']; exact set_mid
        have k4 : p1 < es.length := (List.getElem?_eq_some_iff.1 k2).1
        have k5 : p1 + 1 < es.length := (List.getElem?_eq_some_iff.1 k1).1
        have k6 : es.length = n := by
          have h1 : A'.length = S1'.length + 1 + S2.length := by rw [hS]; simp; omega
          rw [hes, ← hn, hrs, hAB]; simp; omega
        have k1' : es[p1 + 1] = encR x := by have := List.getElem?_eq_getElem k5; rw [k1] at this; exact (Option.some.inj this).symm
        have k2' : es[p1] = encR y := by have := List.getElem?_eq_getElem k4; rw [k2] at this; exact (Option.some.inj this).symm
        have hp4 : p1 < n := by omega
        have hp5 : p1 + 1 < n := by omega
        have e3 : IntKind.i64.wrap (p1 : Int) = p1 := wrap_id (by omega) (by omega)
        rw [hm1'] at g9
        have hp1q : p1 = a + S1'.length := by rw [hp1', List.length_append]; omega
        have hap : a < p1 + 1 := by omega
        have hnn : (0 : Int) ≤ (p1 : Int) + 1 := by omega
        have hapI : (a : Int) < (p1 : Int) + 1 := by omega
        by_cases hc : cmpR x y < 0
        · have sA : ∀ v : Rec, setAt 0 (encR v).cells (encR x) = some (encR v) := fun v => rfl
          have sB : ∀ v : Rec, setAt 0 (encR v).cells (encR y) = some (encR v) := fun v => rfl
          simp (maxSteps := 10000000) [-getAt, -setAt, sA, sB, g9, hapI, hnn, hset, k1', k2', k3, k6, e3, hp4, hp5, hxo, hy, hc]
          refine loopK_normal ?_ (m1 - 1) ?_ ?_
          · rfl
          · omega
          rw [hJ]
          refine ⟨S1', y :: S2, by rw [hS]; simp, by rw [← hm1]; simp, fun z hz => ?_, ?_, by simp⟩
          · rcases List.mem_cons.1 hz with rfl | hz
            · exact hc
            · exact hgt z hz
          · show V.int .i64 (p1 : Int) = V.int .i64 ((a + (m1 - 1) : Nat) : Int)
            congr 1; congr 1; omega
        · have hcl : ∀ z ∈ S1' ++ [y], cmpR z x ≤ 0 := fun z hz => by
            have hyx := le_of_not hc
            rcases List.mem_append.1 hz with h | h
            · have h1 := (List.pairwise_append.1 hs3.1).2.2 z h y (by simp)
              exact le_trans' h1 hyx
            · rw [List.mem_singleton.1 h]; exact hyx
          simp (maxSteps := 10000000) [-getAt, g9, hapI, hnn, hset, k1', k2', k3, k6, e3, hp4, hp5, hxo, hy, hc, e2]
          refine loopK_normal ?_ (m - 1) ?_ ?_
          · rfl
          · omega
          exact fin _ (S1' ++ [y]) S2 hS hgt hcl (by rw [hes, hpq]) rfl
  · have hB : B = [] := by
      apply List.length_eq_zero_iff.1
      omega
    subst hB
    have hlt' : ¬ ((a + A.length : Nat) : Int) < (b : Int) := by omega
    obtain ⟨q, hq⟩ : ∃ q, q = a + A.length := ⟨_, rfl⟩
    rw [← hq] at f8 hlt
    obtain ⟨es, hes⟩ : ∃ es, es = (pre ++ (A' ++ ([] ++ post))).map encR := ⟨_, rfl⟩
    rw [← hes]
    simp [f8, hlt, hN]
    exact ⟨pre ++ (A' ++ post), rfl, by rw [hes]; rfl, pre, seg, A', post, hrs, rfl, hp1, hp2, by rw [hAB]; simpa using hperm, hsort⟩
end
end Go.DM
namespace Go.DM
open Go.Proofs
set_option maxRecDepth 100000
section
variable {fn : Nat} {an : Option (List (Nat × Nat × Bool))} {ops : Array Oper} {l : List Oper} {i : Nat} {kk : List Todo} {d : Option Nat} {s : List V} {Q : Ex → St → Prop} {h : Heap} {vs : List V} {ar : List Arr}

theorem get_of {es : List V} {j : Nat} {v : V} (h : es[j]? = some v) (hj : j < es.length) : es[j] = v := by
  have := List.getElem?_eq_getElem hj; rw [h] at this; exact (Option.some.inj this).symm

theorem order2_ev {id ver n a b p : Nat} {o : Bool} {cap : Option Nat} {es : List V} {x y : Rec} (hA : ar[id]? = some ⟨es, ver, o, 12⟩) (hn : es.length = n) (ha : es[a]? = some (encR x)) (hb : es[b]? = some (encR y)) (hx : OkR x) (hy : OkR y) (hc : ¬ cmpR y x < 0) :
    Ev TE 322 [.sl id ver 0 n cap, .int .i64 a, .int .i64 b, .ptr p 0, .fn 183 []] ⟨vs, ar⟩ (.tuple [.int .i64 a, .int .i64 b]) ⟨vs, ar⟩ := by
  refine ev_raw 32 [.tmp 10, .tmp 11] rfl rfl rfl Tryz.func322 rfl rfl rfl fun Q hQ hN => ?_
  have h1 : a < n := by rw [← hn]; exact (List.getElem?_eq_some_iff.1 ha).1
  have h2 : b < n := by rw [← hn]; exact (List.getElem?_eq_some_iff.1 hb).1
  have h3 := get_of ha (by omega)
  have h4 := get_of hb (by omega)
  simp [-getAt, hA, hn, h1, h2, h3, h4, hx, hy, hc, hQ]
theorem median_ev {id ver n a b c p : Nat} {o : Bool} {cap : Option Nat} {es : List V} {x y z : Rec} (hA : ar[id]? = some ⟨es, ver, o, 12⟩) (hn : es.length = n) (ha : es[a]? = some (encR x)) (hb : es[b]? = some (encR y)) (hc : es[c]? = some (encR z)) (hx : OkR x) (hy : OkR y) (hz : OkR z) (h1 : ¬ cmpR y x < 0) (h2 : ¬ cmpR z y < 0) :
    Ev TE 297 [.sl id ver 0 n cap, .int .i64 a, .int .i64 b, .int .i64 c, .ptr p 0, .fn 183 []] ⟨vs, ar⟩ (.int .i64 b) ⟨vs, ar⟩ := by
  refine ev_raw 41 [.tmp 12] rfl rfl rfl Tryz.func297 rfl rfl rfl fun Q hQ hN => ?_
  simp
  rw [wK_ev (order2_ev hA hn ha hb hx hy h1)]
  simp
  rw [wK_ev (order2_ev hA hn hb hc hy hz h2)]
  simp
  rw [wK_ev (order2_ev hA hn ha hb hx hy h1)]
  simp [hQ]
theorem pivot_ev {id ver : Nat} {o : Bool} {cap : Option Nat} {es : List V} {x y z : Rec} (hA : ar[id]? = some ⟨es, ver, o, 12⟩) (hn : es.length = 13) (ha : es[3]? = some (encR x)) (hb : es[6]? = some (encR y)) (hc : es[9]? = some (encR z)) (hx : OkR x) (hy : OkR y) (hz : OkR z) (h1 : ¬ cmpR y x < 0) (h2 : ¬ cmpR z y < 0) :
    Ev TE 276 [.sl id ver 0 13 cap, .int .i64 0, .int .i64 13, .fn 183 []] ⟨vs, ar⟩ (.tuple [.int .i64 6, .int .i64 1]) ⟨vs ++ [.int .i64 0], ar⟩ := by
  refine ev_raw 63 [.tmp 8, .tmp 9] rfl rfl rfl Tryz.func276 rfl rfl rfl fun Q hQ hN => ?_
  have e1 : Int.tdiv 13 4 = 3 := by decide
  have w13 : IntKind.i64.wrap 13 = 13 := wrap_id (by omega) (by omega)
  have w3 : IntKind.i64.wrap 3 = 3 := wrap_id (by omega) (by omega)
  have w6 : IntKind.i64.wrap 6 = 6 := wrap_id (by omega) (by omega)
  have w9 : IntKind.i64.wrap 9 = 9 := wrap_id (by omega) (by omega)
  simp [e1, w13, w3, w6, w9]
  have this : Ev TE 297 [.sl id ver 0 13 cap, .int .i64 3, .int .i64 6, .int .i64 9, .ptr vs.length 0, .fn 183 []] ⟨vs ++ [.int .i64 0], ar⟩ (.int .i64 6) ⟨vs ++ [.int .i64 0], ar⟩ := median_ev (vs := vs ++ [.int .i64 0]) (p := vs.length) (cap := cap) (a := 3) (b := 6) (c := 9) hA hn ha hb hc hx hy hz h1 h2
  rw [wK_ev this]
  simp [hQ]

/-- A list in strict order but for its last. -/
theorem partial_ev {id ver : Nat} {o : Bool} {cap : Option Nat} {A : List Rec} {z w : Rec} (hA : ar[id]? = some ⟨(A ++ [z]).map encR, ver, o, 12⟩) (hn : A.length = 12) (hs : Strict A) (hok : ∀ r ∈ A ++ [z], OkR r) (hw : A[11]? = some w) :
    Ev TE 278 [.sl id ver 0 13 cap, .int .i64 0, .int .i64 13, .fn 183 []] ⟨vs, ar⟩ (.bool (!decide (cmpR z w < 0))) ⟨vs, ar⟩ := by
  refine ev_raw 141 [.tmp 8] rfl rfl rfl Tryz.func278 rfl rfl rfl fun Q hQ hN => ?_
  simp
  obtain ⟨I, hI⟩ : ∃ I : Nat → (Nat → V) → Heap → Prop, I = fun m f hp => f 9 = .int .i64 1 ∧ f 10 = .int .i64 0 ∧ hp = ⟨vs, ar⟩ := ⟨_, rfl⟩
  refine wLp_ind [8, 9, 10, 11, 12, 15, 16, 17, 18, 19, 20, 21, 22, 23, 24, 25, 26, 27, 28, 29, 30, 31, 32, 33, 34, 35, 36, 37, 38, 39, 40, 41, 42, 43, 44, 45, 46, 47, 48, 49, 50, 51, 52, 53, 54, 55, 56, 57, 58, 59, 60, 61, 62, 63, 64, 65, 66, 67, 68, 69, 70, 71, 72, 73, 74, 75, 76, 77, 78, 79, 80, 81, 82, 83, 84, 85, 86, 87, 88, 89, 90, 91, 92, 93, 94, 95, 96, 97, 98, 99, 100, 101, 102, 103, 104, 105, 106, 107, 108, 109, 110, 111, 112, 113, 114, 115, 116, 117, 118, 119, 120, 121, 122, 123, 124, 125, 126, 127, 128, 129, 130, 131, 132, 133, 134, 135, 136, 137, 138, 139, 140] I 1 (by rw [hI]; exact ⟨rfl, rfl, rfl⟩) ?_
  intro m f hp hi
  rw [hI] at hi
  obtain ⟨f9, f10, rfl⟩ := hi
  simp (maxSteps := 10000000) [-dirtyAt, dirtyAt_hit, dirtyAt_miss, dirtyAt_done, dirtyAt_rest, f9, f10]
  obtain ⟨es, hes⟩ : ∃ es, es = (A ++ [z]).map encR := ⟨_, rfl⟩
  rw [← hes] at hA
  have hel : es.length = 13 := by rw [hes]; simp [hn]
  obtain ⟨J, hJ⟩ : ∃ J : Nat → (Nat → V) → Heap → Prop, J = fun m f hp => ∃ j : Nat, j + m = 13 ∧ 1 ≤ j ∧ (j = 13 → ¬ cmpR z w < 0) ∧ f 9 = .int .i64 j ∧ hp = ⟨vs, ar⟩ := ⟨_, rfl⟩
  refine wLp_ind [9, 19, 20, 21, 22, 23, 24, 25, 26, 27, 28, 29, 30, 31, 32, 33, 34, 35, 36, 37, 38] J 12 (by rw [hJ]; exact ⟨1, by omega, by omega, by omega, rfl, rfl⟩) ?_
  intro m1 g hp1 hi1
  rw [hJ] at hi1
  obtain ⟨j, hm1, hj1, hj13, g9, rfl⟩ := hi1
  by_cases hlt : j < 13
  · obtain ⟨j', rfl⟩ : ∃ j', j = j' + 1 := ⟨j - 1, by omega⟩
    have a1 : j' + 1 < (A ++ [z]).length := by simp [hn]; omega
    obtain ⟨x, hx⟩ : ∃ x, (A ++ [z])[j' + 1] = x := ⟨_, rfl⟩
    have a2 : j' < (A ++ [z]).length := by omega
    obtain ⟨y, hy⟩ : ∃ y, (A ++ [z])[j'] = y := ⟨_, rfl⟩
    have b1 : es[j' + 1]'(by omega) = encR x := by simp only [hes, List.getElem_map, hx]
    have b2 : es[j']'(by omega) = encR y := by simp only [hes, List.getElem_map, hy]
    have ox : OkR x := hok x (hx ▸ List.getElem_mem _)
    have oy : OkR y := hok y (hy ▸ List.getElem_mem _)
    have e1 : IntKind.i64.wrap (j' : Int) = j' := wrap_id (by omega) (by omega)
    have e2 : IntKind.i64.wrap ((j' : Int) + 1 + 1) = ((j' + 1 + 1 : Nat) : Int) := wrap_id (by omega) (by omega)
    have c1 : (j' : Int) + 1 < 13 := by omega
    have c2 : (0 : Int) ≤ (j' : Int) + 1 := by omega
    have c3 : j' + 1 < 13 := by omega
    have c4 : j' < 13 := by omega
    have ylt : j' + 1 < 12 → ¬ cmpR x y < 0 := fun hh => by
      have h1 : A[j' + 1]'(by omega) = x := by rw [← hx, List.getElem_append_left]
      have h2 : A[j']'(by omega) = y := by rw [← hy, List.getElem_append_left]
      have h3 := List.pairwise_iff_getElem.1 hs j' (j' + 1) (by omega) (by omega) (by omega)
      rw [h1, h2] at h3
      have : cmpR x y = - cmpR y x := cmpR_swap y x
      unfold ltR at h3
      omega
    by_cases hc : cmpR x y < 0
    · have hj12 : j' = 11 := by
        apply Classical.byContradiction
        intro hne
        exact ylt (by omega) hc
      have bn : ((j' : Int) + 1 == 13) = false := by simp; omega
      have hxz : x = z := by
        rw [← hx, List.getElem_append_right (by omega)]
        simp
      have hyw : y = w := by
        rw [← hy, List.getElem_append_left (by omega)]
        have hw' := hw
        rw [← hj12] at hw'
        exact Option.some.inj ((List.getElem?_eq_getElem (by omega)).symm.trans hw')
      have hc' : cmpR z w < 0 := by rw [← hxz, ← hyw]; exact hc
      have w13 : IntKind.i64.wrap 13 = 13 := wrap_id (by omega) (by omega)
      simp (maxSteps := 10000000) [-getAt, -dirtyAt, dirtyAt_hit, dirtyAt_miss, dirtyAt_done, dirtyAt_rest, g9, c1, c2, c3, c4, hA, hel, b1, b2, ox, oy, hc, e1, bn, w13, hc', hQ]
    · simp (maxSteps := 10000000) [-getAt, -dirtyAt, dirtyAt_hit, dirtyAt_miss, dirtyAt_done, dirtyAt_rest, g9, c1, c2, c3, c4, hA, hel, b1, b2, ox, oy, hc, e1, e2]
      refine loopK_normal ?_ (m1 - 1) ?_ ?_
      · rfl
      · omega
      rw [hJ]
      refine ⟨j' + 2, by omega, by omega, fun h13 => ?_, rfl, rfl⟩
      have hj12 : j' = 11 := by omega
      have hxz : x = z := by
        rw [← hx, List.getElem_append_right (by omega)]
        simp
      have hyw : y = w := by
        rw [← hy, List.getElem_append_left (by omega)]
        have hw' := hw
        rw [← hj12] at hw'
        exact Option.some.inj ((List.getElem?_eq_getElem (by omega)).symm.trans hw')
      rw [← hxz, ← hyw]; exact hc
  · have e : j = 13 := by omega
    subst e
    have hc := hj13 rfl
    simp (maxSteps := 10000000) [-getAt, -dirtyAt, dirtyAt_hit, dirtyAt_miss, dirtyAt_done, dirtyAt_rest, g9, hc, hQ]
end
end Go.DM
