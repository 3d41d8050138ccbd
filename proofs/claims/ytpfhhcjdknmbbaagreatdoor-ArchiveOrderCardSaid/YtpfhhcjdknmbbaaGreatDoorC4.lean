/-
  Waves: records of all channels.
-/
import Derived.Test.YtpfhhcjdknmbbaaGreatDoorC1
import Derived.Test.YtpfhhcjdknmbbaaGreatDoorC3
set_option linter.all false
set_option linter.unusedSimpArgs false
set_option linter.unusedVariables false
namespace Go.DM
open Go.Proofs
set_option maxRecDepth 100000
section
variable {fn : Nat} {S : Src} {k : Nat}

def Amp (b : Int) (w : List Int) : Prop := ∀ x ∈ w, -b ≤ x ∧ x ≤ b
theorem Amp.mono {b b' : Int} {w : List Int} (h : Amp b w) (hb : b ≤ b') : Amp b' w := fun x hx => by have := h x hx; omega
theorem Amp.set {b : Int} {w : List Int} (h : Amp b w) {j : Nat} {y : Int} (hy : -b ≤ y ∧ y ≤ b) : Amp b (w.set j y) := fun x hx => by
  rcases List.mem_or_eq_of_mem_set hx with h1 | h1
  · exact h x h1
  · rw [h1]; exact hy
theorem sq_b {a : Int} (h1 : -200 ≤ a) (h2 : a ≤ 200) : 0 ≤ a * a ∧ a * a ≤ 40000 := by
  rcases Int.le_total 0 a with h | h
  · exact ⟨Int.mul_nonneg h h, Int.mul_le_mul (c := 200) (d := 200) h2 h2 h (by omega)⟩
  · have e : a * a = (-a) * (-a) := (Int.neg_mul_neg a a).symm
    have h3 : 0 ≤ -a := by omega
    have h4 : -a ≤ 200 := by omega
    rw [e]
    exact ⟨Int.mul_nonneg h3 h3, Int.mul_le_mul (c := 200) (d := 200) h4 h4 h3 (by omega)⟩
theorem lp_st {v : V} (h : v.storable = true) : v.isLptr = false := by cases v <;> first | rfl | cases h
set_option maxHeartbeats 40000000 in
theorem waves_ev {x1 x2 x3 x4 x5 x6 st : Int} {lo hi : List Int} {r0 : V} {rest : List V} (hrest : rest.length = 22) (hb : Bounds x1 x2 x3 x4 x5 x6 st lo hi 10000000) {fs : List (Nat × List Ep)} (hfn : fs.length = 4) (hfs : ∀ (j : Nat) (p : Nat × List Ep), fs[j]? = some p → p.1 = j ∧ p.2.length ≤ 1000 ∧ ∀ e ∈ p.2, EpOk e) :
    ∃ v h', Ev TE 12 [.ptr 0 0, .agg (.int .i64 x1 :: .int .i64 x2 :: .int .i64 x3 :: .int .i64 x4 :: .int .i64 x5 :: .int .i64 x6 :: .int .i64 st :: .fl true false (lo.map (.int .i64)) :: r0 :: rest), .agg [.fl true false (fs.map encF)]] ⟨[S.v k], []⟩ v h' ∧ GoodWaves S v h' := by
  refine spec_shr 213 [.tmp 6] rfl rfl rfl Tryz.func12 rfl rfl rfl fun Q hQ hN => ?_
  obtain ⟨⟨b1, b2, b3, b4, b5, b6, b7, b8, b9⟩, c1, c2, c3, c4, c5, c6, c7⟩ := hb
  have g1 : -1000 ≤ x1 := by omega
  have g2 : x4 ≤ 1000 := by omega
  have g3 : -1000 ≤ x2 := by omega
  have g4 : x5 ≤ 1000 := by omega
  have g5 : -1000 ≤ x3 := by omega
  have g6 : x6 ≤ 1000 := by omega
  have q1 := S.r_lt k (n := x4 - x1 + 1) (by omega)
  have q2 := S.r_lt (k + 1) (n := x5 - x2 + 1) (by omega)
  have q3 := S.r_lt (k + 2) (n := x6 - x3 + 1) (by omega)
  have q4 := S.r_lt (k + 3) (n := 40) (by omega)
  have pt := fun (an : Option (List (Nat × Nat × Bool))) (ops : Array Oper) (l : List Oper) (i : Nat) (kk : List Todo) (d : Option Nat) (s : List V) (Q : Ex → St → Prop) => wK_ev (fn := 12) (an := an) (ops := ops) (l := l) (i := i) (k := kk) (d := d) (s := s) (Q := Q) (point_ev (S := S) (k := k) (vs := []) (ar := []) ⟨g1, b2, g2⟩ ⟨g3, b5, g4⟩ ⟨g5, b8, g6⟩)
  have e1 : IntKind.i64.wrap (10000 * S.r (k + 3) 40) = 10000 * S.r (k + 3) 40 := wrap_id (by omega) (by omega)
  have e2 : IntKind.i64.wrap (1600000 + 10000 * S.r (k + 3) 40) = 1600000 + 10000 * S.r (k + 3) 40 := wrap_id (by omega) (by omega)
  simp [hrest, pt, e1, e2]
  obtain ⟨X, hX⟩ : ∃ X, X = x1 + S.r k (x4 - x1 + 1) := ⟨_, rfl⟩
  obtain ⟨Y, hY⟩ : ∃ X, X = x2 + S.r (k + 1) (x5 - x2 + 1) := ⟨_, rfl⟩
  obtain ⟨Z, hZ⟩ : ∃ X, X = x3 + S.r (k + 2) (x6 - x3 + 1) := ⟨_, rfl⟩
  obtain ⟨T, hT⟩ : ∃ X, X = 1600000 + 10000 * S.r (k + 3) 40 := ⟨_, rfl⟩
  have hXb : -100 ≤ X ∧ X ≤ 100 := by omega
  have hYb : -100 ≤ Y ∧ Y ≤ 100 := by omega
  have hZb : -100 ≤ Z ∧ Z ≤ 100 := by omega
  have hTb : 1600000 ≤ T ∧ T ≤ 2000000 := by omega
  rw [← hX, ← hY, ← hZ, ← hT]
  clear pt e1 e2
  obtain ⟨I, hI⟩ : ∃ I : Nat → (Nat → V) → Heap → Prop, I = fun m f hp => ∃ (j k' : Nat) (ar : List Arr) (ws : List WR), j + m = 4 ∧ f 41 = .int .i64 j ∧ hp = ⟨[S.v k'], ar⟩ ∧ OutOk (f 10) ar ws ∧ WAll ar j ws := ⟨_, rfl⟩
  refine wLp_ind [10, 11, 12, 13, 14, 15, 16, 17, 18, 19, 20, 21, 22, 23, 41, 42, 43, 44, 45, 46, 47, 48, 49, 50, 51, 52, 53, 54, 55, 56, 57, 58, 59, 60, 61, 62, 63, 64, 65, 66, 67, 68, 69, 70, 71, 72, 73, 74, 75, 76, 77, 78, 79, 80, 81, 82, 83, 84, 85, 86, 87, 88, 89, 90, 91, 92, 93, 94, 95, 96, 97, 98, 99, 100, 101, 102, 103, 104, 105, 106, 107, 108, 109, 110, 111, 112, 113, 114, 115, 116, 117, 118, 119, 120, 121, 122, 123, 124, 125, 126, 127, 128, 129, 130, 131, 132, 133, 134, 135, 136, 137, 138, 139, 140, 141, 142, 143, 144, 145, 146, 147, 148, 149, 150, 151, 152, 153, 154, 155, 156, 157, 158, 159, 160, 161, 162, 163, 164, 165, 166, 167, 168, 169, 170, 171, 172, 173, 174, 175, 176, 177, 178, 179, 180, 181, 182, 183, 184, 185, 186, 187, 188, 189, 190, 191, 192, 193, 194, 195, 196, 197, 198, 199, 200, 201, 202, 203, 204, 205, 206, 207, 208, 209, 210, 211] I 4 (by rw [hI]; exact ⟨0, _, [], [], by simp, rfl, rfl, .inl ⟨rfl, rfl⟩, ⟨by simp, by simp, by simp, by simp, by simp⟩⟩) ?_
  intro m f hp hi
  rw [hI] at hi
  obtain ⟨j, k', ar, ws, hm, f41, rfl, hout, hall⟩ := hi
  obtain ⟨v10, hv10⟩ : ∃ v, v = f 10 := ⟨_, rfl⟩
  rw [← hv10] at hout
  have f10 := hv10.symm
  have hvst := hout.st
  by_cases hlt : j < 4
  · have e6 : IntKind.i64.wrap ((j : Int) + 1) = ((j + 1 : Nat) : Int) := wrap_id (by omega) (by omega)
    have hj4 : (j : Int) < 4 := by omega
    have hjn : j < fs.length := by omega
    obtain ⟨p, hp⟩ : ∃ p, fs[j] = p := ⟨_, rfl⟩
    have hpj : fs[j]? = some p := by rw [List.getElem?_eq_getElem hjn, hp]
    have hpj1 := (hfs j p hpj).1
    have r0 := S.r_lt k' (n := 40) (by omega)
    obtain ⟨n, hn⟩ : ∃ n, n = (260 + S.r k' 40).toNat := ⟨_, rfl⟩
    have hn1 : 260 + S.r k' 40 = (n : Int) := by omega
    have hn2 : 260 ≤ n ∧ n ≤ 299 := by omega
    have hn3 : IntKind.i64.wrap (n : Int) = n := wrap_id (by omega) (by omega)
    have hn4 : n * 8 ≤ 281474976710656 := by omega
    have hn5 : n ≤ 281474976710656 := by omega
    simp (maxSteps := 10000000) [-dirtyAt, dirtyAt_hit, dirtyAt_miss, dirtyAt_done, dirtyAt_rest, f41, f10, hvst, hlt, hj4, hfn, hjn, hp, encF, hn1, hn3, makeSliceV, hn4, hn5]
    obtain ⟨I1, hI1⟩ : ∃ I : Nat → (Nat → V) → Heap → Prop, I = fun m g hp => ∃ (q : Nat) (w : List Int), q + m = n ∧ g 52 = .int .i64 q ∧ w.length = n ∧ Amp 10 w ∧ hp = ⟨[S.v (k' + 1)], ar ++ [⟨w.map (.int .i64), 0, false, 1⟩]⟩ := ⟨_, rfl⟩
    refine wLp_ind [14, 52, 53, 54, 55, 56, 57, 58, 59, 60, 61, 62] I1 n (by rw [hI1]; exact ⟨0, List.replicate n 0, by simp, rfl, by simp, by intro x hx; rw [List.eq_of_mem_replicate hx]; omega, by simp⟩) ?_
    intro m1 g hp1 hi1
    rw [hI1] at hi1
    obtain ⟨q, w, hm1, g52, hw, hamp, rfl⟩ := hi1
    by_cases hlq : q < n
    · have e7 : IntKind.i64.wrap ((q : Int) + 1) = ((q + 1 : Nat) : Int) := wrap_id (by omega) (by omega)
      have hqw : q < w.length := by omega
      obtain ⟨y, hy⟩ : ∃ y, y = IntKind.i64.wrap ((q % 2 ^ IntKind.i64.bits &&& 1 % 2 ^ IntKind.i64.bits : Nat) : Int) := ⟨_, rfl⟩
      have hy1 : y = 0 ∨ y = 1 := hy ▸ and1q q
      have e8 : IntKind.i64.wrap (2 * y) = 2 * y := wrap_id (by omega) (by omega)
      have e9 : IntKind.i64.wrap (1 - 2 * y) = 1 - 2 * y := wrap_id (by omega) (by omega)
      simp (maxSteps := 10000000) [-dirtyAt, dirtyAt_hit, dirtyAt_miss, dirtyAt_done, dirtyAt_rest, g52, hlq, hw, hqw, e7, ← hy, e8, e9]
      refine loopK_normal ?_ (m1 - 1) ?_ ?_
      · rfl
      · omega
      rw [hI1]
      exact ⟨q + 1, w.set q (1 - 2 * y), by omega, rfl, by simp [hw], hamp.set (by omega), by simp [List.map_set]⟩
    · simp (maxSteps := 10000000) [-dirtyAt, dirtyAt_hit, dirtyAt_miss, dirtyAt_done, dirtyAt_rest, g52, hlq]
      obtain ⟨I2, hI2⟩ : ∃ I : Nat → (Nat → V) → Heap → Prop, I = fun m g hp => ∃ (b k2 : Nat) (w : List Int), b + m = 3 ∧ b ≤ 2 ∧ g 15 = .int .i64 b ∧ w.length = n ∧ Amp (10 + 2400 * b) w ∧ hp = ⟨[S.v k2], ar ++ [⟨w.map (.int .i64), 0, false, 1⟩]⟩ := ⟨_, rfl⟩
      refine wLp_ind [15, 16, 17, 18, 19, 20, 63, 64, 65, 66, 67, 68, 69, 70, 71, 72, 73, 74, 75, 76, 77, 78, 79, 80, 81, 82, 83, 84, 85, 86, 87, 88, 89, 90, 91, 92, 93, 94, 95, 96, 97, 98, 99, 100, 101, 102, 103, 104, 105, 106, 107, 108, 109, 110, 111, 112, 113, 114, 115, 116, 117, 118, 119, 120, 121, 122, 123, 124, 125, 126, 127, 128, 129, 130, 131, 132, 133, 134, 135, 136, 137, 138, 139, 140, 141, 142, 143, 144, 145, 146, 147, 148, 149, 150, 151, 152, 153, 154, 155, 156, 157] I2 3 (by rw [hI2]; exact ⟨0, _, w, by simp, by omega, rfl, hw, hamp, rfl⟩) ?_
      clear hamp hw w
      intro m2 g2 hp2 hi2
      rw [hI2] at hi2
      obtain ⟨b, k2, w, hm2, hb2, g15, hw, hamp, rfl⟩ := hi2
      have rb := S.r_lt k2 (n := 2) (by omega)
      have f1 : IntKind.i64.wrap (1 + S.r k2 2) = 1 + S.r k2 2 := wrap_id (by omega) (by omega)
      by_cases hbc : (b : Int) < 1 + S.r k2 2
      · have ra := S.r_lt (k2 + 1) (n := 100) (by omega)
        have f2 : IntKind.i64.wrap (100 + S.r (k2 + 1) 100) = 100 + S.r (k2 + 1) 100 := wrap_id (by omega) (by omega)
        simp (maxSteps := 10000000) [-dirtyAt, dirtyAt_hit, dirtyAt_miss, dirtyAt_done, dirtyAt_rest, g15, f1, hbc, f2]
        refine wK_spec _ (placed_ev (by omega) fun p hp => ?_) ?_
        · obtain ⟨i, hi⟩ := List.getElem?_of_mem hp
          exact (hfs i p hi).2
        rintro v h' ⟨⟨px, py, pz, okp, rfl, hpb⟩, rfl⟩
        refine ⟨rfl, by simp, ?_⟩
        refine wR_mid [16, 17, 18, 19, 73, 74, 75, 76, 77, 78, 79, 80, 81, 82, 83, 84, 85, 86, 87, 88, 89, 90, 91, 92, 93, 94, 95, 96, 97, 98, 99, 100, 101, 102, 103, 104, 105, 106, 107, 108, 109, 110, 111, 112, 113, 114, 115, 116, 117, 118, 119, 120, 121, 122, 123, 124, 125, 126, 127, 128] (fun f h => ∃ (k3 a : Nat), f 16 = .int .i64 a ∧ a ≤ 3000 ∧ h = ⟨[S.v k3], ar ++ [⟨w.map (.int .i64), 0, false, 1⟩]⟩) ?_ ?_
        · obtain ⟨a0, ha0⟩ : ∃ a : Nat, 100 + S.r (k2 + 1) 100 = (a : Int) := ⟨(100 + S.r (k2 + 1) 100).toNat, by omega⟩
          rw [ha0]
          cases okp with
          | false =>
            simp (maxSteps := 10000000)
            exact midK_normal rfl ⟨_, a0, rfl, by omega, rfl⟩
          | true =>
            by_cases h5 : 0 < S.r (k2 + 1 + 1) 5
            · simp (maxSteps := 10000000) [h5]
              have u1 : IntKind.i64.wrap (px - X) = px - X := wrap_id (by omega) (by omega)
              have u2 : IntKind.i64.wrap (py - Y) = py - Y := wrap_id (by omega) (by omega)
              have u3 : IntKind.i64.wrap (pz - Z) = pz - Z := wrap_id (by omega) (by omega)
              have s1 := sq_b (a := px - X) (by omega) (by omega)
              have s2 := sq_b (a := py - Y) (by omega) (by omega)
              have s3 := sq_b (a := pz - Z) (by omega) (by omega)
              have u4 : IntKind.i64.wrap ((px - X) * (px - X)) = (px - X) * (px - X) := wrap_id (by omega) (by omega)
              have u5 : IntKind.i64.wrap ((py - Y) * (py - Y)) = (py - Y) * (py - Y) := wrap_id (by omega) (by omega)
              have u6 : IntKind.i64.wrap ((pz - Z) * (pz - Z)) = (pz - Z) * (pz - Z) := wrap_id (by omega) (by omega)
              have u7 : IntKind.i64.wrap ((px - X) * (px - X) + (py - Y) * (py - Y)) = (px - X) * (px - X) + (py - Y) * (py - Y) := wrap_id (by omega) (by omega)
              obtain ⟨SS, hSS⟩ : ∃ x, x = (px - X) * (px - X) + (py - Y) * (py - Y) + (pz - Z) * (pz - Z) := ⟨_, rfl⟩
              have hSb : SS ≤ 120000 := by omega
              have u8 : IntKind.i64.wrap SS = SS := wrap_id (by omega) (by omega)
              obtain ⟨I3, hI3⟩ : ∃ I : Nat → (Nat → V) → Heap → Prop, I = fun m g hp => ∃ (dd : Nat), dd + m = 1000 ∧ dd ≤ 400 ∧ g 19 = .int .i64 dd ∧ hp = ⟨[S.v (k2 + 1 + 1 + 1)], ar ++ [⟨w.map (.int .i64), 0, false, 1⟩]⟩ := ⟨_, rfl⟩
              refine wLp_ind [19, 87, 88, 89, 90, 91, 92, 93, 94, 95, 96, 97, 98, 99, 100, 101, 102, 103, 104, 105, 106, 107, 108, 109, 110, 111, 112] I3 1000 (by rw [hI3]; exact ⟨0, by omega, by omega, rfl, rfl⟩) ?_
              intro m3 g3 hp3 hi3
              rw [hI3] at hi3
              obtain ⟨dd, hm3, hdd, g19, rfl⟩ := hi3
              have v1 : (dd : Int) * dd ≤ 160000 := by
                have : dd * dd ≤ 400 * 400 := Nat.mul_le_mul hdd hdd
                have h : ((dd * dd : Nat) : Int) ≤ ((400 * 400 : Nat) : Int) := by omega
                simpa using h
              have v0 : 0 ≤ (dd : Int) * dd := Int.mul_nonneg (by omega) (by omega)
              have v2 : IntKind.i64.wrap ((dd : Int) * dd) = (dd : Int) * dd := wrap_id (by omega) (by omega)
              have v3 : IntKind.i64.wrap ((dd : Int) + 1) = ((dd + 1 : Nat) : Int) := wrap_id (by omega) (by omega)
              by_cases hdc : (dd : Int) * dd < SS
              · simp (maxSteps := 10000000) [-dirtyAt, dirtyAt_hit, dirtyAt_miss, dirtyAt_done, dirtyAt_rest, g19, u1, u2, u3, u4, u5, u6, u7, u8, ← hSS, v2, hdc, v3]
                refine loopK_normal ?_ (m3 - 1) ?_ ?_
                · rfl
                · omega
                rw [hI3]
                have : dd ≠ 400 := by
                  intro e
                  subst e
                  simp at hdc
                  omega
                exact ⟨dd + 1, by omega, by omega, rfl, rfl⟩
              · have w1 : ¬ st = 0 := by omega
                have w2 : (dd : Int).tdiv st = (dd : Int) / st := Int.tdiv_eq_ediv_of_nonneg (by omega)
                have w3 : 0 ≤ (dd : Int) / st := Int.ediv_nonneg (by omega) (by omega)
                have w4 : (dd : Int) / st ≤ dd := Int.ediv_le_self _ (by omega)
                have w5 : IntKind.i64.wrap ((dd : Int) / st) = (dd : Int) / st := wrap_id (by omega) (by omega)
                have w6 : IntKind.i64.wrap ((lo.length : Int) - 1) = (lo.length : Int) - 1 := wrap_id (by omega) (by omega)
                obtain ⟨idx, hidx⟩ : ∃ x : Nat, (if (lo.length : Int) - 1 < (dd : Int) / st then (lo.length : Int) - 1 else (dd : Int) / st) = (x : Int) := ⟨(if (lo.length : Int) - 1 < (dd : Int) / st then (lo.length : Int) - 1 else (dd : Int) / st).toNat, by split <;> omega⟩
                have hil : idx < lo.length := by split at hidx <;> omega
                obtain ⟨lv, hlv⟩ : ∃ x, lo[idx] = x := ⟨_, rfl⟩
                have hlb := c6 lv (hlv ▸ List.getElem_mem _)
                have w7 : IntKind.i64.wrap (T + lv) = T + lv := wrap_id (by omega) (by omega)
                have w8 : (T + lv).tdiv 10000 = (T + lv) / 10000 := Int.tdiv_eq_ediv_of_nonneg (by omega)
                obtain ⟨a1, ha1⟩ : ∃ x : Nat, (T + lv) / 10000 = (x : Int) := ⟨((T + lv) / 10000).toNat, by omega⟩
                have w9 : IntKind.i64.wrap (a1 : Int) = a1 := wrap_id (by omega) (by omega)
                simp (maxSteps := 10000000) [-dirtyAt, dirtyAt_hit, dirtyAt_miss, dirtyAt_done, dirtyAt_rest, g19, u1, u2, u3, u4, u5, u6, u7, u8, ← hSS, v2, hdc, w1, w2, w5, w6, mmV, foldMM, hidx, hil, hlv, w7, w8, ha1, w9]
                exact midK_normal rfl ⟨_, a1, rfl, by omega, rfl⟩
            · simp (maxSteps := 10000000) [h5]
              exact midK_normal rfl ⟨_, a0, rfl, by omega, rfl⟩
        · rintro f5 h5 ⟨k3, a, f16, ha, rfl⟩
          simp (maxSteps := 10000000) [-dirtyAt, dirtyAt_hit, dirtyAt_miss, dirtyAt_done, dirtyAt_rest, f16]
          obtain ⟨I4, hI4⟩ : ∃ I : Nat → (Nat → V) → Heap → Prop, I = fun m g hp => ∃ (c : Nat) (w : List Int), c + m = 6 ∧ g 20 = .int .i64 c ∧ w.length = n ∧ Amp (10 + 2400 * b + 400 * c) w ∧ hp = ⟨[S.v k3], ar ++ [⟨w.map (.int .i64), 0, false, 1⟩]⟩ := ⟨_, rfl⟩
          refine wLp_ind [20, 129, 130, 131, 132, 133, 134, 135, 136, 137, 138, 139, 140, 141, 142, 143, 144, 145, 146, 147, 148, 149, 150, 151, 152, 153, 154, 155, 156, 157] I4 6 (by rw [hI4]; exact ⟨0, w, by simp, rfl, hw, hamp.mono (by omega), rfl⟩) ?_
          clear hamp hw w
          intro m4 g4 hp4 hi4
          rw [hI4] at hi4
          obtain ⟨c, w, hm4, g20, hw, hamp, rfl⟩ := hi4
          by_cases hc6 : c < 6
          · have hc6' : (c : Int) < 6 := by omega
            obtain ⟨ix, hix⟩ : ∃ x : Nat, (a : Int) + c = x := ⟨a + c, by omega⟩
            have z1 : IntKind.i64.wrap (ix : Int) = ix := wrap_id (by omega) (by omega)
            have z2 : IntKind.i64.wrap ((c : Int) + 1) = ((c + 1 : Nat) : Int) := wrap_id (by omega) (by omega)
            by_cases hin : ix < n
            · obtain ⟨y, hy⟩ : ∃ y, y = IntKind.i64.wrap ((c % 2 ^ IntKind.i64.bits &&& 1 % 2 ^ IntKind.i64.bits : Nat) : Int) := ⟨_, rfl⟩
              have hy1 : y = 0 ∨ y = 1 := hy ▸ and1q c
              have hiw : ix < w.length := by omega
              obtain ⟨wv, hwv⟩ : ∃ x, w[ix] = x := ⟨_, rfl⟩
              have hwb := hamp wv (hwv ▸ List.getElem_mem _)
              have t1 : IntKind.i64.wrap (10 * (c : Int)) = 10 * c := wrap_id (by omega) (by omega)
              have t2 : IntKind.i64.wrap (90 - 10 * (c : Int)) = 90 - 10 * c := wrap_id (by omega) (by omega)
              have t3 : IntKind.i64.wrap (2 * y) = 2 * y := wrap_id (by omega) (by omega)
              have t4 : IntKind.i64.wrap (1 - 2 * y) = 1 - 2 * y := wrap_id (by omega) (by omega)
              obtain ⟨M, hM⟩ : ∃ M, M = (90 - 10 * (c : Int)) * (1 - 2 * y) := ⟨_, rfl⟩
              have hMb : -90 ≤ M ∧ M ≤ 90 := by
                rcases hy1 with h | h <;> rw [h] at hM <;> omega
              have t5 : IntKind.i64.wrap M = M := wrap_id (by omega) (by omega)
              have t6 : IntKind.i64.wrap (1 + (j : Int)) = 1 + j := wrap_id (by omega) (by omega)
              obtain ⟨P, hP⟩ : ∃ P, P = M * (1 + (j : Int)) := ⟨_, rfl⟩
              have hPb : -360 ≤ P ∧ P ≤ 360 := by
                have hj' : (j : Int) = 0 ∨ (j : Int) = 1 ∨ (j : Int) = 2 ∨ (j : Int) = 3 := by omega
                rcases hj' with h | h | h | h <;> rw [h] at hP <;> omega
              have t7 : IntKind.i64.wrap P = P := wrap_id (by omega) (by omega)
              have t8 : IntKind.i64.wrap (wv + P) = wv + P := wrap_id (by omega) (by omega)
              simp (maxSteps := 10000000) [-dirtyAt, dirtyAt_hit, dirtyAt_miss, dirtyAt_done, dirtyAt_rest, g20, hc6, hc6', hix, z1, z2, hin, hw, ← hy, t1, t2, t3, t4, ← hM, t5, t6, ← hP, t7, hiw, hwv, t8]
              refine loopK_normal ?_ (m4 - 1) ?_ ?_
              · rfl
              · omega
              rw [hI4]
              exact ⟨c + 1, w.set ix (wv + P), by omega, rfl, by simp [hw], (hamp.mono (by omega)).set (by omega), by simp [List.map_set]⟩
            · simp (maxSteps := 10000000) [-dirtyAt, dirtyAt_hit, dirtyAt_miss, dirtyAt_done, dirtyAt_rest, g20, hc6, hc6', hix, z1, z2, hin]
              refine loopK_normal ?_ (m4 - 1) ?_ ?_
              · rfl
              · omega
              rw [hI4]
              exact ⟨c + 1, w, by omega, rfl, hw, hamp.mono (by omega), rfl⟩
          · have hc6' : ¬ (c : Int) < 6 := by omega
            have z3 : IntKind.i64.wrap ((b : Int) + 1) = ((b + 1 : Nat) : Int) := wrap_id (by omega) (by omega)
            simp (maxSteps := 10000000) [-dirtyAt, dirtyAt_hit, dirtyAt_miss, dirtyAt_done, dirtyAt_rest, g20, hc6, hc6', z3]
            refine loopK_normal ?_ (m2 - 1) ?_ ?_
            · rfl
            · omega
            rw [hI2]
            exact ⟨b + 1, _, w, by omega, by omega, rfl, hw, hamp.mono (by omega), rfl⟩
      · simp (maxSteps := 10000000) [-dirtyAt, dirtyAt_hit, dirtyAt_miss, dirtyAt_done, dirtyAt_rest, g15, f1, hbc]
        obtain ⟨I5, hI5⟩ : ∃ I : Nat → (Nat → V) → Heap → Prop, I = fun m g hp => ∃ (fr t k3 : Nat) (ar3 : List Arr) (nw : List WR), fr + m = 400 ∧ fr ≤ 299 ∧ 50 * t ≤ fr ∧ g 21 = .int .i64 fr ∧ OutOk (g 10) ar3 (ws ++ nw) ∧ Ext (ar ++ [⟨w.map (.int .i64), 0, false, 1⟩]) ar3 ∧ CutOk j ar3 fr t nw ∧ hp = ⟨[S.v k3], ar3⟩ := ⟨_, rfl⟩
        refine wLp_ind [10, 21, 22, 23, 158, 159, 160, 161, 162, 163, 164, 165, 166, 167, 168, 169, 170, 171, 172, 173, 174, 175, 176, 177, 178, 179, 180, 181, 182, 183, 184, 185, 186, 187, 188, 189, 190, 191, 192, 193, 194, 195, 196, 197, 198, 199, 200, 201, 202, 203, 204, 205, 206, 207, 208, 209, 210] I5 400 (by rw [hI5]; exact ⟨0, 0, _, _, [], by simp, by omega, by omega, rfl, by rw [List.append_nil]; exact hout.push, Ext.refl, CutOk.nil, rfl⟩) ?_
        intro m5 g5 hp5 hi5
        rw [hI5] at hi5
        obtain ⟨fr, t, k3, ar3, nw, hm5, hfr, ht, g21, ho3, hx3, hcut, rfl⟩ := hi5
        obtain ⟨v3, hv3⟩ : ∃ v, v = g5 10 := ⟨_, rfl⟩
        rw [← hv3] at ho3
        have g10 := hv3.symm
        have hvs3 := ho3.st
        have hW : ar3[ar.length]? = some ⟨w.map (.int .i64), 0, false, 1⟩ := hx3 _ _ (by simp) rfl
        have hx4 : Ext ar ar3 := Ext.trans Ext.push hx3
        by_cases hfn' : fr < n
        · have r3 := S.r_lt k3 (n := 200) (by omega)
          have y1 : IntKind.i64.wrap ((fr : Int) + 60) = (fr : Int) + 60 := wrap_id (by omega) (by omega)
          have y2 : IntKind.i64.wrap ((fr : Int) + 60 + S.r k3 200) = (fr : Int) + 60 + S.r k3 200 := wrap_id (by omega) (by omega)
          obtain ⟨tt, htt⟩ : ∃ x : Nat, (if (fr : Int) + 60 + S.r k3 200 < (n : Int) then (fr : Int) + 60 + S.r k3 200 else (n : Int)) = (x : Int) := ⟨(if (fr : Int) + 60 + S.r k3 200 < (n : Int) then (fr : Int) + 60 + S.r k3 200 else (n : Int)).toNat, by split <;> omega⟩
          have htb : fr < tt ∧ tt ≤ n ∧ (tt = n ∨ fr + 60 ≤ tt) := by split at htt <;> omega
          have htb1 : fr ≤ tt := by omega
          have htb2 : tt ≤ n := htb.2.1
          have pe := S.pk_mem (k3 + 1) (l := [0, 0, 100]) (by simp)
          obtain ⟨er, her⟩ : ∃ x : Nat, S.pk (k3 + 1) [0, 0, 100] = (x : Int) := ⟨(S.pk (k3 + 1) [0, 0, 100]).toNat, by simp at pe; omega⟩
          have her1 : er ≤ 100 := by rw [her] at pe; simp at pe; omega
          have hlen : (ws ++ nw).length ≤ 900 := by
            have h1 := hall.len
            have h2 := hcut.ln
            rw [List.length_append]; omega
          have hlen1 : ws.length + nw.length ≤ 900 := by rw [List.length_append] at hlen; exact hlen
          have s1 : IntKind.i64.wrap ((fr : Int) + 1) = (fr : Int) + 1 := wrap_id (by omega) (by omega)
          have pp := S.pk_mem (k3 + 1 + 1 + 1 + 1) (l := [0, 0, 0, 10]) (by simp)
          obtain ⟨pv, hpv⟩ : ∃ x : Nat, S.pk (k3 + 1 + 1 + 1 + 1) [0, 0, 0, 10] = (x : Int) := ⟨(S.pk (k3 + 1 + 1 + 1 + 1) [0, 0, 0, 10]).toNat, by simp at pp; omega⟩
          have hpv1 : pv ≤ 10 := by rw [hpv] at pp; simp at pp; omega
          obtain ⟨fr2, hfr2⟩ : ∃ x : Nat, (tt : Int) - pv = (x : Int) := ⟨tt - pv, by omega⟩
          have s2 : IntKind.i64.wrap (fr2 : Int) = (fr2 : Int) := wrap_id (by omega) (by omega)
          have rok : ∀ sq, sq ≤ 301 → RecOk ar3 ⟨p.1, ar.length, fr, er, sq, tt - fr⟩ := fun sq hs =>
            ⟨w, false, hW, by omega, by show fr + (tt - fr) ≤ w.length; omega, by show 1 ≤ tt - fr; omega, her1, hs, fun x hx => by have := hamp x hx; omega⟩
          by_cases g12 : 0 < S.r (k3 + 1 + 1) 12
          · obtain ⟨v4, ar4, happ1, ho4, hx41⟩ := app_out ho3 (by omega) ⟨p.1, ar.length, fr, er, fr, tt - fr⟩ [S.v (k3 + 1 + 1 + 1)] 12
            have hvs4 := ho4.st
            have hvl4 := lp_st hvs4
            simp [encW] at happ1
            by_cases g8 : S.r (k3 + 1 + 1 + 1) 8 = 0
            · obtain ⟨v5, ar5, happ2, ho5, hx5⟩ := app_out ho4 (by rw [List.length_append]; simp; omega) ⟨p.1, ar.length, fr, er, fr + 1, tt - fr⟩ [S.v (k3 + 1 + 1 + 1 + 1)] 12
              have hvs5 := ho5.st
              have hvl5 := lp_st hvs5
              simp [encW] at happ2
              by_cases htn : tt = n
              · subst htn
                simp (maxSteps := 10000000) [-dirtyAt, dirtyAt_hit, dirtyAt_miss, dirtyAt_done, dirtyAt_rest, g21, g10, hvs3, hfn', y1, y2, mmV, foldMM, htt, her, hW, htb1, htb2, capGe, g12, g8, happ1, hvs4, hvl4, happ2, hvs5, hvl5, s1, hpv, hfr2, s2, e6]
                refine loopK_normal ?_ (m - 1) ?_ ?_
                · rfl
                · omega
                rw [hI]
                exact ⟨j + 1, _, ar5, ws ++ (nw ++ [⟨p.1, ar.length, fr, er, fr, tt - fr⟩] ++ [⟨p.1, ar.length, fr, er, fr + 1, tt - fr⟩]), by omega, rfl, rfl, (by have := ho5; rw [List.append_assoc, List.append_assoc, ← List.append_assoc nw] at this; exact this), hall.next (Ext.trans hx4 (Ext.trans hx41 hx5)) (hcut.two (Ext.trans hx41 hx5) hpj1 rfl (rok _ (by omega)) hpj1 rfl (rok _ (by omega)) (by simp) (Nat.lt_succ_self fr)) (by omega)⟩
              · have hlt2 : fr < fr2 := by omega
                have bn : ((tt : Int) == (n : Int)) = false := by simp; omega
                simp (maxSteps := 10000000) [-dirtyAt, dirtyAt_hit, dirtyAt_miss, dirtyAt_done, dirtyAt_rest, g21, g10, hvs3, hfn', y1, y2, mmV, foldMM, htt, her, hW, htb1, htb2, capGe, g12, g8, happ1, hvs4, hvl4, happ2, hvs5, hvl5, s1, hpv, hfr2, s2, bn]
                refine loopK_normal ?_ (400 - fr2) ?_ ?_
                · rfl
                · omega
                rw [hI5]
                exact ⟨fr2, t + 1, _, ar5, (nw ++ [⟨p.1, ar.length, fr, er, fr, tt - fr⟩] ++ [⟨p.1, ar.length, fr, er, fr + 1, tt - fr⟩]), by omega, by omega, by omega, rfl, (by have := ho5; rw [List.append_assoc, List.append_assoc, ← List.append_assoc nw] at this; exact this), Ext.trans hx3 (Ext.trans hx41 hx5), (hcut.two (Ext.trans hx41 hx5) hpj1 rfl (rok _ (by omega)) hpj1 rfl (rok _ (by omega)) (by simp) hlt2), rfl⟩
            · have g8b : (S.r (k3 + 1 + 1 + 1) 8 == 0) = false := by simp [g8]
              by_cases htn : tt = n
              · subst htn
                simp (maxSteps := 10000000) [-dirtyAt, dirtyAt_hit, dirtyAt_miss, dirtyAt_done, dirtyAt_rest, g21, g10, hvs3, hfn', y1, y2, mmV, foldMM, htt, her, hW, htb1, htb2, capGe, g12, g8b, happ1, hvs4, hvl4, s1, hpv, hfr2, s2, e6]
                refine loopK_normal ?_ (m - 1) ?_ ?_
                · rfl
                · omega
                rw [hI]
                exact ⟨j + 1, _, ar4, ws ++ (nw ++ [⟨p.1, ar.length, fr, er, fr, tt - fr⟩]), by omega, rfl, rfl, (by have := ho4; rw [List.append_assoc] at this; exact this), hall.next (Ext.trans hx4 hx41) (hcut.one hx41 hpj1 rfl (rok _ (by omega)) (Nat.lt_succ_self fr)) (by omega)⟩
              · have hlt2 : fr < fr2 := by omega
                have bn : ((tt : Int) == (n : Int)) = false := by simp; omega
                simp (maxSteps := 10000000) [-dirtyAt, dirtyAt_hit, dirtyAt_miss, dirtyAt_done, dirtyAt_rest, g21, g10, hvs3, hfn', y1, y2, mmV, foldMM, htt, her, hW, htb1, htb2, capGe, g12, g8b, happ1, hvs4, hvl4, s1, hpv, hfr2, s2, bn]
                refine loopK_normal ?_ (400 - fr2) ?_ ?_
                · rfl
                · omega
                rw [hI5]
                exact ⟨fr2, t + 1, _, ar4, (nw ++ [⟨p.1, ar.length, fr, er, fr, tt - fr⟩]), by omega, by omega, by omega, rfl, (by have := ho4; rw [List.append_assoc] at this; exact this), Ext.trans hx3 hx41, (hcut.one hx41 hpj1 rfl (rok _ (by omega)) hlt2), rfl⟩
          · by_cases g8 : S.r (k3 + 1 + 1 + 1) 8 = 0
            · obtain ⟨v5, ar5, happ2, ho5, hx5⟩ := app_out ho3 (by omega) ⟨p.1, ar.length, fr, er, fr + 1, tt - fr⟩ [S.v (k3 + 1 + 1 + 1 + 1)] 12
              have hvs5 := ho5.st
              have hvl5 := lp_st hvs5
              simp [encW] at happ2
              by_cases htn : tt = n
              · subst htn
                simp (maxSteps := 10000000) [-dirtyAt, dirtyAt_hit, dirtyAt_miss, dirtyAt_done, dirtyAt_rest, g21, g10, hvs3, hfn', y1, y2, mmV, foldMM, htt, her, hW, htb1, htb2, capGe, g12, g8, happ2, hvs5, hvl5, s1, hpv, hfr2, s2, e6]
                refine loopK_normal ?_ (m - 1) ?_ ?_
                · rfl
                · omega
                rw [hI]
                exact ⟨j + 1, _, ar5, ws ++ (nw ++ [⟨p.1, ar.length, fr, er, fr + 1, tt - fr⟩]), by omega, rfl, rfl, (by have := ho5; rw [List.append_assoc] at this; exact this), hall.next (Ext.trans hx4 hx5) (hcut.one hx5 hpj1 rfl (rok _ (by omega)) (Nat.lt_succ_self fr)) (by omega)⟩
              · have hlt2 : fr < fr2 := by omega
                have bn : ((tt : Int) == (n : Int)) = false := by simp; omega
                simp (maxSteps := 10000000) [-dirtyAt, dirtyAt_hit, dirtyAt_miss, dirtyAt_done, dirtyAt_rest, g21, g10, hvs3, hfn', y1, y2, mmV, foldMM, htt, her, hW, htb1, htb2, capGe, g12, g8, happ2, hvs5, hvl5, s1, hpv, hfr2, s2, bn]
                refine loopK_normal ?_ (400 - fr2) ?_ ?_
                · rfl
                · omega
                rw [hI5]
                exact ⟨fr2, t + 1, _, ar5, (nw ++ [⟨p.1, ar.length, fr, er, fr + 1, tt - fr⟩]), by omega, by omega, by omega, rfl, (by have := ho5; rw [List.append_assoc] at this; exact this), Ext.trans hx3 hx5, (hcut.one hx5 hpj1 rfl (rok _ (by omega)) hlt2), rfl⟩
            · have g8b : (S.r (k3 + 1 + 1 + 1) 8 == 0) = false := by simp [g8]
              by_cases htn : tt = n
              · subst htn
                simp (maxSteps := 10000000) [-dirtyAt, dirtyAt_hit, dirtyAt_miss, dirtyAt_done, dirtyAt_rest, g21, g10, hvs3, hfn', y1, y2, mmV, foldMM, htt, her, hW, htb1, htb2, capGe, g12, g8b, s1, hpv, hfr2, s2, e6]
                refine loopK_normal ?_ (m - 1) ?_ ?_
                · rfl
                · omega
                rw [hI]
                exact ⟨j + 1, _, ar3, ws ++ nw, by omega, rfl, rfl, ho3, hall.next (Ext.trans hx4 Ext.refl) (hcut.ext Ext.refl (Nat.le_of_lt (Nat.lt_succ_self fr)) (Nat.le_succ t)) (by omega)⟩
              · have hlt2 : fr < fr2 := by omega
                have bn : ((tt : Int) == (n : Int)) = false := by simp; omega
                simp (maxSteps := 10000000) [-dirtyAt, dirtyAt_hit, dirtyAt_miss, dirtyAt_done, dirtyAt_rest, g21, g10, hvs3, hfn', y1, y2, mmV, foldMM, htt, her, hW, htb1, htb2, capGe, g12, g8b, s1, hpv, hfr2, s2, bn]
                refine loopK_normal ?_ (400 - fr2) ?_ ?_
                · rfl
                · omega
                rw [hI5]
                exact ⟨fr2, t + 1, _, ar3, nw, by omega, by omega, by omega, rfl, ho3, Ext.trans hx3 Ext.refl, (hcut.ext Ext.refl (Nat.le_of_lt hlt2) (Nat.le_succ t)), rfl⟩
        · simp (maxSteps := 10000000) [-dirtyAt, dirtyAt_hit, dirtyAt_miss, dirtyAt_done, dirtyAt_rest, g21, g10, hvs3, hfn', e6]
          refine loopK_normal ?_ (m - 1) ?_ ?_
          · rfl
          · omega
          rw [hI]
          exact ⟨j + 1, _, ar3, ws ++ nw, by omega, rfl, rfl, ho3, hall.next hx4 hcut (by omega)⟩
  · have e : j = 4 := by omega
    subst e
    obtain ⟨rs, hf, hrs⟩ := frz_out (vs := [S.v k']) (nv := 1) (d := 5) hout hall
    have hf' : frz ⟨[S.v k'], ar⟩ 1 0 9 v10 = some (encRs rs) := hf
    simp (maxSteps := 10000000) [-dirtyAt, dirtyAt_hit, dirtyAt_miss, dirtyAt_done, dirtyAt_rest, f41, f10, hvst, hQ, hfn, lp_st hvst, hf']
    exact ⟨_, rs, rfl, rfl, hrs⟩
end
end Go.DM
