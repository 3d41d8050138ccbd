/-
  awake. Archives that records make: plain facts. ArchiveOrder: the evaluator says true.
-/
import Derived.Test.YtpfhhcjdknmbbaaGreatDoorF5
import Derived.Test.YtpfhhcjdknmbbaaGreatDoorF6
import Derived.Test.YtpfhhcjdknmbbaaGreatDoorC4
set_option linter.all false
set_option linter.unusedSimpArgs false
set_option linter.unusedVariables false
namespace Go.DM
open Go.Proofs
set_option maxRecDepth 100000
section
variable {h : Heap}
theorem stor_oneV : oneV.storable = true ∧ oneV.cells.length = 12 := ⟨rfl, rfl⟩
set_option maxHeartbeats 4000000 in
theorem awake_ev : Ev TE 19 [] h (.bool true) h := by
  refine ev_pure 82 [.tmp 0] rfl rfl rfl Tryz.func19 rfl rfl rfl (args' := []) rfl fun Q hQ hN => ?_
  have e1 := ev_of_run aw_one
  have e2 := ev_of_run aw_add1
  have e3 := ev_of_run aw_add2
  have e4 := ev_of_run aw_req
  have h1 : getAt true 1 0 oneA = some oneA := rfl
  have h2 : setAt 0 oneA.cells (.agg [.nils]) = some oneA := rfl
  have h3 : getAt false 1 0 oneA = some (.fl true false [.agg [.str [65, 66], .str [83, 49], .str [48, 48], .str [66, 72, 90], .fl true false [oneW]]]) := rfl
  have h4 : oneA.cells.length = 1 := rfl
  have h5 : oneA.storable = true := rfl
  have h6 : reqA.storable = true := rfl
  have h7 : resOk oneV = true := rfl
  simp (maxSteps := 10000000) [-setAt, -getAt, stor_oneV, wK_ev e1, wK_ev e2, wK_ev e3, wK_ev e4, h1, h2, h3, h4, h5, h6, h7]
  refine ⟨rfl, ?_⟩
  simp (maxSteps := 10000000) [reqA, hQ]
end
end Go.DM
namespace Go.DM
theorem goodA_of {a : Arch} {rs : List Rec} (ha : OkA a) (hm : ∀ r, r ∈ allA a → r ∈ rs) (hr : RecsOk rs) : GoodA a where
  ok := ha
  key := fun p hp => by
    obtain ⟨r, hrp⟩ : ∃ r, r ∈ p.2 := List.exists_mem_of_ne_nil _ (ha.ne p hp)
    have h1 := ha.src p hp r hrp
    have h2 := (hr.ok r (hm r (mem_allA.2 ⟨p, hp, hrp⟩))).i
    omega
  recs := fun p hp r hrp => hr.ok r (hm r (mem_allA.2 ⟨p, hp, hrp⟩))
  len := fun p hp => by
    have h1 := nodup_length_le (strict_nodup (ha.strict p hp)) (m := rs.filter fun r => r.i == p.1) fun r hrp => by
      rw [List.mem_filter]
      exact ⟨hm r (mem_allA.2 ⟨p, hp, hrp⟩), by simpa using ha.src p hp r hrp⟩
    have := hr.cnt p.1
    omega
theorem addA_same {a : Arch} {r : Rec} (ha : OkA a) (hr : r ∈ allA a) : addA a r = a :=
  arch_unique (addA_ok ha) ha fun x => by
    rw [mem_addA]
    exact ⟨fun h => h.elim (fun e => e ▸ hr) id, .inr⟩
theorem okA_nil : OkA [] := ⟨by simp, by simp, by simp, by simp⟩
theorem take_mem_snoc {rs : List Rec} {i : Nat} {r x : Rec} (h : rs[i]? = some r) : x ∈ rs.take (i + 1) ↔ x = r ∨ x ∈ rs.take i := by
  rw [List.take_add_one, h]
  simp [or_comm]
theorem not_mem_take {rs : List Rec} {i : Nat} {r : Rec} (hn : rs.Nodup) (h : rs[i]? = some r) : r ∉ rs.take i := by
  intro hr
  obtain ⟨j, hj⟩ := List.mem_iff_getElem?.1 hr
  rw [List.getElem?_take] at hj
  split at hj
  · rename_i hlt
    have := (List.getElem?_inj (by have := (List.getElem?_eq_some_iff.1 h).1; omega) hn).1 (hj.trans h.symm)
    omega
  · cases hj
theorem allA_count {a : Arch} {rs : List Rec} (ha : OkA a) (hn : rs.Nodup) (h : ∀ r, r ∈ allA a ↔ r ∈ rs) : (allA a).length = rs.length := by
  have h1 := nodup_length_le (allA_nodup ha) fun r hr => (h r).1 hr
  have h2 := nodup_length_le hn fun r hr => (h r).2 hr
  omega
end Go.DM
namespace Go.DM
open Go.Proofs
set_option maxRecDepth 100000
section
variable {h : Heap}
/-- A list of numbers that is handed in. -/
def IsInts (c : V) (L : List Int) : Prop := (∃ t g, c = .fl t g (L.map (.int .i64))) ∨ (c = .nils ∧ L = [])
theorem IsInts.stor {c : V} {L : List Int} (h : IsInts c L) : c.storable = true := by rcases h with ⟨t, g, rfl⟩ | ⟨rfl, _⟩ <;> rfl
theorem IsInts.brw {c : V} {L : List Int} (hc : IsInts c L) : brw h c = some c := by rcases hc with ⟨t, g, rfl⟩ | ⟨rfl, _⟩ <;> rfl
theorem encRs_stor {rs : List Rec} : (encRs rs).storable = true := by cases rs <;> rfl

theorem set_full {l z : List V} (h : z.length = l.length) : setAt 0 l (.agg z) = some (.agg l) := by
  simp [setAt, V.cells, h]
theorem get_full {l : List V} {n : Nat} (h : l.length = n) : getAt true n 0 (.agg l) = some (.agg l) := by
  subst h
  simp [getAt, V.cells]
theorem encA_shape (a : Arch) : ∃ v, encA a = .agg [v] := by cases a <;> exact ⟨_, rfl⟩
theorem setRR {a b : Rec} : setAt 0 (encR a).cells (encR b) = some (encR a) := rfl
theorem getInt {k : IntKind} {x : Int} : getAt false 1 0 (.int k x) = some (.int k x) := rfl
set_option maxHeartbeats 8000000 in
theorem order_law {c0 c1 : V} {L O : List Int} (h0 : IsInts c0 L) (h1 : IsInts c1 O) (hl : L.length < 9223372036854775808) : Ev TE 3 [c0, c1] h (.bool true) h := by
  refine ev_pure 149 [.tmp 4] rfl rfl rfl Tryz.func3 rfl rfl rfl (args' := [c0, c1]) (by simp [h0.brw, h1.brw]) fun Q hQ hN => ?_
  obtain ⟨S, hnew⟩ := new_ev (ar := []) h0 hl
  have hs0 := h0.stor
  simp [hs0, wK_ev hnew]
  refine wK_spec _ (setup_ev (S := S)) ?_
  rintro v h' ⟨k1, x1, x2, x3, x4, x5, x6, st, lo, hi, rest, rfl, hrest, rfl, hb⟩
  obtain ⟨r0, rest, rfl⟩ : ∃ r0 l, rest = r0 :: l := by
    cases rest with
    | nil => simp at hrest
    | cons a l => exact ⟨a, l, rfl⟩
  have hrest2 : rest.length = 22 := by simpa using hrest
  obtain ⟨ul, hul⟩ : ∃ ul : List V, ul = .int .i64 x1 :: .int .i64 x2 :: .int .i64 x3 :: .int .i64 x4 :: .int .i64 x5 :: .int .i64 x6 :: .int .i64 st :: .fl true false (lo.map (.int .i64)) :: r0 :: rest := ⟨_, rfl⟩
  have hlen : ul.length = 31 := by rw [hul]; simp [hrest2]
  have hu : V.agg ([.int .i64 x1, .int .i64 x2, .int .i64 x3, .int .i64 x4, .int .i64 x5, .int .i64 x6, .int .i64 st, .fl true false (lo.map (.int .i64))] ++ (r0 :: rest)) = .agg ul := by rw [hul]; rfl
  rw [hu]
  have hset : ∀ z : List V, z.length = 31 → setAt 0 ul (.agg z) = some (.agg ul) := fun z hz => set_full (by omega)
  have hget : getAt true 31 0 (.agg ul) = some (.agg ul) := get_full hlen
  have hres : resOk (.agg ul) = true := rfl
  have hsto : (V.agg ul).storable = true := rfl
  simp [hres]
  refine wK_spec _ (stations_ev (S := S)) ?_
  rintro v h' ⟨k2, fs, rfl, rfl, hfn, hfs⟩
  simp (maxSteps := 10000000) [-setAt, -getAt, hsto, hlen, hset, hget, setA', getA, V.cells]
  have hw := waves_ev (S := S) (k := k2) (r0 := r0) hrest2 hb hfn hfs
  rw [← hul] at hw
  refine wK_spec _ hw ?_
  rintro v h' ⟨k3, rs, rfl, rfl, hrs⟩
  simp [encRs_stor]
  have hvalid0 := valid_encA (h := ⟨[S.v k3], []⟩) (a := []) ⟨okA_nil, by simp, by simp, by simp⟩
  by_cases hrs0 : rs = []
  · subst hrs0
    simp [encRs, appendV]
    refine wLp_once ?_
    simp (maxSteps := 10000000)
    refine wLp_once ?_
    simp (maxSteps := 10000000)
    refine wLp_once ?_
    have e1 := refArch_ev (h := ⟨[S.v k3], []⟩) (a := []) ⟨okA_nil, by simp, by simp, by simp⟩
    have e2 := all_ev (h := ⟨[S.v k3], []⟩) (a := []) ⟨okA_nil, by simp, by simp, by simp⟩
    have hx : encA [] = .agg [.nils] := rfl
    have hy : encRs (allA []) = .nils := rfl
    rw [hx] at hvalid0 e1 e2
    rw [hy] at e2
    simp (maxSteps := 10000000) [hQ, wK_ev hvalid0, wK_ev e1, wK_ev e2, wK_ev awake_ev]
  · obtain ⟨n, hn⟩ : ∃ n, n = rs.length := ⟨_, rfl⟩
    have hn1 : 1 ≤ n := by rw [hn]; cases rs <;> simp at hrs0 ⊢
    have hn48 : n ≤ 48 := by rw [hn]; exact hrs.len
    rw [encRs_ne (by omega)]
    have hem : rs.isEmpty = false := by cases rs <;> simp at hrs0 ⊢
    have hb2 : n * 144 ≤ 140737488355328 := by omega
    have hn63 : (n : Int) < 9223372036854775808 := by omega
    simp [appendV, grow, hem, ← hn, hb2, st_all, cl_all]
    obtain ⟨I0, hI0⟩ : ∃ I : Nat → (Nat → V) → Heap → Prop, I = fun m f hp => ∃ (i : Nat) (ys : List Rec), i + m = n ∧ f 40 = .int .i64 i ∧ ys.Perm rs ∧ hp = ⟨[S.v k3], [⟨ys.map encR, 0, true, 12⟩]⟩ := ⟨_, rfl⟩
    refine wLp_ind [10, 11, 40, 41, 42, 43, 44, 45, 46, 47, 48, 49, 50, 51, 52, 53, 54, 55, 56, 57, 58, 59, 60, 61, 62, 63, 64, 65, 66, 67, 68] I0 n (by rw [hI0]; exact ⟨0, rs, by omega, rfl, List.Perm.refl _, rfl⟩) ?_
    intro m f hp hi
    rw [hI0] at hi
    obtain ⟨i, ys, hm, f40, hperm, rfl⟩ := hi
    have hysl : ys.length = n := by rw [hperm.length_eq, hn]
    obtain ⟨es1, hes1⟩ : ∃ es, es = ys.map encR := ⟨_, rfl⟩
    have hel : es1.length = n := by rw [hes1, List.length_map, hysl]
    rw [← hes1]
    by_cases hin : i < n
    · have hinI : (i : Int) < n := by omega
      have e2 : IntKind.i64.wrap ((i : Int) + 1) = ((i + 1 : Nat) : Int) := wrap_id (by omega) (by omega)
      obtain ⟨ri, hri⟩ : ∃ r, ys[i]? = some r := ⟨_, List.getElem?_eq_getElem (by omega)⟩
      have gi : es1[i]'(by omega) = encR ri := get_of (by rw [hes1, List.getElem?_map, hri]; rfl) _
      by_cases hio : i < O.length
      · have hioI : (i : Int) < O.length := by omega
        rcases h1 with ⟨t', g', rfl⟩ | ⟨rfl, rfl⟩
        · obtain ⟨x, hx⟩ : ∃ x, O[i] = x := ⟨_, rfl⟩
          obtain ⟨j, hj, hjn⟩ : ∃ j : Nat, modG x n = j ∧ j < n := by
            have h1 : modG x n = x % n := by unfold modG; rw [if_neg (by omega)]
            have h2 := Int.emod_nonneg x (show (n : Int) ≠ 0 by omega)
            have h3 := Int.emod_lt_of_pos x (show (0 : Int) < n by omega)
            exact ⟨(x % n).toNat, by rw [h1]; omega, by omega⟩
          obtain ⟨rj, hrj⟩ : ∃ r, ys[j]? = some r := ⟨_, List.getElem?_eq_getElem (by omega)⟩
          have gj : es1[j]'(by omega) = encR rj := get_of (by rw [hes1, List.getElem?_map, hrj]; rfl) _
          by_cases hij : i = j
          · subst hij
            have hss : es1.set i (encR ri) = es1 := by rw [← gi]; exact set_same (by omega)
            simp (maxSteps := 10000000) [-getAt, getE12, getInt, -setAt, setRR, -dirtyAt, dirtyAt_hit, dirtyAt_miss, dirtyAt_done, dirtyAt_rest, f40, hin, hinI, hio, hioI, hx, hj, hn63, hel, gi, hss, e2]
            refine loopK_normal ?_ (m - 1) ?_ ?_
            · rfl
            · omega
            rw [hI0]
            exact ⟨i + 1, ys, by omega, rfl, hperm, by rw [← hes1]⟩
          · have hji : ¬ j = i := fun e => hij e.symm
            simp (maxSteps := 10000000) [-getAt, getE12, getInt, -setAt, setRR, -dirtyAt, dirtyAt_hit, dirtyAt_miss, dirtyAt_done, dirtyAt_rest, f40, hin, hinI, hio, hioI, hx, hj, hjn, hn63, hel, gi, gj, hij, hji, e2]
            refine loopK_normal ?_ (m - 1) ?_ ?_
            · rfl
            · omega
            rw [hI0]
            obtain ⟨q1, hq1⟩ := List.getElem?_eq_some_iff.1 hri
            obtain ⟨q2, hq2⟩ := List.getElem?_eq_some_iff.1 hrj
            refine ⟨i + 1, (ys.set i rj).set j ri, by omega, rfl, ?_, by rw [List.map_set, List.map_set, ← hes1]⟩
            rw [← hq1, ← hq2]
            exact (List.set_set_perm q1 q2).trans hperm
        · simp at hio
      · have hioI : ¬ (i : Int) < O.length := by omega
        rcases h1 with ⟨t', g', rfl⟩ | ⟨rfl, rfl⟩
        · simp (maxSteps := 10000000) [-getAt, getE12, getInt, -setAt, setRR, -dirtyAt, dirtyAt_hit, dirtyAt_miss, dirtyAt_done, dirtyAt_rest, f40, hin, hinI, hio, hioI, e2]
          refine loopK_normal ?_ (m - 1) ?_ ?_
          · rfl
          · omega
          rw [hI0]
          exact ⟨i + 1, ys, by omega, rfl, hperm, by rw [← hes1]⟩
        · have hneg : ¬ (i : Int) < 0 := by omega
          simp (maxSteps := 10000000) [-getAt, getE12, getInt, -setAt, setRR, -dirtyAt, dirtyAt_hit, dirtyAt_miss, dirtyAt_done, dirtyAt_rest, f40, hin, hinI, hneg, e2]
          refine loopK_normal ?_ (m - 1) ?_ ?_
          · rfl
          · omega
          rw [hI0]
          exact ⟨i + 1, ys, by omega, rfl, hperm, by rw [← hes1]⟩
    · have hinI : ¬ (i : Int) < n := by omega
      simp (maxSteps := 10000000) [-dirtyAt, dirtyAt_hit, dirtyAt_miss, dirtyAt_done, dirtyAt_rest, f40, hin, hinI, ← hn]
      obtain ⟨es0, hes0⟩ : ∃ es, es = rs.map encR := ⟨_, rfl⟩
      have hel0 : es0.length = n := by rw [hes0, List.length_map, hn]
      have hwd0 : ∀ H a b, wideOk TE.P H 51 (.fl a b es0) = true := fun H a b => by rw [hes0]; exact wide_recs rfl rfl
      rw [← hes0]
      have hok : ∀ r ∈ rs, OkR r := hrs.ok
      obtain ⟨I1, hI1⟩ : ∃ I : Nat → (Nat → V) → Heap → Prop, I = fun m f hp => ∃ (i : Nat) (a : Arch), i + m = n ∧ f 71 = .int .i64 i ∧ f 12 = .box (encA a) ∧ OkA a ∧ (∀ r, r ∈ allA a ↔ r ∈ rs.take i) ∧ hp = ⟨[S.v k3], [⟨es1, 0, true, 12⟩]⟩ := ⟨_, rfl⟩
      refine wLp_ind [4, 12, 14, 15, 16, 17, 71, 72, 73, 74, 75, 76, 77, 78, 79, 80, 81, 82, 83, 84, 85, 86, 87, 88, 89, 90, 91] I1 n (by rw [hI1]; exact ⟨0, [], by omega, rfl, rfl, okA_nil, by simp [allA], rfl⟩) ?_
      clear hm f40
      intro m2 f2 hp hi
      rw [hI1] at hi
      obtain ⟨i2, a, hm2, f71, f12, hoka, hma, rfl⟩ := hi
      have hga : GoodA a := goodA_of hoka (fun r hr => List.mem_of_mem_take ((hma r).1 hr)) hrs
      by_cases hin2 : i2 < n
      · have hin2I : (i2 : Int) < n := by omega
        have e2 : IntKind.i64.wrap ((i2 : Int) + 1) = ((i2 + 1 : Nat) : Int) := wrap_id (by omega) (by omega)
        obtain ⟨r, hr⟩ : ∃ r, rs[i2]? = some r := ⟨_, List.getElem?_eq_getElem (by omega)⟩
        have gr : es0[i2]'(by omega) = encR r := get_of (by rw [hes0, List.getElem?_map, hr]; rfl) _
        have hnm : r ∉ allA a := fun h => not_mem_take hrs.nd hr ((hma r).1 h)
        have hadd := add_ev (h := ⟨[S.v k3], [⟨es1, 0, true, 12⟩]⟩) hga (hok r (List.mem_of_getElem? hr))
        simp only [hnm, decide_false, Bool.not_false] at hadd
        obtain ⟨v0, hv0⟩ := encA_shape a
        obtain ⟨v1, hv1⟩ := encA_shape (addA a r)
        rw [hv0, hv1] at hadd
        rw [hv0] at f12
        simp (maxSteps := 10000000) [-getAt, getE12, getA, -setAt, setA', -dirtyAt, dirtyAt_hit, dirtyAt_miss, dirtyAt_done, dirtyAt_rest, f71, f12, hin2, hin2I, hwd0, hel0, gr, e2, wK_ev hadd]
        refine loopK_normal ?_ (m2 - 1) ?_ ?_
        · rfl
        · omega
        rw [hI1]
        exact ⟨i2 + 1, addA a r, by omega, rfl, by rw [hv1]; rfl, addA_ok hoka, fun x => by rw [mem_addA, take_mem_snoc hr, hma], rfl⟩
      · have hin2I : ¬ (i2 : Int) < n := by omega
        have hma' : ∀ r, r ∈ allA a ↔ r ∈ rs := fun r => by rw [hma, List.take_of_length_le (by omega)]
        simp (maxSteps := 10000000) [-dirtyAt, dirtyAt_hit, dirtyAt_miss, dirtyAt_done, dirtyAt_rest, f71, hin2, hin2I]
        obtain ⟨I2, hI2⟩ : ∃ I : Nat → (Nat → V) → Heap → Prop, I = fun m f hp => ∃ (i : Nat) (b : Arch) (kk : Nat), i + m = n ∧ f 94 = .int .i64 i ∧ f 13 = .box (encA b) ∧ OkA b ∧ (∀ r, r ∈ allA b ↔ r ∈ ys.take i) ∧ hp = ⟨[S.v kk], [⟨es1, 0, true, 12⟩]⟩ := ⟨_, rfl⟩
        refine wLp_ind [4, 13, 18, 19, 20, 21, 22, 23, 24, 94, 95, 96, 97, 98, 99, 100, 101, 102, 103, 104, 105, 106, 107, 108, 109, 110, 111, 112, 113, 114, 115, 116, 117, 118, 119, 120, 121, 122, 123, 124, 125, 126, 127, 128, 129, 130] I2 n (by rw [hI2]; exact ⟨0, [], k3, by omega, rfl, rfl, okA_nil, by simp [allA], rfl⟩) ?_
        clear hm2 f71
        intro m3 f3 hp hi
        rw [hI2] at hi
        obtain ⟨i3, b, kk, hm3, f94, f13, hokb, hmb, rfl⟩ := hi
        by_cases hin3 : i3 < n
        · have hin3I : (i3 : Int) < n := by omega
          have e2 : IntKind.i64.wrap ((i3 : Int) + 1) = ((i3 + 1 : Nat) : Int) := wrap_id (by omega) (by omega)
          obtain ⟨r, hr⟩ : ∃ r, ys[i3]? = some r := ⟨_, List.getElem?_eq_getElem (by omega)⟩
          have gr : es1[i3]'(by omega) = encR r := get_of (by rw [hes1, List.getElem?_map, hr]; rfl) _
          have hgb : GoodA b := goodA_of hokb (fun r hr => hperm.mem_iff.1 (List.mem_of_mem_take ((hmb r).1 hr))) hrs
          have hrok : OkR r := hok r (hperm.mem_iff.1 (List.mem_of_getElem? hr))
          have hadd := add_ev (h := ⟨[S.v kk], [⟨es1, 0, true, 12⟩]⟩) hgb hrok
          obtain ⟨q, hq⟩ : ∃ q, q = !decide (r ∈ allA b) := ⟨_, rfl⟩
          have hokc : OkA (addA b r) := addA_ok hokb
          have hmc : ∀ x, x ∈ allA (addA b r) ↔ x ∈ ys.take (i3 + 1) := fun x => by rw [mem_addA, take_mem_snoc hr, hmb]
          have hgc : GoodA (addA b r) := goodA_of hokc (fun r hr => hperm.mem_iff.1 (List.mem_of_mem_take ((hmc r).1 hr))) hrs
          have hrl := S.r_lt kk (n := ((i3 + 1 : Nat) : Int)) (by omega)
          obtain ⟨j, hj⟩ : ∃ j : Nat, S.r kk ((i3 + 1 : Nat) : Int) = j := ⟨(S.r kk ((i3 + 1 : Nat) : Int)).toNat, by omega⟩
          have hjn : j < n := by omega
          have hjlt : j < i3 + 1 := by omega
          obtain ⟨rj, hrj⟩ : ∃ r, ys[j]? = some r := ⟨_, List.getElem?_eq_getElem (by omega)⟩
          have gj : es1[j]'(by omega) = encR rj := get_of (by rw [hes1, List.getElem?_map, hrj]; rfl) _
          have hrjm : rj ∈ allA (addA b r) := (hmc rj).2 (List.mem_of_getElem? (i := j) (by rw [List.getElem?_take, if_pos hjlt]; exact hrj))
          have hadd2 := add_ev (h := ⟨[S.v (kk + 1)], [⟨es1, 0, true, 12⟩]⟩) hgc (hok rj (hperm.mem_iff.1 (List.mem_of_getElem? hrj)))
          simp only [hrjm, decide_true, Bool.not_true, addA_same hokc hrjm] at hadd2
          rw [← hq] at hadd
          obtain ⟨v0, hv0⟩ := encA_shape b
          obtain ⟨v1, hv1⟩ := encA_shape (addA b r)
          rw [hv0, hv1] at hadd
          rw [hv1] at hadd2
          rw [hv0] at f13
          have hN15 := n_ev (S := S) (k := kk) (vs := []) (ar := [⟨es1, 0, true, 12⟩]) (n := ((i3 + 1 : Nat) : Int)) (by omega)
          rw [hj] at hN15
          simp (maxSteps := 10000000) [-wK_15, -getAt, getE12, getA, -setAt, setA', -dirtyAt, dirtyAt_hit, dirtyAt_miss, dirtyAt_done, dirtyAt_rest, f94, f13, hin3, hin3I, hel, gr, gj, hjn, e2, wK_ev hadd, wK_ev hadd2, wK_ev hN15, -Int.natCast_add]
          refine loopK_normal ?_ (m3 - 1) ?_ ?_
          · rfl
          · omega
          rw [hI2]
          exact ⟨i3 + 1, addA b r, kk + 1, by omega, rfl, by rw [hv1]; rfl, hokc, hmc, rfl⟩
        · have hin3I : ¬ (i3 : Int) < n := by omega
          have hmb' : ∀ r, r ∈ allA b ↔ r ∈ rs := fun r => by rw [hmb, List.take_of_length_le (by omega), hperm.mem_iff]
          have hab : a = b := arch_unique hoka hokb fun r => by rw [hma', hmb']
          subst hab
          have hcnt := allA_count hoka hrs.nd hma'
          have w1 := valid_encA (h := ⟨[S.v kk], [⟨es1, 0, true, 12⟩]⟩) hga
          have w2 := refArch_ev (h := ⟨[S.v kk], [⟨es1, 0, true, 12⟩]⟩) hga
          have w3 := all_ev (h := ⟨[S.v kk], [⟨es1, 0, true, 12⟩]⟩) hga
          rw [encRs_ne (by omega)] at w3
          obtain ⟨v0, hv0⟩ := encA_shape a
          rw [hv0] at w1 w2 w3 f12 f13
          have hll : ((allA a).map encR).length = n := by rw [List.length_map, hcnt, hn]
          obtain ⟨es4, hes4⟩ : ∃ es, es = (allA a).map encR := ⟨_, rfl⟩
          rw [← hes4] at hll w3
          have hnn : ((n : Int) == n) = true := by simp
          simp (maxSteps := 10000000) [-getAt, getA, -dirtyAt, dirtyAt_hit, dirtyAt_miss, dirtyAt_done, dirtyAt_rest, f94, f12, f13, hin3, hin3I, wK_ev w1, wK_ev w2, wK_ev w3, wK_ev awake_ev, hel0, hll, hnn, hQ, hN]
end
end Go.DM
