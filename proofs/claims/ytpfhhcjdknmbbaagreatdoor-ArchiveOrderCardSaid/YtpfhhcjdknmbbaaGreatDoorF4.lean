/-
  compose.alike, Valid, Order. compose.Insert. slices.EqualFunc on one list, archive.same, archive.copied. archive.place: where a source's store is. archive.place, archive.Valid.
-/
import Derived.Test.YtpfhhcjdknmbbaaGreatDoorF3
set_option linter.all false
set_option linter.unusedSimpArgs false
set_option linter.unusedVariables false
namespace Go.DM
open Go.Proofs
set_option maxRecDepth 100000
section
variable {h : Heap} {vs : List V} {ar : List Arr}
/-- Records that can lie in one store. -/
structure OkL (rs : List Rec) (k : Nat) : Prop where
  ok : ∀ r ∈ rs, OkR r
  i : ∀ r ∈ rs, r.i = k
theorem OkL.of_mem {rs rs' : List Rec} {k : Nat} (h : OkL rs k) (hm : ∀ x ∈ rs', x ∈ rs) : OkL rs' k := ⟨fun r hr => h.ok r (hm r hr), fun r hr => h.i r (hm r hr)⟩
theorem getE12 {r : Rec} : getAt true 12 0 (encR r) = some (encR r) := rfl
theorem getFl {t g : Bool} {l : List V} : getAt false 1 0 (.fl t g l) = some (.fl t g l) := rfl
theorem getE4 {r : Rec} : getAt true 4 0 (encR r) = some (.agg [.str [65, 66], .str [83, stB r.i], .str [48, 48], .str [66, 72, 90]]) := rfl
@[simp] theorem cellsE {r : Rec} : (encR r).cells.length = 12 := rfl
theorem clos_ev {j : Nat} {t g : Bool} {es : List V} {r r0 : Rec} (hv : vs[j]? = some (.fl t g es)) (h0 : es[0]? = some (encR r0)) (hr : OkR r) (hi : r.i = r0.i) :
    Ev TE 181 [encR r, .ptr j 0] ⟨vs, ar⟩ (.bool false) ⟨vs, ar⟩ := by
  refine ev_raw 16 [.tmp 3] rfl rfl rfl Tryz.func181 rfl rfl rfl fun Q hQ hN => ?_
  obtain ⟨es', rfl⟩ : ∃ es', es = encR r0 :: es' := by
    cases es with
    | nil => simp at h0
    | cons a l => simp at h0; exact ⟨l, by rw [h0]⟩
  have e : stB r.i = stB r0.i := by rw [hi]
  simp [-getAt, getE12, getE4, getFl, hv, wK_ev (valid_ev hr), e]
  simp [getAt, hQ, hN]
/-- Is none told of by the closure? -/
theorem idxR_ev {j : Nat} {t g t' g' : Bool} {es : List V} {rs : List Rec} {r0 : Rec} {k : Nat} (hv : vs[j]? = some (.fl t g es)) (h0 : es[0]? = some (encR r0)) (hr : OkL rs k) (hi : r0.i = k) (hn : rs.length ≤ 1000) :
    Ev TE 232 [.fl t' g' (rs.map encR), .fn 181 [.ptr j 0]] ⟨vs, ar⟩ (.int .i64 (-1)) ⟨vs, ar⟩ := by
  refine ev_raw 19 [.tmp 4] rfl rfl rfl Tryz.func232 rfl rfl rfl fun Q hQ hN => ?_
  obtain ⟨n, hn'⟩ : ∃ n, n = rs.length := ⟨_, rfl⟩
  obtain ⟨es1, hes1⟩ : ∃ es, es = rs.map encR := ⟨_, rfl⟩
  have hel : es1.length = n := by rw [hes1]; simp [hn']
  rw [← hes1]
  have hwd : ∀ H, wideOk TE.P H 51 (.fl t' g' es1) = true := fun H => by
    rw [hes1]; cases rs <;> rfl
  simp [hel]
  obtain ⟨I, hI⟩ : ∃ I : Nat → (Nat → V) → Heap → Prop, I = fun m f hp => ∃ i : Nat, i + m = n ∧ f 8 = .int .i64 i ∧ hp = ⟨vs, ar⟩ := ⟨_, rfl⟩
  refine wLp_ind [4, 5, 8, 9, 10, 11, 12, 13, 14, 15, 16, 17, 18] I n (by rw [hI]; exact ⟨0, by omega, rfl, rfl⟩) ?_
  intro m f hp hi
  rw [hI] at hi
  obtain ⟨i, hm, f8, rfl⟩ := hi
  by_cases hin : i < n
  · have hinI : (i : Int) < n := by omega
    obtain ⟨r, hr1⟩ : ∃ r, rs[i]? = some r := ⟨_, List.getElem?_eq_getElem (by omega)⟩
    have hmem := List.mem_of_getElem? hr1
    have hc := clos_ev (ar := ar) hv h0 (hr.ok r hmem) ((hr.i r hmem).trans hi.symm)
    have gr : es1[i]'(by omega) = encR r := get_of (by rw [hes1, List.getElem?_map, hr1]; rfl) _
    have e2 : IntKind.i64.wrap ((i : Int) + 1) = ((i + 1 : Nat) : Int) := wrap_id (by omega) (by omega)
    simp (maxSteps := 10000000) [-getAt, getE12, -dirtyAt, dirtyAt_hit, dirtyAt_miss, dirtyAt_done, dirtyAt_rest, f8, hin, hinI, hwd, hel, gr, e2, wK_ev hc]
    refine loopK_normal ?_ (m - 1) ?_ ?_
    · rfl
    · omega
    rw [hI]
    exact ⟨i + 1, by omega, rfl, rfl⟩
  · have hinI : ¬ (i : Int) < n := by omega
    simp (maxSteps := 10000000) [-dirtyAt, dirtyAt_hit, dirtyAt_miss, dirtyAt_done, dirtyAt_rest, f8, hin, hinI, hQ, hN]
theorem conR_ev {j : Nat} {t g t' g' : Bool} {es : List V} {rs : List Rec} {r0 : Rec} {k : Nat} (hv : vs[j]? = some (.fl t g es)) (h0 : es[0]? = some (encR r0)) (hr : OkL rs k) (hi : r0.i = k) (hn : rs.length ≤ 1000) :
    Ev TE 180 [.fl t' g' (rs.map encR), .fn 181 [.ptr j 0]] ⟨vs, ar⟩ (.bool false) ⟨vs, ar⟩ := by
  refine ev_raw 9 [.tmp 4] rfl rfl rfl Tryz.func180 rfl rfl rfl fun Q hQ hN => ?_
  simp [wK_ev (idxR_ev (t' := t') (g' := g') hv h0 hr hi hn), hQ, hN]
theorem alike_ev {t g : Bool} {rs : List Rec} {k : Nat} {x : V} (hx : brw h x = some (.fl t g (rs.map encR))) (hr : OkL rs k) (h0 : 1 ≤ rs.length) (hn : rs.length ≤ 1000) : Ev TE 121 [x] h (.bool true) h := by
  refine ev_pure 7 [.tmp 2] rfl rfl rfl Tryz.func121 rfl rfl rfl (args' := [.fl t g (rs.map encR)]) (by simp [hx]) fun Q hQ hN => ?_
  obtain ⟨r0, hr0⟩ : ∃ r, rs[0]? = some r := ⟨_, List.getElem?_eq_getElem (by omega)⟩
  have hc := conR_ev (vs := [.fl t g (rs.map encR)]) (ar := []) (j := 0) (t' := t) (g' := g) rfl (by rw [List.getElem?_map, hr0]; rfl) hr (hr.i r0 (List.mem_of_getElem? hr0)) hn
  simp [wK_ev hc, hQ]
theorem validL_ev {t g : Bool} {rs : List Rec} {k : Nat} (hr : OkL rs k) (h0 : 1 ≤ rs.length) (hn : rs.length ≤ 256) : Ev TE 123 [.fl t g (rs.map encR)] h (.bool true) h := by
  refine ev_pure 10 [.tmp 2] rfl rfl rfl Tryz.func123 rfl rfl rfl (args' := [.fl t g (rs.map encR)]) rfl fun Q hQ hN => ?_
  have hnI : (rs.length : Int) ≤ 256 := by omega
  simp [hnI, wK_ev (alike_ev (x := .fl t g (rs.map encR)) rfl hr h0 (by omega)), hQ]
theorem mapO_encR {H : Heap} {nv na d : Nat} {l : List Rec} : mapO (frz H nv na (d + 3)) (l.map encR) = some (l.map encR) := mapO_map fun r _ => by simp [encR]
@[simp] theorem clean_rec {d : Nat} {r : Rec} : clean (d + 3) (encR r) = true := by simp [encR]
theorem gnd_rec {r : Rec} {x : V} (h : x ∈ (encR r).cells) : x.gnd = true := by
  have : (encR r).cells.all V.gnd = true := by simp [encR]
  exact List.all_eq_true.1 this x h
theorem brw_recs {id ver n : Nat} {o : Bool} {es : List V} {rs : List Rec} (hA : ar[id]? = some ⟨es, ver, o, 12⟩) (hn : rs.length = n) (hle : n ≤ es.length) (he : es.take n = rs.map encR) : brw ⟨vs, ar⟩ (.sl id ver 0 n none) = some (.fl false false (rs.map encR)) := by
  have h1 : (rs.map encR).all (fun e => e.cells.all V.gnd) = true := by simp [List.all_eq_true]; exact fun r _ x => gnd_rec
  simp [brw, brwC, tightOf, hA, hle, he, -List.all_map]
  rw [List.all_map] at h1
  simp [h1]
theorem clean_encR {d : Nat} {l : List Rec} : (l.map encR).all (clean (d + 3)) = true := by simp [List.all_eq_true, clean, encR]
theorem gnd_encR {l : List Rec} : (l.map encR).all (fun e => e.cells.all V.gnd) = true := by simp [List.all_eq_true, encR]
/-- compose.Order of records in order. -/
theorem orderL_ev {t g : Bool} {rs : List Rec} {k : Nat} (hr : OkL rs k) (h0 : 1 ≤ rs.length) (hn : rs.length ≤ 12) (hs : Strict rs) : Ev TE 62 [.fl t g (rs.map encR)] h (.tuple [.fl true false (rs.map encR), .int .i64 0]) h := by
  refine ev_pure 9 [.tmp 2, .tmp 3] rfl rfl rfl Tryz.func62 rfl rfl rfl (args' := [.fl t g (rs.map encR)]) rfl fun Q hQ hN => ?_
  have ho := order_ev (vs := []) (ar := []) (z := default) (x := .fl t g (rs.map encR)) (cloneR_fl h0 (by omega)) rfl (.inr ⟨rfl, hn⟩) hs hr.ok
  simp [wK_ev (validL_ev (t := t) (g := g) hr h0 (by omega))]
  refine wK_spec _ ho ?_
  rintro v h' ⟨w, rs', o, es, rfl, rfl, h1, h2, h3, h4, h5⟩
  obtain ⟨rfl, rfl⟩ := h5 hs
  simp [hQ, mapO_encR]
  exact fun r _ x => gnd_rec
end
end Go.DM
namespace Go.DM
open Go.Proofs
set_option maxRecDepth 100000
section
variable {h : Heap} {vs : List V} {ar : List Arr}
theorem insU_len {z : Rec} {A : List Rec} : (insU z A).length = if z ∈ A then A.length else A.length + 1 := by
  unfold insU
  split
  · rfl
  · exact ins_length
set_option maxHeartbeats 4000000 in
theorem insert_ev {t g : Bool} {A : List Rec} {z : Rec} {k : Nat} (hr : OkL A k) (hz : OkR z) (hzk : z.i = k) (h0 : 1 ≤ A.length) (hn : A.length ≤ 12) (hs : Strict A) :
    Ev TE 60 [.fl t g (A.map encR), encR z] h (.tuple [.fl true false ((insU z A).map encR), .bool (!decide (z ∈ A)), .int .i64 0]) h := by
  have hzl : OkL (z :: A) k := ⟨fun r hr' => (List.mem_cons.1 hr').elim (fun e => e ▸ hz) (hr.ok r), fun r hr' => (List.mem_cons.1 hr').elim (fun e => e ▸ hzk) (hr.i r)⟩
  refine ev_pure 36 [.tmp 4, .tmp 5, .tmp 6] rfl rfl rfl Tryz.func60 rfl rfl rfl (args' := [.fl t g (A.map encR), encR z]) rfl fun Q hQ hN => ?_
  have hem : A.isEmpty = false := by cases A <;> simp at h0 ⊢
  have hb : (A.length + 1) * 144 ≤ 140737488355328 := by omega
  have hgA : ∀ x ∈ List.take 12 (encR z).cells, x.gnd = true := fun x hx => gnd_rec (List.mem_of_mem_take hx)
  obtain ⟨a0, ha0⟩ : ∃ a : Arr, a = ⟨(z :: A).map encR, 0, true, 12⟩ := ⟨_, rfl⟩
  have hal := alike_ev (h := ⟨[], [a0]⟩) (t := false) (g := false) (x := .sl 0 0 0 (A.length + 1) none) (rs := z :: A) (k := k) (brw_recs (by rw [ha0]; rfl) rfl (by simp) (by simp)) hzl (by simp) (by simp; omega)
  have ho := order_ev (vs := []) (ar := [a0]) (z := default) (x := .fl t g (A.map encR)) (cloneR_fl h0 (by omega)) rfl (.inr ⟨rfl, hn⟩) hs hr.ok
  simp [-getAt, getE12, appendV, grow, hem, hb]
  refine ⟨hgA, ?_⟩
  have ha0' : ({ elems := encR z :: List.map encR A, ver := 0, opn := true, sz := 12 } : Arr) = a0 := by rw [ha0]; rfl
  simp [-getAt, getE12, ha0', wK_ev hal]
  refine wK_spec _ ho ?_
  rintro v h' ⟨w, rs', o, es, rfl, rfl, _, _, _, _, h5⟩
  obtain ⟨rfl, rfl⟩ := h5 hs
  obtain ⟨a1, ha1⟩ : ∃ a : Arr, a = ⟨(rs' ++ [z]).map encR, 1, true, 12⟩ := ⟨_, rfl⟩
  have hcl := cloneR_sl (vs := w) (ar := [a0, a1]) (id := 1) (ver := 1) (o := true) (cap := none) (rs := rs' ++ [z]) (es := (rs' ++ [z]).map encR) (by rw [ha1]; rfl) (by simp) (by rw [List.take_of_length_le (by simp)]) (by simp) (by simp; omega)
  have ho2 := order_ev (A := rs') (z := z) hcl rfl (.inl ⟨rfl, hn⟩) hs (fun r hr' => (List.mem_append.1 hr').elim (hr.ok r) fun h => by simp at h; exact h ▸ hz)
  have ha1' : ({ elems := List.map encR rs' ++ [encR z], ver := 1, opn := true, sz := 12 } : Arr) = a1 := by rw [ha1]; simp
  have hap : appendV TE.P ⟨60, 0, 0⟩ ⟨w, [a0, ⟨rs'.map encR, 0, o, 12⟩]⟩ 51 (.sl 1 0 0 rs'.length none) (.fl true true [encR z]) = some (.sl 1 1 0 (rs'.length + 1) none, ⟨w, [a0, a1]⟩) := by
    simp [appendV, lowAll, roomV, hb, ha1]
  simp [-getAt, getE12, hap]
  refine ⟨fun x => gnd_rec, ?_⟩
  refine wK_spec _ (by simpa using ho2) ?_
  rintro v h' ⟨w2, L, o2, es, rfl, rfl, e1, e2, e3, e4, _⟩
  have hL : L = insU z rs' := strict_eq e3 (insU_strict hs) fun x => by rw [e4, mem_insU]; simp [or_comm]
  have hlen : L.length = if z ∈ rs' then rs'.length else rs'.length + 1 := by rw [hL]; exact insU_len
  by_cases hzm : z ∈ rs'
  · rw [if_pos hzm] at hlen
    have hi : insU z rs' = rs' := by unfold insU; rw [if_pos hzm]
    rw [hlen] at e1 e2
    rw [hL] at e2
    simp [-getAt, hlen, hQ, e1, e2, mapO_encR, hzm]
    exact fun r _ x => gnd_rec
  · rw [if_neg hzm] at hlen
    rw [hlen] at e1 e2
    rw [hL] at e2
    have l1 : (rs'.length : Int) < rs'.length + 1 := by omega
    have l2 : ¬ (256 : Int) < rs'.length + 1 := by omega
    simp [-getAt, hlen, hQ, e1, e2, mapO_encR, hzm, l1, l2]
    exact fun r _ x => gnd_rec
end
end Go.DM
namespace Go.DM
open Go.Proofs
set_option maxRecDepth 100000
section
variable {h : Heap} {vs : List V} {ar : List Arr}
theorem setZ {r : Rec} : setAt 0 (encR r).cells (.agg [.str [], .str [], .str [], .str [], .int .i64 0, .int .i64 0, .int .i64 0, .int .i64 0, .int .i64 0, .int .i64 0, .int .i64 0, .nils]) = some (encR r) := rfl
theorem wide_recs {P : Program} {H : Heap} {t : TypeId} {a b : Bool} {l : List Rec} (h1 : tElem P t = some 59) (h2 : P.cellsOf 59 = 12) : wideOk P H t (.fl a b (l.map encR)) = true := by
  unfold wideOk; rw [h1]; cases l <;> simp [h2]
theorem equalF_ev {t g t' g' : Bool} {rs : List Rec} (hr : ∀ r ∈ rs, OkR r) (hn : rs.length ≤ 1000) : Ev TE 124 [.fl t g (rs.map encR), .fl t' g' (rs.map encR), .fn 125 []] h (.bool true) h := by
  refine ev_pure 32 [.tmp 6] rfl rfl rfl Tryz.func124 rfl rfl rfl (args' := [.fl t g (rs.map encR), .fl t' g' (rs.map encR), .fn 125 []]) rfl fun Q hQ hN => ?_
  obtain ⟨n, hn'⟩ : ∃ n, n = rs.length := ⟨_, rfl⟩
  obtain ⟨es1, hes1⟩ : ∃ es, es = rs.map encR := ⟨_, rfl⟩
  have hel : es1.length = n := by rw [hes1]; simp [hn']
  rw [← hes1]
  have hwd : ∀ H a b, wideOk TE.P H 51 (.fl a b es1) = true := fun H a b => by rw [hes1]; exact wide_recs rfl rfl
  simp [hel]
  obtain ⟨I, hI⟩ : ∃ I : Nat → (Nat → V) → Heap → Prop, I = fun m f hp => ∃ i : Nat, i + m = n ∧ f 17 = .int .i64 i ∧ hp = ⟨[], []⟩ := ⟨_, rfl⟩
  refine wLp_ind [6, 7, 8, 9, 17, 18, 19, 20, 21, 22, 23, 24, 25, 26, 27, 28, 29, 30, 31] I n (by rw [hI]; exact ⟨0, by omega, rfl, rfl⟩) ?_
  intro m f hp hi
  rw [hI] at hi
  obtain ⟨i, hm, f17, rfl⟩ := hi
  by_cases hin : i < n
  · have hinI : (i : Int) < n := by omega
    obtain ⟨r, hr1⟩ : ∃ r, rs[i]? = some r := ⟨_, List.getElem?_eq_getElem (by omega)⟩
    have hro := hr r (List.mem_of_getElem? hr1)
    have gr : es1[i]'(by omega) = encR r := get_of (by rw [hes1, List.getElem?_map, hr1]; rfl) _
    have e2 : IntKind.i64.wrap ((i : Int) + 1) = ((i + 1 : Nat) : Int) := wrap_id (by omega) (by omega)
    simp (maxSteps := 10000000) [-getAt, getE12, -setAt, setZ, -dirtyAt, dirtyAt_hit, dirtyAt_miss, dirtyAt_done, dirtyAt_rest, f17, hin, hinI, hwd, hel, gr, e2, hro]
    refine loopK_normal ?_ (m - 1) ?_ ?_
    · rfl
    · omega
    rw [hI]
    exact ⟨i + 1, by omega, rfl, rfl⟩
  · have hinI : ¬ (i : Int) < n := by omega
    simp (maxSteps := 10000000) [-dirtyAt, dirtyAt_hit, dirtyAt_miss, dirtyAt_done, dirtyAt_rest, f17, hin, hinI, hQ, hN]
theorem sameL_ev {t g t' g' : Bool} {rs : List Rec} (hr : ∀ r ∈ rs, OkR r) (hn : rs.length ≤ 1000) : Ev TE 63 [.fl t g (rs.map encR), .fl t' g' (rs.map encR)] h (.bool true) h := by
  refine ev_pure 8 [.tmp 4] rfl rfl rfl Tryz.func63 rfl rfl rfl (args' := [.fl t g (rs.map encR), .fl t' g' (rs.map encR)]) rfl fun Q hQ hN => ?_
  simp [wK_ev (equalF_ev (t := t) (g := g) (t' := t') (g' := g') hr hn), hQ]
theorem copied_ev {t g : Bool} {rs : List Rec} (hr : ∀ r ∈ rs, OkR r) (h0 : 1 ≤ rs.length) (hn : rs.length ≤ 1000) : Ev TE 59 [.fl t g (rs.map encR)] h (.fl true false (rs.map encR)) h := by
  refine ev_pure 24 [.tmp 2] rfl rfl rfl Tryz.func59 rfl rfl rfl (args' := [.fl t g (rs.map encR)]) rfl fun Q hQ hN => ?_
  obtain ⟨n, hn'⟩ : ∃ n, n = rs.length := ⟨_, rfl⟩
  obtain ⟨es1, hes1⟩ : ∃ es, es = rs.map encR := ⟨_, rfl⟩
  have hel : es1.length = n := by rw [hes1]; simp [hn']
  have hcl := cloneR_fl (vs := []) (ar := []) (t := t) (g := g) h0 hn
  rw [← hes1, ← hn'] at hcl
  rw [← hes1]
  simp [wK_ev hcl]
  obtain ⟨I, hI⟩ : ∃ I : Nat → (Nat → V) → Heap → Prop, I = fun m f hp => ∃ i : Nat, i + m = n ∧ f 10 = .int .i64 i ∧ hp = ⟨[], [⟨es1, 0, true, 12⟩]⟩ := ⟨_, rfl⟩
  refine wLp_ind [4, 5, 10, 11, 12, 13, 14, 15, 16, 17, 18, 19, 20, 21, 22] I n (by rw [hI]; exact ⟨0, by omega, rfl, rfl⟩) ?_
  intro m f hp hi
  rw [hI] at hi
  obtain ⟨i, hm, f10, rfl⟩ := hi
  by_cases hin : i < n
  · have hinI : (i : Int) < n := by omega
    obtain ⟨r, hr1⟩ : ∃ r, rs[i]? = some r := ⟨_, List.getElem?_eq_getElem (by omega)⟩
    have hro := hr r (List.mem_of_getElem? hr1)
    have gr : es1[i]'(by omega) = encR r := get_of (by rw [hes1, List.getElem?_map, hr1]; rfl) _
    have e2 : IntKind.i64.wrap ((i : Int) + 1) = ((i + 1 : Nat) : Int) := wrap_id (by omega) (by omega)
    have hrp : 1 ≤ r.smp.length := hro.pos
    have hrl : r.smp.length ≤ 100000 := by have := hro.len; omega
    have hss : es1.set i (encR r) = es1 := by rw [← gr]; exact set_same (by omega)
    simp (maxSteps := 10000000) [-getAt, getE12, -setAt, setZ, set11, get11, -dirtyAt, dirtyAt_hit, dirtyAt_miss, dirtyAt_done, dirtyAt_rest, f10, hin, hinI, hel, gr, e2, hrp, hrl, hss]
    refine loopK_normal ?_ (m - 1) ?_ ?_
    · rfl
    · omega
    rw [hI]
    exact ⟨i + 1, by omega, rfl, rfl⟩
  · have hinI : ¬ (i : Int) < n := by omega
    have htk : es1.take n = rs.map encR := by rw [← hes1, List.take_of_length_le (by omega)]
    simp (maxSteps := 10000000) [-dirtyAt, dirtyAt_hit, dirtyAt_miss, dirtyAt_done, dirtyAt_rest, f10, hin, hinI, hQ, hN, hel, htk, mapO_encR]
    exact fun r _ x => gnd_rec
end
end Go.DM
namespace Go.DM
open Go.Proofs
set_option maxRecDepth 100000
section
variable {h : Heap} {vs : List V} {ar : List Arr}
abbrev srcV (i : Nat) : V := .agg [.str [65, 66], .str [83, stB i], .str [48, 48], .str [66, 72, 90]]
theorem gnd_store {p : Nat × List Rec} {x : V} (h : x ∈ (encS p).cells) : x.gnd = true := by
  have : (encS p).cells.all V.gnd = true := by simp [encS]
  exact List.all_eq_true.1 this x h
@[simp] theorem cellsS {p : Nat × List Rec} : (encS p).cells.length = 5 := (rfl)
@[simp] theorem storS {p : Nat × List Rec} : (encS p).storable = true := (rfl)
theorem clean_store {d : Nat} {p : Nat × List Rec} : clean (d + 5) (encS p) = true := by simp [encS, List.all_eq_true]
theorem frz_store {H : Heap} {nv na d : Nat} {p : Nat × List Rec} : frz H nv na (d + 5) (encS p) = some (encS p) := by simp [encS]
theorem mapO_store {H : Heap} {nv na d : Nat} {l : Arch} : mapO (frz H nv na (d + 5)) (l.map encS) = some (l.map encS) := mapO_map fun p _ => frz_store
theorem getS5 {p : Nat × List Rec} : getAt true 5 0 (encS p) = some (encS p) := rfl
theorem getS4 {p : Nat × List Rec} : getAt true 4 0 (encS p) = some (srcV p.1) := rfl
theorem getSr {p : Nat × List Rec} : getAt false 1 4 (encS p) = some (.fl true false (p.2.map encR)) := rfl
theorem setSr {p : Nat × List Rec} {l : List Rec} : setAt 4 [.fl true false (l.map encR)] (encS p) = some (encS (p.1, l)) := rfl
theorem getSrc {i : Nat} : getAt true 4 0 (srcV i) = some (srcV i) := rfl
theorem wide_stores {P : Program} {H : Heap} {t : TypeId} {a b : Bool} {l : Arch} (h1 : tElem P t = some 105) (h2 : P.cellsOf 105 = 5) : wideOk P H t (.fl a b (l.map encS)) = true := by
  unfold wideOk; rw [h1]; cases l <;> simp [h2]
theorem cmpS_ev {p : Nat × List Rec} {i : Nat} (hp : p.1 < 6) (hi : i < 6) : Ev TE 117 [encS p, srcV i] h (.int .i64 (cmpI p.1 i)) h := by
  refine ev_raw 9 [.tmp 4] rfl rfl rfl Tryz.func117 rfl rfl rfl fun Q hQ hN => ?_
  simp [-getAt, getS5, getS4, getSrc, hp, hi, hQ, hN]
def headIs (i : Nat) : Arch → Bool
  | [] => false
  | p :: _ => decide (p.1 = i)
theorem search_ev {t g : Bool} {L R : Arch} {i : Nat} (hl : ∀ p ∈ L, p.1 < i) (hr : ∀ p ∈ R, i ≤ p.1) (h6 : ∀ p ∈ L ++ R, p.1 < 6) (hi : i < 6) (hn : L.length + R.length ≤ 6) :
    Ev TE 116 [.fl t g ((L ++ R).map encS), srcV i, .fn 117 []] h (.tuple [.int .i64 L.length, .bool (headIs i R)]) h := by
  refine ev_pure 49 [.tmp 6, .tmp 7] rfl rfl rfl Tryz.func116 rfl rfl rfl (args' := [.fl t g ((L ++ R).map encS), srcV i, .fn 117 []]) rfl fun Q hQ hN => ?_
  obtain ⟨n, hn'⟩ : ∃ n, n = (L ++ R).length := ⟨_, rfl⟩
  obtain ⟨q, hq⟩ : ∃ q, q = L.length := ⟨_, rfl⟩
  have hqn : q ≤ n := by rw [hq, hn']; simp
  have hn6 : n ≤ 6 := by rw [hn']; simp; omega
  obtain ⟨es1, hes1⟩ : ∃ es, es = (L ++ R).map encS := ⟨_, rfl⟩
  have hel : es1.length = n := by rw [hes1, hn', List.length_map]
  have hwd : ∀ H a b, wideOk TE.P H 60 (.fl a b es1) = true := fun H a b => by rw [hes1]; exact wide_stores rfl rfl
  rw [← hes1]
  rw [← hq] at hQ hN
  have hsh : ∀ s : Nat, s < 20 → IntKind.u64.wrap (s : Int) = s ∧ Int.fdiv (s : Int) 2 = ((s / 2 : Nat) : Int) ∧ IntKind.i64.wrap (s : Int) = s ∧ IntKind.i64.wrap ((s / 2 : Nat) : Int) = ((s / 2 : Nat) : Int) := by decide
  simp [hel]
  obtain ⟨I, hI⟩ : ∃ I : Nat → (Nat → V) → Heap → Prop, I = fun m f hp => ∃ lo hi : Nat, lo + m = hi ∧ lo ≤ q ∧ q ≤ hi ∧ hi ≤ n ∧ f 9 = .int .i64 lo ∧ f 10 = .int .i64 hi ∧ hp = ⟨[], []⟩ := ⟨_, rfl⟩
  refine wLp_ind [9, 10, 11, 15, 16, 17, 18, 19, 20, 21, 22, 23, 24, 25, 26, 27, 28, 29, 30, 31, 32, 33, 34] I n (by rw [hI]; exact ⟨0, n, by omega, by omega, by omega, by omega, rfl, rfl, rfl⟩) ?_
  intro m f hp hi'
  rw [hI] at hi'
  obtain ⟨lo, hi1, hm, hlo, hhi, hhn, f9, f10, rfl⟩ := hi'
  by_cases hlt : lo < hi1
  · have hltI : (lo : Int) < hi1 := by omega
    obtain ⟨md, hmd⟩ : ∃ md, md = (lo + hi1) / 2 := ⟨_, rfl⟩
    obtain ⟨s1, s2, s3, s4⟩ := hsh (lo + hi1) (by omega)
    rw [← hmd] at s2 s4
    have hmn : md < n := by omega
    obtain ⟨p, hp⟩ : ∃ p, (L ++ R)[md]? = some p := ⟨_, List.getElem?_eq_getElem (by omega)⟩
    have hp6 := h6 p (List.mem_of_getElem? hp)
    have gp : es1[md]'(by omega) = encS p := get_of (by rw [hes1, List.getElem?_map, hp]; rfl) _
    have s5 : IntKind.i64.wrap ((lo : Int) + hi1) = ((lo + hi1 : Nat) : Int) := s3
    have hmd0 : md < 9223372036854775808 := by omega
    have s6 : IntKind.i64.wrap ((md : Int) + 1) = ((md + 1 : Nat) : Int) := wrap_id (by omega) (by omega)
    have hc := cmpS_ev (h := ⟨[], []⟩) hp6 hi
    have s7 : shiftV false .u64 ((lo + hi1 : Nat) : Int) 1 = some (.int .u64 (md : Int)) := by
      show some (V.int IntKind.u64 (Int.fdiv ((lo + hi1 : Nat) : Int) 2)) = _
      rw [s2]
    by_cases hmq : md < q
    · have hlt : cmpI p.1 i < 0 := cmpI_neg.2 (by
        have := hl p (List.mem_of_getElem? (by rw [List.getElem?_append_left (by omega)] at hp; exact hp))
        omega)
      simp (maxSteps := 10000000) [-getAt, getS5, getSrc, -dirtyAt, dirtyAt_hit, dirtyAt_miss, dirtyAt_done, dirtyAt_rest, f9, f10, hlt, hltI, s1, s4, s5, s6, s7, hmn, hel, gp, hwd, wK_ev hc, -Int.natCast_add]
      refine loopK_normal ?_ (hi1 - (md + 1)) ?_ ?_
      · rfl
      · omega
      rw [hI]
      exact ⟨md + 1, hi1, by omega, by omega, hhi, hhn, rfl, rfl, rfl⟩
    · have hlt : ¬ cmpI p.1 i < 0 := fun h => by
        have h1 := cmpI_neg.1 h
        rw [List.getElem?_append_right (by omega)] at hp
        have := hr p (List.mem_of_getElem? hp)
        omega
      simp (maxSteps := 10000000) [-getAt, getS5, getSrc, -dirtyAt, dirtyAt_hit, dirtyAt_miss, dirtyAt_done, dirtyAt_rest, f9, f10, hlt, hltI, s1, s4, s5, s6, s7, hmn, hel, gp, hwd, wK_ev hc, -Int.natCast_add]
      refine loopK_normal ?_ (md - lo) ?_ ?_
      · rfl
      · omega
      rw [hI]
      exact ⟨lo, md, by omega, by omega, by omega, by omega, rfl, rfl, rfl⟩
  · have hltI : ¬ (lo : Int) < hi1 := by omega
    have hlq : lo = q := by omega
    subst hlq
    have hRl : R.length + lo = n := by rw [hn', hq]; simp; omega
    cases hR : R with
    | nil =>
      rw [hR] at hRl
      simp at hRl
      have hln : ¬ lo < n := by omega
      have hlnI : ¬ (lo : Int) < n := by omega
      simp (maxSteps := 10000000) [-getAt, getS5, getSrc, -dirtyAt, dirtyAt_hit, dirtyAt_miss, dirtyAt_done, dirtyAt_rest, f9, f10, hltI, hln, hlnI, hQ, hN, hR, headIs]
    | cons p R' =>
      rw [hR] at hRl
      simp at hRl
      have hln : lo < n := by omega
      have hlnI : (lo : Int) < n := by omega
      have hp : (L ++ R)[lo]? = some p := by rw [hR, hq]; simp
      have hp6 := h6 p (List.mem_of_getElem? hp)
      have gp : es1[lo]'(by omega) = encS p := get_of (by rw [hes1, List.getElem?_map, hp]; rfl) _
      have hc := cmpS_ev (h := ⟨[], []⟩) hp6 hi
      have hz : (cmpI p.1 i == 0) = decide (p.1 = i) := by
        have := @cmpI_zero p.1 i
        by_cases e : p.1 = i
        · simp [e, cmpI_self]
        · have : ¬ cmpI (p.1 : Int) i = 0 := fun h => e (by have := cmpI_zero.1 h; omega)
          simp [e, this]
      simp (maxSteps := 10000000) [-getAt, getS5, getSrc, -dirtyAt, dirtyAt_hit, dirtyAt_miss, dirtyAt_done, dirtyAt_rest, f9, f10, hltI, hln, hlnI, gp, hel, hwd, wK_ev hc, hQ, hN, hR, headIs, hz]
end
end Go.DM
namespace Go.DM
open Go.Proofs
set_option maxRecDepth 100000
section
variable {h : Heap} {vs : List V} {ar : List Arr}
theorem search0_ev {i : Nat} : Ev TE 116 [.nils, srcV i, .fn 117 []] h (.tuple [.int .i64 0, .bool false]) h := by
  refine ev_pure 49 [.tmp 6, .tmp 7] rfl rfl rfl Tryz.func116 rfl rfl rfl (args' := [.nils, srcV i, .fn 117 []]) rfl fun Q hQ hN => ?_
  simp
  refine wLp_once ?_
  simp (maxSteps := 10000000) [hQ, hN]
theorem placeA_ev {t g : Bool} {L R : Arch} {i : Nat} {x : V} (hx : brw h x = some (.agg [.fl t g ((L ++ R).map encS)])) (hl : ∀ p ∈ L, p.1 < i) (hr : ∀ p ∈ R, i ≤ p.1) (h6 : ∀ p ∈ L ++ R, p.1 < 6) (hi : i < 6) (hn : L.length + R.length ≤ 6) :
    Ev TE 57 [x, srcV i] h (.tuple [.int .i64 L.length, .bool (headIs i R)]) h := by
  have hy : brw h (srcV i) = some (srcV i) := rfl
  refine ev_pure 12 [.tmp 4, .tmp 5] rfl rfl rfl Tryz.func57 rfl rfl rfl (args' := [.agg [.fl t g ((L ++ R).map encS)], srcV i]) (by simp [hx, hy]) fun Q hQ hN => ?_
  have hs := search_ev (h := ⟨[], []⟩) (t := t) (g := g) hl hr h6 hi hn
  obtain ⟨es, hes⟩ : ∃ es, es = (L ++ R).map encS := ⟨_, rfl⟩
  rw [← hes] at hs
  rw [← hes]
  simp [-getAt, getSrc, wK_ev hs]
  simp [getAt, wK_ev hs, hQ, hN]
theorem placeA0_ev {i : Nat} {x : V} (hx : brw h x = some (.agg [.nils])) :
    Ev TE 57 [x, srcV i] h (.tuple [.int .i64 0, .bool false]) h := by
  have hy : brw h (srcV i) = some (srcV i) := rfl
  refine ev_pure 12 [.tmp 4, .tmp 5] rfl rfl rfl Tryz.func57 rfl rfl rfl (args' := [.agg [.nils], srcV i]) (by simp [hx, hy]) fun Q hQ hN => ?_
  have hs := search0_ev (h := ⟨[], []⟩) (i := i)
  simp [-getAt, getSrc]
  simp [getAt, wK_ev hs, hQ, hN]

theorem setSZ {p : Nat × List Rec} : setAt 0 (encS p).cells (.agg [.str [], .str [], .str [], .str [], .nils]) = some (encS p) := rfl
structure GoodA (a : Arch) : Prop where
  ok : OkA a
  key : ∀ p ∈ a, p.1 < 6
  recs : ∀ p ∈ a, ∀ r ∈ p.2, OkR r
  len : ∀ p ∈ a, p.2.length ≤ 12
theorem GoodA.okl {a : Arch} (h : GoodA a) {p : Nat × List Rec} (hp : p ∈ a) : OkL p.2 p.1 := ⟨h.recs p hp, h.ok.src p hp⟩
theorem GoodA.one {a : Arch} (h : GoodA a) {p : Nat × List Rec} (hp : p ∈ a) : 1 ≤ p.2.length := by
  have := h.ok.ne p hp
  cases e : p.2 with
  | nil => exact absurd e this
  | cons x l => simp
theorem GoodA.n {a : Arch} (h : GoodA a) : a.length ≤ 6 := by
  have := nodup_length_le (l := a.map (·.1)) (m := [0, 1, 2, 3, 4, 5]) (by
    rw [List.Nodup, List.pairwise_map]
    exact List.Pairwise.imp (fun {_ _} h e => by omega) h.ok.ord) fun x hx => by
      obtain ⟨p, hp, rfl⟩ := List.mem_map.1 hx
      have := h.key p hp
      simp; omega
  simpa using this
theorem valid0_ev {x : V} (hx : brw h x = some (.agg [.nils])) : Ev TE 16 [x] h (.bool true) h := by
  refine ev_pure 66 [.tmp 2] rfl rfl rfl Tryz.func16 rfl rfl rfl (args' := [.agg [.nils]]) (by simp [hx]) fun Q hQ hN => ?_
  simp
  refine wLp_once ?_
  simp (maxSteps := 10000000) [hQ, hN]
theorem validA_ev {t g : Bool} {a : Arch} {x : V} (hx : brw h x = some (.agg [.fl t g (a.map encS)])) (ha : GoodA a) : Ev TE 16 [x] h (.bool true) h := by
  refine ev_pure 66 [.tmp 2] rfl rfl rfl Tryz.func16 rfl rfl rfl (args' := [.agg [.fl t g (a.map encS)]]) (by simp [hx]) fun Q hQ hN => ?_
  obtain ⟨n, hn'⟩ : ∃ n, n = a.length := ⟨_, rfl⟩
  have hn6 : n ≤ 6 := by rw [hn']; exact ha.n
  obtain ⟨es1, hes1⟩ : ∃ es, es = a.map encS := ⟨_, rfl⟩
  have hel : es1.length = n := by rw [hes1, hn', List.length_map]
  have hwd : ∀ H a b, wideOk TE.P H 60 (.fl a b es1) = true := fun H a b => by rw [hes1]; exact wide_stores rfl rfl
  rw [← hes1]
  have h128 : ¬ (128 : Int) < n := by omega
  simp [hel, h128]
  obtain ⟨I, hI⟩ : ∃ I : Nat → (Nat → V) → Heap → Prop, I = fun m f hp => ∃ i : Nat, i + m = n ∧ f 14 = .int .i64 i ∧ hp = ⟨[], []⟩ := ⟨_, rfl⟩
  refine wLp_ind [2, 3, 4, 5, 6, 14, 15, 16, 17, 18, 19, 20, 21, 22, 23, 24, 25, 26, 27, 28, 29, 30, 31, 32, 33, 34, 35, 36, 37, 38, 39, 40, 41, 42, 43, 44, 45, 46, 47, 48, 49, 50, 51, 52, 53, 54, 55, 56, 57, 58, 59, 60, 61, 62, 63, 64, 65] I n (by rw [hI]; exact ⟨0, by omega, rfl, rfl⟩) ?_
  intro m f hp hi
  rw [hI] at hi
  obtain ⟨i, hm, f14, rfl⟩ := hi
  by_cases hin : i < n
  · have hinI : (i : Int) < n := by omega
    obtain ⟨p, hp⟩ : ∃ p, a[i]? = some p := ⟨_, List.getElem?_eq_getElem (by omega)⟩
    have hpm := List.mem_of_getElem? hp
    have hp6 := ha.key p hpm
    have gp : es1[i]'(by omega) = encS p := get_of (by rw [hes1, List.getElem?_map, hp]; rfl) _
    have e2 : IntKind.i64.wrap ((i : Int) + 1) = ((i + 1 : Nat) : Int) := wrap_id (by omega) (by omega)
    have ho := orderL_ev (h := ⟨[], []⟩) (t := true) (g := false) (ha.okl hpm) (ha.one hpm) (ha.len p hpm) (ha.ok.strict p hpm)
    have hs := sameL_ev (h := ⟨[], []⟩) (t := true) (g := false) (t' := true) (g' := false) (ha.recs p hpm) (by have := ha.len p hpm; omega)
    have h1 : 1 ≤ p.2.length := ha.one hpm
    have hz : ((p.2.length : Int) == 0) = false := by simp; intro e; rw [e] at h1; simp at h1
    obtain ⟨r0, hr0⟩ : ∃ r, p.2[0]? = some r := ⟨_, List.getElem?_eq_getElem (by omega)⟩
    have hr0i : r0.i = p.1 := ha.ok.src p hpm r0 (List.mem_of_getElem? hr0)
    obtain ⟨rs1, hrs1⟩ : ∃ es, es = p.2.map encR := ⟨_, rfl⟩
    have g0 : rs1[0]'(by rw [hrs1]; simp; omega) = encR r0 := get_of (by rw [hrs1, List.getElem?_map, hr0]; rfl) _
    have hwr : ∀ H a b, wideOk TE.P H 51 (.fl a b rs1) = true := fun H a b => by rw [hrs1]; exact wide_recs rfl rfl
    have hrl : rs1.length = p.2.length := by rw [hrs1]; simp
    have hrl0 : 0 < p.2.length := by omega
    have hst : stB r0.i = stB p.1 := by rw [hr0i]
    have gS : getAt false 1 4 (encS p) = some (.fl true false rs1) := by rw [hrs1]; rfl
    have gA : ∀ l : List V, getAt false 1 0 (.agg [.fl t g l]) = some (.fl t g l) := fun l => rfl
    rw [← hrs1] at ho hs
    by_cases hi0 : 0 < i
    · have hi0I : (0 : Int) < i := by omega
      obtain ⟨q, hq⟩ : ∃ p, a[i - 1]? = some p := ⟨_, List.getElem?_eq_getElem (by omega)⟩
      have hq6 := ha.key q (List.mem_of_getElem? hq)
      have gq : es1[i - 1]'(by omega) = encS q := get_of (by rw [hes1, List.getElem?_map, hq]; rfl) _
      have hin1 : i - 1 < n := by omega
      have e3 : IntKind.i64.wrap ((i : Int) - 1) = ((i - 1 : Nat) : Int) := by rw [wrap_id (by omega) (by omega)]; omega
      have hqp : q.1 < p.1 := by
        obtain ⟨hq1, hq2⟩ := List.getElem?_eq_some_iff.1 hq
        obtain ⟨hp1, hp2⟩ := List.getElem?_eq_some_iff.1 hp
        have := List.pairwise_iff_getElem.1 ha.ok.ord (i - 1) i hq1 hp1 (by omega)
        rw [hq2, hp2] at this
        exact this
      have hcq : ¬ cmpI q.1 p.1 ≥ 0 := by have := (cmpI_neg (a := q.1) (b := p.1)).2 (by omega); omega
      have hcq' : ¬ 0 ≤ cmpI q.1 p.1 := hcq
      simp (maxSteps := 10000000) [-getAt, getS5, getS4, gS, gA, getE4, getSrc, -setAt, setSZ, -dirtyAt, dirtyAt_hit, dirtyAt_miss, dirtyAt_done, dirtyAt_rest, f14, hin, hinI, hwd, hel, gp, e2, wK_ev ho, wK_ev hs, hz, g0, hwr, hrl, hrl0, hst, hi0, hi0I, gq, hin1, e3, hp6, hq6, hcq, hcq']
      refine loopK_normal ?_ (m - 1) ?_ ?_
      · rfl
      · omega
      rw [hI]
      exact ⟨i + 1, by omega, rfl, rfl⟩
    · have hi0I : ¬ (0 : Int) < i := by omega
      simp (maxSteps := 10000000) [-getAt, getS5, getS4, gS, gA, getE4, getSrc, -setAt, setSZ, -dirtyAt, dirtyAt_hit, dirtyAt_miss, dirtyAt_done, dirtyAt_rest, f14, hin, hinI, hwd, hel, gp, e2, wK_ev ho, wK_ev hs, hz, g0, hwr, hrl, hrl0, hst, hi0, hi0I, hp6]
      refine loopK_normal ?_ (m - 1) ?_ ?_
      · rfl
      · omega
      rw [hI]
      exact ⟨i + 1, by omega, rfl, rfl⟩
  · have hinI : ¬ (i : Int) < n := by omega
    simp (maxSteps := 10000000) [-dirtyAt, dirtyAt_hit, dirtyAt_miss, dirtyAt_done, dirtyAt_rest, f14, hin, hinI, hQ, hN]
end
end Go.DM
