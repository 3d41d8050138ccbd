/-
  archive.clone; slices.Insert's law. archive.Add. archive.Add: its law. The reference's comparison of archives, and archive.All. archive.All.
-/
import Derived.Test.YtpfhhcjdknmbbaaGreatDoorF4
set_option linter.all false
set_option linter.unusedSimpArgs false
set_option linter.unusedVariables false
namespace Go.DM
open Go.Proofs
set_option maxRecDepth 100000
section
variable {h : Heap} {vs : List V} {ar : List Arr}
theorem getA1 {v : V} : getAt false 1 0 (.agg [v]) = some v := rfl
theorem ev_ins {args : List V} {h h' : Heap} {v : V} (hi : insH TE.P 60 args h = some (v, h')) : Ev TE 58 args h v h' := by
  refine ⟨1, fun n hn lim => ?_⟩
  obtain ⟨m, rfl⟩ : ∃ m, n = m + 1 := ⟨n - 1, by omega⟩
  have hx : TE.ext 58 = some 60 := rfl
  simp only [callN, hx, extH]
  exact hi
theorem cloneS_fl {t g : Bool} {a : Arch} (h0 : 1 ≤ a.length) (h1 : a.length ≤ 1000) : Ev TE 115 [.fl t g (a.map encS)] ⟨vs, ar⟩ (.sl ar.length 0 0 a.length none) ⟨vs, ar ++ [⟨a.map encS, 0, true, 5⟩]⟩ := by
  refine ev_raw 8 [.tmp 2] rfl rfl rfl Tryz.func115 rfl rfl rfl fun Q hQ hN => ?_
  have hem : a.isEmpty = false := by cases a <;> simp at h0 ⊢
  have hb : a.length * 88 ≤ 140737488355328 := by omega
  simp [nilEq_fl, appendV, grow, hem, hb, hQ]
theorem cloneS_nil : Ev TE 115 [.nils] h .nils h := by
  refine ev_raw 8 [.tmp 2] rfl rfl rfl Tryz.func115 rfl rfl rfl fun Q hQ hN => ?_
  simp [hQ]
theorem cloneA0_ev : Ev TE 56 [.agg [.nils]] h (.agg [.nils]) h := by
  refine ev_raw 28 [.cell 2 62] rfl rfl rfl Tryz.func56 rfl rfl rfl fun Q hQ hN => ?_
  simp [wK_ev cloneS_nil]
  refine wLp_once ?_
  simp (maxSteps := 10000000) [hQ, hN]
theorem cloneA_ev {t g : Bool} {a : Arch} (ha : GoodA a) (h0 : 1 ≤ a.length) : Ev TE 56 [.agg [.fl t g (a.map encS)]] ⟨[], []⟩ (.agg [.sl 0 0 0 a.length none]) ⟨[], [⟨a.map encS, 0, true, 5⟩]⟩ := by
  refine ev_raw 28 [.cell 2 62] rfl rfl rfl Tryz.func56 rfl rfl rfl fun Q hQ hN => ?_
  obtain ⟨n, hn'⟩ : ∃ n, n = a.length := ⟨_, rfl⟩
  have hn6 : n ≤ 6 := by rw [hn']; exact ha.n
  obtain ⟨es1, hes1⟩ : ∃ es, es = a.map encS := ⟨_, rfl⟩
  have hel : es1.length = n := by rw [hes1, hn', List.length_map]
  have hcl := cloneS_fl (vs := []) (ar := []) (t := t) (g := g) h0 (by omega)
  rw [← hes1, ← hn'] at hcl
  rw [← hes1]
  simp [wK_ev hcl]
  obtain ⟨I, hI⟩ : ∃ I : Nat → (Nat → V) → Heap → Prop, I = fun m f hp => ∃ i : Nat, i + m = n ∧ f 13 = .int .i64 i ∧ hp = ⟨[], [⟨es1, 0, true, 5⟩]⟩ := ⟨_, rfl⟩
  refine wLp_ind [4, 5, 13, 14, 15, 16, 17, 18, 19, 20, 21, 22, 23, 24, 25, 26] I n (by rw [hI]; exact ⟨0, by omega, rfl, rfl⟩) ?_
  intro m f hp hi
  rw [hI] at hi
  obtain ⟨i, hm, f13, rfl⟩ := hi
  by_cases hin : i < n
  · have hinI : (i : Int) < n := by omega
    obtain ⟨p, hp⟩ : ∃ p, a[i]? = some p := ⟨_, List.getElem?_eq_getElem (by omega)⟩
    have hpm := List.mem_of_getElem? hp
    have gp : es1[i]'(by omega) = encS p := get_of (by rw [hes1, List.getElem?_map, hp]; rfl) _
    have hss : es1.set i (encS p) = es1 := by rw [← gp]; exact set_same (by omega)
    have e2 : IntKind.i64.wrap ((i : Int) + 1) = ((i + 1 : Nat) : Int) := wrap_id (by omega) (by omega)
    have hc := copied_ev (h := ⟨[], [⟨es1, 0, true, 5⟩]⟩) (t := true) (g := false) (ha.recs p hpm) (ha.one hpm) (by have := ha.len p hpm; omega)
    have hsr : setAt 4 [.fl true false (p.2.map encR)] (encS p) = some (encS p) := rfl
    simp (maxSteps := 10000000) [-getAt, getS5, getSr, getA1, -setAt, setSZ, hsr, -dirtyAt, dirtyAt_hit, dirtyAt_miss, dirtyAt_done, dirtyAt_rest, f13, hin, hinI, hel, gp, e2, wK_ev hc, hss]
    refine loopK_normal ?_ (m - 1) ?_ ?_
    · rfl
    · omega
    rw [hI]
    exact ⟨i + 1, by omega, rfl, rfl⟩
  · have hinI : ¬ (i : Int) < n := by omega
    simp (maxSteps := 10000000) [-dirtyAt, dirtyAt_hit, dirtyAt_miss, dirtyAt_done, dirtyAt_rest, f13, hin, hinI, hQ, hN, hel]
    exact ⟨hn', hes1⟩
end
end Go.DM
namespace Go.DM
open Go.Proofs
set_option maxRecDepth 100000
/-! plain facts -/
theorem addA_app {r : Rec} {R : Arch} : ∀ {L : Arch}, (∀ p ∈ L, p.1 < r.i) → addA (L ++ R) r = L ++ addA R r
  | [], _ => rfl
  | p :: L, h => by
    have h1 := h p (by simp)
    have h2 : ¬ r.i < p.1 := by omega
    have h3 : ¬ p.1 = r.i := by omega
    have ih := addA_app (r := r) (R := R) (L := L) fun q hq => h q (List.mem_cons_of_mem _ hq)
    show addA (p :: (L ++ R)) r = _
    rw [addA, if_neg h2, if_neg h3, ih]; rfl
theorem split_at (i : Nat) : ∀ {a : Arch}, (a.Pairwise fun p q => p.1 < q.1) → ∃ L R, a = L ++ R ∧ (∀ p ∈ L, p.1 < i) ∧ ∀ p ∈ R, i ≤ p.1
  | [], _ => ⟨[], [], rfl, by simp, by simp⟩
  | p :: a, h => by
    rw [List.pairwise_cons] at h
    by_cases hp : p.1 < i
    · obtain ⟨L, R, rfl, h1, h2⟩ := split_at i h.2
      exact ⟨p :: L, R, rfl, fun q hq => (List.mem_cons.1 hq).elim (fun e => e ▸ hp) (h1 q), h2⟩
    · refine ⟨[], p :: a, rfl, by simp, fun q hq => ?_⟩
      rcases List.mem_cons.1 hq with rfl | hq
      · omega
      · have := h.1 q hq; omega
theorem addA_new {r : Rec} {R : Arch} (hr : ∀ p ∈ R, r.i ≤ p.1) (hn : headIs r.i R = false) : addA R r = (r.i, [r]) :: R := by
  cases R with
  | nil => rfl
  | cons p R =>
    have h1 := hr p (by simp)
    have h2 : ¬ p.1 = r.i := by simpa [headIs] using hn
    have h3 : r.i < p.1 := by omega
    simp only [addA, if_pos h3]
theorem not_mem_new {L R : Arch} {r : Rec} (ha : OkA (L ++ R)) (hl : ∀ p ∈ L, p.1 < r.i) (hr : ∀ p ∈ R, r.i ≤ p.1) (hn : headIs r.i R = false) : r ∉ allA (L ++ R) := by
  intro h
  obtain ⟨p, hp, hrp⟩ := mem_allA.1 h
  have h1 := ha.src p hp r hrp
  rcases List.mem_append.1 hp with hp | hp
  · have := hl p hp; omega
  · cases R with
    | nil => simp at hp
    | cons q R =>
      have h2 : ¬ q.1 = r.i := by simpa [headIs] using hn
      have h3 := hr q (by simp)
      have h4 := (List.pairwise_append.1 ha.ord).2.1
      rw [List.pairwise_cons] at h4
      rcases List.mem_cons.1 hp with rfl | hp
      · omega
      · have := h4.1 p hp; omega
theorem mem_old {L R : Arch} {p : Nat × List Rec} {r : Rec} (ha : OkA (L ++ p :: R)) (hp : p.1 = r.i) : r ∈ allA (L ++ p :: R) ↔ r ∈ p.2 := by
  constructor
  · intro h
    obtain ⟨q, hq, hrq⟩ := mem_allA.1 h
    have h1 := ha.src q hq r hrq
    have h4 := List.pairwise_append.1 ha.ord
    have h5 := List.pairwise_cons.1 h4.2.1
    rcases List.mem_append.1 hq with hq | hq
    · have := h4.2.2 q hq p (by simp); omega
    · rcases List.mem_cons.1 hq with rfl | hq
      · exact hrq
      · have := h5.1 q hq; omega
  · exact fun h => mem_allA.2 ⟨p, by simp, h⟩
theorem addA_old {r : Rec} {p : Nat × List Rec} {R : Arch} (hp : p.1 = r.i) : addA (p :: R) r = (p.1, insU r p.2) :: R := by
  have : ¬ r.i < p.1 := by omega
  simp only [addA, if_neg this, if_pos hp]

section
variable {h : Heap} {vs : List V} {ar : List Arr}
theorem gnd_encS {l : Arch} : (l.map encS).all (fun e => e.cells.all V.gnd) = true := by
  simp only [List.all_eq_true, List.mem_map]
  rintro _ ⟨p, _, rfl⟩ x
  exact gnd_store
theorem brw_stores {id ver n : Nat} {o : Bool} {a : Arch} (hA : ar[id]? = some ⟨a.map encS, ver, o, 5⟩) (hn : a.length = n) : brw ⟨vs, ar⟩ (.agg [.sl id ver 0 n none]) = some (.agg [.fl false false (a.map encS)]) := by
  have h1 : ((a.map encS).take n).all (fun e => e.cells.all V.gnd) = true := by rw [List.take_of_length_le (by simp [hn])]; exact gnd_encS
  simp [brw, brwC, tightOf, hA, hn, mapO, -List.all_map]
  rw [List.take_of_length_le (by simp [hn])] at h1 ⊢
  simp only [h1, cond_true, Option.map_some]; rfl
theorem ins_S {L R : Arch} {q : Nat × List Rec} {n : Nat} (hn : L.length + R.length = n) (h6 : n ≤ 6) :
    insH TE.P 60 [.sl 0 0 0 n none, .int .i64 L.length, .fl true true [encS q]] ⟨[], [⟨(L ++ R).map encS, 0, true, 5⟩]⟩ = some (.sl 0 1 0 (n + 1) none, ⟨[], [⟨(L ++ q :: R).map encS, 1, true, 5⟩]⟩) := by
  have hb : (n + 1) * 88 ≤ 140737488355328 := by omega
  cases R with
  | nil =>
    have hL : L.length = n := by simpa using hn
    simp [insH, hL, appendV, lowAll, roomV, hb]
  | cons p R =>
    have hlt : L.length < n := by simp at hn; omega
    have hne : ¬ (L.length : Int) = n := by omega
    have hln : L.length + (R.length + 1) = n := by simpa using hn
    have htk : ((L ++ p :: R).map encS).take n = (L ++ p :: R).map encS := List.take_of_length_le (by simp; omega)
    have e1 : ((L ++ p :: R).map encS).take L.length = L.map encS := by rw [List.map_append]; exact List.take_left' (by simp)
    have e2 : ((L ++ p :: R).map encS).drop L.length = (p :: R).map encS := by rw [List.map_append]; exact List.drop_left' (by simp)
    have hl2 : ((L ++ p :: R).map encS).length = n := by simp; omega
    simp only [insH, elemsOf_sl, List.getElem?_cons_zero, Option.bind_some, beq_self_eq_true, Nat.zero_add, hl2, Nat.le_refl, decide_true, Bool.and_self, cond_true, List.drop_zero, htk, hne, decide_false, cond_false]
    simp [hlt, hb, e1, e2]
end
end Go.DM
namespace Go.DM
open Go.Proofs
set_option maxRecDepth 100000
section
variable {h : Heap} {vs : List V} {ar : List Arr}
theorem encA_cons {p : Nat × List Rec} {a : Arch} : encA (p :: a) = .agg [.fl true false ((p :: a).map encS)] := rfl
theorem encA_ne {a : Arch} (h : 1 ≤ a.length) : encA a = .agg [.fl true false (a.map encS)] := by cases a <;> simp at h ⊢; rfl
theorem brw_encA {a : Arch} : brw h (encA a) = some (encA a) := by cases a <;> rfl
theorem brw_encR {r : Rec} : brw h (encR r) = some (encR r) := rfl
theorem getA {v : V} : getAt true 1 0 (.agg [v]) = some (.agg [v]) := rfl
theorem setA {u v : V} (h : v.cells = [v]) : setAt 0 (V.agg [v]).cells (.agg [u]) = some (.agg [v]) := rfl
theorem setA' {u v : V} : setAt 0 [v] (.agg [u]) = some (.agg [v]) := rfl
theorem valid_encA {a : Arch} (ha : GoodA a) : Ev TE 16 [encA a] h (.bool true) h := by
  cases a with
  | nil => exact valid0_ev rfl
  | cons p a => exact validA_ev (t := true) (g := false) rfl ha
set_option maxHeartbeats 2000000 in
/-- A record of a channel that is new. -/
theorem addNew_ev {L R : Arch} {r : Rec} (ha : GoodA (L ++ R)) (hr : OkR r) (hl : ∀ p ∈ L, p.1 < r.i) (hg : ∀ p ∈ R, r.i ≤ p.1) (hn : headIs r.i R = false) (h1 : 1 ≤ (L ++ R).length) :
    Ev TE 14 [encA (L ++ R), encR r] h (.tuple [.agg [.fl true false ((L ++ (r.i, [r]) :: R).map encS)], .bool true, .int .i64 0]) h := by
  refine ev_pure 76 [.cell 4 62, .tmp 5, .tmp 6] rfl rfl rfl Tryz.func14 rfl rfl rfl (args' := [encA (L ++ R), encR r]) (by simp [brw_encA, brw_encR]) fun Q hQ hN => ?_
  obtain ⟨n, hnn⟩ : ∃ n, n = (L ++ R).length := ⟨_, rfl⟩
  have hn6 : n ≤ 6 := by rw [hnn]; exact ha.n
  have hva := valid_encA (h := ⟨[], []⟩) ha
  have hvr := valid_ev (h := ⟨[], []⟩) hr
  have hcl := cloneA_ev (t := true) (g := false) ha h1
  rw [← encA_ne h1, ← hnn] at hcl
  obtain ⟨x, hx⟩ : ∃ x, x = encA (L ++ R) := ⟨_, rfl⟩
  have hxs : x.cells.length = 1 ∧ x.storable = true ∧ getAt true 1 0 x = some x := by rw [hx, encA_ne h1]; exact ⟨rfl, rfl, rfl⟩
  obtain ⟨A0, hA0⟩ : ∃ A : Arr, A = ⟨(L ++ R).map encS, 0, true, 5⟩ := ⟨_, rfl⟩
  have hpl := placeA_ev (h := ⟨[], [A0]⟩) (t := false) (g := false) (L := L) (R := R) (i := r.i) (x := .agg [.sl 0 0 0 n none]) (brw_stores (by rw [hA0]; rfl) hnn.symm) hl hg ha.key hr.i (by rw [← List.length_append, ← hnn]; exact hn6)
  rw [hn] at hpl
  rw [← hx, ← hA0] at hcl
  rw [← hx] at hva
  rw [← hx]
  have hcp : Ev TE 59 [.fl true true [encR r]] ⟨[], [A0]⟩ (.fl true false [encR r]) ⟨[], [A0]⟩ := copied_ev (rs := [r]) (fun x hx => by simp at hx; exact hx ▸ hr) (by simp) (by simp)
  obtain ⟨A1, hA1⟩ : ∃ A : Arr, A = ⟨(L ++ (r.i, [r]) :: R).map encS, 1, true, 5⟩ := ⟨_, rfl⟩
  have hin : Ev TE 58 [.sl 0 0 0 n none, .int .i64 L.length, .fl true true [.agg [.str [65, 66], .str [83, stB r.i], .str [48, 48], .str [66, 72, 90], .fl true false [encR r]]]] ⟨[], [A0]⟩ (.sl 0 1 0 (n + 1) none) ⟨[], [A1]⟩ := by
    rw [hA0, hA1]
    exact ev_ins (ins_S (q := (r.i, [r])) (by rw [← List.length_append, ← hnn]) hn6)
  have hgz : ∀ x ∈ (encR r).cells, x.gnd = true := fun x => gnd_rec
  have n128 : ((n : Int) == 128) = false := by simp; omega
  simp (maxSteps := 10000000) [-getAt, -setAt, hxs, cellsE, getE12, getE4, getA, getA1, setA', setZ, wK_ev hva, wK_ev hvr, wK_ev hcl, wK_ev hpl, wK_ev hcp, wK_ev hin, hgz, n128]
  refine ⟨hgz, ?_⟩
  obtain ⟨es2, hes2⟩ : ∃ es, es = (L ++ (r.i, [r]) :: R).map encS := ⟨_, rfl⟩
  have hl2 : es2.length = n + 1 := by rw [hes2, List.length_map, hnn]; simp; omega
  have hmz : ∀ H d, mapO (frz H 0 0 (d + 5)) es2 = some es2 := fun H d => by rw [hes2]; exact mapO_store
  have hg2 : es2.all (fun e => e.cells.all V.gnd) = true := by rw [hes2]; exact gnd_encS
  have hc2 : ∀ d, es2.all (clean (d + 5)) = true := fun d => by rw [hes2]; simp only [List.all_eq_true, List.mem_map]; rintro _ ⟨p, _, rfl⟩; exact clean_store
  have htk : es2.take (n + 1) = es2 := List.take_of_length_le (by omega)
  rw [← hes2] at hA1 hQ
  simp (maxSteps := 10000000) [hQ, hA1, hl2, htk, hmz, hg2, hc2, -List.all_eq_true]
set_option maxHeartbeats 2000000 in
/-- A record of a channel that is there. -/
theorem addOld_ev {L R : Arch} {p : Nat × List Rec} {r : Rec} (ha : GoodA (L ++ p :: R)) (hr : OkR r) (hl : ∀ q ∈ L, q.1 < r.i) (hg : ∀ q ∈ p :: R, r.i ≤ q.1) (hp : p.1 = r.i) :
    Ev TE 14 [encA (L ++ p :: R), encR r] h (.tuple [.agg [.fl true false ((L ++ (p.1, insU r p.2) :: R).map encS)], .bool (!decide (r ∈ p.2)), .int .i64 0]) h := by
  refine ev_pure 76 [.cell 4 62, .tmp 5, .tmp 6] rfl rfl rfl Tryz.func14 rfl rfl rfl (args' := [encA (L ++ p :: R), encR r]) (by simp [brw_encA, brw_encR]) fun Q hQ hN => ?_
  obtain ⟨n, hnn⟩ : ∃ n, n = (L ++ p :: R).length := ⟨_, rfl⟩
  have h1 : 1 ≤ (L ++ p :: R).length := by simp; omega
  have hn6 : n ≤ 6 := by rw [hnn]; exact ha.n
  have hpm : p ∈ L ++ p :: R := by simp
  have hva := valid_encA (h := ⟨[], []⟩) ha
  have hvr := valid_ev (h := ⟨[], []⟩) hr
  have hcl := cloneA_ev (t := true) (g := false) ha h1
  rw [← encA_ne h1, ← hnn] at hcl
  obtain ⟨x, hx⟩ : ∃ x, x = encA (L ++ p :: R) := ⟨_, rfl⟩
  have hxs : x.cells.length = 1 ∧ x.storable = true ∧ getAt true 1 0 x = some x := by rw [hx, encA_ne h1]; exact ⟨rfl, rfl, rfl⟩
  obtain ⟨es1, hes1⟩ : ∃ es, es = (L ++ p :: R).map encS := ⟨_, rfl⟩
  have hpl := placeA_ev (h := ⟨[], [⟨es1, 0, true, 5⟩]⟩) (t := false) (g := false) (L := L) (R := p :: R) (i := r.i) (x := .agg [.sl 0 0 0 n none]) (brw_stores (by rw [hes1]; rfl) hnn.symm) hl hg ha.key hr.i (by rw [← List.length_append, ← hnn]; exact hn6)
  have hhd : headIs r.i (p :: R) = true := by simp [headIs, hp]
  rw [hhd] at hpl
  rw [← hes1, ← hx] at hcl
  rw [← hx] at hva
  rw [← hx]
  have hgz : ∀ x ∈ (encR r).cells, x.gnd = true := fun x => gnd_rec
  have n128 : ((n : Int) == 128) = false := by simp; omega
  have hel : es1.length = n := by rw [hes1, List.length_map, hnn]
  obtain ⟨q, hq⟩ : ∃ q, q = L.length := ⟨_, rfl⟩
  have hqn : q < n := by rw [hq, hnn]; simp
  have hqnI : (q : Int) < n := by omega
  have gp : es1[q]'(by omega) = encS p := get_of (by rw [hes1, hq, List.map_append, List.getElem?_append_right (by simp)]; simp) _
  rw [← hq] at hpl
  have hi := insert_ev (h := ⟨[], [⟨es1, 0, true, 5⟩]⟩) (t := true) (g := false) (A := p.2) (z := r) (k := p.1) (ha.okl hpm) hr hp.symm (ha.one hpm) (ha.len p hpm) (ha.ok.strict p hpm)
  obtain ⟨l2, hl2⟩ : ∃ l, l = insU r p.2 := ⟨_, rfl⟩
  have hl2n : l2.length ≤ 13 := by
    rw [hl2, insU_len]; have := ha.len p hpm; split <;> omega
  have hl2p : 1 ≤ l2.length := by
    rw [hl2, insU_len]; have := ha.one hpm; split <;> omega
  have hl2k : ∀ x ∈ l2, OkR x := fun x hx => by
    rw [hl2] at hx
    rcases mem_insU.1 hx with rfl | hx
    · exact hr
    · exact ha.recs p hpm x hx
  rw [← hl2] at hi
  have hcp := copied_ev (h := ⟨[], [⟨es1, 0, true, 5⟩]⟩) (t := true) (g := false) hl2k hl2p (by omega)
  obtain ⟨b, hb⟩ : ∃ b, b = !decide (r ∈ p.2) := ⟨_, rfl⟩
  rw [← hb] at hi hQ
  obtain ⟨es2, hes2⟩ : ∃ es, es = (L ++ (p.1, insU r p.2) :: R).map encS := ⟨_, rfl⟩
  have hset : es1.set q (encS (p.1, l2)) = es2 := by
    rw [hes1, hes2, hq, List.map_append, List.map_append, List.set_append]
    simp [hl2]
  have hel2 : es2.length = n := by rw [← hset]; simp [hel]
  have hmz : ∀ H d, mapO (frz H 0 0 (d + 5)) es2 = some es2 := fun H d => by rw [hes2]; exact mapO_store
  have hg2 : es2.all (fun e => e.cells.all V.gnd) = true := by rw [hes2]; exact gnd_encS
  have hc2 : ∀ d, es2.all (clean (d + 5)) = true := fun d => by rw [hes2]; simp only [List.all_eq_true, List.mem_map]; rintro _ ⟨p, _, rfl⟩; exact clean_store
  have htk : es2.take n = es2 := List.take_of_length_le (by omega)
  rw [← hes2] at hQ
  obtain ⟨l3, hl3⟩ : ∃ l, l = l2.map encR := ⟨_, rfl⟩
  have hsr : setAt 4 [.fl true false l3] (encS p) = some (encS (p.1, l2)) := by rw [hl3]; rfl
  have hgr : getAt false 1 4 (encS p) = some (.fl true false (p.2.map encR)) := rfl
  rw [← hl3] at hi hcp
  simp (maxSteps := 10000000) [-getAt, -setAt, hxs, cellsE, getE12, getE4, getA, getA1, setA', setZ, wK_ev hva, wK_ev hvr, wK_ev hcl, wK_ev hpl, wK_ev hi, wK_ev hcp, hgz, n128, hqn, hqnI, gp, hsr, hgr, hel, hset]
  simp (maxSteps := 10000000) [hQ, hel2, htk, hmz, hg2, hc2, -List.all_eq_true]
set_option maxHeartbeats 2000000 in
theorem addFirst_ev {r : Rec} (hr : OkR r) : Ev TE 14 [encA [], encR r] h (.tuple [.agg [.fl true false ([(r.i, [r])].map encS)], .bool true, .int .i64 0]) h := by
  refine ev_pure 76 [.cell 4 62, .tmp 5, .tmp 6] rfl rfl rfl Tryz.func14 rfl rfl rfl (args' := [encA [], encR r]) (by simp [brw_encA, brw_encR]) fun Q hQ hN => ?_
  have hva : Ev TE 16 [.agg [.nils]] ⟨[], []⟩ (.bool true) ⟨[], []⟩ := valid0_ev rfl
  have hvr := valid_ev (h := ⟨[], []⟩) hr
  have hcl := cloneA0_ev (h := ⟨[], []⟩)
  have hpl := placeA0_ev (h := ⟨[], []⟩) (i := r.i) (x := .agg [.nils]) rfl
  have hcp : Ev TE 59 [.fl true true [encR r]] ⟨[], []⟩ (.fl true false [encR r]) ⟨[], []⟩ := copied_ev (rs := [r]) (fun x hx => by simp at hx; exact hx ▸ hr) (by simp) (by simp)
  have hgz : ∀ x ∈ (encR r).cells, x.gnd = true := fun x => gnd_rec
  have hin : Ev TE 58 [.nils, .int .i64 0, .fl true true [.agg [.str [65, 66], .str [83, stB r.i], .str [48, 48], .str [66, 72, 90], .fl true false [encR r]]]] ⟨[], []⟩ (.sl 0 0 0 1 none) ⟨[], [⟨[encS (r.i, [r])], 0, true, 5⟩]⟩ := by
    refine ev_ins ?_
    simp [insH, appendV, grow]
    rfl
  have hx : encA [] = .agg [.nils] := rfl
  rw [hx]
  simp (maxSteps := 10000000) [-getAt, -setAt, cellsE, getE12, getE4, getA, getA1, setA', setZ, wK_ev hva, wK_ev hvr, wK_ev hcl, wK_ev hpl, wK_ev hcp, wK_ev hin, hgz]
  refine ⟨hgz, ?_⟩
  have hz : ∀ (H : Heap) (d : Nat), frz H 0 0 (d + 5) (encS (r.i, [r])) = some (encS (r.i, [r])) := fun H d => frz_store
  simp (maxSteps := 10000000) [hQ, hz]
  exact ⟨fun x => gnd_store, clean_store⟩

/-- archive.Add. -/
theorem add_ev {a : Arch} {r : Rec} (ha : GoodA a) (hr : OkR r) : Ev TE 14 [encA a, encR r] h (.tuple [encA (addA a r), .bool (!decide (r ∈ allA a)), .int .i64 0]) h := by
  by_cases h0 : a = []
  · subst h0
    exact addFirst_ev hr
  · have h1 : 1 ≤ a.length := by cases a <;> simp at h0 ⊢
    obtain ⟨L, R, rfl, hl, hg⟩ := split_at r.i ha.ok.ord
    rw [addA_app hl]
    cases hh : headIs r.i R with
    | false =>
      have hm := not_mem_new ha.ok hl hg hh
      rw [addA_new hg hh, encA_ne (a := L ++ (r.i, [r]) :: R) (by simp; omega)]
      simp only [hm, decide_false, Bool.not_false]
      exact addNew_ev ha hr hl hg hh h1
    | true =>
      cases R with
      | nil => simp [headIs] at hh
      | cons p R =>
        have hp : p.1 = r.i := by simpa [headIs] using hh
        have hm := mem_old ha.ok hp
        rw [addA_old hp, encA_ne (a := L ++ (p.1, insU r p.2) :: R) (by simp; omega)]
        simp only [hm]
        exact addOld_ev ha hr hl hg hp
end
end Go.DM
namespace Go.DM
open Go.Proofs
set_option maxRecDepth 100000
section
variable {h : Heap} {vs : List V} {ar : List Arr}
theorem refInts_ev {t g t' g' : Bool} {w : List Int} (hn : w.length ≤ 100000) : Ev TE 103 [.fl t g (w.map (.int .i64)), .fl t' g' (w.map (.int .i64))] h (.bool true) h := by
  refine ev_pure 26 [.tmp 4] rfl rfl rfl Tryz.func103 rfl rfl rfl (args' := [.fl t g (w.map (.int .i64)), .fl t' g' (w.map (.int .i64))]) rfl fun Q hQ hN => ?_
  simp
  obtain ⟨I, hI⟩ : ∃ I : Nat → (Nat → V) → Heap → Prop, I = fun m f hp => ∃ j : Nat, j + m = w.length ∧ f 5 = .int .i64 j ∧ hp = ⟨[], []⟩ := ⟨_, rfl⟩
  refine wLp_ind [4, 5, 11, 12, 13, 14, 15, 16, 17, 18, 19, 20, 21, 22, 23, 24, 25] I w.length (by rw [hI]; exact ⟨0, by simp, rfl, rfl⟩) ?_
  intro m f hp hi
  rw [hI] at hi
  obtain ⟨j, hm, f5, rfl⟩ := hi
  by_cases hlt : j < w.length
  · obtain ⟨x, hx⟩ : ∃ x, w[j] = x := ⟨_, rfl⟩
    have e1 : IntKind.i64.wrap ((j : Int) + 1) = ((j + 1 : Nat) : Int) := wrap_id (by omega) (by omega)
    have b2 : (x != x) = false := by simp
    simp [f5, hlt, hx, b2, e1]
    refine loopK_normal ?_ (m - 1) ?_ ?_
    · rfl
    · omega
    rw [hI]
    exact ⟨j + 1, by omega, rfl, rfl⟩
  · simp [f5, hlt, hQ]
theorem refSame_ev {r : Rec} (hr : OkR r) : Ev TE 70 [encR r, encR r] h (.bool true) h := by
  refine ev_pure 59 [.tmp 4] rfl rfl rfl Tryz.func70 rfl rfl rfl (args' := [encR r, encR r]) rfl fun Q hQ hN => ?_
  have h3 : r.smp.length ≤ 100000 := by have := hr.len; omega
  have hc := refInts_ev (h := ⟨[], []⟩) (t := true) (g := false) (t' := true) (g' := false) h3
  simp [encR, wK_ev hc, hQ]
theorem refList_ev {t g t' g' : Bool} {rs : List Rec} (hr : ∀ r ∈ rs, OkR r) (hn : rs.length ≤ 1000) : Ev TE 26 [.fl t g (rs.map encR), .fl t' g' (rs.map encR)] h (.bool true) h := by
  refine ev_pure 27 [.tmp 4] rfl rfl rfl Tryz.func26 rfl rfl rfl (args' := [.fl t g (rs.map encR), .fl t' g' (rs.map encR)]) rfl fun Q hQ hN => ?_
  obtain ⟨n, hn'⟩ : ∃ n, n = rs.length := ⟨_, rfl⟩
  obtain ⟨es1, hes1⟩ : ∃ es, es = rs.map encR := ⟨_, rfl⟩
  have hel : es1.length = n := by rw [hes1]; simp [hn']
  rw [← hes1]
  have hwd : ∀ H a b, wideOk TE.P H 51 (.fl a b es1) = true := fun H a b => by rw [hes1]; exact wide_recs rfl rfl
  have hnn : ((n : Int) != n) = false := by simp
  simp [hel, hnn]
  obtain ⟨I, hI⟩ : ∃ I : Nat → (Nat → V) → Heap → Prop, I = fun m f hp => ∃ i : Nat, i + m = n ∧ f 5 = .int .i64 i ∧ hp = ⟨[], []⟩ := ⟨_, rfl⟩
  refine wLp_ind [4, 5, 11, 12, 13, 14, 15, 16, 17, 18, 19, 20, 21, 22, 23, 24, 25, 26] I n (by rw [hI]; exact ⟨0, by omega, rfl, rfl⟩) ?_
  intro m f hp hi
  rw [hI] at hi
  obtain ⟨i, hm, f5, rfl⟩ := hi
  by_cases hin : i < n
  · have hinI : (i : Int) < n := by omega
    obtain ⟨r, hr1⟩ : ∃ r, rs[i]? = some r := ⟨_, List.getElem?_eq_getElem (by omega)⟩
    have hro := hr r (List.mem_of_getElem? hr1)
    have gr : es1[i]'(by omega) = encR r := get_of (by rw [hes1, List.getElem?_map, hr1]; rfl) _
    have e2 : IntKind.i64.wrap ((i : Int) + 1) = ((i + 1 : Nat) : Int) := wrap_id (by omega) (by omega)
    have hc := refSame_ev (h := ⟨[], []⟩) hro
    simp (maxSteps := 10000000) [-getAt, getE12, -dirtyAt, dirtyAt_hit, dirtyAt_miss, dirtyAt_done, dirtyAt_rest, f5, hin, hinI, hwd, hel, gr, e2, wK_ev hc]
    refine loopK_normal ?_ (m - 1) ?_ ?_
    · rfl
    · omega
    rw [hI]
    exact ⟨i + 1, by omega, rfl, rfl⟩
  · have hinI : ¬ (i : Int) < n := by omega
    simp (maxSteps := 10000000) [-dirtyAt, dirtyAt_hit, dirtyAt_miss, dirtyAt_done, dirtyAt_rest, f5, hin, hinI, hQ, hN, hel]
theorem refArch_ev {a : Arch} (ha : GoodA a) : Ev TE 17 [encA a, encA a] h (.bool true) h := by
  refine ev_pure 49 [.tmp 4] rfl rfl rfl Tryz.func17 rfl rfl rfl (args' := [encA a, encA a]) (by simp [brw_encA]) fun Q hQ hN => ?_
  by_cases h0 : a = []
  · subst h0
    have hx : encA [] = .agg [.nils] := rfl
    rw [hx]
    simp
    refine wLp_once ?_
    simp (maxSteps := 10000000) [hQ, hN]
  · have h1 : 1 ≤ a.length := by cases a <;> simp at h0 ⊢
    rw [encA_ne h1]
    obtain ⟨n, hn'⟩ : ∃ n, n = a.length := ⟨_, rfl⟩
    have hn6 : n ≤ 6 := by rw [hn']; exact ha.n
    obtain ⟨es1, hes1⟩ : ∃ es, es = a.map encS := ⟨_, rfl⟩
    have hel : es1.length = n := by rw [hes1, hn', List.length_map]
    have hwd : ∀ H a b, wideOk TE.P H 60 (.fl a b es1) = true := fun H a b => by rw [hes1]; exact wide_stores rfl rfl
    rw [← hes1]
    have hnn : ((n : Int) != n) = false := by simp
    simp [hel, hnn]
    obtain ⟨I, hI⟩ : ∃ I : Nat → (Nat → V) → Heap → Prop, I = fun m f hp => ∃ i : Nat, i + m = n ∧ f 5 = .int .i64 i ∧ hp = ⟨[], []⟩ := ⟨_, rfl⟩
    refine wLp_ind [4, 5, 13, 14, 15, 16, 17, 18, 19, 20, 21, 22, 23, 24, 25, 26, 27, 28, 29, 30, 31, 32, 33, 34, 35, 36, 37, 38, 39, 40, 41, 42, 43, 44, 45, 46, 47, 48] I n (by rw [hI]; exact ⟨0, by omega, rfl, rfl⟩) ?_
    intro m f hp hi
    rw [hI] at hi
    obtain ⟨i, hm, f5, rfl⟩ := hi
    by_cases hin : i < n
    · have hinI : (i : Int) < n := by omega
      obtain ⟨p, hp⟩ : ∃ p, a[i]? = some p := ⟨_, List.getElem?_eq_getElem (by omega)⟩
      have hpm := List.mem_of_getElem? hp
      have gp : es1[i]'(by omega) = encS p := get_of (by rw [hes1, List.getElem?_map, hp]; rfl) _
      have e2 : IntKind.i64.wrap ((i : Int) + 1) = ((i + 1 : Nat) : Int) := wrap_id (by omega) (by omega)
      have hc := refList_ev (h := ⟨[], []⟩) (t := true) (g := false) (t' := true) (g' := false) (ha.recs p hpm) (by have := ha.len p hpm; omega)
      simp (maxSteps := 10000000) [-getAt, getS4, getSr, getA1, -dirtyAt, dirtyAt_hit, dirtyAt_miss, dirtyAt_done, dirtyAt_rest, f5, hin, hinI, hwd, hel, gp, e2, wK_ev hc]
      refine loopK_normal ?_ (m - 1) ?_ ?_
      · rfl
      · omega
      rw [hI]
      exact ⟨i + 1, by omega, rfl, rfl⟩
    · have hinI : ¬ (i : Int) < n := by omega
      simp (maxSteps := 10000000) [-getAt, getA1, -dirtyAt, dirtyAt_hit, dirtyAt_miss, dirtyAt_done, dirtyAt_rest, f5, hin, hinI, hQ, hN, hel]
end
end Go.DM
namespace Go.DM
open Go.Proofs
set_option maxRecDepth 100000
section
variable {h : Heap} {vs : List V} {ar : List Arr}
theorem encRs_ne {rs : List Rec} (h : 1 ≤ rs.length) : encRs rs = .fl true false (rs.map encR) := by cases rs <;> simp at h ⊢; rfl
theorem st_all {l : List Rec} : l.all (V.storable ∘ encR) = true := by simp only [List.all_eq_true]; exact fun _ _ => rfl
theorem cl_all {l : List Rec} : l.all ((fun v => v.cells.length == 12) ∘ encR) = true := by simp only [List.all_eq_true]; exact fun _ _ => rfl
theorem app_first {fn : Nat} {t g : Bool} {l : List Rec} (h0 : 1 ≤ l.length) (hn : l.length ≤ 100) : appendV TE.P ⟨fn, 0, 0⟩ ⟨[], []⟩ 51 .nils (.fl t g (l.map encR)) = some (.sl 0 0 0 l.length none, ⟨[], [⟨l.map encR, 0, true, 12⟩]⟩) := by
  have hem : l.isEmpty = false := by cases l <;> simp at h0 ⊢
  have hb : l.length * 144 ≤ 140737488355328 := by omega
  simp [appendV, grow, hem, hb, st_all, cl_all]
theorem app_more {fn ver : Nat} {t g : Bool} {S l : List Rec} (h0 : 1 ≤ l.length) (hn : S.length + l.length ≤ 100) : appendV TE.P ⟨fn, 0, 0⟩ ⟨[], [⟨S.map encR, ver, true, 12⟩]⟩ 51 (.sl 0 ver 0 S.length none) (.fl t g (l.map encR)) =
    some (.sl 0 (ver + 1) 0 (S.length + l.length) none, ⟨[], [⟨(S ++ l).map encR, ver + 1, true, 12⟩]⟩) := by
  have hem : l.isEmpty = false := by cases l <;> simp at h0 ⊢
  have hb : (S.length + l.length) * 144 ≤ 140737488355328 := by omega
  have hr : ¬ (S.length + l.length ≤ S.length) := by omega
  simp only [appendV, lowAll, roomV]
  simp [hem, hb, hr, st_all, cl_all]
theorem all_ev {a : Arch} (ha : GoodA a) : Ev TE 18 [encA a] h (encRs (allA a)) h := by
  refine ev_pure 20 [.tmp 2] rfl rfl rfl Tryz.func18 rfl rfl rfl (args' := [encA a]) (by simp [brw_encA]) fun Q hQ hN => ?_
  by_cases h0 : a = []
  · subst h0
    have hx : encA [] = .agg [.nils] := rfl
    rw [hx]
    simp
    refine wLp_once ?_
    simp (maxSteps := 10000000) [hQ, hN]
    rfl
  · have h1 : 1 ≤ a.length := by cases a <;> simp at h0 ⊢
    rw [encA_ne h1]
    obtain ⟨n, hn'⟩ : ∃ n, n = a.length := ⟨_, rfl⟩
    have hn6 : n ≤ 6 := by rw [hn']; exact ha.n
    obtain ⟨es1, hes1⟩ : ∃ es, es = a.map encS := ⟨_, rfl⟩
    have hel : es1.length = n := by rw [hes1, hn', List.length_map]
    have hwd : ∀ H a b, wideOk TE.P H 60 (.fl a b es1) = true := fun H a b => by rw [hes1]; exact wide_stores rfl rfl
    rw [← hes1]
    simp [hel]
    obtain ⟨I, hI⟩ : ∃ I : Nat → (Nat → V) → Heap → Prop, I = fun m f hp => ∃ i : Nat, i + m = n ∧ f 9 = .int .i64 i ∧ ((i = 0 ∧ f 3 = .nils ∧ hp = ⟨[], []⟩) ∨ ∃ ver S, S = allA (a.take i) ∧ 1 ≤ S.length ∧ S.length ≤ 12 * i ∧ f 3 = .sl 0 ver 0 S.length none ∧ hp = ⟨[], [⟨S.map encR, ver, true, 12⟩]⟩) := ⟨_, rfl⟩
    refine wLp_ind [3, 5, 9, 10, 11, 12, 13, 14, 15, 16, 17, 18] I n (by rw [hI]; exact ⟨0, by omega, rfl, .inl ⟨rfl, rfl, rfl⟩⟩) ?_
    intro m f hp hi
    rw [hI] at hi
    obtain ⟨i, hm, f9, hi⟩ := hi
    by_cases hin : i < n
    · have hinI : (i : Int) < n := by omega
      obtain ⟨p, hp⟩ : ∃ p, a[i]? = some p := ⟨_, List.getElem?_eq_getElem (by omega)⟩
      have hpm := List.mem_of_getElem? hp
      have gp : es1[i]'(by omega) = encS p := get_of (by rw [hes1, List.getElem?_map, hp]; rfl) _
      have e2 : IntKind.i64.wrap ((i : Int) + 1) = ((i + 1 : Nat) : Int) := wrap_id (by omega) (by omega)
      have hpl := ha.len p hpm
      have hp1 := ha.one hpm
      have htk : allA (a.take (i + 1)) = allA (a.take i) ++ p.2 := by
        rw [List.take_add_one, hp]; simp [allA]
      obtain ⟨l2, hl2⟩ : ∃ l, l = p.2.map encR := ⟨_, rfl⟩
      have hgr : getAt false 1 4 (encS p) = some (.fl true false l2) := by rw [hl2]; rfl
      rcases hi with ⟨rfl, f3, rfl⟩ | ⟨ver, S, hS, hS1, hS2, f3, rfl⟩
      · have hc := copied_ev (h := ⟨[], []⟩) (t := true) (g := false) (ha.recs p hpm) hp1 (by omega)
        have hap := app_first (fn := 18) (t := true) (g := false) hp1 (by omega)
        rw [← hl2] at hc hap
        simp (maxSteps := 10000000) [-getAt, getS5, hgr, -setAt, setSZ, -dirtyAt, dirtyAt_hit, dirtyAt_miss, dirtyAt_done, dirtyAt_rest, f9, f3, hin, hinI, hwd, hel, gp, e2, wK_ev hc, hap]
        refine loopK_normal ?_ (m - 1) ?_ ?_
        · rfl
        · omega
        rw [hI]
        exact ⟨1, by omega, rfl, .inr ⟨0, p.2, by rw [htk]; simp [allA], hp1, by omega, rfl, by rw [hl2]⟩⟩
      · obtain ⟨A0, hA0⟩ : ∃ A : Arr, A = ⟨S.map encR, ver, true, 12⟩ := ⟨_, rfl⟩
        have hc := copied_ev (h := ⟨[], [A0]⟩) (t := true) (g := false) (ha.recs p hpm) hp1 (by omega)
        have hap := app_more (fn := 18) (ver := ver) (t := true) (g := false) (S := S) hp1 (by omega)
        rw [← hA0, ← hl2] at hap
        rw [← hl2] at hc
        rw [← hA0]
        simp (maxSteps := 10000000) [-getAt, getS5, hgr, -setAt, setSZ, -dirtyAt, dirtyAt_hit, dirtyAt_miss, dirtyAt_done, dirtyAt_rest, f9, f3, hin, hinI, hwd, hel, gp, e2, wK_ev hc, hap]
        refine loopK_normal ?_ (m - 1) ?_ ?_
        · rfl
        · omega
        rw [hI]
        exact ⟨i + 1, by omega, rfl, .inr ⟨ver + 1, S ++ p.2, by rw [htk, hS], by simp; omega, by simp; omega, by simp; rfl, by simp⟩⟩
    · have hinI : ¬ (i : Int) < n := by omega
      rcases hi with ⟨rfl, f3, rfl⟩ | ⟨ver, S, hS, hS1, hS2, f3, rfl⟩
      · omega
      · rw [List.take_of_length_le (by omega)] at hS
        rw [← hS, encRs_ne hS1] at hQ
        have hl : ((S.map encR).length) = S.length := List.length_map ..
        have htk : (S.map encR).take S.length = S.map encR := List.take_of_length_le (by omega)
        have hgl : (S.map encR).all (fun e => e.cells.all V.gnd) = true := gnd_encR
        have hcl : ∀ d, (S.map encR).all (clean (d + 3)) = true := fun d => clean_encR
        have hmz : ∀ H d, mapO (frz H 0 0 (d + 3)) (S.map encR) = some (S.map encR) := fun H d => mapO_encR
        obtain ⟨es2, hes2⟩ : ∃ es, es = S.map encR := ⟨_, rfl⟩
        rw [← hes2] at hl htk hgl hcl hmz hQ ⊢
        simp (maxSteps := 10000000) [-dirtyAt, dirtyAt_hit, dirtyAt_miss, dirtyAt_done, dirtyAt_rest, f9, f3, hin, hinI, hQ, hl, htk, hgl, hcl, hmz, -List.all_eq_true]
end
end Go.DM
