/-
  Stations: the sites with greater times, frozen. The place of a channel at a time. Records while they are made: in an own array, their samples parts of own arrays. A walk in two halves: what is known in between. The records of one channel, cut one behind the other. Records frozen.
-/
import Derived.Test.YtpfhhcjdknmbbaaGreatDoorC2
set_option linter.all false
set_option linter.unusedSimpArgs false
set_option linter.unusedVariables false
namespace Go.DM
open Go.Proofs
set_option maxRecDepth 100000

def encF (p : Nat × List Ep) : V := .agg [.str [65, 66], .str [83, stB p.1], .str [48, 48], .str [66, 72, 90], .fl true false (p.2.map encE)]
theorem frz_rsp {H : Heap} {nv na d : Nat} {r : Option (List V)} : frz H nv na (d + 1) (encRsp r) = some (encRsp r) := by cases r <;> rfl
theorem frz_encE {H : Heap} {nv na d : Nat} {e : Ep} : frz H nv na (d + 2) (encE e) = some (encE e) := by simp [encE, frz_rsp]
theorem frz_eps {H : Heap} {nv na d : Nat} {l : List Ep} : mapO (frz H nv na (d + 2)) (l.map encE) = some (l.map encE) := mapO_map fun _ _ => frz_encE

theorem frz_chs {vs : List V} {ar : List Arr} {nv d : Nat} : ∀ {cs : List Chn} {off : Nat}, (∀ j c, cs[j]? = some c → ChOk ar (off + j) c) →
    ∃ fs : List (Nat × List Ep), mapO (frz ⟨vs, ar⟩ nv 0 (d + 4)) (cs.map encC) = some (fs.map encF) ∧ fs.length = cs.length ∧ ∀ j p, fs[j]? = some p → p.1 = off + j ∧ p.2.length ≤ 1000 ∧ ∀ e ∈ p.2, EpOk e
  | [], _, _ => ⟨[], rfl, rfl, by simp⟩
  | c :: cs, off, h => by
    obtain ⟨fs, h1, h2, h3⟩ := frz_chs (vs := vs) (nv := nv) (d := d) (cs := cs) (off := off + 1) fun j c' hc => by
      have := h (j + 1) c' (by simpa using hc)
      rw [show off + 1 + j = off + (j + 1) by omega]; exact this
    obtain ⟨hj, eps, o, k1, k2, k4, k3⟩ := h 0 c rfl
    have hf : frz ⟨vs, ar⟩ nv 0 (d + 4) (encC c) = some (encF (off, eps)) := by
      have hall : eps.all ((fun e => e.cells.all V.gnd) ∘ encE) = true := by simp [encE]
      simp [encC, encF, k1, ← k2, frz_eps, hj, hall]
    refine ⟨(off, eps) :: fs, ?_, by simp [h2], fun j p hp => ?_⟩
    · simp only [List.map_cons, mapO, hf, Option.bind_some, h1]
    · cases j with
      | zero => simp at hp; subst hp; exact ⟨rfl, by show eps.length ≤ 1000; omega, k3⟩
      | succ j =>
        have := h3 j p (by simpa using hp)
        exact ⟨by omega, this.2⟩

theorem chs_set {ar : List Arr} {cs : List Chn} {cid ver eid : Nat} {o : Bool} {eps eps' : List Ep} (hcid : ar[cid]? = some ⟨cs.map encC, ver, true, 5⟩) (hok : ∀ j c, cs[j]? = some c → ChOk ar j c)
    (hep : ar[eid]? = some ⟨eps.map encE, 0, o, 8⟩) (hl : eps'.length = eps.length) (he : ∀ e ∈ eps', EpOk e) :
    (ar.set eid ⟨eps'.map encE, 0, o, 8⟩)[cid]? = some ⟨cs.map encC, ver, true, 5⟩ ∧ ∀ j c, cs[j]? = some c → ChOk (ar.set eid ⟨eps'.map encE, 0, o, 8⟩) j c := by
  have hel : eid < ar.length := (List.getElem?_eq_some_iff.1 hep).1
  refine ⟨?_, fun j c hc => ?_⟩
  · have hne : eid ≠ cid := by
      intro e
      rw [e, hcid] at hep
      exact absurd (show (5 : Nat) = 8 from congrArg Arr.sz (Option.some.inj hep)) (by omega)
    rw [List.getElem?_set_ne hne]; exact hcid
  · obtain ⟨h1, eps2, o2, h2, h3, h4, h5⟩ := hok j c hc
    by_cases e : eid = c.eid
    · refine ⟨h1, eps', o, by rw [e, List.getElem?_set_self (e ▸ hel)], ?_, h4, he⟩
      rw [← e, hep] at h2
      have := congrArg (fun A : Arr => A.elems.length) (Option.some.inj h2)
      simp at this
      omega
    · exact ⟨h1, eps2, o2, by rw [List.getElem?_set_ne e]; exact h2, h3, h4, h5⟩

section
variable {fn : Nat} {an : Option (List (Nat × Nat × Bool))} {ops : Array Oper} {l : List Oper} {i : Nat} {kk : List Todo} {d : Option Nat} {s : List V} {Q : Ex → St → Prop} {S : Src} {k : Nat} {vs : List V} {ar : List Arr} {h : Heap}

def GoodInv (S : Src) (v : V) (h' : Heap) : Prop := ∃ (k' : Nat) (fs : List (Nat × List Ep)), v = .agg [.fl true false (fs.map encF)] ∧ h' = ⟨[S.v k'], []⟩ ∧ fs.length = 4 ∧ ∀ (j : Nat) (p : Nat × List Ep), fs[j]? = some p → p.1 = j ∧ p.2.length ≤ 1000 ∧ ∀ e ∈ p.2, EpOk e

set_option maxHeartbeats 8000000 in
theorem stations_ev : ∃ v h', Ev TE 11 [.ptr 0 0, .int .i64 4] ⟨[S.v k], []⟩ v h' ∧ GoodInv S v h' := by
  refine spec_shr 55 [.cell 4 49] rfl rfl rfl Tryz.func11 rfl rfl rfl fun Q hQ hN => ?_
  simp
  refine wK_spec _ sites_ev ?_
  rintro v h' ⟨k', ar, cs, cid, ver, rfl, rfl, hcid, hn, hok⟩
  simp
  obtain ⟨P, hP⟩ : ∃ P : List Arr → Prop, P = fun ar => ar[cid]? = some ⟨cs.map encC, ver, true, 5⟩ ∧ ∀ j c, cs[j]? = some c → ChOk ar j c := ⟨_, rfl⟩
  have hP0 : P ar := by rw [hP]; exact ⟨hcid, hok⟩
  obtain ⟨I, hI⟩ : ∃ I : Nat → (Nat → V) → Heap → Prop, I = fun m f hp => ∃ (j : Nat) (ar : List Arr), j + m = 4 ∧ f 15 = .int .i64 j ∧ hp = ⟨[S.v k'], ar⟩ ∧ P ar := ⟨_, rfl⟩
  refine wLp_ind [6, 7, 8, 15, 16, 17, 18, 19, 20, 21, 22, 23, 24, 25, 26, 27, 28, 29, 30, 31, 32, 33, 34, 35, 36, 37, 38, 39, 40, 41, 42, 43, 44, 45, 46, 47, 48, 49, 50, 51, 52, 53] I 4 (by rw [hI]; exact ⟨0, ar, by simp, rfl, rfl, hP0⟩) ?_
  clear hP0 hcid hok
  intro m f hp hi
  rw [hI] at hi
  obtain ⟨j, ar, hm, f15, rfl, hp⟩ := hi
  have hp' := hp
  rw [hP] at hp'
  obtain ⟨hcid, hok⟩ := hp'
  by_cases hlt : j < 4
  · have e6 : IntKind.i64.wrap ((j : Int) + 1) = ((j + 1 : Nat) : Int) := wrap_id (by omega) (by omega)
    have hj4 : (j : Int) < 4 := by omega
    have hjn : j < cs.length := by omega
    obtain ⟨c, hc⟩ : ∃ c, cs[j] = c := ⟨_, rfl⟩
    have hcj : cs[j]? = some c := by rw [List.getElem?_eq_getElem hjn, hc]
    obtain ⟨hcj1, eps0, o0, hep0, hne0, hle, _⟩ := hok j c hcj
    simp [f15, hlt, hj4, hcid, hn, hjn, hc, encC]
    obtain ⟨J, hJ⟩ : ∃ J : Nat → (Nat → V) → Heap → Prop, J = fun m f hp => ∃ (q : Nat) (ar : List Arr), q + m = c.ne ∧ f 25 = .int .i64 q ∧ hp = ⟨[S.v k'], ar⟩ ∧ P ar := ⟨_, rfl⟩
    refine wLp_ind [7, 8, 25, 26, 27, 28, 29, 30, 31, 32, 33, 34, 35, 36, 37, 38, 39, 40, 41, 42, 43, 44, 45, 46, 47, 48, 49, 50, 51, 52] J c.ne (by rw [hJ]; exact ⟨0, ar, by simp, rfl, rfl, hp⟩) ?_
    clear hp hcid hok hep0
    intro m' g hp hi
    rw [hJ] at hi
    obtain ⟨q, ar, hm', g25, rfl, hp⟩ := hi
    have hp' := hp
    rw [hP] at hp'
    obtain ⟨hcid, hok⟩ := hp'
    obtain ⟨_, eps, o, hep, hne, _, heok⟩ := hok j c hcj
    by_cases hlq : q < c.ne
    · have e7 : IntKind.i64.wrap ((q : Int) + 1) = ((q + 1 : Nat) : Int) := wrap_id (by omega) (by omega)
      have hqn : q < eps.length := by omega
      have hel : c.eid < ar.length := (List.getElem?_eq_some_iff.1 hep).1
      obtain ⟨e, he⟩ : ∃ e, eps[q] = e := ⟨_, rfl⟩
      have hset : ∀ A, (ar.set c.eid A)[c.eid]? = some A := fun A => by rw [List.getElem?_set_self hel]
      simp [g25, hlq, hlt, hcid, hn, hjn, hc, encC, hep, hne, hqn, he, encE, hset, e7]
      refine loopK_normal ?_ (m' - 1) ?_ ?_
      · rfl
      · omega
      rw [hJ]
      have hq := chs_set hcid hok hep (eps' := eps.set q ⟨IntKind.i64.wrap (1000 * e.a), IntKind.i64.wrap (1000 * e.b), e.x, e.y, e.z, e.r⟩) (by simp) fun x hx => by
        rcases List.mem_or_eq_of_mem_set hx with h | h
        · exact heok x h
        · subst h
          have := heok e (he ▸ List.getElem_mem _)
          exact this
      rw [List.map_set] at hq
      exact ⟨q + 1, _, by omega, rfl, rfl, by rw [hP]; exact hq⟩
    · simp [g25, hlq, e6]
      refine loopK_normal ?_ (m - 1) ?_ ?_
      · rfl
      · omega
      rw [hI]
      exact ⟨j + 1, ar, by omega, rfl, rfl, hp⟩
  · have e : j = 4 := by omega
    subst e
    obtain ⟨fs, h1, h2, h3⟩ := frz_chs (vs := [S.v k']) (nv := 1) (d := 3) (off := 0) (cs := cs) (ar := ar) fun j c h => by rw [Nat.zero_add]; exact hok j c h
    simp [f15, hQ, hcid, hn, List.take_of_length_le, h1]
    refine ⟨fun a b hab x hx => ?_, _, fs, rfl, rfl, by omega, fun j p h => ?_⟩
    · revert x; simp [encF]
    · have := h3 j p h
      exact ⟨by omega, this.2⟩
end
end Go.DM
namespace Go.DM
open Go.Proofs
set_option maxRecDepth 100000

theorem spec_pure {E : Env} {f : Nat} {args : List V} {h : Heap} {K : V → Prop} (n : Nat) (rs : List ResultVar) {func : Func} {c : Code} (hx : E.ext f = none) (hm : E.mode f = .pure) (hok : E.ok f = true) (hf : E.P.funcs[f]? = some func) (hc : func.body = some c) (hn : func.ntmps = n) (hr : func.results.toList = rs)
    {args' : List V} (ha : mapO (brw h) args = some args')
    (hw : ∀ Q : Ex → St → Prop, (∀ s h1, Q .ret ⟨s, h1⟩ = optP (resL E.P rs ⟨s, h1⟩) fun v1 => optP (frz h1 0 0 9 v1) fun v2 => clean 9 v2 = true ∧ K v2) →
      (∀ s h1, Q .normal ⟨s, h1⟩ = optP (resL E.P rs ⟨s, h1⟩) fun v1 => optP (frz h1 0 0 9 v1) fun v2 => clean 9 v2 = true ∧ K v2) → wS E f c [] ⟨args' ++ List.replicate (n - args'.length) undefV, ⟨[], []⟩⟩ Q) : ∃ v h', Ev E f args h v h' ∧ K v ∧ h' = h := by
  obtain ⟨v1, h1, ⟨n0, hn1⟩, hk⟩ := bodyP_sound (body_walk n rs hok hf hc hn hr hw)
  obtain ⟨v2, h3, h4, h5⟩ := optP_spec.1 hk
  refine ⟨v2, h, ⟨n0 + 1, fun n h lim => ?_⟩, h5, rfl⟩
  obtain ⟨m, rfl⟩ : ∃ m, n = m + 1 := ⟨n - 1, by omega⟩
  simp only [callN, hx, hm, ha, Option.bind_some, hn1 m (by omega), h3, h4, cond_true]

def GoodPos (v : V) : Prop := ∃ (x y z : Int) (b : Bool), v = .tuple [.agg [.int .i64 x, .int .i64 y, .int .i64 z], .bool b] ∧ -100 ≤ x ∧ x ≤ 100 ∧ -100 ≤ y ∧ y ≤ 100 ∧ -100 ≤ z ∧ z ≤ 100

@[simp] theorem wide_encF {h : Heap} {a b : Bool} {l : List (Nat × List Ep)} : wideOk TE.P h 47 (.fl a b (l.map encF)) = true := by cases l <;> simp [encF]
@[simp] theorem wide_encE {h : Heap} {a b : Bool} {l : List Ep} : wideOk TE.P h 126 (.fl a b (l.map encE)) = true := by cases l <;> simp [encE]

set_option maxHeartbeats 8000000 in
theorem placed_ev {h : Heap} {fs : List (Nat × List Ep)} {i : Nat} {t : Int} (hn : fs.length ≤ 1000) (hlen : ∀ p ∈ fs, p.2.length ≤ 1000 ∧ ∀ e ∈ p.2, EpOk e) : ∃ v h', Ev TE 53 [.agg [.fl true false (fs.map encF)], .agg [.str [65, 66], .str [83, stB i], .str [48, 48], .str [66, 72, 90]], .int .i64 t] h v h' ∧ GoodPos v ∧ h' = h := by
  refine spec_pure 47 [.cell 6 26, .tmp 7] rfl rfl rfl Tryz.func53 rfl rfl rfl (args' := [.agg [.fl true false (fs.map encF)], .agg [.str [65, 66], .str [83, stB i], .str [48, 48], .str [66, 72, 90]], .int .i64 t]) rfl fun Q hQ hN => ?_
  simp
  obtain ⟨I, hI⟩ : ∃ I : Nat → (Nat → V) → Heap → Prop, I = fun m f hp => ∃ (j : Nat), j + m = fs.length ∧ f 15 = .int .i64 j ∧ f 6 = .box (.agg [.int .i64 0, .int .i64 0, .int .i64 0]) ∧ f 7 = .bool false ∧ hp = ⟨[], []⟩ := ⟨_, rfl⟩
  refine wLp_ind [6, 7, 9, 11, 15, 16, 17, 18, 19, 20, 21, 22, 23, 24, 25, 26, 27, 28, 29, 30, 31, 32, 33, 34, 35, 36, 37, 38, 39, 40, 41, 42, 43, 44, 45] I fs.length (by rw [hI]; exact ⟨0, by simp, rfl, rfl, rfl, rfl⟩) ?_
  intro m f hp hi
  rw [hI] at hi
  obtain ⟨j, hm, f15, f6, f7, rfl⟩ := hi
  by_cases hlt : j < fs.length
  · have e6 : IntKind.i64.wrap ((j : Int) + 1) = ((j + 1 : Nat) : Int) := wrap_id (by omega) (by omega)
    obtain ⟨p, hp⟩ : ∃ p, fs[j] = p := ⟨_, rfl⟩
    obtain ⟨hle, heok⟩ := hlen p (hp ▸ List.getElem_mem _)
    simp [f15, f6, f7, hlt, hp, encF]
    obtain ⟨J, hJ⟩ : ∃ J : Nat → (Nat → V) → Heap → Prop, J = fun m g hp => ∃ (q : Nat), q + m = p.2.length ∧ g 22 = .int .i64 q ∧ g 6 = .box (.agg [.int .i64 0, .int .i64 0, .int .i64 0]) ∧ g 7 = .bool false ∧ hp = ⟨[], []⟩ := ⟨_, rfl⟩
    refine wLp_ind [6, 7, 11, 22, 23, 24, 25, 26, 27, 28, 29, 30, 31, 32, 33, 34, 35, 36, 37, 38, 39, 40, 41, 42, 43, 44] J p.2.length (by rw [hJ]; exact ⟨0, by simp, rfl, rfl, rfl, rfl⟩) ?_
    intro m' g hp hi
    rw [hJ] at hi
    obtain ⟨q, hm', g22, g6, g7, rfl⟩ := hi
    by_cases hlq : q < p.2.length
    · have e7 : IntKind.i64.wrap ((q : Int) + 1) = ((q + 1 : Nat) : Int) := wrap_id (by omega) (by omega)
      obtain ⟨e, he⟩ : ∃ e, p.2[q] = e := ⟨_, rfl⟩
      have hep : EpOk e := heok e (he ▸ List.getElem_mem _)
      by_cases c1 : (stB p.1 == stB i) = true
      · by_cases c2 : e.a ≤ t
        · by_cases c3 : t < e.b
          · simp [g22, g6, g7, hlq, he, encE, e7, c1, c2, c3, hQ]
            exact ⟨e.x, e.y, e.z, true, rfl, hep⟩
          · simp [g22, g6, g7, hlq, he, encE, e7, c1, c2, c3]
            refine loopK_normal ?_ (m' - 1) ?_ ?_
            · rfl
            · omega
            rw [hJ]
            exact ⟨q + 1, by omega, rfl, rfl, rfl, rfl⟩
        · simp [g22, g6, g7, hlq, he, encE, e7, c1, c2]
          refine loopK_normal ?_ (m' - 1) ?_ ?_
          · rfl
          · omega
          rw [hJ]
          exact ⟨q + 1, by omega, rfl, rfl, rfl, rfl⟩
      · have c1 : (stB p.1 == stB i) = false := by simpa using c1
        simp [g22, g6, g7, hlq, he, encE, e7, c1]
        refine loopK_normal ?_ (m' - 1) ?_ ?_
        · rfl
        · omega
        rw [hJ]
        exact ⟨q + 1, by omega, rfl, rfl, rfl, rfl⟩
    · simp [g22, g6, g7, hlq, e6]
      refine loopK_normal ?_ (m - 1) ?_ ?_
      · rfl
      · omega
      rw [hI]
      exact ⟨j + 1, by omega, rfl, rfl, rfl, rfl⟩
  · simp [f15, f6, f7, hlt, hQ]
    exact ⟨0, 0, 0, false, rfl, by omega, by omega, by omega, by omega, by omega, by omega⟩
end Go.DM
namespace Go.DM
open Go.Proofs
set_option maxRecDepth 100000

structure WR where
  i : Nat
  wid : Nat
  first : Nat
  err : Nat
  seq : Nat
  len : Nat
def encW (r : WR) : V := .agg [.str [65, 66], .str [83, stB r.i], .str [48, 48], .str [66, 72, 90], .int .i64 0, .int .i64 r.first, .int .i64 100, .int .i64 1, .int .i64 r.err, .int .i64 0, .int .i64 r.seq, .sl r.wid 0 r.first r.len (some r.len)]
def RecOk (ar : List Arr) (r : WR) : Prop := ∃ (w : List Int) (o : Bool), ar[r.wid]? = some ⟨w.map (.int .i64), 0, o, 1⟩ ∧ w.length ≤ 300 ∧ r.first + r.len ≤ w.length ∧ 1 ≤ r.len ∧ r.err ≤ 100 ∧ r.seq ≤ 301 ∧ ∀ x ∈ w, -1000000 ≤ x ∧ x ≤ 1000000
def Apart (a b : WR) : Prop := ¬ (a.i = b.i ∧ a.first = b.first ∧ a.seq = b.seq)
structure WAll (ar : List Arr) (j : Nat) (ws : List WR) : Prop where
  ok : ∀ r ∈ ws, RecOk ar r
  lt : ∀ r ∈ ws, r.i < j
  ap : ws.Pairwise Apart
  cnt : ∀ i, (ws.filter fun r => r.i == i).length ≤ 12
  len : ws.length ≤ 12 * j
def OutOk (v : V) (ar : List Arr) (ws : List WR) : Prop := (ws = [] ∧ v = .nils) ∨ (ws ≠ [] ∧ ∃ oid ver, v = .sl oid ver 0 ws.length none ∧ ar[oid]? = some ⟨ws.map encW, ver, true, 12⟩)
def Ext (ar ar' : List Arr) : Prop := ∀ (id : Nat) (A : Arr), ar[id]? = some A → A.sz = 1 → ar'[id]? = some A
theorem Ext.refl {ar : List Arr} : Ext ar ar := fun _ _ h _ => h
theorem Ext.trans {a b c : List Arr} (h : Ext a b) (k : Ext b c) : Ext a c := fun id A h1 h2 => k id A (h id A h1 h2) h2
theorem Ext.push {a X : List Arr} : Ext a (a ++ X) := fun id A h _ => by rw [List.getElem?_append_left (List.getElem?_eq_some_iff.1 h).1]; exact h
theorem RecOk.ext {ar ar' : List Arr} (h : Ext ar ar') {r : WR} (hr : RecOk ar r) : RecOk ar' r := by
  obtain ⟨w, o, h1, h2⟩ := hr
  exact ⟨w, o, h _ _ h1 rfl, h2⟩
theorem OutOk.st {v : V} {ar : List Arr} {ws : List WR} (h : OutOk v ar ws) : v.storable = true := by
  rcases h with ⟨_, rfl⟩ | ⟨_, _, _, rfl, _⟩ <;> rfl
theorem OutOk.push {v : V} {ar X : List Arr} {ws : List WR} (h : OutOk v ar ws) : OutOk v (ar ++ X) ws := by
  rcases h with h | ⟨h0, oid, ver, h1, h2⟩
  · exact .inl h
  · exact .inr ⟨h0, oid, ver, h1, by rw [List.getElem?_append_left (List.getElem?_eq_some_iff.1 h2).1]; exact h2⟩

/-- A record more. -/
theorem app_out {v : V} {ar : List Arr} {ws : List WR} (ho : OutOk v ar ws) (hl : ws.length ≤ 1000) (r : WR) (vs : List V) (fn : Nat) : ∃ v' ar', appendV TE.P ⟨fn, 0, 0⟩ ⟨vs, ar ++ [⟨[encW r], 0, false, 12⟩]⟩ 51 v (.sl ar.length 0 0 1 (some 1)) = some (v', ⟨vs, ar'⟩) ∧ OutOk v' ar' (ws ++ [r]) ∧ Ext ar ar' := by
  have hj : (ar ++ [(⟨[encW r], 0, false, 12⟩ : Arr)])[ar.length]? = some ⟨[encW r], 0, false, 12⟩ := by simp
  rcases ho with ⟨rfl, rfl⟩ | ⟨h0, oid, ver, rfl, h2⟩
  · have key := app_own_nils (P := TE.P) (C := ⟨fn, 0, 0⟩) (h := ⟨vs, ar ++ [⟨[encW r], 0, false, 12⟩]⟩) (t := 51) (e := encW r) (o := false) (j := ar.length) te_51 tk_59 (by simp) (by simp) (by rw [tc_59]; exact hj) rfl (by rw [tc_59]; rfl)
    rw [tc_59] at key
    refine ⟨_, _, key, .inr ⟨by simp, ar.length + 1, 0, by simp, by simp⟩, ?_⟩
    exact Ext.trans (Ext.push (X := [⟨[encW r], 0, false, 12⟩])) Ext.push
  · have hlt : oid < ar.length := (List.getElem?_eq_some_iff.1 h2).1
    have h2' : (ar ++ [(⟨[encW r], 0, false, 12⟩ : Arr)])[oid]? = some ⟨ws.map encW, ver, true, 12⟩ := by rw [List.getElem?_append_left hlt]; exact h2
    have key := app_own_sl (P := TE.P) (C := ⟨fn, 0, 0⟩) (h := ⟨vs, ar ++ [⟨[encW r], 0, false, 12⟩]⟩) (t := 51) (e := encW r) (o := true) (o' := false) (j := ar.length) (id := oid) (ver := ver) (n := ws.length) (es := ws.map encW) te_51 tk_59 (by simp) (by simp) rfl (by rw [tc_59]; exact hj) (by rw [tc_59]; exact h2') (by simp) (by omega) rfl (by rw [tc_59]; rfl)
    rw [tc_59] at key
    refine ⟨_, _, key, .inr ⟨by simp, oid, ver + 1, by simp, ?_⟩, ?_⟩
    · rw [List.getElem?_set_self (by simp; omega)]; simp
    · intro id A h hs
      have hne : oid ≠ id := by
        intro e
        rw [← e, h2] at h
        rw [← Option.some.inj h] at hs
        cases hs
      rw [List.getElem?_set_ne hne, List.getElem?_append_left (List.getElem?_eq_some_iff.1 h).1]
      exact h

theorem and1 (a : Int) : IntKind.i64.wrap ((BitVec.ofInt 64 a &&& BitVec.ofInt 64 1).toNat : Int) = 0 ∨ IntKind.i64.wrap ((BitVec.ofInt 64 a &&& BitVec.ofInt 64 1).toNat : Int) = 1 := by
  have h : (BitVec.ofInt 64 a &&& BitVec.ofInt 64 1).toNat = (BitVec.ofInt 64 a).toNat % 2 := by
    rw [BitVec.toNat_and]
    have : (BitVec.ofInt 64 1).toNat = 1 := by decide
    rw [this, Nat.and_one_is_mod]
  rw [h]
  have := Nat.mod_lt (BitVec.ofInt 64 a).toNat (show 0 < 2 by omega)
  rcases (show (BitVec.ofInt 64 a).toNat % 2 = 0 ∨ (BitVec.ofInt 64 a).toNat % 2 = 1 by omega) with e | e <;> rw [e]
  · left; exact wrap_0
  · right; exact wrap_1
end Go.DM
namespace Go.DM
section
variable {E : Env} {fn : Nat} {Q Q' : Ex → St → Prop} {s0 : List V} {h0 : Heap}

theorem wL_mono {an : Option (List (Nat × Nat × Bool))} {ops : Array Oper} : ∀ (l : List Oper) (i : Nat) {st : St} {K K' : St → Prop}, wL E fn an ops l i st K → (∀ st, K st → K' st) → wL E fn an ops l i st K' := by
  intro l
  induction l with
  | nil => exact fun i st K K' h hk => hk _ h
  | cons o l ih =>
    intro i st K K' h hk
    simp only [wL] at h ⊢
    split at h
    · exact ⟨h.1, wX_mono h.2 fun v st' h' => ⟨h'.1, ih _ h'.2 hk⟩⟩
    · exact optP_mono h fun w hw => ⟨fun e => ⟨(hw.1 e).1, wX_mono (hw.1 e).2 fun v st' h' => ⟨h'.1, ih _ h'.2 hk⟩⟩, fun e => ih _ (hw.2 e) hk⟩
theorem kont_mono (hk : ∀ x st, Q x st → Q' x st) : ∀ (k : List Todo) (x : Ex) (st : St), kont E fn Q k x st → kont E fn Q' k x st
  | [], x, st, h => hk x st h
  | .code c :: k, .normal, st, h => wC_mono (c := c) h fun x st h => kont_mono hk k x st h
  | .code _ :: k, .exit id, st, h => kont_mono hk k _ st h
  | .code _ :: k, .ret, st, h => kont_mono hk k _ st h
  | .blk _ :: k, .normal, st, h => kont_mono hk k _ st h
  | .blk id :: k, .exit j, st, h => by
    simp only [kont] at h ⊢
    cases hb : Nat.beq j id <;> rw [hb] at h <;> exact kont_mono hk k _ st h
  | .blk _ :: k, .ret, st, h => kont_mono hk k _ st h
theorem kont_two {a : Todo} {k : List Todo} : kont E fn Q (a :: k) = kont E fn (kont E fn Q k) [a] := by
  funext x st
  cases a with
  | code c => cases x <;> rfl
  | blk id => cases x <;> rfl
def midK (D : List Nat) (s0 : List V) (R : (Nat → V) → Heap → Prop) : Ex → St → Prop
  | .normal, st => st.s = dirtyAt (slot st.s) D 0 s0 ∧ R (slot st.s) st.h
  | _, _ => False
theorem midK_normal {D : List Nat} {R : (Nat → V) → Heap → Prop} {s : List V} {h : Heap} (hs : s = dirtyAt (slot s) D 0 s0) (hR : R (slot s) h) : midK D s0 R .normal ⟨s, h⟩ := ⟨hs, hR⟩
theorem wR_mid {an : Option (List (Nat × Nat × Bool))} {ops : Array Oper} {l : List Oper} {i : Nat} {a : Todo} {k : List Todo} (D : List Nat) (R : (Nat → V) → Heap → Prop) (h1 : wR E fn an ops l i [a] ⟨s0, h0⟩ (midK D s0 R))
    (h2 : ∀ f h, R f h → kont E fn Q k .normal ⟨dirtyAt f D 0 s0, h⟩) : wR E fn an ops l i (a :: k) ⟨s0, h0⟩ Q := by
  unfold wR at *
  rw [kont_two]
  refine wL_mono _ _ h1 fun st' h => kont_mono (fun x st hm => ?_) _ _ _ h
  cases x with
  | normal =>
    obtain ⟨s, hp⟩ := st
    obtain ⟨e, hR⟩ := hm
    simp only at e hR
    rw [e]
    exact h2 _ _ hR
  | exit id => exact hm.elim
  | ret => exact hm.elim

theorem dirtyAt_hit {f : Nat → V} {i : Nat} {D : List Nat} {v : V} {l : List V} : dirtyAt f (i :: D) i (v :: l) = f i :: dirtyAt f D (i + 1) l := by simp [dirtyAt]
theorem dirtyAt_miss {f : Nat → V} {d i : Nat} {D : List Nat} {v : V} {l : List V} (h : d ≠ i) : dirtyAt f (d :: D) i (v :: l) = v :: dirtyAt f (d :: D) (i + 1) l := by simp [dirtyAt, h]
theorem dirtyAt_done {f : Nat → V} {D : List Nat} {i : Nat} : dirtyAt f D i [] = [] := by cases D <;> rfl
theorem dirtyAt_rest {f : Nat → V} {i : Nat} {v : V} {l : List V} : dirtyAt f [] i (v :: l) = v :: l := rfl
theorem and1q (q : Nat) : IntKind.i64.wrap ((q % 2 ^ IntKind.i64.bits &&& 1 % 2 ^ IntKind.i64.bits : Nat) : Int) = 0 ∨ IntKind.i64.wrap ((q % 2 ^ IntKind.i64.bits &&& 1 % 2 ^ IntKind.i64.bits : Nat) : Int) = 1 := by
  have h1 : 1 % 2 ^ IntKind.i64.bits = 1 := by decide
  rw [h1, Nat.and_one_is_mod]
  rcases (show q % 2 ^ IntKind.i64.bits % 2 = 0 ∨ q % 2 ^ IntKind.i64.bits % 2 = 1 by omega) with e | e <;> rw [e]
  · left; exact wrap_0
  · right; exact wrap_1
end
end Go.DM
namespace Go.DM

structure CutOk (j : Nat) (ar : List Arr) (nx t : Nat) (nw : List WR) : Prop where
  ok : ∀ r ∈ nw, r.i = j ∧ RecOk ar r ∧ r.first < nx
  ap : nw.Pairwise Apart
  ln : nw.length ≤ 2 * t
theorem CutOk.nil {j : Nat} {ar : List Arr} : CutOk j ar 0 0 [] := ⟨by simp, by simp, by simp⟩
theorem CutOk.ext {j : Nat} {ar ar' : List Arr} {nx nx' t t' : Nat} {nw : List WR} (h : CutOk j ar nx t nw) (he : Ext ar ar') (h1 : nx ≤ nx') (h2 : t ≤ t') : CutOk j ar' nx' t' nw :=
  ⟨fun r hr => ⟨(h.ok r hr).1, (h.ok r hr).2.1.ext he, Nat.lt_of_lt_of_le (h.ok r hr).2.2 h1⟩, h.ap, by have := h.ln; omega⟩
theorem CutOk.one {j : Nat} {ar ar' : List Arr} {nx nx' t : Nat} {nw : List WR} (h : CutOk j ar nx t nw) (he : Ext ar ar') {r : WR} (hi : r.i = j) (hf : r.first = nx) (hr : RecOk ar r) (h1 : nx < nx') : CutOk j ar' nx' (t + 1) (nw ++ [r]) where
  ok := fun x hx => by
    rcases List.mem_append.1 hx with h2 | h2
    · have := h.ok x h2
      exact ⟨this.1, this.2.1.ext he, by omega⟩
    · rw [List.mem_singleton.1 h2]; exact ⟨hi, hr.ext he, by omega⟩
  ap := by
    rw [List.pairwise_append]
    refine ⟨h.ap, by simp, fun a ha b hb => ?_⟩
    rw [List.mem_singleton.1 hb]
    intro e
    have := (h.ok a ha).2.2
    omega
  ln := by have := h.ln; simp; omega
theorem CutOk.two {j : Nat} {ar ar' : List Arr} {nx nx' t : Nat} {nw : List WR} (h : CutOk j ar nx t nw) (he : Ext ar ar') {r r' : WR} (hi : r.i = j) (hf : r.first = nx) (hr : RecOk ar r) (hi' : r'.i = j) (hf' : r'.first = nx) (hr' : RecOk ar r') (hs : r.seq ≠ r'.seq) (h1 : nx < nx') : CutOk j ar' nx' (t + 1) (nw ++ [r] ++ [r']) where
  ok := fun x hx => by
    rcases List.mem_append.1 hx with h2 | h2
    · exact (h.one he hi hf hr h1).ok x h2
    · rw [List.mem_singleton.1 h2]; exact ⟨hi', hr'.ext he, by omega⟩
  ap := by
    rw [List.pairwise_append]
    refine ⟨(h.one he hi hf hr h1).ap, by simp, fun a ha b hb => ?_⟩
    rw [List.mem_singleton.1 hb]
    intro e
    rcases List.mem_append.1 ha with h2 | h2
    · have := (h.ok a h2).2.2
      omega
    · rw [List.mem_singleton.1 h2] at e
      exact hs e.2.2
  ln := by have := h.ln; simp; omega

theorem WAll.next {ar ar' : List Arr} {j : Nat} {ws nw : List WR} (h : WAll ar j ws) (he : Ext ar ar') {nx t : Nat} (hc : CutOk j ar' nx t nw) (ht : t ≤ 6) : WAll ar' (j + 1) (ws ++ nw) where
  ok := fun r hr => by
    rcases List.mem_append.1 hr with h1 | h1
    · exact (h.ok r h1).ext he
    · exact (hc.ok r h1).2.1
  lt := fun r hr => by
    rcases List.mem_append.1 hr with h1 | h1
    · have := h.lt r h1; omega
    · have := (hc.ok r h1).1; omega
  ap := by
    rw [List.pairwise_append]
    refine ⟨h.ap, hc.ap, fun a ha b hb e => ?_⟩
    have h1 := h.lt a ha
    have h2 := (hc.ok b hb).1
    have := e.1
    omega
  cnt := fun i => by
    rw [List.filter_append, List.length_append]
    by_cases hi : i = j
    · subst hi
      have h1 : ws.filter (fun r => r.i == i) = [] := by
        rw [List.filter_eq_nil_iff]
        intro r hr
        have := h.lt r hr
        simp; omega
      have h2 := List.length_filter_le (fun r : WR => r.i == i) nw
      have := hc.ln
      rw [h1]; simp; omega
    · have h1 : nw.filter (fun r => r.i == i) = [] := by
        rw [List.filter_eq_nil_iff]
        intro r hr
        have := (hc.ok r hr).1
        simp; omega
      have := h.cnt i
      rw [h1]; simp; exact this
  len := by
    have := h.len
    have := hc.ln
    rw [List.length_append]; omega
end Go.DM
namespace Go.DM
open Go.Proofs
set_option maxRecDepth 100000

def encRs : List Rec → V
  | [] => .nils
  | r :: rs => .fl true false ((r :: rs).map encR)
structure RecsOk (rs : List Rec) : Prop where
  ok : ∀ r ∈ rs, OkR r
  lt : ∀ r ∈ rs, r.i < 4
  nd : rs.Nodup
  cnt : ∀ i, (rs.filter fun r => r.i == i).length ≤ 12
  len : rs.length ≤ 48
def GoodWaves (S : Src) (v : V) (h' : Heap) : Prop := ∃ (k' : Nat) (rs : List Rec), v = encRs rs ∧ h' = ⟨[S.v k'], []⟩ ∧ RecsOk rs

/-- A record and its frozen form. -/
def Same (w : WR) (r : Rec) : Prop := r.i = w.i ∧ r.first = w.first ∧ r.err = w.err ∧ r.seq = w.seq
theorem frz_rec {vs : List V} {ar : List Arr} {nv d : Nat} {w : WR} (h : RecOk ar w) : ∃ r : Rec, frz ⟨vs, ar⟩ nv 0 (d + 3) (encW w) = some (encR r) ∧ Same w r ∧ (w.i < 6 → OkR r) := by
  obtain ⟨l, o, h1, h2, h3, h4, h5, h6, h7⟩ := h
  refine ⟨⟨w.i, w.first, w.err, w.seq, (l.drop w.first).take w.len⟩, ?_, ⟨rfl, rfl, rfl, rfl⟩, fun hi => ⟨hi, ?_, ?_, by show w.err ≤ 1000; omega, by show w.seq ≤ 1000; omega, ?_⟩⟩
  · have e : (((l.map (V.int .i64)).drop w.first).take w.len) = ((l.drop w.first).take w.len).map (.int .i64) := by rw [← List.map_drop, ← List.map_take]
    have hg : (((l.drop w.first).take w.len).map (V.int .i64)).all (fun e => e.cells.all V.gnd) = true := fl_ints_all
    simp only [encW, frz, mapO, Option.bind_some, elemsOf_sl, h1, nblt, Nat.not_lt_zero, decide_false, cond_false, List.length_map, h3, beq_self_eq_true, decide_true, Bool.and_self, cond_true, e, mapO_ints, hg, Option.map_some, encR]
  · show 1 ≤ ((l.drop w.first).take w.len).length
    rw [List.length_take, List.length_drop]; omega
  · show w.first + ((l.drop w.first).take w.len).length ≤ 1000
    rw [List.length_take, List.length_drop]; omega
  · intro x hx
    exact h7 x (List.mem_of_mem_drop (List.mem_of_mem_take hx))

theorem frz_recs {vs : List V} {ar : List Arr} {nv d : Nat} : ∀ {ws : List WR}, (∀ w ∈ ws, RecOk ar w) → ∃ rs : List Rec, mapO (frz ⟨vs, ar⟩ nv 0 (d + 3)) (ws.map encW) = some (rs.map encR) ∧ rs.length = ws.length ∧
    (∀ r ∈ rs, ∃ w ∈ ws, Same w r ∧ (w.i < 6 → OkR r)) ∧ (ws.Pairwise Apart → rs.Nodup) ∧ ∀ i, (rs.filter fun r => r.i == i).length = (ws.filter fun r => r.i == i).length
  | [], _ => ⟨[], rfl, rfl, by simp, by simp, by simp⟩
  | w :: ws, h => by
    obtain ⟨rs, h1, h2, h3, h4, h5⟩ := frz_recs (vs := vs) (nv := nv) (d := d) (ws := ws) fun x hx => h x (by simp [hx])
    obtain ⟨r, k1, k2, k3⟩ := frz_rec (vs := vs) (nv := nv) (d := d) (h w (by simp))
    refine ⟨r :: rs, by simp only [List.map_cons, mapO, k1, Option.bind_some, h1], by simp [h2], fun x hx => ?_, fun hp => ?_, fun i => ?_⟩
    · rcases List.mem_cons.1 hx with rfl | hx
      · exact ⟨w, by simp, k2, k3⟩
      · obtain ⟨w', a, b⟩ := h3 x hx
        exact ⟨w', by simp [a], b⟩
    · rw [List.pairwise_cons] at hp
      rw [List.nodup_cons]
      refine ⟨fun hr => ?_, h4 hp.2⟩
      obtain ⟨w', hw', hs, _⟩ := h3 r hr
      refine hp.1 w' hw' ⟨?_, ?_, ?_⟩
      · rw [← k2.1, hs.1]
      · rw [← k2.2.1, hs.2.1]
      · rw [← k2.2.2.2, hs.2.2.2]
    · have e : r.i = w.i := k2.1
      simp only [List.filter_cons, e]
      split
      · simp [h5 i]
      · exact h5 i

theorem frz_out {v : V} {ar : List Arr} {ws : List WR} {vs : List V} {nv d : Nat} (ho : OutOk v ar ws) (ha : WAll ar 4 ws) : ∃ rs, frz ⟨vs, ar⟩ nv 0 (d + 4) v = some (encRs rs) ∧ RecsOk rs := by
  obtain ⟨rs, h1, h2, h3, h4, h5⟩ := frz_recs (vs := vs) (nv := nv) (d := d) ha.ok
  have hok : RecsOk rs := {
    ok := fun r hr => by
      obtain ⟨w, hw, hs, hk⟩ := h3 r hr
      have := ha.lt w hw
      exact hk (by omega)
    lt := fun r hr => by
      obtain ⟨w, hw, hs, hk⟩ := h3 r hr
      have := ha.lt w hw
      rw [hs.1]; omega
    nd := h4 ha.ap
    cnt := fun i => by rw [h5]; exact ha.cnt i
    len := by have := ha.len; omega }
  refine ⟨rs, ?_, hok⟩
  rcases ho with ⟨rfl, rfl⟩ | ⟨h0, oid, ver, rfl, hA⟩
  · obtain rfl : rs = [] := List.length_eq_zero_iff.1 h2
    rfl
  · have hg : (rs.map encR).all (fun e => e.cells.all V.gnd) = true := by simp [List.all_eq_true, encR]
    have ht : ((ws.map encW).drop 0).take ws.length = ws.map encW := by rw [List.drop_zero]; exact take_map_all
    have hne : rs ≠ [] := fun e => h0 (List.length_eq_zero_iff.1 (by rw [← h2, e]; rfl))
    simp only [frz, nblt, Nat.not_lt_zero, decide_false, cond_false, elemsOf_sl, hA, Option.bind_some, beq_self_eq_true, List.length_map, Nat.zero_add, Nat.le_refl, decide_true, Bool.and_self, cond_true, ht, h1, hg]
    cases rs with
    | nil => exact absurd rfl hne
    | cons r rs => rfl
end Go.DM
