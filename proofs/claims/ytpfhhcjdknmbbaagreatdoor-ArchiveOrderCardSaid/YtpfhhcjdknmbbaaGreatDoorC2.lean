/-
  Responses. Sites: channels with their epochs, in own arrays. Sites, from its text.
-/
import Derived.Test.YtpfhhcjdknmbbaaGreatDoorC1
set_option linter.all false
set_option linter.unusedSimpArgs false
set_option linter.unusedVariables false
namespace Go.DM
open Go.Proofs
set_option maxRecDepth 100000
section
variable {fn : Nat} {an : Option (List (Nat × Nat × Bool))} {ops : Array Oper} {l : List Oper} {i : Nat} {kk : List Todo} {d : Option Nat} {s : List V} {Q : Ex → St → Prop} {S : Src} {k : Nat} {vs : List V} {ar : List Arr} {h : Heap}

structure StageOk (e : V) : Prop where
  fz : ∀ H nv na d, frz H nv na (d + 2) e = some e
  gn : ∀ x ∈ e.cells, x.gnd = true
  st : e.storable = true
  ln : e.cells.length = 10
theorem stage_lit {a b c e f g o : Int} {t : V} {p q : Int} (ht : t = .nils ∨ ∃ a b l, t = .fl a b l) : StageOk (.agg [.int .i64 a, .int .i64 b, .int .i64 c, .int .i64 e, .int .i64 f, .int .i64 g, .int .i64 o, t, .int .i64 p, .int .i64 q]) := by
  rcases ht with rfl | ⟨_, _, _, rfl⟩ <;> exact ⟨fun H nv na d => by simp, by simp, rfl, rfl⟩
def LowAr (ar : List Arr) : Prop := ∀ A ∈ ar, ∀ e ∈ A.elems, low 1 ar.length e = true
def GoodResp (S : Src) (ar : List Arr) (v : V) (h' : Heap) : Prop := ∃ (k' : Nat) (r : V), v = .agg [r] ∧ (r = .nils ∨ ∃ es, r = .fl true false es) ∧ h' = ⟨[S.v k'], ar⟩

set_option maxHeartbeats 8000000 in
theorem resp_ev (hl : LowAr ar) : ∃ v h', Ev TE 108 [.ptr 0 0] ⟨[S.v k], ar⟩ v h' ∧ GoodResp S ar v h' := by
  refine spec_shr 68 [.cell 2 132] rfl rfl rfl Tryz.func108 rfl rfl rfl fun Q hQ hN => ?_
  have hl' : ∀ k', (lowHeap 1 ar.length ⟨[S.v k'], ar⟩) = true := fun k' => by
    simp only [lowHeap_simp, List.all_cons, src_low, List.all_nil, Bool.and_true, Bool.true_and, List.all_eq_true]
    exact hl
  have r1 := S.r_lt k (n := 4) (by omega)
  simp
  obtain ⟨n, hn⟩ : ∃ n, n = (S.r k 4).toNat := ⟨_, rfl⟩
  have hn1 : S.r k 4 = (n : Int) := by omega
  rw [hn1]
  obtain ⟨I, hI⟩ : ∃ I : Nat → (Nat → V) → Heap → Prop, I = fun m f hp => ∃ (j k' : Nat) (es : List V), j + m = n ∧ f 4 = .int .i64 m ∧ es.length = j ∧ (∀ e ∈ es, StageOk e) ∧
      ((j = 0 ∧ f 3 = .box (.agg [.nils]) ∧ hp = ⟨[S.v k'], ar⟩) ∨ (0 < j ∧ ∃ ver, f 3 = .box (.agg [.sl ar.length ver 0 j none]) ∧ hp = ⟨[S.v k'], ar ++ [⟨es, ver, true, 10⟩]⟩)) := ⟨_, rfl⟩
  refine wLp_ind [3, 4, 5, 8, 9, 10, 11, 12, 13, 14, 15, 16, 17, 18, 19, 20, 21, 22, 23, 24, 25, 26, 27, 28, 29, 30, 31, 32, 33, 34, 35, 36, 37, 38, 39, 40, 41, 42, 43, 44, 45, 46, 47, 48, 49, 50, 51, 52, 53, 54, 55, 56, 57, 58, 59, 60, 61, 62, 63, 64, 65, 66] I n (by rw [hI]; exact ⟨0, _, [], by simp, rfl, rfl, by simp, .inl ⟨rfl, rfl, rfl⟩⟩) ?_
  intro m f hp hi
  rw [hI] at hi
  obtain ⟨j, k', es, hm, f4, hj, hes, hi⟩ := hi
  by_cases hlt : 0 < m
  · obtain ⟨m', rfl⟩ : ∃ m', m = m' + 1 := ⟨m - 1, by omega⟩
    have e1 : IntKind.i64.wrap (m' : Int) = (m' : Int) := wrap_id (by omega) (by omega)
    have hb1 : (j + 1) * 96 ≤ 140737488355328 := by omega
    have more : ∀ {e}, StageOk e → ∀ x ∈ es ++ [e], StageOk x := fun he x hx => by
      rcases List.mem_append.1 hx with h | h
      · exact hes x h
      · rw [List.mem_singleton.1 h]; exact he
    by_cases c0 : S.r k' 3 = 0
    · rcases hi with ⟨rfl, f3, rfl⟩ | ⟨h2, ver, f3, rfl⟩
      · simp [f3, f4, e1, c0, appendV, grow]
        refine loopK_normal ?_ m' ?_ ?_
        · rfl
        · omega
        rw [hI]
        exact ⟨1, _, [_], by omega, rfl, rfl, by simp; exact stage_lit (.inl rfl), .inr ⟨by omega, 0, rfl, rfl⟩⟩
      · simp [f3, f4, e1, c0, hj, hb1, appendV, roomV, lowAll]
        refine loopK_normal ?_ m' ?_ ?_
        · rfl
        · omega
        rw [hI]
        exact ⟨j + 1, _, es ++ [_], by omega, rfl, by simp [hj], more (stage_lit (.inl rfl)), .inr ⟨by omega, _, rfl, rfl⟩⟩
    · have b0 : (S.r k' 3 == 0) = false := by simp [c0]
      by_cases c1 : S.r k' 3 = 1
      · rcases hi with ⟨rfl, f3, rfl⟩ | ⟨h2, ver, f3, rfl⟩
        · simp [f3, f4, e1, c1, appendV, grow]
          refine loopK_normal ?_ m' ?_ ?_
          · rfl
          · omega
          rw [hI]
          exact ⟨1, _, [_], by omega, rfl, rfl, by simp; exact stage_lit (.inl rfl), .inr ⟨by omega, 0, rfl, rfl⟩⟩
        · simp [f3, f4, e1, c1, hj, hb1, appendV, roomV, lowAll]
          refine loopK_normal ?_ m' ?_ ?_
          · rfl
          · omega
          rw [hI]
          exact ⟨j + 1, _, es ++ [_], by omega, rfl, by simp [hj], more (stage_lit (.inl rfl)), .inr ⟨by omega, _, rfl, rfl⟩⟩
      · have b1 : (S.r k' 3 == 1) = false := by simp [c1]
        rcases hi with ⟨rfl, f3, rfl⟩ | ⟨h2, ver, f3, rfl⟩
        · simp [f3, f4, e1, b0, b1, appendV, grow]
          refine loopK_normal ?_ m' ?_ ?_
          · rfl
          · omega
          rw [hI]
          exact ⟨1, _, [_], by omega, rfl, rfl, by simp; exact stage_lit (.inr ⟨_, _, _, rfl⟩), .inr ⟨by omega, 0, rfl, rfl⟩⟩
        · simp [f3, f4, e1, b0, b1, hj, hb1, appendV, roomV, lowAll]
          refine loopK_normal ?_ m' ?_ ?_
          · rfl
          · omega
          rw [hI]
          exact ⟨j + 1, _, es ++ [_], by omega, rfl, by simp [hj], more (stage_lit (.inr ⟨_, _, _, rfl⟩)), .inr ⟨by omega, _, rfl, rfl⟩⟩
  · have : m = 0 := by omega
    subst this
    rcases hi with ⟨rfl, f3, rfl⟩ | ⟨h2, ver, f3, rfl⟩
    · simp [f3, f4, hQ, -lowHeap_simp, hl']
      exact ⟨_, _, rfl, .inl rfl, rfl⟩
    · simp [f3, f4, hQ, -lowHeap_simp, hl']
      rw [List.take_of_length_le (by omega), mapO_id (fun x hx => (hes x hx).fz _ _ _ 5)]
      exact ⟨by omega, fun x hx => (hes x hx).gn, _, _, rfl, .inr ⟨es, rfl⟩, rfl⟩
end
end Go.DM
namespace Go.DM
open Go.Proofs
set_option maxRecDepth 100000

structure Ep where
  a : Int
  b : Int
  x : Int
  y : Int
  z : Int
  r : Option (List V)
def encRsp : Option (List V) → V
  | none => .nils
  | some es => .fl true false es
@[simp] theorem encRsp_st {r : Option (List V)} : (encRsp r).storable = true := by cases r <;> rfl
@[simp] theorem encRsp_gn {r : Option (List V)} : (encRsp r).gnd = true := by cases r <;> rfl
def encE (e : Ep) : V := .agg [.int .i64 e.a, .int .i64 e.b, .int .i64 100, .int .i64 1, .int .i64 e.x, .int .i64 e.y, .int .i64 e.z, encRsp e.r]
def EpOk (e : Ep) : Prop := -100 ≤ e.x ∧ e.x ≤ 100 ∧ -100 ≤ e.y ∧ e.y ≤ 100 ∧ -100 ≤ e.z ∧ e.z ≤ 100
structure Chn where
  j : Nat
  eid : Nat
  ne : Nat
  cap : Option Nat
def encC (c : Chn) : V := .agg [.str [65, 66], .str [83, stB c.j], .str [48, 48], .str [66, 72, 90], .sl c.eid 0 0 c.ne c.cap]
def ChOk (ar : List Arr) (j : Nat) (c : Chn) : Prop := c.j = j ∧ ∃ (eps : List Ep) (o : Bool), ar[c.eid]? = some ⟨eps.map encE, 0, o, 8⟩ ∧ eps.length = c.ne ∧ c.ne ≤ 1000 ∧ ∀ e ∈ eps, EpOk e

theorem lowC_mono {nv na na' : Nat} (h : na ≤ na') : ∀ v : V, lowC nv na v = true → lowC nv na' v = true := by
  have h0 : ∀ v : V, lowC0 nv na v = true → lowC0 nv na' v = true := by
    intro v hv
    cases v <;> simp [lowC0] at hv ⊢ <;> first | exact hv | omega
  intro v hv
  cases v <;> simp only [lowC] at hv ⊢ <;> first | exact h0 _ hv | skip
  rename_i f caps
  rw [List.all_eq_true] at hv ⊢
  exact fun x hx => h0 x (hv x hx)
theorem low_mono {nv na na' : Nat} (h : na ≤ na') {v : V} (hv : low nv na v = true) : low nv na' v = true := by
  unfold low at *
  rw [List.all_eq_true] at hv ⊢
  exact fun x hx => lowC_mono h x (hv x hx)
theorem low_gnd {nv na : Nat} {v : V} (h : ∀ x ∈ v.cells, x.gnd = true) : low nv na v = true := by
  unfold low
  rw [List.all_eq_true]
  intro x hx
  have := h x hx
  cases x <;> simp [lowC, lowC0] at this ⊢
  all_goals simp_all
theorem low_encE {nv na : Nat} {e : Ep} : low nv na (encE e) = true := low_gnd (by simp [encE])
theorem low_encC {na : Nat} {c : Chn} (h : c.eid < na) : low 1 na (encC c) = true := by simp [low, encC, lowC, lowC0, h]

structure SInv (ar : List Arr) (cs : List Chn) : Prop where
  lo : LowAr ar
  ok : ∀ j c, cs[j]? = some c → ChOk ar j c
theorem SInv.push {ar : List Arr} {cs : List Chn} (h : SInv ar cs) (X : List Arr) (hX : ∀ A ∈ X, ∀ e ∈ A.elems, low 1 (ar.length + X.length) e = true) : SInv (ar ++ X) cs where
  lo := fun A hA e he => by
    rw [List.length_append]
    rcases List.mem_append.1 hA with h1 | h1
    · exact low_mono (by omega) (h.lo A h1 e he)
    · exact hX A h1 e he
  ok := fun j c hc => by
    obtain ⟨h1, eps, o, h2, h3⟩ := h.ok j c hc
    have : c.eid < ar.length := (List.getElem?_eq_some_iff.1 h2).1
    exact ⟨h1, eps, o, by rw [List.getElem?_append_left this]; exact h2, h3⟩
theorem SInv.set {ar : List Arr} {cs : List Chn} (h : SInv ar cs) {cid : Nat} {A A' : Arr} (hA : ar[cid]? = some A) (hs : A.sz = 5) (hl : ∀ e ∈ A'.elems, low 1 ar.length e = true) : SInv (ar.set cid A') cs where
  lo := fun B hB e he => by
    rw [List.length_set]
    rcases List.mem_or_eq_of_mem_set hB with h1 | h1
    · exact h.lo B h1 e he
    · rw [h1] at he; exact hl e he
  ok := fun j c hc => by
    obtain ⟨h1, eps, o, h2, h3⟩ := h.ok j c hc
    have hne : cid ≠ c.eid := by
      intro e
      rw [e, h2] at hA
      rw [← Option.some.inj hA] at hs
      cases hs
    exact ⟨h1, eps, o, by rw [List.getElem?_set_ne hne]; exact h2, h3⟩
theorem SInv.snoc {ar : List Arr} {cs : List Chn} (h : SInv ar cs) {c : Chn} (hc : ChOk ar cs.length c) : SInv ar (cs ++ [c]) where
  lo := h.lo
  ok := fun j d hd => by
    by_cases hj : j < cs.length
    · rw [List.getElem?_append_left hj] at hd; exact h.ok j d hd
    · by_cases e : j = cs.length
      · subst e; simp at hd; subst hd; exact hc
      · rw [List.getElem?_eq_none (by simp; omega)] at hd; cases hd

def Lows (n : Nat) (X : List Arr) : Prop := ∀ A ∈ X, ∀ e ∈ A.elems, (∃ p, e = encE p) ∨ ∃ c, e = encC c ∧ c.eid < n
theorem Lows.nil {n : Nat} : Lows n [] := fun A hA => by cases hA
theorem Lows.ep {n : Nat} {X : List Arr} (h : Lows n X) {l : List V} {v : Nat} {o : Bool} {z : Nat} (eps : List Ep) (hl : l = eps.map encE) : Lows n (⟨l, v, o, z⟩ :: X) := fun A hA e he => by
  rcases List.mem_cons.1 hA with rfl | hA
  · rw [hl] at he
    obtain ⟨p, _, rfl⟩ := List.mem_map.1 he
    exact .inl ⟨p, rfl⟩
  · exact h A hA e he
theorem Lows.ch {n : Nat} {X : List Arr} (h : Lows n X) {l : List V} {v : Nat} {o : Bool} {z : Nat} (c : Chn) (hl : l = [encC c]) (hc : c.eid < n) : Lows n (⟨l, v, o, z⟩ :: X) := fun A hA e he => by
  rcases List.mem_cons.1 hA with rfl | hA
  · rw [hl] at he
    rw [List.mem_singleton.1 he]
    exact .inr ⟨c, rfl, hc⟩
  · exact h A hA e he
theorem lows_low {ar X : List Arr} (h : Lows (ar.length + X.length) X) : ∀ A ∈ X, ∀ e ∈ A.elems, low 1 (ar.length + X.length) e = true := fun A hA e he => by
  rcases h A hA e he with ⟨p, rfl⟩ | ⟨c, rfl, hc⟩
  · exact low_encE
  · exact low_encC hc
theorem fin_new {ar : List Arr} {cs : List Chn} (hv : SInv ar cs) (X : List Arr) (c : Chn) (hX : Lows (ar.length + X.length) X) {j : Nat} (hj : cs.length = j) (h1 : c.j = j) (eps : List Ep) (o : Bool) (he : (ar ++ X)[c.eid]? = some ⟨eps.map encE, 0, o, 8⟩) (hn : eps.length = c.ne) (hle : c.ne ≤ 1000) (hok : ∀ e ∈ eps, EpOk e) : SInv (ar ++ X) (cs ++ [c]) :=
  (hv.push X (lows_low hX)).snoc ⟨by omega, eps, o, he, hn, hle, hok⟩
theorem fin_set {ar : List Arr} {cs : List Chn} (hv : SInv ar cs) {cid ver : Nat} (hcid : ar[cid]? = some ⟨cs.map encC, ver, true, 5⟩) (X : List Arr) (c : Chn) (hX : Lows (ar.length + X.length) X) {j : Nat} (hj : cs.length = j) (h1 : c.j = j) (eps : List Ep) (o : Bool) (he : (ar ++ X)[c.eid]? = some ⟨eps.map encE, 0, o, 8⟩) (hn : eps.length = c.ne) (hle : c.ne ≤ 1000) (hok : ∀ e ∈ eps, EpOk e) (v' : Nat) :
    SInv ((ar ++ X).set cid ⟨cs.map encC ++ [encC c], v', true, 5⟩) (cs ++ [c]) ∧ ((ar ++ X).set cid ⟨cs.map encC ++ [encC c], v', true, 5⟩)[cid]? = some ⟨(cs ++ [c]).map encC, v', true, 5⟩ := by
  have hlt : cid < ar.length := (List.getElem?_eq_some_iff.1 hcid).1
  have hcid' : (ar ++ X)[cid]? = some ⟨cs.map encC, ver, true, 5⟩ := by rw [List.getElem?_append_left hlt]; exact hcid
  have h2 := hv.push X (lows_low hX)
  have hce : c.eid < (ar ++ X).length := (List.getElem?_eq_some_iff.1 he).1
  have hcs : ∀ d ∈ cs, d.eid < (ar ++ X).length := fun d hd => by
    obtain ⟨i, hi⟩ := List.getElem?_of_mem hd
    obtain ⟨_, eps, o, h3, _⟩ := h2.ok i d hi
    exact (List.getElem?_eq_some_iff.1 h3).1
  have h3 := h2.set hcid' rfl (A' := ⟨cs.map encC ++ [encC c], v', true, 5⟩) fun e he => by
    rcases List.mem_append.1 he with h | h
    · obtain ⟨d, hd, rfl⟩ := List.mem_map.1 h
      exact low_encC (hcs d hd)
    · rw [List.mem_singleton.1 h]; exact low_encC hce
  have hne : cid ≠ c.eid := by
    intro e
    rw [e, he] at hcid'
    exact absurd (show (8 : Nat) = 5 from congrArg Arr.sz (Option.some.inj hcid')) (by omega)
  refine ⟨h3.snoc ⟨by omega, eps, o, by rw [List.getElem?_set_ne hne]; exact he, hn, hle, hok⟩, ?_⟩
  rw [List.getElem?_set_self (by rw [List.length_append]; omega)]
  simp
end Go.DM
namespace Go.DM
open Go.Proofs
set_option maxRecDepth 100000
section
variable {fn : Nat} {an : Option (List (Nat × Nat × Bool))} {ops : Array Oper} {l : List Oper} {i : Nat} {kk : List Todo} {d : Option Nat} {s : List V} {Q : Ex → St → Prop} {S : Src} {k : Nat} {vs : List V} {ar : List Arr} {h : Heap}

def GoodSites (S : Src) (v : V) (h' : Heap) : Prop := ∃ (k' : Nat) (ar : List Arr) (cs : List Chn) (cid ver : Nat), v = .agg [.sl cid ver 0 4 none] ∧ h' = ⟨[S.v k'], ar⟩ ∧ ar[cid]? = some ⟨cs.map encC, ver, true, 5⟩ ∧ cs.length = 4 ∧ ∀ j c, cs[j]? = some c → ChOk ar j c
theorem rsp_of {r : V} (h : r = .nils ∨ ∃ es, r = .fl true false es) : ∃ o, r = encRsp o := by
  rcases h with rfl | ⟨es, rfl⟩
  · exact ⟨none, rfl⟩
  · exact ⟨some es, rfl⟩

set_option maxHeartbeats 8000000 in
theorem sites_ev : ∃ v h', Ev TE 51 [.ptr 0 0, .int .i64 4] ⟨[S.v k], []⟩ v h' ∧ GoodSites S v h' := by
  refine spec_raw 72 [.cell 4 49] rfl rfl rfl Tryz.func51 rfl rfl rfl fun Q hQ hN => ?_
  simp
  obtain ⟨I, hI⟩ : ∃ I : Nat → (Nat → V) → Heap → Prop, I = fun m f hp => ∃ (j k' : Nat) (ar : List Arr) (cs : List Chn), j + m = 4 ∧ f 6 = .int .i64 j ∧ cs.length = j ∧ SInv ar cs ∧ hp = ⟨[S.v k'], ar⟩ ∧
      ((j = 0 ∧ f 5 = .box (.agg [.nils])) ∨ (0 < j ∧ ∃ cid ver, f 5 = .box (.agg [.sl cid ver 0 j none]) ∧ ar[cid]? = some ⟨cs.map encC, ver, true, 5⟩)) := ⟨_, rfl⟩
  refine wLp_ind [5, 6, 7, 8, 9, 10, 11, 12, 13, 14, 15, 16, 17, 18, 19, 20, 21, 22, 23, 24, 25, 26, 27, 28, 29, 30, 31, 32, 33, 34, 35, 36, 37, 38, 39, 40, 41, 42, 43, 44, 45, 46, 47, 48, 49, 50, 51, 52, 53, 54, 55, 56, 57, 58, 59, 60, 61, 62, 63, 64, 65, 66, 67, 68, 69, 70] I 4
    (by rw [hI]; exact ⟨0, _, [], [], by simp, rfl, rfl, ⟨by simp [LowAr], by simp⟩, rfl, .inl ⟨rfl, rfl⟩⟩) ?_
  intro m f hp hi
  rw [hI] at hi
  obtain ⟨j, k', ar, cs, hm, f6, hj, hv, rfl, hi⟩ := hi
  by_cases hlt : j < 4
  · have e6 : IntKind.i64.wrap ((j : Int) + 1) = ((j + 1 : Nat) : Int) := wrap_id (by omega) (by omega)
    have hj4 : (j : Int) < 4 := by omega
    have hj6 : (j : Int) < 6 := by omega
    have hj6' : j < 6 := by omega
    have q1 := S.r_lt k' (n := 121) (by omega)
    have q2 := S.r_lt (k' + 1) (n := 121) (by omega)
    have q3 := S.r_lt (k' + 2) (n := 61) (by omega)
    rcases hi with ⟨hj0, f5⟩ | ⟨h2, cid, ver, f5, hcid⟩
    · simp [f5, f6, hj4, hj6]
      refine wK_spec _ (resp_ev hv.lo) ?_
      rintro v h' ⟨k2, r, rfl, hr, rfl⟩
      obtain ⟨o, rfl⟩ := rsp_of hr
      clear hr
      by_cases c0 : S.r k2 6 = 0
      · simp [srcL, hj6', c0]
        refine wK_spec _ (resp_ev (hv.push _ (lows_low (Lows.nil.ep [⟨_, _, _, _, _, _⟩] rfl))).lo) ?_
        rintro v h' ⟨k3, r, rfl, hr, rfl⟩
        obtain ⟨o2, rfl⟩ := rsp_of hr
        clear hr
        have q4 := S.r_lt (k2 + 1 + 1) (n := 121) (by omega)
        have q5 := S.r_lt (k2 + 1 + 1 + 1) (n := 121) (by omega)
        have q6 := S.r_lt (k2 + 1 + 1 + 2) (n := 61) (by omega)
        simp [appendV, grow, roomV, lowAll, e6]
        refine loopK_normal ?_ (m - 1) ?_ ?_
        · rfl
        · omega
        rw [hI]
        subst hj0
        refine ⟨1, _, _, cs ++ [⟨0, ar.length + 1, 2, none⟩], by omega, rfl, by simp [hj], fin_new hv _ _ (Lows.nil.ch ⟨0, ar.length + 1, 2, none⟩ rfl (by simp) |>.ch ⟨0, ar.length + 1, 2, none⟩ rfl (by simp) |>.ep [⟨_, _, _, _, _, _⟩, ⟨_, _, _, _, _, _⟩] rfl |>.ep [⟨_, _, _, _, _, _⟩] rfl) hj rfl [⟨_, _, _, _, _, _⟩, ⟨_, _, _, _, _, _⟩] true (by simp; exact ⟨rfl, rfl⟩) rfl (by simp) (by simp [EpOk]; omega), rfl, .inr ⟨by omega, _, _, rfl, ?_⟩⟩
        obtain rfl : cs = [] := List.length_eq_zero_iff.1 hj
        simp
      · by_cases c1 : S.r k2 6 = 1
        · have q4 := S.r_lt (k2 + 1) (n := 1500) (by omega)
          simp [srcL, hj6', c1, appendV, grow, e6]
          refine loopK_normal ?_ (m - 1) ?_ ?_
          · rfl
          · omega
          rw [hI]
          subst hj0
          refine ⟨1, _, _, cs ++ [⟨0, ar.length, 1, some 1⟩], by omega, rfl, by simp [hj], fin_new hv _ _ (Lows.nil.ch ⟨0, ar.length, 1, some 1⟩ rfl (by simp) |>.ch ⟨0, ar.length, 1, some 1⟩ rfl (by simp) |>.ep [⟨_, _, _, _, _, _⟩] rfl) hj rfl [⟨_, _, _, _, _, _⟩] false (by simp; rfl) rfl (by simp) (by simp [EpOk]; omega), rfl, .inr ⟨by omega, _, _, rfl, ?_⟩⟩
          obtain rfl : cs = [] := List.length_eq_zero_iff.1 hj
          simp
        · have b0 : (S.r k2 6 == 0) = false := by simp [c0]
          have b1 : (S.r k2 6 == 1) = false := by simp [c1]
          simp [srcL, hj6', b0, b1, appendV, grow, e6]
          refine loopK_normal ?_ (m - 1) ?_ ?_
          · rfl
          · omega
          rw [hI]
          subst hj0
          refine ⟨1, _, _, cs ++ [⟨0, ar.length, 1, some 1⟩], by omega, rfl, by simp [hj], fin_new hv _ _ (Lows.nil.ch ⟨0, ar.length, 1, some 1⟩ rfl (by simp) |>.ch ⟨0, ar.length, 1, some 1⟩ rfl (by simp) |>.ep [⟨_, _, _, _, _, _⟩] rfl) hj rfl [⟨_, _, _, _, _, _⟩] false (by simp; rfl) rfl (by simp) (by simp [EpOk]; omega), rfl, .inr ⟨by omega, _, _, rfl, ?_⟩⟩
          obtain rfl : cs = [] := List.length_eq_zero_iff.1 hj
          simp
    · have hlt' : cid < ar.length := (List.getElem?_eq_some_iff.1 hcid).1
      have hcid' : ∀ X, (ar ++ X)[cid]? = some ⟨cs.map encC, ver, true, 5⟩ := fun X => by rw [List.getElem?_append_left hlt']; exact hcid
      have hb1 : (j + 1) * 88 ≤ 140737488355328 := by omega
      simp [f5, f6, hj4, hj6]
      refine wK_spec _ (resp_ev hv.lo) ?_
      rintro v h' ⟨k2, r, rfl, hr, rfl⟩
      obtain ⟨o, rfl⟩ := rsp_of hr
      clear hr
      by_cases c0 : S.r k2 6 = 0
      · simp [srcL, hj6', c0]
        refine wK_spec _ (resp_ev (hv.push _ (lows_low (Lows.nil.ep [⟨_, _, _, _, _, _⟩] rfl))).lo) ?_
        rintro v h' ⟨k3, r, rfl, hr, rfl⟩
        obtain ⟨o2, rfl⟩ := rsp_of hr
        clear hr
        have q4 := S.r_lt (k2 + 1 + 1) (n := 121) (by omega)
        have q5 := S.r_lt (k2 + 1 + 1 + 1) (n := 121) (by omega)
        have q6 := S.r_lt (k2 + 1 + 1 + 2) (n := 61) (by omega)
        simp [appendV, grow, roomV, lowAll, e6, hcid', hj, hb1]
        refine loopK_normal ?_ (m - 1) ?_ ?_
        · rfl
        · omega
        rw [hI]
        have hf := fin_set hv hcid [⟨[encE ⟨0, IntKind.i64.wrap (1500 + S.r (k2 + 1) 500), S.r k' 121 - 60, S.r (k' + 1) 121 - 60, S.r (k' + 2) 61, o⟩], 0, false, 8⟩, ⟨[encE ⟨0, IntKind.i64.wrap (1500 + S.r (k2 + 1) 500), S.r k' 121 - 60, S.r (k' + 1) 121 - 60, S.r (k' + 2) 61, o⟩, encE ⟨IntKind.i64.wrap (1500 + S.r (k2 + 1) 500), 100000, S.r (k2 + 1 + 1) 121 - 60, S.r (k2 + 1 + 1 + 1) 121 - 60, S.r (k2 + 1 + 1 + 2) 61, o2⟩], 0, true, 8⟩, ⟨[encC (Chn.mk j (ar.length + 1) 2 none)], 0, false, 5⟩] (Chn.mk j (ar.length + 1) 2 none)
          (Lows.nil.ch _ rfl (by simp) |>.ep [⟨0, IntKind.i64.wrap (1500 + S.r (k2 + 1) 500), S.r k' 121 - 60, S.r (k' + 1) 121 - 60, S.r (k' + 2) 61, o⟩, ⟨IntKind.i64.wrap (1500 + S.r (k2 + 1) 500), 100000, S.r (k2 + 1 + 1) 121 - 60, S.r (k2 + 1 + 1 + 1) 121 - 60, S.r (k2 + 1 + 1 + 2) 61, o2⟩] rfl |>.ep [⟨0, IntKind.i64.wrap (1500 + S.r (k2 + 1) 500), S.r k' 121 - 60, S.r (k' + 1) 121 - 60, S.r (k' + 2) 61, o⟩] rfl) hj rfl [⟨0, IntKind.i64.wrap (1500 + S.r (k2 + 1) 500), S.r k' 121 - 60, S.r (k' + 1) 121 - 60, S.r (k' + 2) 61, o⟩, ⟨IntKind.i64.wrap (1500 + S.r (k2 + 1) 500), 100000, S.r (k2 + 1 + 1) 121 - 60, S.r (k2 + 1 + 1 + 1) 121 - 60, S.r (k2 + 1 + 1 + 2) 61, o2⟩] true (by simp) rfl (by simp) (by simp [EpOk]; omega) (ver + 1)
        exact ⟨j + 1, _, _, cs ++ [Chn.mk j (ar.length + 1) 2 none], by omega, rfl, by simp [hj], hf.1, rfl, .inr ⟨by omega, _, _, rfl, hf.2⟩⟩
      · by_cases c1 : S.r k2 6 = 1
        · simp [srcL, hj6', c1, appendV, roomV, lowAll, e6, hcid', hj, hb1]
          refine loopK_normal ?_ (m - 1) ?_ ?_
          · rfl
          · omega
          rw [hI]
          have hf := fin_set hv hcid [⟨[encE ⟨S.r (k2 + 1) 1500, 100000, S.r k' 121 - 60, S.r (k' + 1) 121 - 60, S.r (k' + 2) 61, o⟩], 0, false, 8⟩, ⟨[encC ⟨j, ar.length, 1, some 1⟩], 0, false, 5⟩] ⟨j, ar.length, 1, some 1⟩ (Lows.nil.ch _ rfl (by simp) |>.ep [⟨S.r (k2 + 1) 1500, 100000, S.r k' 121 - 60, S.r (k' + 1) 121 - 60, S.r (k' + 2) 61, o⟩] rfl) hj rfl [⟨S.r (k2 + 1) 1500, 100000, S.r k' 121 - 60, S.r (k' + 1) 121 - 60, S.r (k' + 2) 61, o⟩] false (by simp) rfl (by simp) (by simp [EpOk]; omega) (ver + 1)
          exact ⟨j + 1, _, _, cs ++ [Chn.mk j ar.length 1 (some 1)], by omega, rfl, by simp [hj], hf.1, rfl, .inr ⟨by omega, _, _, rfl, hf.2⟩⟩
        · have b0 : (S.r k2 6 == 0) = false := by simp [c0]
          have b1 : (S.r k2 6 == 1) = false := by simp [c1]
          simp [srcL, hj6', b0, b1, appendV, roomV, lowAll, e6, hcid', hj, hb1]
          refine loopK_normal ?_ (m - 1) ?_ ?_
          · rfl
          · omega
          rw [hI]
          have hf := fin_set hv hcid [⟨[encE ⟨0, 100000, S.r k' 121 - 60, S.r (k' + 1) 121 - 60, S.r (k' + 2) 61, o⟩], 0, false, 8⟩, ⟨[encC ⟨j, ar.length, 1, some 1⟩], 0, false, 5⟩] ⟨j, ar.length, 1, some 1⟩ (Lows.nil.ch _ rfl (by simp) |>.ep [⟨0, 100000, S.r k' 121 - 60, S.r (k' + 1) 121 - 60, S.r (k' + 2) 61, o⟩] rfl) hj rfl [⟨0, 100000, S.r k' 121 - 60, S.r (k' + 1) 121 - 60, S.r (k' + 2) 61, o⟩] false (by simp) rfl (by simp) (by simp [EpOk]; omega) (ver + 1)
          exact ⟨j + 1, _, _, cs ++ [Chn.mk j ar.length 1 (some 1)], by omega, rfl, by simp [hj], hf.1, rfl, .inr ⟨by omega, _, _, rfl, hf.2⟩⟩
  · have e : j = 4 := by omega
    have e' : m = 0 := by omega
    subst e e'
    rcases hi with ⟨hj0, f5⟩ | ⟨h2, cid, ver, f5, hcid⟩
    · cases hj0
    · simp [f5, f6, hQ]
      exact ⟨_, _, cs, _, _, rfl, rfl, hcid, hj, hv.ok⟩
end
end Go.DM
