/-
  What 'simp' works with, and how records, stores, archives and the source of numbers stand as the evaluator's values. Numbers from a list: what the functions that read them come to. Tables of travel times. Scales, settings, rules, setups. Setups.
-/
import Derived.Test.YtpfhhcjdknmbbaaGreatDoorB1
import Derived.Test.YtpfhhcjdknmbbaaGreatDoorA6
set_option linter.all false
set_option linter.unusedSimpArgs false
set_option linter.unusedVariables false
namespace Go.DM
open Go.Proofs

attribute [simp] optP_some optP_none optP_map optP_bind optP_cond optP_ncond kont_nil kont_code kont_code_exit kont_code_ret kont_blk kont_blk_exit kont_blk_ret wS_seq wS_block wS_skip wS_label wS_exit wS_ret wS_loop wS_cond wB_true wB_false wS_region wS_draw
  tidyF_nil tidyF_consN tidyF_none wR_nil wV_some wV_none wV_cond wV_ncond wP_some wP_none wP_cond wP_ncond callOk_none callOk_same callOk_some wR_move wR_binOp wR_assign wR_fieldAddr wR_index wR_makeSlice wR_build wR_alloc wR_box wR_buildSlice wR_pick wR_unOp wR_nilCheck
  wR_convert wR_extract wR_makeFunc wR_loadN wR_loadA wR_storeN wR_storeA wR_sliceN wR_sliceA wR_indexAddrN wR_indexAddrA wR_callF wR_callT wCl_fn wR_guardL wG_true wG_false wR_builtin builtV wH_some wH_none wH_cond lenV_str lenV_fl lenV_nils lenV_sl nilEq_fl nilEq_sl loopK_exit loopK_ret
  ofVal ofCell? putV binV isShift intBin resL mapO frz clean newV newS zeroV buildV notV chkV extrV mkV pickV getAt setAt rdMem loadV wrMem storeV fieldAddrV indexAddrV indexV
  sliceV fillV setPart eqCells eqCell isEqOp annOk annLoc annV0 dirtyAt strBin

@[simp] theorem heapEq0_cons {v v' : V} {vs : List V} {ar : List Arr} : heapEq0 ⟨v :: vs, ar⟩ ⟨v' :: vs, ar⟩ = true := by simp [heapEq0, veqs_refl, arrsEq_refl]
@[simp] theorem wrap_lt {x : Int} : IntKind.i64.wrap x < 9223372036854775808 := by rw [IntKind.wrap_i64]; omega

/-! numbers from a list -/
structure Src where
  c : V
  L : List Int
  hL : L.length ≤ 2000
  hc : (∃ t g, c = .fl t g (L.map (.int .i64))) ∨ (c = .nils ∧ L = [])
def Src.v (S : Src) (k : Nat) : V := .agg [S.c, .int .i64 (min k S.L.length : Nat)]
def modG (x n : Int) : Int := if n < 1 then 0 else x % n
def Src.r (S : Src) (k : Nat) (n : Int) : Int := modG (S.L.getD k 0) n
theorem Src.r_lt (S : Src) (k : Nat) {n : Int} (h : 1 ≤ n) : 0 ≤ S.r k n ∧ S.r k n < n := by
  unfold Src.r modG
  rw [if_neg (by omega)]
  exact ⟨Int.emod_nonneg _ (by omega), Int.emod_lt_of_pos _ (by omega)⟩

theorem wide_ints {P : Program} {h : Heap} {t : TypeId} {a b : Bool} {l : List Int} (h1 : tElem P t = some 3) (h2 : P.cellsOf 3 = 1) : wideOk P h t (.fl a b (l.map (.int .i64))) = true := by
  unfold wideOk; rw [h1]; cases l <;> simp [h2, V.cells]
@[simp] theorem wideOk_nils {P : Program} {H : Heap} {t : TypeId} (h : (tElem P t).isSome = true) : wideOk P H t .nils = true := h
@[simp] theorem wideOk_sl {P : Program} {H : Heap} {t : TypeId} {id v o l : Nat} {c : Option Nat} : wideOk P H t (.sl id v o l c) = match tElem P t, H.arrs[id]? with
  | some e, some A => A.sz == P.cellsOf e
  | _, _ => false := (rfl)
@[simp] theorem wideOk_fl_nil {P : Program} {H : Heap} {t : TypeId} {a b : Bool} : wideOk P H t (.fl a b []) = (tElem P t).isSome := by unfold wideOk; cases tElem P t <;> rfl
@[simp] theorem wideOk_fl_cons {P : Program} {H : Heap} {t : TypeId} {a b : Bool} {x : V} {l : List V} : wideOk P H t (.fl a b (x :: l)) = match tElem P t with
  | some e => x.cells.length == P.cellsOf e
  | none => false := (rfl)
@[simp] theorem elemsOf_nils {H : Heap} : elemsOf H .nils = some [] := (rfl)
@[simp] theorem elemsOf_fl {H : Heap} {a b : Bool} {l : List V} : elemsOf H (.fl a b l) = some l := (rfl)
@[simp] theorem elemsOf_sl {H : Heap} {id ver off len : Nat} {c : Option Nat} : elemsOf H (.sl id ver off len c) = (H.arrs[id]?).bind fun A =>
      bif A.ver == ver && decide (off + len ≤ A.elems.length) then some ((A.elems.drop off).take len) else none := by simp [elemsOf]
@[simp] theorem wrap_0 : IntKind.i64.wrap 0 = 0 := by rw [IntKind.wrap_i64]; omega
@[simp] theorem wrap_1 : IntKind.i64.wrap 1 = 1 := by rw [IntKind.wrap_i64]; omega
@[simp] theorem wrap_lit {n : Nat} (h : n < 9223372036854775808) : IntKind.i64.wrap (OfNat.ofNat n : Int) = (OfNat.ofNat n : Int) := by
  show IntKind.i64.wrap (n : Int) = (n : Int)
  exact wrap_id (by omega) (by omega)
@[simp] theorem wide_ints22 {h : Heap} {a b : Bool} {l : List Int} : wideOk TE.P h 22 (.fl a b (l.map (.int .i64))) = true := wide_ints te_22 tc_3
theorem fl_ints_all {l : List Int} : (l.map (V.int .i64)).all (fun e => e.cells.all V.gnd) = true := by simp [List.all_eq_true, V.cells, V.gnd]

def Src.pk (S : Src) (k : Nat) (l : List Int) : Int := l.getD (S.r k l.length).toNat 0
theorem Src.pk_mem (S : Src) (k : Nat) {l : List Int} (h : 1 ≤ l.length) : S.pk k l ∈ l := by
  have := S.r_lt k (n := l.length) (by omega)
  unfold Src.pk
  rw [List.getD_eq_getElem?_getD, List.getElem?_eq_getElem (by omega)]
  exact List.getElem_mem _

@[simp] theorem nsl {n : Nat} : (n + 1 ≤ n) = False := by simp

@[simp] theorem src_low {S : Src} {k nv na : Nat} : low nv na (S.v k) = true := by
  rcases S.hc with ⟨t, g, h⟩ | ⟨h, _⟩ <;> simp [low, Src.v, h, lowC, lowC0]
@[simp] theorem lowHeap_simp {nv na : Nat} {vs : List V} {ar : List Arr} : lowHeap nv na ⟨vs, ar⟩ = (vs.all (low nv na) && ar.all fun a => a.elems.all (low nv na)) := (rfl)
attribute [simp] mapO_ints
@[simp] theorem take_map_all {α β : Type} {f : α → β} {l : List α} : (l.map f).take l.length = l.map f := List.take_of_length_le (by simp)

/-! records -/
def stB (i : Nat) : UInt8 := (49 + i).toUInt8
def srcL (i : Nat) : List V := [.str [65, 66], .str [83, stB i], .str [48, 48], .str [66, 72, 90]]
def encR (r : Rec) : V := .agg [.str [65, 66], .str [83, stB r.i], .str [48, 48], .str [66, 72, 90], .int .i64 0, .int .i64 r.first, .int .i64 100, .int .i64 1, .int .i64 r.err, .int .i64 0, .int .i64 r.seq, .fl true false (r.smp.map (.int .i64))]
structure OkR (r : Rec) : Prop where
  i : r.i < 6
  pos : 1 ≤ r.smp.length
  len : r.first + r.smp.length ≤ 1000
  err : r.err ≤ 1000
  seq : r.seq ≤ 1000
  smp : ∀ x ∈ r.smp, -1000000 ≤ x ∧ x ≤ 1000000
def encS (p : Nat × List Rec) : V := .agg [.str [65, 66], .str [83, stB p.1], .str [48, 48], .str [66, 72, 90], .fl true false (p.2.map encR)]
def encA (a : Arch) : V := match a with
  | [] => .agg [.nils]
  | a => .agg [.fl true false (a.map encS)]
end Go.DM
namespace Go.DM
open Go.Proofs
set_option maxRecDepth 100000

theorem mod_ev (x n : Int) {h : Heap} (hn : n < 9223372036854775808) : Ev TE 13 [.int .i64 x, .int .i64 n] h (.int .i64 (modG x n)) h := by
  refine ev_pure 16 [.tmp 4] rfl rfl rfl Tryz.func13 rfl rfl rfl rfl fun Q hQ hN => ?_
  by_cases h1 : n < 1
  · simp [hQ, h1, modG]
  · have h0 : ¬ n = 0 := by omega
    have h4 := Int.emod_lt_of_pos x (show 0 < n by omega)
    have h5 := Int.emod_nonneg x (show n ≠ 0 by omega)
    by_cases h2 : x.tmod n < 0
    · have h3 : x.tmod n = x % n - n := by
        have := Int.tmod_eq_emod (a := x) (b := n)
        split at this <;> omega
      simp [hQ, h1, h2, h0]
      rw [wrap_id (by omega) (by omega)]
      simp only [modG]; rw [if_neg h1]; omega
    · have h3 : x.tmod n = x % n := by
        have := Int.tmod_eq_emod (a := x) (b := n)
        split at this <;> omega
      simp [hQ, h1, h2, h0]
      simp only [modG]; rw [if_neg h1]; exact h3

section
variable {fn : Nat} {an : Option (List (Nat × Nat × Bool))} {ops : Array Oper} {l : List Oper} {i : Nat} {kk : List Todo} {d : Option Nat} {s : List V} {Q : Ex → St → Prop} {S : Src} {k : Nat} {vs : List V} {ar : List Arr} {h : Heap}

@[simp] theorem wK_13 {x n : Int} (hn : n < 9223372036854775808) : wK TE fn an ops l i kk d s 13 [.int .i64 x, .int .i64 n] h Q = wR TE fn an ops l (i + 1) kk ⟨putV s d (.int .i64 (modG x n)), h⟩ Q := by
  rw [wK_ev (mod_ev x n hn)]; simp

theorem raw_ev : Ev TE 61 [.ptr 0 0] ⟨S.v k :: vs, ar⟩ (.int .i64 (S.L.getD k 0)) ⟨S.v (k + 1) :: vs, ar⟩ := by
  refine ev_raw 31 [.tmp 2] rfl rfl rfl Tryz.func61 rfl rfl rfl fun Q hQ hN => ?_
  have hL := S.hL
  by_cases hk : k < S.L.length
  · have e1 : min k S.L.length = k := by omega
    have e2 : min (k + 1) S.L.length = k + 1 := by omega
    rcases S.hc with ⟨t, g, hc⟩ | ⟨hc, hn⟩
    · have hk' : ¬ S.L.length ≤ k := by omega
      simp [hQ, Src.v, hc, e1, e2, hk, hk']
      simp (disch := omega) only [wrap_id]
      simp [hQ, hk]
      simp [Src.v, hc, e2]
    · rw [hn] at hk; simp at hk
  · have e1 : min k S.L.length = S.L.length := by omega
    have e2 : min (k + 1) S.L.length = S.L.length := by omega
    have e3 : S.L[k]? = none := by simp; omega
    rcases S.hc with ⟨t, g, hc⟩ | ⟨hc, hn⟩
    · simp [hQ, Src.v, hc, e1, e2, e3]
    · simp [hQ, Src.v, hc, hn]
@[simp] theorem wK_61 : wK TE fn an ops l i kk d s 61 [.ptr 0 0] ⟨S.v k :: vs, ar⟩ Q = (callOk an i ⟨S.v k :: vs, ar⟩ ⟨S.v (k + 1) :: vs, ar⟩ = true ∧ wR TE fn an ops l (i + 1) kk ⟨putV s d (.int .i64 (S.L.getD k 0)), ⟨S.v (k + 1) :: vs, ar⟩⟩ Q) := by
  rw [wK_ev raw_ev]; simp

theorem n_ev {n : Int} (hn : n < 9223372036854775808) : Ev TE 15 [.ptr 0 0, .int .i64 n] ⟨S.v k :: vs, ar⟩ (.int .i64 (S.r k n)) ⟨S.v (k + 1) :: vs, ar⟩ := by
  refine ev_raw 9 [.tmp 4] rfl rfl rfl Tryz.func15 rfl rfl rfl fun Q hQ hN => ?_
  simp [hQ, hn, Src.r]
@[simp] theorem wK_15 {n : Int} (hn : n < 9223372036854775808) : wK TE fn an ops l i kk d s 15 [.ptr 0 0, .int .i64 n] ⟨S.v k :: vs, ar⟩ Q = (callOk an i ⟨S.v k :: vs, ar⟩ ⟨S.v (k + 1) :: vs, ar⟩ = true ∧ wR TE fn an ops l (i + 1) kk ⟨putV s d (.int .i64 (S.r k n)), ⟨S.v (k + 1) :: vs, ar⟩⟩ Q) := by
  rw [wK_ev (n_ev hn)]; simp

theorem place_ev {most : Int} (h0 : 0 ≤ most) (h1 : most ≤ 1000) : Ev TE 107 [.ptr 0 0, .int .i64 most] ⟨S.v k :: vs, ar⟩ (.agg [.int .i64 (S.r k (2 * most + 1) - most), .int .i64 (S.r (k + 1) (2 * most + 1) - most), .int .i64 (S.r (k + 2) (most + 1))]) ⟨S.v (k + 3) :: vs, ar⟩ := by
  refine ev_raw 24 [.cell 4 26] rfl rfl rfl Tryz.func107 rfl rfl rfl fun Q hQ hN => ?_
  have a1 := S.r_lt k (n := 2 * most + 1) (by omega)
  have a2 := S.r_lt (k + 1) (n := 2 * most + 1) (by omega)
  simp [hQ]
  simp (disch := omega) only [wrap_id]
  simp [Nat.add_assoc]
@[simp] theorem wK_107 {most : Int} (h0 : 0 ≤ most) (h1 : most ≤ 1000) : wK TE fn an ops l i kk d s 107 [.ptr 0 0, .int .i64 most] ⟨S.v k :: vs, ar⟩ Q = (callOk an i ⟨S.v k :: vs, ar⟩ ⟨S.v (k + 3) :: vs, ar⟩ = true ∧ wR TE fn an ops l (i + 1) kk ⟨putV s d (.agg [.int .i64 (S.r k (2 * most + 1) - most), .int .i64 (S.r (k + 1) (2 * most + 1) - most), .int .i64 (S.r (k + 2) (most + 1))]), ⟨S.v (k + 3) :: vs, ar⟩⟩ Q) := by
  rw [wK_ev (place_ev h0 h1)]; simp

theorem sq_ev {x : Int} : Ev TE 54 [.int .i64 x] h (.int .i64 (IntKind.i64.wrap (x * x))) h := by
  refine ev_pure 6 [.tmp 2] rfl rfl rfl Tryz.func54 rfl rfl rfl rfl fun Q hQ hN => ?_
  simp [hQ]
@[simp] theorem wK_54 {x : Int} : wK TE fn an ops l i kk d s 54 [.int .i64 x] h Q = wR TE fn an ops l (i + 1) kk ⟨putV s d (.int .i64 (IntKind.i64.wrap (x * x))), h⟩ Q := by
  rw [wK_ev sq_ev]; simp

/-- Pick of a literal's numbers. -/
theorem pick_ev {t g : Bool} {l : List Int} (h0 : 1 ≤ l.length) (h1 : l.length ≤ 100) : Ev TE 33 [.ptr 0 0, .fl t g (l.map (.int .i64))] ⟨S.v k :: vs, ar⟩ (.int .i64 (S.pk k l)) ⟨S.v (k + 1) :: vs, ar⟩ := by
  refine ev_raw 12 [.tmp 4] rfl rfl rfl Tryz.func33 rfl rfl rfl fun Q hQ hN => ?_
  have a1 := S.r_lt k (n := l.length) (by omega)
  have h2 : (S.r k l.length).toNat < l.length := by omega
  have h3 : (l.length : Int) < 9223372036854775808 := by omega
  simp [hQ, a1, h2, h3, Src.pk]
@[simp] theorem wK_33_2 {t g : Bool} {a b : Int} : wK TE fn an ops l i kk d s 33 [.ptr 0 0, .fl t g [.int .i64 a, .int .i64 b]] ⟨S.v k :: vs, ar⟩ Q = (callOk an i ⟨S.v k :: vs, ar⟩ ⟨S.v (k + 1) :: vs, ar⟩ = true ∧ wR TE fn an ops l (i + 1) kk ⟨putV s d (.int .i64 (S.pk k [a, b])), ⟨S.v (k + 1) :: vs, ar⟩⟩ Q) := by
  exact (wK_ev (pick_ev (t := t) (g := g) (l := [a, b]) (by simp) (by simp))).trans (by simp)
@[simp] theorem wK_33_3 {t g : Bool} {a b c : Int} : wK TE fn an ops l i kk d s 33 [.ptr 0 0, .fl t g [.int .i64 a, .int .i64 b, .int .i64 c]] ⟨S.v k :: vs, ar⟩ Q = (callOk an i ⟨S.v k :: vs, ar⟩ ⟨S.v (k + 1) :: vs, ar⟩ = true ∧ wR TE fn an ops l (i + 1) kk ⟨putV s d (.int .i64 (S.pk k [a, b, c])), ⟨S.v (k + 1) :: vs, ar⟩⟩ Q) := by
  exact (wK_ev (pick_ev (t := t) (g := g) (l := [a, b, c]) (by simp) (by simp))).trans (by simp)
@[simp] theorem wK_33_4 {t g : Bool} {a b c e : Int} : wK TE fn an ops l i kk d s 33 [.ptr 0 0, .fl t g [.int .i64 a, .int .i64 b, .int .i64 c, .int .i64 e]] ⟨S.v k :: vs, ar⟩ Q = (callOk an i ⟨S.v k :: vs, ar⟩ ⟨S.v (k + 1) :: vs, ar⟩ = true ∧ wR TE fn an ops l (i + 1) kk ⟨putV s d (.int .i64 (S.pk k [a, b, c, e])), ⟨S.v (k + 1) :: vs, ar⟩⟩ Q) := by
  exact (wK_ev (pick_ev (t := t) (g := g) (l := [a, b, c, e]) (by simp) (by simp))).trans (by simp)
@[simp] theorem wK_33_5 {t g : Bool} {a b c e f : Int} : wK TE fn an ops l i kk d s 33 [.ptr 0 0, .fl t g [.int .i64 a, .int .i64 b, .int .i64 c, .int .i64 e, .int .i64 f]] ⟨S.v k :: vs, ar⟩ Q = (callOk an i ⟨S.v k :: vs, ar⟩ ⟨S.v (k + 1) :: vs, ar⟩ = true ∧ wR TE fn an ops l (i + 1) kk ⟨putV s d (.int .i64 (S.pk k [a, b, c, e, f])), ⟨S.v (k + 1) :: vs, ar⟩⟩ Q) := by
  exact (wK_ev (pick_ev (t := t) (g := g) (l := [a, b, c, e, f]) (by simp) (by simp))).trans (by simp)

theorem range_ev {lo hi : Int} (h0 : -1000 ≤ lo) (h1 : lo ≤ hi) (h2 : hi ≤ 1000) : Ev TE 109 [.ptr 0 0, .int .i64 lo, .int .i64 hi] ⟨S.v k :: vs, ar⟩ (.int .i64 (lo + S.r k (hi - lo + 1))) ⟨S.v (k + 1) :: vs, ar⟩ := by
  refine ev_raw 15 [.tmp 6] rfl rfl rfl Tryz.func109 rfl rfl rfl fun Q hQ hN => ?_
  have a1 := S.r_lt k (n := hi - lo + 1) (by omega)
  simp [hQ]
  simp (disch := omega) only [wrap_id]

theorem source_ev {n : Nat} (hn : n < 6) : Ev TE 28 [.int .i64 n] h (.agg (srcL n)) h := by
  have : n = 0 ∨ n = 1 ∨ n = 2 ∨ n = 3 ∨ n = 4 ∨ n = 5 := by omega
  rcases this with rfl | rfl | rfl | rfl | rfl | rfl <;> exact ev_of_run (n := 9) (by kernel_rfl)
@[simp] theorem wK_28 {n : Nat} (hn : n < 6) : wK TE fn an ops l i kk d s 28 [.int .i64 n] h Q = wR TE fn an ops l (i + 1) kk ⟨putV s d (.agg (srcL n)), h⟩ Q := by
  rw [wK_ev (source_ev hn)]; simp [srcL]

theorem box_ev : Ev TE 172 [.ptr 0 0, .int .i64 20, .int .i64 2] ⟨S.v k :: vs, ar⟩ (.agg [.int .i64 (S.r k 41 - 20), .int .i64 (S.r (k + 1) 41 - 20), .int .i64 (S.r (k + 2) 21),
    .int .i64 (S.r k 41 - 20 + S.r (k + 3) 3), .int .i64 (S.r (k + 1) 41 - 20 + S.r (k + 4) 3), .int .i64 (S.r (k + 2) 21 + S.r (k + 5) 3)]) ⟨S.v (k + 6) :: vs, ar⟩ := by
  refine ev_raw 35 [.cell 6 28] rfl rfl rfl Tryz.func172 rfl rfl rfl fun Q hQ hN => ?_
  have a1 := S.r_lt k (n := 41) (by omega)
  have a2 := S.r_lt (k + 1) (n := 41) (by omega)
  have a3 := S.r_lt (k + 2) (n := 21) (by omega)
  have a4 := S.r_lt (k + 3) (n := 3) (by omega)
  have a5 := S.r_lt (k + 4) (n := 3) (by omega)
  have a6 := S.r_lt (k + 5) (n := 3) (by omega)
  simp [hQ, Nat.add_assoc]
  simp (disch := omega) only [wrap_id, and_self]
@[simp] theorem wK_172 : wK TE fn an ops l i kk d s 172 [.ptr 0 0, .int .i64 20, .int .i64 2] ⟨S.v k :: vs, ar⟩ Q = (callOk an i ⟨S.v k :: vs, ar⟩ ⟨S.v (k + 6) :: vs, ar⟩ = true ∧ wR TE fn an ops l (i + 1) kk ⟨putV s d (.agg [.int .i64 (S.r k 41 - 20), .int .i64 (S.r (k + 1) 41 - 20), .int .i64 (S.r (k + 2) 21),
    .int .i64 (S.r k 41 - 20 + S.r (k + 3) 3), .int .i64 (S.r (k + 1) 41 - 20 + S.r (k + 4) 3), .int .i64 (S.r (k + 2) 21 + S.r (k + 5) 3)]), ⟨S.v (k + 6) :: vs, ar⟩⟩ Q) := by
  rw [wK_ev box_ev]; simp

@[simp] theorem wK_109 {lo hi : Int} (h0 : -1000 ≤ lo) (h1 : lo ≤ hi) (h2 : hi ≤ 1000) : wK TE fn an ops l i kk d s 109 [.ptr 0 0, .int .i64 lo, .int .i64 hi] ⟨S.v k :: vs, ar⟩ Q = (callOk an i ⟨S.v k :: vs, ar⟩ ⟨S.v (k + 1) :: vs, ar⟩ = true ∧ wR TE fn an ops l (i + 1) kk ⟨putV s d (.int .i64 (lo + S.r k (hi - lo + 1))), ⟨S.v (k + 1) :: vs, ar⟩⟩ Q) := by
  rw [wK_ev (range_ev h0 h1 h2)]; simp

theorem point_ev {x y z u v w : Int} (h1 : -1000 ≤ x ∧ x ≤ u ∧ u ≤ 1000) (h2 : -1000 ≤ y ∧ y ≤ v ∧ v ≤ 1000) (h3 : -1000 ≤ z ∧ z ≤ w ∧ w ≤ 1000) :
    Ev TE 52 [.ptr 0 0, .agg [.int .i64 x, .int .i64 y, .int .i64 z, .int .i64 u, .int .i64 v, .int .i64 w]] ⟨S.v k :: vs, ar⟩
      (.agg [.int .i64 (x + S.r k (u - x + 1)), .int .i64 (y + S.r (k + 1) (v - y + 1)), .int .i64 (z + S.r (k + 2) (w - z + 1))]) ⟨S.v (k + 3) :: vs, ar⟩ := by
  refine ev_raw 30 [.cell 4 26] rfl rfl rfl Tryz.func52 rfl rfl rfl fun Q hQ hN => ?_
  simp [hQ, h1, h2, h3, Nat.add_assoc]

theorem new_ev {c : V} {L : List Int} (hc : (∃ t g, c = .fl t g (L.map (.int .i64))) ∨ (c = .nils ∧ L = [])) (hl : L.length < 9223372036854775808) : ∃ S : Src, Ev TE 9 [c] ⟨[], ar⟩ (.ptr 0 0) ⟨[S.v 0], ar⟩ := by
  rcases hc with ⟨t, g, rfl⟩ | ⟨rfl, rfl⟩
  · refine ⟨⟨.fl t (g && decide (min L.length 2000 = L.length)) ((L.take 2000).map (.int .i64)), L.take 2000, by simp; omega, .inl ⟨_, _, rfl⟩⟩, ?_⟩
    refine ev_raw 10 [.tmp 2] rfl rfl rfl Tryz.func9 rfl rfl rfl fun Q hQ hN => ?_
    simp [mmV, foldMM]
    by_cases hm : 2000 < L.length
    · have e : (2000 : Int) < L.length := by omega
      simp [hQ, e, Src.v, show min L.length 2000 = 2000 by omega, show (2000 ≤ L.length) by omega, show min 2000 L.length = 2000 by omega]
    · have e : ¬ (2000 : Int) < L.length := by omega
      simp [hQ, e, Src.v, show min L.length 2000 = L.length by omega, show min 2000 L.length = L.length by omega, show L.take 2000 = L from List.take_of_length_le (by omega), List.take_of_length_le]
  · refine ⟨⟨.nils, [], by simp, .inr ⟨rfl, rfl⟩⟩, ?_⟩
    refine ev_raw 10 [.tmp 2] rfl rfl rfl Tryz.func9 rfl rfl rfl fun Q hQ hN => ?_
    simp [hQ, mmV, foldMM, Src.v]

/-- times: each number by a factor. -/
theorem times_ev {t g : Bool} {l : List Int} {y : Int} (h0 : 1 ≤ l.length) (h1 : l.length ≤ 1000) : Ev TE 49 [.fl t g (l.map (.int .i64)), .int .i64 y] h (.fl true false ((l.map fun x => IntKind.i64.wrap (y * x)).map (.int .i64))) h := by
  refine ev_pure 22 [.tmp 4] rfl rfl rfl Tryz.func49 rfl rfl rfl (args' := [.fl t g (l.map (.int .i64)), .int .i64 y]) rfl fun Q hQ hN => ?_
  simp
  obtain ⟨I, hI⟩ : ∃ I : Nat → (Nat → V) → Heap → Prop, I = fun m f hp => ∃ j, j + m = l.length ∧ f 10 = .int .i64 j ∧ ((j = 0 ∧ f 5 = .nils ∧ hp = ⟨[], []⟩) ∨
    (0 < j ∧ ∃ ver, f 5 = .sl 0 ver 0 j none ∧ hp = ⟨[], [⟨((l.take j).map fun x => IntKind.i64.wrap (y * x)).map (.int .i64), ver, true, 1⟩]⟩)) := ⟨_, rfl⟩
  refine wLp_ind [5, 7, 10, 11, 12, 13, 14, 15, 16, 17, 18, 19, 20] I l.length (by rw [hI]; exact ⟨0, by simp, rfl, .inl ⟨rfl, rfl, rfl⟩⟩) ?_
  intro m f hp hi
  rw [hI] at hi
  obtain ⟨j, hj, f10, hi⟩ := hi
  by_cases hlt : j < l.length
  · obtain ⟨x, hx⟩ : ∃ x, l[j] = x := ⟨_, rfl⟩
    have hb : (j + 1) * 8 ≤ 140737488355328 := by omega
    have hw : IntKind.i64.wrap ((j : Int) + 1) = ((j + 1 : Nat) : Int) := wrap_id (by omega) (by omega)
    have ht : l.take (j + 1) = l.take j ++ [x] := by rw [List.take_add_one]; simp [hx, hlt]
    have hm : min j l.length = j := by omega
    rcases hi with ⟨rfl, f5, rfl⟩ | ⟨h2, ver, f5, rfl⟩
    · simp only [Int.natCast_zero] at f10 hw
      simp [f10, f5, hlt, hx, appendV, grow]
      refine loopK_normal ?_ (m - 1) ?_ ?_
      · rfl
      · omega
      rw [hI]
      exact ⟨1, by omega, rfl, .inr ⟨by omega, 0, rfl, by simp at ht; simp [ht]⟩⟩
    · simp [f10, f5, hlt, hx, appendV, hm, hb, hw, roomV, lowAll]
      refine loopK_normal ?_ (m - 1) ?_ ?_
      · rfl
      · omega
      rw [hI]
      exact ⟨j + 1, by omega, rfl, .inr ⟨by omega, _, rfl, by simp [ht]⟩⟩
  · rcases hi with ⟨rfl, f5, rfl⟩ | ⟨h2, ver, f5, rfl⟩
    · omega
    · have e : j = l.length := by omega
      subst e
      simp [f10, f5, hQ, -List.map_map, mapO_ints, clean_ints, List.take_of_length_le]
end
end Go.DM
namespace Go.DM
open Go.Proofs
set_option maxRecDepth 100000
section
variable {fn : Nat} {an : Option (List (Nat × Nat × Bool))} {ops : Array Oper} {l : List Oper} {i : Nat} {kk : List Todo} {d : Option Nat} {s : List V} {Q : Ex → St → Prop} {S : Src} {k : Nat} {vs : List V} {ar : List Arr} {h : Heap}

/-- Numbers from 0 to b. -/
def Within (b : Int) (l : List Int) : Prop := ∀ x ∈ l, 0 ≤ x ∧ x ≤ b

theorem get_snoc_self {α : Type} {l : List α} {x : α} : (l ++ [x])[l.length]? = some x := by simp
theorem table_ev : ∃ v h', Ev TE 173 [.ptr 0 0] ⟨S.v k :: vs, ar⟩ v h' ∧ ∃ k' st n lo hi v1 v2, v = .agg [.int .i64 st, .sl ar.length v1 0 n none, .sl (ar.length + 1) v2 0 n none] ∧
    h' = ⟨S.v k' :: vs, ar ++ [⟨lo.map (.int .i64), v1, true, 1⟩, ⟨hi.map (.int .i64), v2, true, 1⟩]⟩ ∧ st ∈ [20, 25, 40, 100] ∧ 1 ≤ n ∧ n ≤ 30 ∧ lo.length = n ∧ hi.length = n ∧ Within 10000 lo ∧ Within 10000 hi := by
  refine spec_raw 52 [.cell 2 30] rfl rfl rfl Tryz.func173 rfl rfl rfl fun Q hQ hN => ?_
  obtain ⟨st, hst⟩ : ∃ st, st = S.pk k [20, 25, 40, 100] := ⟨_, rfl⟩
  have hmem : st ∈ [20, 25, 40, 100] := hst ▸ S.pk_mem k (by simp)
  have hst1 : 20 ≤ st ∧ st ≤ 100 := by simp at hmem; omega
  have hq : 0 ≤ Int.tdiv 400 st ∧ Int.tdiv 400 st ≤ 20 := by simp at hmem; rcases hmem with rfl | rfl | rfl | rfl <;> decide
  have hq4 : 0 ≤ Int.tdiv st 4 ∧ Int.tdiv st 4 ≤ 25 := by simp at hmem; rcases hmem with rfl | rfl | rfl | rfl <;> decide
  have hr0 := S.r_lt (k + 1) (n := 3) (by omega)
  simp [← hst]
  obtain ⟨I, hI⟩ : ∃ I : Nat → (Nat → V) → Heap → Prop, I = fun m f hp => ∃ (j k' : Nat) (low high : Int) (lo hi : List Int), j + m = 30 ∧ j ≤ 23 ∧ f 6 = .int .i64 j ∧ f 4 = .int .i64 low ∧ f 5 = .int .i64 high ∧ 0 ≤ low ∧ low ≤ 60 * j ∧ 0 ≤ high ∧ high ≤ 90 * j + 2 ∧
      lo.length = j ∧ hi.length = j ∧ Within 10000 lo ∧ Within 10000 hi ∧
      ((j = 0 ∧ f 3 = .box (.agg [.int .i64 st, .nils, .nils]) ∧ hp = ⟨S.v k' :: vs, ar⟩) ∨
       (0 < j ∧ ∃ v1 v2, f 3 = .box (.agg [.int .i64 st, .sl ar.length v1 0 j none, .sl (ar.length + 1) v2 0 j none]) ∧
          hp = ⟨S.v k' :: vs, ar ++ [⟨lo.map (.int .i64), v1, true, 1⟩, ⟨hi.map (.int .i64), v2, true, 1⟩]⟩)) := ⟨_, rfl⟩
  refine wLp_ind [3, 4, 5, 6, 13, 14, 15, 16, 17, 18, 19, 20, 21, 22, 23, 24, 25, 26, 27, 28, 29, 30, 31, 32, 33, 34, 35, 36, 37, 38, 39, 40, 41, 42, 43, 44, 45, 46, 47, 48, 49, 50] I 30
    (by rw [hI]; exact ⟨0, _, 0, _, [], [], by omega, by omega, rfl, rfl, rfl, by omega, by omega, by omega, by omega, rfl, rfl, by simp [Within], by simp [Within], .inl ⟨rfl, rfl, rfl⟩⟩) ?_
  intro m f hp hi
  rw [hI] at hi
  obtain ⟨j, k', low, high, lo, hi', hm, hj, f6, f4, f5, l0, l1, u0, u1, n1, n2, w1, w2, hi⟩ := hi
  have hr := S.r_lt k' (n := 3) (by omega)
  have p1 := S.pk_mem (k' + 1) (l := [0, 10, 20, 35]) (by simp)
  have p2 := S.pk_mem (k' + 1 + 1) (l := [0, 0, 5, 30]) (by simp)
  obtain ⟨a, ha⟩ : ∃ a, a = S.pk (k' + 1) [0, 10, 20, 35] := ⟨_, rfl⟩
  obtain ⟨b, hb⟩ : ∃ b, b = S.pk (k' + 1 + 1) [0, 0, 5, 30] := ⟨_, rfl⟩
  rw [← ha] at p1
  rw [← hb] at p2
  have p1' : 0 ≤ a ∧ a ≤ 35 := by simp at p1; omega
  have p2' : 0 ≤ b ∧ b ≤ 30 := by simp at p2; omega
  have e1 : IntKind.i64.wrap (Int.tdiv 400 st) = Int.tdiv 400 st := wrap_id (by omega) (by omega)
  have e2 : IntKind.i64.wrap (Int.tdiv 400 st + S.r k' 3) = Int.tdiv 400 st + S.r k' 3 := wrap_id (by omega) (by omega)
  have e3 : IntKind.i64.wrap (st.tdiv 4) = st.tdiv 4 := wrap_id (by omega) (by omega)
  have e4 : IntKind.i64.wrap (a + st.tdiv 4) = a + st.tdiv 4 := wrap_id (by omega) (by omega)
  have e5 : IntKind.i64.wrap (low + (a + st.tdiv 4)) = low + (a + st.tdiv 4) := wrap_id (by omega) (by omega)
  have e6 : IntKind.i64.wrap ((j : Int) + 1) = ((j + 1 : Nat) : Int) := wrap_id (by omega) (by omega)
  have e7 : IntKind.i64.wrap ((if high < low + (a + st.tdiv 4) then low + (a + st.tdiv 4) else high) + b) = (if high < low + (a + st.tdiv 4) then low + (a + st.tdiv 4) else high) + b := wrap_id (by split <;> omega) (by split <;> omega)
  have hst0 : ¬ st = 0 := by omega
  by_cases hc : (j : Int) ≤ Int.tdiv 400 st + S.r k' 3
  · rcases hi with ⟨rfl, f3, rfl⟩ | ⟨h2, v1, v2, f3, rfl⟩
    · simp only [Int.natCast_zero] at f6 hc e6
      simp [f3, f4, f5, f6, e1, e2, e3, e4, e5, e7, hc, hst0, ← ha, ← hb, mmV, foldMM, appendV, grow, -List.map_map]
      refine loopK_normal ?_ (m - 1) ?_ ?_
      · rfl
      · omega
      rw [hI]
      refine ⟨1, _, _, _, [low], [high], by omega, by omega, rfl, rfl, rfl, ?_, ?_, ?_, ?_, rfl, rfl, ?_, ?_, .inr ⟨by omega, 0, 0, rfl, rfl⟩⟩
      · omega
      · omega
      · split <;> omega
      · split <;> omega
      · intro x hx; simp at hx; omega
      · intro x hx; simp at hx; omega
    · have hb1 : (j + 1) * 8 ≤ 140737488355328 := by omega
      simp [f3, f4, f5, f6, e1, e2, e3, e4, e5, e6, e7, hc, hst0, ← ha, ← hb, mmV, foldMM, appendV, roomV, lowAll, n1, n2, hb1, -List.map_map]
      refine loopK_normal ?_ (m - 1) ?_ ?_
      · rfl
      · omega
      rw [hI]
      refine ⟨j + 1, _, _, _, lo ++ [low], hi' ++ [high], by omega, by omega, rfl, rfl, rfl, ?_, ?_, ?_, ?_, by simp [n1], by simp [n2], ?_, ?_, .inr ⟨by omega, _, _, rfl, by simp; rfl⟩⟩
      · omega
      · omega
      · split <;> omega
      · split <;> omega
      · intro x hx; rcases List.mem_append.1 hx with h | h
        · exact w1 x h
        · simp at h; omega
      · intro x hx; rcases List.mem_append.1 hx with h | h
        · exact w2 x h
        · simp at h; omega
  · rcases hi with ⟨rfl, f3, rfl⟩ | ⟨h2, v1, v2, f3, rfl⟩
    · simp at hc; omega
    · simp [f3, f4, f5, f6, e1, e2, hc, hst0, hQ, Nat.add_assoc]
      exact ⟨_, _, _, lo, hi', _, _, ⟨rfl, ⟨rfl, rfl⟩, rfl, rfl⟩, ⟨rfl, ⟨rfl, rfl⟩, rfl, rfl⟩, by simpa using hmem, by omega, by omega, n1, n2, w1, w2⟩

theorem ints_gnd {l : List Int} : ∀ x ∈ l.map (V.int .i64), ∀ y ∈ x.cells, y.gnd = true := by simp
theorem ints_clean {l : List Int} {d : Nat} : ∀ x ∈ l.map (V.int .i64), clean (d + 1) x = true := by simp [clean]
theorem assoc_ev : ∃ v h', Ev TE 105 [.ptr 0 0, .int .i64 2] ⟨[S.v k], []⟩ v h' ∧ ∃ k' x1 x2 x3 x4 x5 x6 st lo hi c1 c2 c3 c4 c5, v = .agg [.int .i64 x1, .int .i64 x2, .int .i64 x3, .int .i64 x4, .int .i64 x5, .int .i64 x6, .int .i64 st, .fl true false (lo.map (.int .i64)), .fl true false (hi.map (.int .i64)), .int .i64 c1, .int .i64 c2, .int .i64 c3, .int .i64 c4, .int .i64 c5] ∧
    h' = ⟨[S.v k'], []⟩ ∧ (-100 ≤ x1 ∧ x1 ≤ x4 ∧ x4 ≤ 100 ∧ -100 ≤ x2 ∧ x2 ≤ x5 ∧ x5 ≤ 100 ∧ -100 ≤ x3 ∧ x3 ≤ x6 ∧ x6 ≤ 100) ∧ 20 ≤ st ∧ st ≤ 100 ∧ 1 ≤ lo.length ∧ lo.length ≤ 30 ∧ hi.length = lo.length ∧ Within 10000 lo ∧ Within 10000 hi := by
  refine spec_shr 26 [.cell 4 32] rfl rfl rfl Tryz.func105 rfl rfl rfl fun Q hQ hN => ?_
  simp
  refine wK_spec _ table_ev ?_
  rintro v h' ⟨k', st, n, lo, hi, v1, v2, rfl, rfl, hst, h1, h2, h3, h4, h5, h6⟩
  subst h3
  simp at hst
  simp [hQ, h4, List.take_of_length_le]
  have a1 := S.r_lt k (n := 41) (by omega)
  have a2 := S.r_lt (k + 1) (n := 41) (by omega)
  have a3 := S.r_lt (k + 2) (n := 21) (by omega)
  have a4 := S.r_lt (k + 3) (n := 3) (by omega)
  have a5 := S.r_lt (k + 4) (n := 3) (by omega)
  have a6 := S.r_lt (k + 5) (n := 3) (by omega)
  exact ⟨_, _, _, _, _, _, _, _, lo, hi, ⟨rfl, rfl, rfl, rfl, rfl, rfl, rfl, rfl, rfl⟩, rfl, by omega, by omega, by omega, h1, h2, h4, h5, h6⟩

end
end Go.DM
namespace Go.DM
open Go.Proofs
set_option maxRecDepth 100000
section
variable {fn : Nat} {an : Option (List (Nat × Nat × Bool))} {ops : Array Oper} {l : List Oper} {i : Nat} {kk : List Todo} {d : Option Nat} {s : List V} {Q : Ex → St → Prop} {S : Src} {k : Nat} {vs : List V} {ar : List Arr} {h : Heap}

/-- Scale: its table's numbers by three, in place. -/
theorem scale_ev : ∃ v h', Ev TE 106 [.ptr 0 0] ⟨[S.v k], []⟩ v h' ∧ ∃ (k' : Nat) (st : Int) (lo hi : List Int) (c1 c2 : Int), v = .agg [.int .i64 st, .fl true false (lo.map (.int .i64)), .fl true false (hi.map (.int .i64)), .int .i64 c1, .int .i64 c2] ∧ h' = ⟨[S.v k'], []⟩ := by
  refine spec_shr 46 [.cell 2 34] rfl rfl rfl Tryz.func106 rfl rfl rfl fun Q hQ hN => ?_
  simp
  refine wK_spec _ table_ev ?_
  rintro v h' ⟨k', st, n, lo, hi, v1, v2, rfl, rfl, hst, h1, h2, h3, h4, h5, h6⟩
  simp
  obtain ⟨I, hI⟩ : ∃ I : Nat → (Nat → V) → Heap → Prop, I = fun m f hp => ∃ (j : Nat) (lo hi : List Int), j + m = n ∧ f 17 = .int .i64 j ∧ lo.length = n ∧ hi.length = n ∧
    hp = ⟨[S.v (k' + 1 + 1)], [⟨lo.map (.int .i64), v1, true, 1⟩, ⟨hi.map (.int .i64), v2, true, 1⟩]⟩ := ⟨_, rfl⟩
  refine wLp_ind [4, 17, 18, 19, 20, 21, 22, 23, 24, 25, 26, 27, 28, 29, 30, 31, 32, 33, 34, 35, 36, 37, 38, 39, 40, 41, 42, 43, 44] I n (by rw [hI]; exact ⟨0, lo, hi, by simp, rfl, h3, h4, rfl⟩) ?_
  clear h3 h4 h5 h6 lo hi
  intro m f hp hi
  rw [hI] at hi
  obtain ⟨j, lo, hi, hm, f17, h3, h4, rfl⟩ := hi
  by_cases hlt : j < n
  · have e1 : j < lo.length := by omega
    have e2 : j < hi.length := by omega
    have e6 : IntKind.i64.wrap ((j : Int) + 1) = ((j + 1 : Nat) : Int) := wrap_id (by omega) (by omega)
    simp [f17, hlt, e1, e2, e6]
    refine loopK_normal ?_ (m - 1) ?_ ?_
    · rfl
    · omega
    rw [hI]
    exact ⟨j + 1, lo.set j _, hi.set j _, by omega, rfl, by simp [h3], by simp [h4], by simp [List.map_set]; exact ⟨rfl, rfl⟩⟩
  · simp [f17, hlt, hQ, h3, h4, List.take_of_length_le]
    exact ⟨⟨⟨lo, rfl⟩, hi, rfl⟩, _, rfl⟩

def Bounds (x1 x2 x3 x4 x5 x6 st : Int) (lo hi : List Int) (b : Int) : Prop :=
  (-100 ≤ x1 ∧ x1 ≤ x4 ∧ x4 ≤ 100 ∧ -100 ≤ x2 ∧ x2 ≤ x5 ∧ x5 ≤ 100 ∧ -100 ≤ x3 ∧ x3 ≤ x6 ∧ x6 ≤ 100) ∧ 20 ≤ st ∧ st ≤ 100 ∧ 1 ≤ lo.length ∧ lo.length ≤ 30 ∧ hi.length = lo.length ∧ Within b lo ∧ Within b hi
def GoodSet (S : Src) (v : V) (h' : Heap) : Prop := ∃ (k' : Nat) (x1 x2 x3 x4 x5 x6 st : Int) (lo hi : List Int) (c1 c2 c3 c4 c5 sst : Int) (slo shi : List Int) (s1 s2 tol : Int), v = .agg [.int .i64 x1, .int .i64 x2, .int .i64 x3, .int .i64 x4, .int .i64 x5, .int .i64 x6, .int .i64 st, .fl true false (lo.map (.int .i64)), .fl true false (hi.map (.int .i64)), .int .i64 c1, .int .i64 c2, .int .i64 c3, .int .i64 c4, .int .i64 c5,
      .int .i64 sst, .fl true false (slo.map (.int .i64)), .fl true false (shi.map (.int .i64)), .int .i64 s1, .int .i64 s2, .int .i64 tol] ∧
    h' = ⟨[S.v k'], []⟩ ∧ Bounds x1 x2 x3 x4 x5 x6 st lo hi 10000
theorem settings_ev : ∃ v h', Ev TE 48 [.ptr 0 0, .int .i64 2] ⟨[S.v k], []⟩ v h' ∧ GoodSet S v h' := by
  refine spec_shr 14 [.cell 4 36] rfl rfl rfl Tryz.func48 rfl rfl rfl fun Q hQ hN => ?_
  simp
  refine wK_spec _ assoc_ev ?_
  rintro v h' ⟨k', x1, x2, x3, x4, x5, x6, st, lo, hi, c1, c2, c3, c4, c5, rfl, rfl, hb⟩
  simp
  refine wK_spec _ scale_ev ?_
  rintro v h' ⟨k', sst, slo, shi, s1, s2, rfl, rfl⟩
  simp [hQ]
  exact ⟨_, _, _, _, _, _, _, _, lo, hi, _, _, _, _, _, _, slo, shi, _, _, _, rfl, rfl, hb⟩

def enc4 (r : Int × Int × Int × Int) : V := .agg [.int .i64 r.1, .int .i64 r.2.1, .int .i64 r.2.2.1, .int .i64 r.2.2.2]
def GoodPol (S : Src) (vs : List V) (v : V) (h' : Heap) : Prop := ∃ (k' n ver : Nat) (a b : Int) (rs : List (Int × Int × Int × Int)), v = .agg [.sl 0 ver 0 n none, .int .i64 a, .int .i64 b] ∧ h' = ⟨S.v k' :: vs, [⟨rs.map enc4, ver, true, 4⟩]⟩ ∧ rs.length = n ∧ n ≤ 3
theorem policy_ev : ∃ v h', Ev TE 50 [.ptr 0 0] ⟨S.v k :: vs, []⟩ v h' ∧ GoodPol S vs v h' := by
  refine spec_raw 38 [.cell 2 43] rfl rfl rfl Tryz.func50 rfl rfl rfl fun Q hQ hN => ?_
  have r1 := S.r_lt (k + 2) (n := 3) (by omega)
  simp [Nat.add_assoc]
  simp (disch := omega) only [wrap_id]
  obtain ⟨n, hn⟩ : ∃ n, n = (1 + S.r (k + 2) 3).toNat := ⟨_, rfl⟩
  have hn1 : 1 + S.r (k + 2) 3 = (n : Int) := by omega
  rw [hn1]
  obtain ⟨a, ha⟩ : ∃ a, a = S.pk k [0, 2, 10, 1000] := ⟨_, rfl⟩
  obtain ⟨b, hb⟩ : ∃ b, b = S.pk (k + 1) [0, 0, 50, 500] := ⟨_, rfl⟩
  rw [← ha, ← hb]
  obtain ⟨I, hI⟩ : ∃ I : Nat → (Nat → V) → Heap → Prop, I = fun m f hp => ∃ (j k' : Nat) (rs : List (Int × Int × Int × Int)), j + m = n ∧ f 4 = .int .i64 m ∧ rs.length = j ∧
      ((j = 0 ∧ f 3 = .box (.agg [.nils, .int .i64 a, .int .i64 b]) ∧ hp = ⟨S.v k' :: vs, []⟩) ∨ (0 < j ∧ ∃ ver, f 3 = .box (.agg [.sl 0 ver 0 j none, .int .i64 a, .int .i64 b]) ∧ hp = ⟨S.v k' :: vs, [⟨rs.map enc4, ver, true, 4⟩]⟩)) := ⟨_, rfl⟩
  refine wLp_ind [3, 4, 15, 16, 17, 18, 19, 20, 21, 22, 23, 24, 25, 26, 27, 28, 29, 30, 31, 32, 33, 34, 35, 36] I n (by rw [hI]; exact ⟨0, _, [], by simp, rfl, rfl, .inl ⟨rfl, rfl, rfl⟩⟩) ?_
  intro m f hp hi
  rw [hI] at hi
  obtain ⟨j, k', rs, hm, f4, hj, hi⟩ := hi
  by_cases hlt : 0 < m
  · obtain ⟨m', rfl⟩ : ∃ m', m = m' + 1 := ⟨m - 1, by omega⟩
    have e1 : IntKind.i64.wrap (m' : Int) = (m' : Int) := wrap_id (by omega) (by omega)
    have e2 : (0 : Int) < ((m' + 1 : Nat) : Int) := by omega
    have hb1 : (j + 1) * 32 ≤ 140737488355328 := by omega
    rcases hi with ⟨rfl, f3, rfl⟩ | ⟨h2, ver, f3, rfl⟩
    · simp [f3, f4, e1, e2, appendV, grow]
      refine loopK_normal ?_ m' ?_ ?_
      · rfl
      · omega
      rw [hI]
      exact ⟨1, _, [(_, _, _, _)], by omega, rfl, rfl, .inr ⟨by omega, 0, rfl, rfl⟩⟩
    · simp [f3, f4, e1, e2, hj, hb1, appendV, roomV, lowAll]
      refine loopK_normal ?_ m' ?_ ?_
      · rfl
      · omega
      rw [hI]
      exact ⟨j + 1, _, rs ++ [(_, _, _, _)], by omega, rfl, by simp [hj], .inr ⟨by omega, _, rfl, by simp; exact ⟨rfl, rfl⟩⟩⟩
  · have : m = 0 := by omega
    subst this
    rcases hi with ⟨rfl, f3, rfl⟩ | ⟨h2, ver, f3, rfl⟩
    · omega
    · simp [f3, f4, hQ]
      exact ⟨_, _, _, _, _, rs, rfl, rfl, hj, by omega⟩

end
end Go.DM
namespace Go.DM
open Go.Proofs
set_option maxRecDepth 100000
section
variable {fn : Nat} {an : Option (List (Nat × Nat × Bool))} {ops : Array Oper} {l : List Oper} {i : Nat} {kk : List Todo} {d : Option Nat} {s : List V} {Q : Ex → St → Prop} {S : Src} {k : Nat} {vs : List V} {ar : List Arr} {h : Heap}

@[simp] theorem wK_49 {t g : Bool} {lo : List Int} {y : Int} (h0 : 1 ≤ lo.length) (h1 : lo.length ≤ 1000) : wK TE fn an ops l i kk d s 49 [.fl t g (lo.map (.int .i64)), .int .i64 y] h Q = wR TE fn an ops l (i + 1) kk ⟨putV s d (.fl true false ((lo.map fun x => IntKind.i64.wrap (y * x)).map (.int .i64))), h⟩ Q := by
  rw [wK_ev (times_ev h0 h1)]; simp
@[simp] theorem set_snoc {α : Type} {l : List α} {x y : α} : (l ++ [x]).set l.length y = l ++ [y] := by simp
def GoodSetup (S : Src) (v : V) (h' : Heap) : Prop := ∃ (k' : Nat) (x1 x2 x3 x4 x5 x6 st : Int) (lo hi : List Int) (rest : List V), v = .agg ([.int .i64 x1, .int .i64 x2, .int .i64 x3, .int .i64 x4, .int .i64 x5, .int .i64 x6, .int .i64 st, .fl true false (lo.map (.int .i64))] ++ rest) ∧
    rest.length = 23 ∧ h' = ⟨[S.v k'], []⟩ ∧ Bounds x1 x2 x3 x4 x5 x6 st lo hi 10000000
theorem frz4 {H : Heap} {nv na d : Nat} {l : List (Int × Int × Int × Int)} : mapO (frz H nv na (d + 2)) (l.map enc4) = some (l.map enc4) := mapO_map fun _ _ => by simp [enc4]
set_option maxHeartbeats 4000000 in
theorem setup_ev : ∃ v h', Ev TE 10 [.ptr 0 0, .int .i64 2] ⟨[S.v k], []⟩ v h' ∧ GoodSetup S v h' := by
  refine spec_shr 124 [.cell 4 45] rfl rfl rfl Tryz.func10 rfl rfl rfl fun Q hQ hN => ?_
  simp
  refine wK_spec _ settings_ev ?_
  rintro v h' ⟨k', x1, x2, x3, x4, x5, x6, st, lo, hi, c1, c2, c3, c4, c5, sst, slo, shi, s1, s2, tol, rfl, rfl, hb⟩
  have q1 : 1 ≤ lo.length := hb.2.2.2.1
  have q2 : lo.length ≤ 1000 := by have := hb.2.2.2.2.1; omega
  have q3 : 1 ≤ hi.length := by have := hb.2.2.2.2.2.1; omega
  have q4 : hi.length ≤ 1000 := by have := hb.2.2.2.2.2.1; omega
  simp [q1, q2, q3, q4, -List.map_map]
  refine wK_spec _ policy_ev ?_
  rintro v h' ⟨k', n, ver, a, b, rs, rfl, rfl, hn, hn3⟩
  have scaled : ∀ {l : List Int}, Within 10000 l → Within 10000000 (l.map fun x => IntKind.i64.wrap (1000 * x)) := by
    intro l hl x hx
    obtain ⟨y, hy, rfl⟩ := List.mem_map.1 hx
    have := hl y hy
    rw [wrap_id (by omega) (by omega)]; omega
  obtain ⟨lo', hlo⟩ : ∃ lo', lo' = lo.map fun x => IntKind.i64.wrap (1000 * x) := ⟨_, rfl⟩
  obtain ⟨hi', hhi⟩ : ∃ hi', hi' = hi.map fun x => IntKind.i64.wrap (1000 * x) := ⟨_, rfl⟩
  have hb' : Bounds x1 x2 x3 x4 x5 x6 st lo' hi' 10000000 := by
    obtain ⟨b1, b2, b3, b4, b5, b6, b7, b8⟩ := hb
    subst hlo hhi
    exact ⟨b1, b2, b3, by simpa using b4, by simpa using b5, by simpa using b6, scaled b7, scaled b8⟩
  simp [-List.map_map]
  rw [← hlo, ← hhi]
  obtain ⟨A, hA⟩ : ∃ A, A = V.agg [.int .i64 x1, .int .i64 x2, .int .i64 x3, .int .i64 x4, .int .i64 x5, .int .i64 x6, .int .i64 st, .fl true false (lo'.map (.int .i64)), .fl true false (hi'.map (.int .i64)), .int .i64 (IntKind.i64.wrap (1000 * c1)), .int .i64 (IntKind.i64.wrap (1000 * c2)), .int .i64 (IntKind.i64.wrap (1000 * c3)), .int .i64 (IntKind.i64.wrap (1000 * c4)), .int .i64 c5,
      .int .i64 sst, .fl true false (slo.map (.int .i64)), .fl true false (shi.map (.int .i64)), .int .i64 s1, .int .i64 s2, .int .i64 (IntKind.i64.wrap (tol * 1000))] := ⟨_, rfl⟩
  rw [← hA]
  obtain ⟨I, hI⟩ : ∃ I : Nat → (Nat → V) → Heap → Prop, I = fun m f hp => ∃ (j : Nat) (rs : List (Int × Int × Int × Int)), j + m = n ∧ f 85 = .int .i64 j ∧ rs.length = n ∧ hp = ⟨[S.v (k' + 1), A], [⟨rs.map enc4, ver, true, 4⟩]⟩ := ⟨_, rfl⟩
  refine wLp_ind [8, 85, 86, 87, 88, 89, 90, 91, 92, 93, 94, 95, 96, 97, 98, 99, 100, 101, 102, 103, 104, 105, 106, 107, 108, 109, 110, 111, 112] I n (by rw [hI]; exact ⟨0, rs, by simp, rfl, hn, rfl⟩) ?_
  clear hn rs
  intro m f hp hi
  rw [hI] at hi
  obtain ⟨j, rs, hm, f85, hn, rfl⟩ := hi
  by_cases hlt : j < n
  · have e1 : j < rs.length := by omega
    have e6 : IntKind.i64.wrap ((j : Int) + 1) = ((j + 1 : Nat) : Int) := wrap_id (by omega) (by omega)
    obtain ⟨r, hr⟩ : ∃ r, rs[j] = r := ⟨_, rfl⟩
    simp [f85, hlt, e1, e6, hn, hr, enc4]
    refine loopK_normal ?_ (m - 1) ?_ ?_
    · rfl
    · omega
    rw [hI]
    exact ⟨j + 1, rs.set j (_, _, _, _), by omega, rfl, by simp [hn], by simp [List.map_set, enc4]; rfl⟩
  · simp [f85, hlt, hQ, hn, hA, List.take_of_length_le, frz4, -List.map_map]
    exact ⟨by simp [enc4], _, x1, x2, x3, x4, x5, x6, st, lo', hi', _, rfl, rfl, rfl, hb'⟩
end
end Go.DM
