/-
  'seismonetlaw41.ArchiveOrder' returns true for every input, and its arguments read behind the call as before.
-/
import Derived.Test.YtpfhhcjdknmbbaaGreatDoorF7
import Derived.Test.YtpfhhcjdknmbbaaGreatDoorB5
import Derived.Test.YtpfhhcjdknmbbaaGreatDoorCards
import Derived.Test.YtpfhhcjdknmbbaaGreatDoorTie
import Derived.ProofKit
import Derived.OpenShut
import Derived.LaidMore
import Derived.Lay
import Derived.SevenTiedAt
import Derived.Stop.Joined
import Derived.ChangeOld
import Derived.Below
import Derived.SizedLaws
set_option linter.all false
set_option linter.unusedSimpArgs false
set_option linter.unusedVariables false
namespace Go.Proofs.YtpfhhcjdknmbbaaGreatDoor
open Go.ChangeShapes Go.WideShapes Go.ChangeAt Go.RowKit Go.DM
set_option linter.unusedVariables false
set_option maxRecDepth 100000

theorem own : ownKnob Tryz.prog.godebug = none := by kernel_rfl
theorem name3 : Tryz.f3.name ≠ "runtime.NumGoroutine" := by
  intro h
  have h1 : (Tryz.f3.name == "runtime.NumGoroutine") = false := by kernel_rfl
  rw [h] at h1
  simp at h1
theorem laidOut : laidOutB Tryz.prog = true := by kernel_rfl

theorem spot_of_ok {W : World} {r : Reach} {base len cap : Nat} {x : Addr} (h : Value.okWide Tryz.prog W r base 22 (.slice (some x) len cap)) : x.spot = none := by
  have h1 : (match Tryz.prog.underlying 22, Value.slice (some x) len cap with
    | some (.struct _), v | some (.array _ _), v => ∃ cs, v = .agg cs ∧ cs.size = Tryz.prog.cellsOf 22 ∧ Row.okWide Tryz.prog W r base 22 cs
    | _, v => Cell.okWide Tryz.prog W r base 22 v) := by
    unfold Value.okWide at h
    rw [Tryz.underlying22] at h ⊢
    exact h
  rw [Tryz.underlying22] at h1
  have h2 : Cell.okWide Tryz.prog W r base 22 (.slice (some x) len cap) := h1
  unfold Cell.okWide at h2
  rw [Tryz.underlying22] at h2
  have h3 : Cell.ok Tryz.prog W r base 22 (.slice (some x) len cap) := h2
  unfold Cell.ok at h3
  rw [Tryz.underlying22] at h3
  have h4 : len ≤ cap ∧ (cap : Int) ≤ IntKind.i64.max ∧ W.has Tryz.prog r base x 3 cap := h3
  obtain ⟨_, _, h5⟩ := h4
  unfold World.has at h5
  exact h5.2.1

/-- A slice of numbers that is handed in, as the evaluator has it. -/
theorem ints_rx {W : World} {a : Option Addr} {len cap : Nat} {zs : List Int} (hsp : ∀ x, a = some x → x.spot = none)
    (h : (a = none ∧ len = 0 ∧ cap = 0 ∧ zs = []) ∨ ∃ x, a = some x ∧ len ≤ cap ∧ cap ≤ maxLen ∧ zs.length = cap ∧ (∀ i, i < zs.length → W.cell? (x.add i) = some (.int .i64 (zs.getD i 0)))) :
    ∃ (c : V) (L : List Int), IsInts c L ∧ L.length ≤ maxLen ∧ RX (fun _ _ => False) Mu.none W c (.slice a len cap) := by
  rcases h with ⟨rfl, rfl, rfl, rfl⟩ | ⟨x, rfl, hl, hm, hz, hcell⟩
  · exact ⟨.nils, [], .inr ⟨rfl, rfl⟩, by simp, RG.nils⟩
  · obtain ⟨b, o, sp⟩ := x
    have hsp' : sp = none := hsp _ rfl
    subst hsp'
    refine ⟨.fl false false ((zs.take len).map (.int .i64)), zs.take len, .inl ⟨_, _, rfl⟩, by simp; omega, ?_⟩
    have hlen : ((zs.take len).map (V.int .i64)).length = len := by simp; omega
    have hget : ∀ i, i < len → ((zs.take len).map (V.int .i64)).getD i undefV = .int .i64 (zs.getD i 0) := fun i hi => by
      rw [List.getD_eq_getElem?_getD, List.getElem?_map, List.getElem?_take, if_pos hi, List.getD_eq_getElem?_getD, List.getElem?_eq_getElem (by omega)]
      rfl
    have hc : ∀ i, i < len → W.cell? ⟨b, o + i, none⟩ = some (.int .i64 (zs.getD i 0)) := fun i hi => by
      rw [← addr_add]; exact hcell i (by omega)
    have key := RG.fl (F := fun _ _ => False) (O := Mu.none.own) (w := W) false false ((zs.take len).map (.int .i64)) b o cap 1 (fun i _ => .int .i64 (zs.getD i 0)) (by omega) (by simp)
      (fun i hi => by rw [hlen] at hi; rw [hget i hi]; rfl)
      (fun i k hi hk => by
        rw [hlen] at hi
        have : k = 0 := by omega
        subst this
        rw [Nat.mul_one, Nat.add_zero]; exact hc i hi)
      (fun _ _ _ _ => rfl)
      (fun i k hi hk => by
        rw [hlen] at hi
        have : k = 0 := by omega
        subst this
        unfold cellAt
        rw [hget i hi]
        exact .int _ _)
      (fun hne => by
        have hpos : 0 < len := by
          rcases Nat.eq_zero_or_pos len with h0 | h0
          · exact absurd (List.eq_nil_of_length_eq_zero (by rw [hlen]; exact h0)) hne
          · exact h0
        refine ⟨?_, none_own, fun h => h⟩
        have := hc 0 hpos
        exact Nat.lt_of_not_le fun hle => by
          simp [World.cell?, Array.getElem?_eq_none hle] at this)
    rw [hlen] at key
    exact key

theorem below_of_fr {W W' : World} {M' : Mu} (f : Fr Mu.none M' W W') : Below W.heap.size W W' := ⟨f.os, f.tape, f.output, f.size, fun k hk => f.keep k hk none_own⟩

def IsRow (W : World) (a : Option Addr) (len cap : Nat) (zs : List Int) : Prop :=
  (a = none ∧ len = 0 ∧ cap = 0 ∧ zs = []) ∨ ∃ x, a = some x ∧ len ≤ cap ∧ cap ≤ maxLen ∧ zs.length = cap ∧ (∀ i, i < zs.length → W.cell? (x.add i) = some (.int .i64 (zs.getD i 0)))

theorem open_row {H : Type} {enc : TypeId × Value → H} {W : World} {base : Nat} {v : Value} {d : DataW H} {p : List MemPlace} (hok : Value.okWide Tryz.prog W .any base 22 v)
    (h : DataW.Trod enc Tryz.prog W 0 (fun _ => true) true 22 v d p) : ∃ a len cap zs, v = .slice a len cap ∧ (∀ x, a = some x → x.spot = none) ∧ IsRow W a len cap zs := by
  obtain ⟨a, len, cap, rfl⟩ := okWide_slice Tryz.underlying22 hok
  refine ⟨a, len, cap, ?_⟩
  have hsp : ∀ x, a = some x → x.spot = none := fun x hx => by
    subst hx
    exact spot_of_ok hok
  obtain ⟨fuel, hf⟩ := h
  rcases open_ints Tryz.underlying22 Tryz.underlying3 (by kernel_rfl) hf with ⟨hcs, _⟩ | ⟨x, l, c, zs, hcs, _, hl, hm, hz, _, hcell, hwz⟩
  · simp [Value.cells] at hcs
    obtain ⟨rfl, rfl, rfl⟩ := hcs
    exact ⟨[], rfl, hsp, .inl ⟨rfl, rfl, rfl, rfl⟩⟩
  · simp [Value.cells] at hcs
    obtain ⟨rfl, rfl, rfl⟩ := hcs
    exact ⟨zs, rfl, hsp, .inr ⟨_, rfl, hl, hm, by simpa using hz, hcell⟩⟩

theorem archiveOrder_lifted (os : Os) (started : os.Started) (H : Type) (enc : TypeId × Value → H) :
    ReturnsInHanded {} Tryz.checked os 3 .any (fun w args => (Rows.archiveOrderSpec.pre enc Tryz.prog Tryz.f3 Rows.archiveOrderRow.domain false w args ∧ laidMetH Tryz.prog Rows.archiveOrderRow.laid w) ∧ sizedMet enc Tryz.prog Tryz.f3 (OpenSpec.ofChange Rows.archiveOrderSpec) false w args)
      (Rows.archiveOrderSpec.post enc Tryz.prog Tryz.f3 false true false false) := by
  refine returnsInHanded_of_change_and (C := Tryz.checked) (X := fun w _ => laidMetH Tryz.prog Rows.archiveOrderRow.laid w) (fun _ _ _ hh h => h.of_heap hh) own started (by kernel_rfl) Tryz.func3
    (ChangeSpec.witness_shaped (enc := enc) (C := Tryz.checked) (os := os) (X := fun w _ => laidMetH Tryz.prog Rows.archiveOrderRow.laid w) false (World.laidAll Tryz.prog os Rows.archiveOrderRow.laid) #[.slice none 0 0, .slice none 0 0] 8 (World.laidAll_os _ _ _)
      (World.shaped_of_ZipB (by kernel_rfl) (by kernel_rfl)) (by kernel_rfl) (by kernel_rfl) (by kernel_rfl)
      (by rw [MakeChecks.laidMetH_plain _ _ _ (by kernel_rfl)]; exact laidMet_laidAll _ (by kernel_rfl) (by kernel_rfl))) ?_
  intro W base args ds gs before hval0 hW hc _ hL _
  have hval : ∀ (j : Nat) t v, Tryz.f3.params[j]? = some t → args[j]? = some v → Value.okWide Tryz.prog W .any base t v := hval0
  have hW' := hW
  obtain ⟨p, q, hA0, hV, rfl, _, _⟩ := hW
  have hA : DataW.TrodAll enc Tryz.prog W 0 (fun _ => true) true Tryz.f3.params.toList args.toList ds p := hA0
  rw [Tryz.params3] at hA hval
  obtain ⟨v0, vs0, d0, ds0, p0, q0, hargs, rfl, rfl, h0, r0⟩ := trodAll_cons hA
  obtain ⟨v1, vs1, d1, ds1, p1, q1, rfl, rfl, rfl, h1, r1⟩ := trodAll_cons r0
  obtain ⟨rfl, rfl, rfl⟩ := trodAll_nil r1
  obtain rfl : args = #[v0, v1] := by cases args; simp_all
  obtain ⟨rfl, rfl⟩ := trodVars_none hV
  obtain ⟨a0, len0, cap0, zs0, rfl, sp0, w0⟩ := open_row (hval 0 22 v0 rfl rfl) h0
  obtain ⟨a1, len1, cap1, zs1, rfl, sp1, w1⟩ := open_row (hval 1 22 v1 rfl rfl) h1
  have lt0 : ∀ x ∈ p0, x.block < W.heap.size := by obtain ⟨m, hm⟩ := h0; exact DataW.trod_lt m _ _ _ hm
  have lt1 : ∀ x ∈ p1, x.block < W.heap.size := by obtain ⟨m, hm⟩ := h1; exact DataW.trod_lt m _ _ _ hm
  obtain ⟨c0, L0, i0, l0, x0⟩ := ints_rx sp0 w0
  obtain ⟨c1, L1, i1, l1, x1⟩ := ints_rx sp1 w1
  have hrun := Ev.calls TE_full (f := 3) (fn := Tryz.f3) Tryz.func3 (by intro h; cases h) name3 (order_law (h := ⟨[], []⟩) i0 i1 (by unfold maxLen at l0; omega)) (F := fun _ _ => False) (w := W) (cs := #[.slice a0 len0 cap0, .slice a1 len1 cap1]) (fun _ _ h => h.elim)
    ⟨rfl, fun i x y hx hy => by
      match i with
      | 0 => simp at hx hy; subst hx hy; exact x0
      | 1 => simp at hx hy; subst hx hy; exact x1
      | i + 2 => simp at hx⟩
  refine Calls.mono hrun fun e W' ⟨c, M', he, hfr, hrv⟩ => ?_
  obtain rfl := rev_bool (RV.toREv hrv)
  subst he
  have bel := below_of_fr hfr
  exact ⟨_, rfl, _, _, _, [], _, [], hW', trodAll_mk1 (shut_bool Tryz.underlying4 _), (trodAll_cons_mk (Below.trod laidOut (by kernel_rfl) (of_decide_eq_true (by kernel_rfl)) h0 bel lt0) (trodAll_cons_mk (Below.trod laidOut (by kernel_rfl) (of_decide_eq_true (by kernel_rfl)) h1 bel lt1) trodAll_mk0)), rfl, bel.frame _, fun h => by cases h⟩

end Go.Proofs.YtpfhhcjdknmbbaaGreatDoor
