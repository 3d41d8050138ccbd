/-
  slices.Insert: the walks of its three roads, over the runs of the built-ins.
-/
import Derived.WalkKit
import Derived.Shelf.RegionOpenPlain
import Derived.Lib.Walk
import Derived.Laws.Externs
import Derived.Test.YtpfhhcjdknmbbaaGreatDoorProg
import Derived.Test.YtpfhhcjdknmbbaaGreatDoorA2
set_option linter.all false
set_option linter.unusedSimpArgs false
set_option linter.unusedVariables false
namespace Go.DM
open Go.Proofs Go.Shelf Go.RowKit Go.Lib

section
variable {P : Program}
theorem wp_copy_runI (w : World) {o : Oper} {a : Act} {K : Act → World → Prop} {Q : Exit → Act → World → Prop} (d s : Operand) (t t' : TypeId)
    (ho : o.op = .call { callee := .builtin .copy, args := #[d, s], argTypes := #[t, t'] }) (v u : Value) (hd : a.eval d = v) (hs : a.eval s = u) {v' : Value} {w' : World}
    (hr : (Builtin.copy_ #[t, t'] o.type #[v, u]).run P w = .ok v' w') (h : K (a.put o.dst v') w') : o.wp P a w K Q := by
  unfold Oper.wp execOp
  simp only [ho, resolve, invoke, builtin, Sem.run_bind, Sem.run_pure, Result.andThen_ok, List.map_toArray, List.map_cons, List.map_nil, hd, hs, hr]
  exact h
theorem wpList_copy_runI (w : World) {ops : Array Oper} {rest : List Oper} {o : Oper} {a : Act} {Q : Exit → Act → World → Prop} (hgd : o.guard = none) (d s : Operand) (t t' : TypeId)
    (ho : o.op = .call { callee := .builtin .copy, args := #[d, s], argTypes := #[t, t'] }) (v u : Value) (hd : a.eval d = v) (hs : a.eval s = u) {v' : Value} {w' : World}
    (hr : (Builtin.copy_ #[t, t'] o.type #[v, u]).run P w = .ok v' w') (h : wpList P ops Q rest (a.put o.dst v') w') : wpList P ops Q (o :: rest) a w :=
  wpList_plain hgd fun _ hK => wp_copy_runI w d s t t' ho v u hd hs hr (hK _ _ h)
theorem step_copy_runI {ops : Array Oper} {o : Oper} {a : Act} {w : World} {K : Act → World → Prop} {Q : Exit → Act → World → Prop} {E : Prop}
    (hg : o.guard = none) (d x : Operand) (dT sT : TypeId) (hop : o.op = Op.call { callee := Callee.builtin Builtin.copy, args := #[d, x], argTypes := #[dT, sT] })
    (v u : Value) (hd : a.eval d = v) (hx : a.eval x = u) {v' : Value} {w' : World} (hr : (Builtin.copy_ #[dT, sT] o.type #[v, u]).run P w = .ok v' w') (hK : K (a.put o.dst v') w') :
    if Region.wanted o (yielded ops a.tmps) = true then Oper.wp P o a w K Q else E := by
  have hw : Region.wanted o (yielded ops a.tmps) = true := by simp [Region.wanted, hg]
  rw [if_pos hw]
  unfold Oper.wp
  simp [execOp, hop, resolve, invoke, builtin, hd, hx, hr, Result.andThen]
  exact hK
theorem wp_append_runI (w : World) {o : Oper} {a : Act} {K : Act → World → Prop} {Q : Exit → Act → World → Prop} (s x : Operand) (t tn : TypeId)
    (ho : o.op = .call { callee := .builtin .append, args := #[s, x], argTypes := #[t, tn] }) (vs vx : Value) (hs : a.eval s = vs) (hx : a.eval x = vx)
    {v' : Value} {w' : World} (hr : (Builtin.append_ #[t, tn] o.type #[vs, vx]).run P w = .ok v' w') (h : K (a.put o.dst v') w') : o.wp P a w K Q := by
  unfold Oper.wp execOp
  simp only [ho, resolve, invoke, builtin, Sem.run_bind, Sem.run_pure, Result.andThen_ok, List.map_toArray, List.map_cons, List.map_nil, hs, hx, hr]
  exact h
theorem wpList_append_runI (w : World) {ops : Array Oper} {rest : List Oper} {o : Oper} {a : Act} {Q : Exit → Act → World → Prop} (hgd : o.guard = none) (s x : Operand) (t tn : TypeId)
    (ho : o.op = .call { callee := .builtin .append, args := #[s, x], argTypes := #[t, tn] }) (vs vx : Value) (hs : a.eval s = vs) (hx : a.eval x = vx)
    {v' : Value} {w' : World} (hr : (Builtin.append_ #[t, tn] o.type #[vs, vx]).run P w = .ok v' w') (h : wpList P ops Q rest (a.put o.dst v') w') : wpList P ops Q (o :: rest) a w :=
  wpList_plain hgd fun _ hK => wp_append_runI w s x t tn ho vs vx hs hx hr (hK _ _ h)
end

theorem iu60 : Tryz.prog.underlying 60 = some (.slice 105) := by kernel_rfl
theorem iu3 : Tryz.prog.underlying 3 = some (.int .i64) := by kernel_rfl
theorem iu4 : Tryz.prog.underlying 4 = some .bool := by kernel_rfl
theorem iz105 : ∀ w, (Go.sizeOf 105).run Tryz.prog w = .ok 5 w := fun _ => by kernel_rfl
theorem imixed : Tryz.prog.follows .mixedOrders = true := by kernel_rfl

set_option maxHeartbeats 4000000 in
set_option maxRecDepth 100000 in
theorem walk_end (base : Option Addr) (n c : Nat) (ad : Option Addr) (vc : Nat) (w : World) (hnc : n ≤ c) {r : Value} {W : World}
    (hr : (Builtin.append_ #[60, 60] 60 #[.slice base n c, .slice ad 1 vc]).run Tryz.prog w = .ok r W) :
    Calls Tryz.prog 58 #[.slice base n c, .int .i64 n, .slice ad 1 vc] w fun e w' => e = .returned r ∧ w' = W := by
  have u3 := run_underlying iu3; have u4 := run_underlying iu4; have u60 := run_underlying iu60; have z105 := iz105
  have mixed := imixed
  go_enter Tryz.func58, Tryz.ntmps58
  go_wp2_with (at_builtin; refine wpList_append_runI _ rfl _ _ 60 60 rfl _ _ rfl rfl hr ?_)
  all_goals
    go_ret
    exact ⟨rfl, rfl⟩

set_option maxHeartbeats 4000000 in
set_option maxRecDepth 100000 in
theorem walk_grow (b o n c i : Nat) (ad : Option Addr) (vc : Nat) (w : World) (hi : i < n) (hnc : n ≤ c) (hc : c < n + 1) (h63 : c ≤ 4611686018427387904) {N G : Nat} (hG : n + 1 ≤ G) (hG63 : G ≤ 9223372036854775807) {W1 W2 W3 : World} {r1 r2 : Value}
    (hA : (Builtin.append_ #[60, 3] 60 #[.slice (some ⟨b, o, none⟩) i c, .int .i64 ((n : Int) + 1 - i)]).run Tryz.prog w = .ok (.slice (some ⟨N, 0, none⟩) (n + 1) G) W1)
    (hB : (Builtin.copy_ #[60, 60] 3 #[.slice (some ⟨N, i * 5, none⟩) (n + 1 - i) (G - i), .slice ad 1 vc]).run Tryz.prog W1 = .ok r1 W2)
    (hC : (Builtin.copy_ #[60, 60] 3 #[.slice (some ⟨N, (i + 1) * 5, none⟩) (n + 1 - (i + 1)) (G - (i + 1)), .slice (some ⟨b, o + i * 5, none⟩) (n - i) (c - i)]).run Tryz.prog W2.drew = .ok r2 W3) :
    Calls Tryz.prog 58 #[.slice (some ⟨b, o, none⟩) n c, .int .i64 i, .slice ad 1 vc] w fun e w' => e = .returned (.slice (some ⟨N, 0, none⟩) (n + 1) G) ∧ w' = W3 := by
  have u3 := run_underlying iu3; have u4 := run_underlying iu4; have u60 := run_underlying iu60; have z105 := iz105
  have mixed := imixed
  have hz1 : ¬ ((1 : Int) = 0) := by omega
  have hz2 : ¬ ((i : Int) = (n : Int)) := by omega
  have hz3 : (c : Int) < (n : Int) + 1 := by omega
  have hw1 : IntKind.i64.wrap ((i : Int) + 1) = (i : Int) + 1 := by rw [IntKind.wrap_i64]; omega
  have hw2 : IntKind.i64.wrap ((n : Int) + 1) = (n : Int) + 1 := by rw [IntKind.wrap_i64]; omega
  have hw3 : IntKind.i64.wrap ((n : Int) + 1 - i) = (n : Int) + 1 - i := by rw [IntKind.wrap_i64]; omega
  have hGi : ¬ (G = i) := by omega
  have hGim : ¬ (G = i + 1) := by omega
  have hci : ¬ (c = i) := by omega
  have hin : i ≤ n := by omega
  have hic : i ≤ c := by omega
  have htn : ((i : Int) + 1).toNat = i + 1 := by omega
  have hb1 : (0 : Int) ≤ (i : Int) + 1 := by omega
  have hb3 : (i : Int) ≤ (n : Int) := by omega
  go_enter Tryz.func58, Tryz.ntmps58
  go_wp2_with (first
    | (at_builtin; refine wpList_append_runI _ rfl _ _ _ _ rfl _ _ rfl rfl hA ?_)
    | (at_builtin; refine wpList_copy_runI _ rfl _ _ 60 60 rfl _ _ rfl rfl hB ?_))
  go_region_law_o (refine step_copy_runI rfl _ _ 60 60 rfl (.slice (some ⟨N, (i + 1) * 5, none⟩) (n + 1 - (i + 1)) (G - (i + 1))) (.slice (some ⟨b, o + i * 5, none⟩) (n - i) (c - i)) (by simp [Act.eval, Act.put]) (by simp [Act.eval, Act.put]) hC ?_)
  go_wp2
  go_ret
  exact ⟨rfl, rfl⟩

set_option maxHeartbeats 4000000 in
set_option maxRecDepth 100000 in
theorem walk_room (b o n c i : Nat) (ad : Option Addr) (vc : Nat) (w : World) (hi : i < n) (hc : n + 1 ≤ c) (h63 : n + 1 ≤ 9223372036854775807) {W1 W2 : World} {r1 r2 : Value}
    (hO : (callFunc 118 #[.slice ad 1 vc, .slice (some ⟨b, o + (i + 1) * 5, none⟩) (n - i) (c - (i + 1))]).run Tryz.prog w = .ok (.value (.bool false)) w)
    (hA : (Builtin.copy_ #[60, 60] 3 #[.slice (some ⟨b, o + (i + 1) * 5, none⟩) (n - i) (c - (i + 1)), .slice (some ⟨b, o + i * 5, none⟩) (n + 1 - i) (c - i)]).run Tryz.prog w.drew = .ok r1 W1)
    (hB : (Builtin.copy_ #[60, 60] 3 #[.slice (some ⟨b, o + i * 5, none⟩) (n + 1 - i) (c - i), .slice ad 1 vc]).run Tryz.prog W1 = .ok r2 W2) :
    Calls Tryz.prog 58 #[.slice (some ⟨b, o, none⟩) n c, .int .i64 i, .slice ad 1 vc] w fun e w' => e = .returned (.slice (some ⟨b, o, none⟩) (n + 1) c) ∧ w' = W2 := by
  have u3 := run_underlying iu3; have u4 := run_underlying iu4; have u60 := run_underlying iu60; have z105 := iz105
  have mixed := imixed
  have hz1 : ¬ ((1 : Int) = 0) := by omega
  have hz2 : ¬ ((i : Int) = (n : Int)) := by omega
  have hz3 : ¬ (c : Int) < (n : Int) + 1 := by omega
  have hw1 : IntKind.i64.wrap ((i : Int) + 1) = (i : Int) + 1 := by rw [IntKind.wrap_i64]; omega
  have hw2 : IntKind.i64.wrap ((n : Int) + 1) = (n : Int) + 1 := by rw [IntKind.wrap_i64]; omega
  have hci : ¬ (c = i) := by omega
  have hci1 : ¬ (c = i + 1) := by omega
  have hin : i ≤ n := by omega
  have htn : ((i : Int) + 1).toNat = i + 1 := by omega
  have htn2 : ((n : Int) + 1).toNat = n + 1 := by omega
  have hb1 : (0 : Int) ≤ (i : Int) + 1 := by omega
  have hb2 : (0 : Int) ≤ (n : Int) + 1 := by omega
  have hb3 : (i : Int) ≤ (n : Int) + 1 := by omega
  have hb4 : (i : Int) + 1 ≤ (n : Int) + 1 := by omega
  go_enter Tryz.func58, Tryz.ntmps58
  go_wp2_with (simp only [hO])
  go_region_law_o (refine step_copy_runI rfl _ _ 60 60 rfl _ _ (by simp [Act.eval, Act.put]) (by simp [Act.eval, Act.put]) hA ?_)
  go_wp2_with (at_builtin; refine wpList_copy_runI _ rfl _ _ 60 60 rfl _ _ rfl rfl hB ?_)
  go_ret
  exact ⟨rfl, rfl⟩
end Go.DM
