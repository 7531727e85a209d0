/- The program's sounds and scan, where one place alone is a sound frame. -/

import Derived.RangeFuncNested
import Derived.RangeFuncBound
import Derived.RangeFuncCalls
import Derived.RangeFuncLeaves
import Derived.Shelf.RegionOpen
import Derived.OwnWalkIn
import Derived.TacticsInMore
import Derived.LoopNIn
import Derived.LoopIn
import Derived.Great.BuildSlice
import Derived.Test.YtplddeboinhkbaaGreatDoorRRProg
import Derived.Test.YtplddeboinhkbaaGreatDoorRRSavC
namespace Go.Proofs.YtplddeboinhkbaaGreatDoorRR
open Go.RowKit Go.Shelf
attribute [local go_sem] Oper.semAt_some
/-! ### A plain walk inside a fence that shuts nothing out -/
def noDefer (o : Oper) : Bool := match o.op with
  | .defer _ => false
  | _ => true
theorem rowsIn_wide {n : Nat} {P : Program} {row : String} {args : Array Value} {w : World} {R : Value → World → Prop} (h : Rows P row args w R) : RowsIn Fence.wide n P row args w R :=
  fun c cs _ => let ⟨v, w', r, s⟩ := h c cs; ⟨v, w', r, stepsIn_wide.2 s⟩
theorem op_wpIn {F : Fence} (hF : F = Fence.wide ∨ ∃ l, F = Fence.wide.inRound l) {n : Nat} {P : Program} {o : Oper} {a : Act} {w : World} {K : Act → World → Prop} {Q : Exit → Act → World → Prop} (hd : noDefer o = true) (h : o.wp P a w K Q) :
    o.wpIn F n P a w K Q := by
  have hs : (o.semAt F.round a.eval) = execOp a.eval o := by
    rcases hF with rfl | ⟨l, rfl⟩
    · exact Oper.semAt_none _ _
    · exact Oper.semAt_some l _ _ (fun c hc => by simp [noDefer, hc] at hd)
  have hfn : ∀ f, F.fn f := by rcases hF with rfl | ⟨l, rfl⟩ <;> exact fun _ => trivial
  have hdep : F.depth.isSome = true → 1 ≤ n := by rcases hF with rfl | ⟨l, rfl⟩ <;> (intro h; cases h)
  have hcall : ∀ (f : FuncId) (args : Array Value) (w : World) (R : Ending → World → Prop), Calls P f args w R → CallsIn F (n - 1) P f args w R := by
    rcases hF with rfl | ⟨l, rfl⟩
    · exact fun f args w R h => callsIn_wide.2 h
    · exact fun f args w R h => CallsIn.inRound l (callsIn_wide.2 h)
  unfold Oper.wpIn
  refine ⟨fun f _ => hfn f, ?_⟩
  rw [hs]
  unfold Oper.wp at h
  revert h
  generalize (execOp a.eval o).run P w = r
  intro h
  have hrow : ∀ (row : String) (args : Array Value) (w : World) (R : Value → World → Prop), Rows P row args w R → RowsIn F (n - 1) P row args w R := by
    rcases hF with rfl | ⟨l, rfl⟩
    · exact fun row args w R h => rowsIn_wide h
    · exact fun row args w R h => rowsIn_wide h
  cases r with
  | ok x w' =>
    cases x with
    | value v => exact h
    | skip => exact h
    | defer d => exact h
    | enter f args => exact ⟨hdep, hcall _ _ _ _ h⟩
    | row row args => exact ⟨hdep, hrow _ _ _ _ h⟩
    | _ => exact h.elim
  | halt x w' =>
    cases x <;> first | exact h | exact h.elim
section
variable {F : Fence} {n : Nat} {P : Program} {ops : Array Oper} {Q : Exit → Act → World → Prop} {op : Oper} {rest : List Oper} {a : Act} {w : World}
/-- One operation of a list inside such a fence, by its plain law. -/
theorem step_wpIn (hF : F = Fence.wide ∨ ∃ l, F = Fence.wide.inRound l) (hd : noDefer op = true) (hw : Region.wanted op (yielded ops a.tmps) = true)
    (h : ∀ K : Act → World → Prop, (∀ a w, wpListIn F n P ops Q rest a w → K a w) → op.wp P a w K Q) : wpListIn F n P ops Q (op :: rest) a w := by
  unfold wpListIn
  rw [if_pos hw]
  exact op_wpIn hF hd (h _ fun _ _ h => h)
theorem stopIn_load (ty : TypeId) {x : Operand} (_ : op.op = .load ty x) (h : Stop (wpListIn F n P ops Q (op :: rest) a w)) : wpListIn F n P ops Q (op :: rest) a w := h
theorem stopIn_store (ty : TypeId) {x y : Operand} (_ : op.op = .store ty x y) (h : Stop (wpListIn F n P ops Q (op :: rest) a w)) : wpListIn F n P ops Q (op :: rest) a w := h
theorem stopIn_build (t : TypeId) {parts : Array (Nat × Operand)} (_ : op.op = .build t parts) (h : Stop (wpListIn F n P ops Q (op :: rest) a w)) : wpListIn F n P ops Q (op :: rest) a w := h
end
/-! ### The iterator -/
/-- One place alone is a sound frame: that at half 2. -/
structure OneAt (H : List Nat) (f : List Nat) : Prop where
  len : H.length = 194
  lt : ∀ k, wd H k < 16
  s0 : isSyncB (wordB (wd H 0) (wd H 1) (wd H 2)) = false
  s1 : isSyncB (wordB (wd H 1) (wd H 2) (wd H 3)) = false
  s2 : isSyncB (wordB (wd H 2) (wd H 3) (wd H 4)) = true
  fr : frameL (H.drop 2) = f
  sound : soundB f = true
theorem sounds_any (b o n c : Nat) (w : World) :
    Calls Tryz.prog 108 #[.slice (some ⟨b, o, none⟩) n c] w fun e w' => e = .returned (.func (.func 115) #[] #[.pointer (some ⟨w.heap.size, 0, none⟩)]) ∧ w' = w.alloc (.cells #[.slice (some ⟨b, o, none⟩) n c] 41) := by
  go_enter Tryz.func108, Tryz.ntmps108
  go_wp2
  go_ret
  exact ⟨rfl, rfl⟩
theorem grown_of_ext {a b : World} (h : Ext a b) : a.grownBy b none := ⟨h.os, h.tape, h.output, h.size, fun k hk _ => h.block k hk⟩
theorem drop_cells {H : List Nat} (hl : H.length = 194) : (encB H).extract 2 (2 + 192) = encB (H.drop 2) := by
  apply Array.ext'
  simp only [encB, Array.toList_extract, List.extract, List.toList_toArray, List.map_drop]
  rw [List.take_of_length_le (by simp; omega)]
theorem wd_drop (H : List Nat) (j k : Nat) : wd (H.drop j) k = wd H (j + k) := by
  simp [wd, List.getD_eq_getElem?_getD]
theorem array_at (b k c : Nat) (w : World) : (Instr.arrayAt 147 (.slice (some ⟨b, k, none⟩) 192 c)).run Tryz.prog w = .ok (.pointer (some ⟨b, k, none⟩)) w := by
  have hu : Tryz.prog.underlying 147 = some (.array 192 5) := by kernel_rfl
  simp [Instr.arrayAt, Sem.run_bind, run_underlying hu]
theorem info_window : (Tryz.prog.info? 147).map (·.size) = some 192 := by kernel_rfl
/-- Block B lies as it lay. -/
def SameB (B : Nat) (X Y : World) : Prop := Y.heap[B]? = X.heap[B]?
theorem SameB.cell {B k : Nat} {X Y : World} {v : Value} (h : SameB B X Y) (hc : X.cell? ⟨B, k, none⟩ = some v) : Y.cell? ⟨B, k, none⟩ = some v := by
  unfold SameB at h
  unfold World.cell? at hc ⊢
  simp only [h]
  exact hc
theorem SameB.trans {B : Nat} {X Y Z : World} (h : SameB B X Y) (k : SameB B Y Z) : SameB B X Z := Eq.trans k h
def StopsPost (J Jx : List Unit → World → Prop) (e : Ending) (W' : World) : Prop := (∃ v, e = .returned v) ∧ ((∃ xs, xs = [()] ∧ J xs W') ∨ (∃ pre, True ∧ Jx pre W'))
set_option maxRecDepth 100000 in
set_option maxHeartbeats 4000000 in
theorem sounds1_in (Bn b c n l : Nat) (H f : List Nat) (hO : OneAt H f) (hf : FrameOk f) (hc : 194 ≤ c) (_hn : 2 ≤ n) (J Jx : List Unit → World → Prop) (W : World) (hS : SyncAt W)
    (hBn : W.cell? ⟨Bn, 0, none⟩ = some (.slice (some ⟨b, 0, none⟩) 194 c)) (hB : W.heap[b]? = some (.cells (encB H) 5 (0, 0))) (hJ : AbidesFrom W.heap.size J)
    (hY : ∀ pre x W1, J pre W1 → pre.length < 1 → YieldAt Fence.wide (n - 1) Tryz.prog l #[.int .i64 2, .agg (encF f)] W1 fun e W' =>
      (e = .returned (.bool true) ∧ J (pre ++ [x]) W' ∧ SameB Bn W1 W') ∨ (e = .returned (.bool false) ∧ Jx (pre ++ [x]) W')) (h0 : J [] W) :
    CallsIn Fence.wide n Tryz.prog 115 #[.func (.yield l) #[] #[], .pointer (some ⟨Bn, 0, none⟩)] W (StopsPost J Jx) := by
  refine callsIn_wide.2 ?_
  have HO := Lib.hid hO
  have HJ := Lib.hid (show ∀ W1, Ext W W1 → J [] W1 from fun W1 hE => hJ [] W W1 none h0 (grown_of_ext hE) (fun r e => by cases e))
  have HY := Lib.hid hY
  have hcn : (194 : Int) ≤ (c : Int) := by omega
  clear hO hJ hY h0
  go_enter Tryz.func115, Tryz.ntmps115
  go_wp2
  go_loopw [3] (fun i wr => ∃ k : Nat, k ≤ 3 ∧ i = .int .i64 k ∧ Aside (k ≤ 2 → Ext W wr) ∧ Aside (k = 3 → J [()] wr) ∧ wr.cell? ⟨Bn, 0, none⟩ = some (.slice (some ⟨b, 0, none⟩) 194 c)) (fun i _ => 3 - (intOf i).toNat)
  case atStart => exact ⟨0, by omega, rfl, (show Aside _ from fun _ => Ext.refl W), (show Aside _ from fun h => by omega), hBn⟩
  case round =>
    obtain ⟨k, hk, rfl, A1, A2, hBr⟩ := hrel
    by_cases hk3 : k = 3
    · have h3 := A2.out hk3
      have hk4 : ¬ ((k : Nat) : Int) + 192 ≤ 194 := by omega
      have HK := Lib.hid hk3
      clear hk3
      go_wp2
      go_end0
      exact ⟨⟨_, rfl⟩, .inl ⟨_, rfl, h3⟩⟩
    · have hE := A1.out (by omega)
      have hBw := hE.heap hB
      have hSw := hS.ext hE
      have hk4 : ((k : Nat) : Int) + 192 ≤ 194 := by omega
      have HLn := Lib.hid HO.out.len
      have HA := Lib.hid (BAt.of_block hBw)
      have g0 := HA.out k (by rw [HLn.out]; omega)
      have g1 := HA.out (k + 1) (by rw [HLn.out]; omega)
      have g2 := HA.out (k + 2) (by rw [HLn.out]; omega)
      rw [Nat.zero_add] at g0
      rw [show 0 + (k + 1) = k + 1 by omega] at g1
      rw [show 0 + (k + 2) = k + 2 by omega] at g2
      have G0 := Lib.hid g0
      have G1 := Lib.hid g1
      have G2 := Lib.hid g2
      have HK3 := Lib.hid hk3
      clear g0 g1 g2 A1 A2 hk3 HA
      have hwl := wordB_lt (HO.out.lt k) (HO.out.lt (k + 1)) (HO.out.lt (k + 2))
      have HSy := Lib.hid (show isSyncB (wordB (wd H k) (wd H (k + 1)) (wd H (k + 2))) = decide (k = 2) by
        have h3 := HK3.out
        have h4 : k = 0 ∨ k = 1 ∨ k = 2 := by omega
        rcases h4 with rfl | rfl | rfl
        · exact HO.out.s0
        · exact HO.out.s1
        · exact HO.out.s2)
      have cw := wordAt_any b k 3 (c - k) _ _ _ wr (by omega) (by omega) G0.out G1.out G2.out (HO.out.lt _) (HO.out.lt _) (HO.out.lt _)
      generalize wordB (wd H k) (wd H (k + 1)) (wd H (k + 2)) = v at hwl HSy cw
      go_wp2_with fail
      refine cw.mono ?_
      rintro e w2 ⟨rfl, hE2⟩
      have cs := isSync_any v w2 (by omega) (hSw.ext hE2)
      rw [HSy.out] at cs
      clear cw
      go_wp2_with fail
      refine cs.mono ?_
      rintro e w3 ⟨rfl, hE3⟩
      have hE3 := hE2.trans hE3
      have hBr3 := hE3.cell hBr
      have hBw3 := hE3.heap hBw
      have hSw3 := hSw.ext hE3
      have hE := hE.trans hE3
      clear cs hBr hBw hSw G0 G1 G2
      by_cases h2 : k = 2
      · rw [decide_eq_true h2]
        have e2 : ((k : Nat) : Int) = 2 := by omega
        have HE2 := Lib.hid e2
        have H2 := Lib.hid h2
        clear h2 e2
        have cfi := fun u => frameIn_any (H.drop 2) u (by rw [List.length_drop, HLn.out]) (fun i => by rw [wd_drop]; exact HO.out.lt _)
        rw [HO.out.fr] at cfi
        have har := fun u => array_at b k (c - k) u
        have cso := fun (u : World) (hu : SyncAt u) => soundx_any f u hf hu
        rw [HO.out.sound] at cso
        go_wp2_with ((with_reducible refine stop_load 147 rfl ?_))
        apply Stop.go
        refine wpList_load_blk rfl _ _ rfl b k rfl 192 _ _ _ _ hBw3 Tryz.underlying147 rfl info_window (by rw [encB_size, HLn.out]; omega) (encB (H.drop 2)) (by rw [H2.out]; exact drop_cells HLn.out) ?_
        simp only [Act.put, List.setIfInBounds_toArray, List.set_cons_zero, List.set_cons_succ]
        go_wp2_with fail
        refine (cfi _).mono ?_
        rintro e w4 ⟨rfl, hE4⟩
        have hBr4 := hE4.cell hBr3
        have hSw4 := hSw3.ext hE4
        have hE4 := hE.trans hE4
        clear hBr3 hBw3 hSw3 hE cfi
        go_wp2_with ((with_reducible refine stop_store 27 rfl ?_))
        apply Stop.go
        refine wpList_world fun w5 e5 => ?_
        have hEa := Ext.of_eq e5
        clear e5
        refine wpList_store_whole rfl _ _ _ rfl w4.heap.size rfl (encF f) rfl _ _ (hEa.heap (block_new w4 _)) (by rw [encF_size hf]; exact info_frame) (by rw [encF_size hf]; rfl) (encF_one _) fun w6 u6 => ?_
        dsimp only [Act.put]
        have hF6 := u6.here
        have hEb := (ext_of_alloc _ hEa).upd (by simp) u6
        have hBr6 := hEb.cell hBr4
        have hSw6 := hSw4.ext hEb
        have hE6 := hE4.trans hEb
        clear hEa hEb u6 hBr4 hSw4 hE4
        generalize w4.heap.size = fb at hF6 ⊢
        go_upto_region 5 with fail
        refine (wpIn_wide (n := n)).1 ?_
        refine wpIn_region_lit ?_
        refine step_wpIn (.inl rfl) rfl rfl fun K hK => ?_
        refine wp_load_blk _ _ rfl fb 0 rfl 64 _ _ _ _ hF6 Tryz.underlying27 rfl info_frame (by rw [encF_size hf]; omega) (encF f) (by rw [Nat.zero_add, ← encF_size hf, Array.extract_size]) (hK _ _ ?_)
        clear hK K
        simp only [Act.put, List.setIfInBounds_toArray, List.set_cons_zero, List.set_cons_succ]
        gi_wp2_with fail
        refine ⟨trivial, (fun h => by cases h), (callsIn_wide.2 (cso _ hSw6)).mono ?_⟩
        rintro e w7 ⟨rfl, hE7⟩
        gi_wp2_with ((with_reducible refine stopIn_load 27 rfl ?_))
        apply Stop.go
        have hF7 := hE7.heap hF6
        have hBr7 := hE7.cell hBr6
        have hE7 := hE6.trans hE7
        clear hF6 hBr6 hE6 cso
        refine step_wpIn (.inl rfl) rfl rfl fun K hK => ?_
        refine wp_load_blk _ _ rfl fb 0 rfl 64 _ _ _ _ hF7 Tryz.underlying27 rfl info_frame (by rw [encF_size hf]; omega) (encF f) (by rw [Nat.zero_add, ← encF_size hf, Array.extract_size]) (hK _ _ ?_)
        clear hK K
        simp only [Act.put, List.setIfInBounds_toArray, List.set_cons_zero, List.set_cons_succ]
        obtain ⟨fn, tmps, assign, body, hy, hR⟩ := HY.out [] () w7 (HJ.out w7 hE7) (by decide)
        rw [← HE2.out] at hy
        gi_wp2
        refine ⟨(fun h => by cases h), hR.mono ?_⟩
        rintro e W3 (⟨rfl, hJ3, hk3⟩ | ⟨rfl, hJx3⟩)
        · have hBr3 : W3.cell? ⟨Bn, 0, none⟩ = some (.slice (some ⟨b, 0, none⟩) 194 c) := hk3.cell hBr7
          have A1 : Aside (k + 1 ≤ 2 → Ext W W3) := fun h => by have := H2.out; omega
          have A2 : Aside (k + 1 = 3 → J [()] W3) := fun _ => hJ3
          clear hJ3 hk3 hy hR hBr7 hF7 hE7
          gi_wp2
          go_wp2
          go_roundw
          case rel => first | exact ⟨k + 1, by omega, by go_num, A1, A2, hBr3⟩ | ((repeat apply Exists.intro); exact ⟨⟨k + 1, by omega, by go_num, A1, A2, hBr3⟩, rfl⟩)
          case measure => simp [intOf]; omega
        · have hZ : StopsPost J Jx (.returned (.tuple #[])) W3 := ⟨⟨_, rfl⟩, .inr ⟨_, trivial, hJx3⟩⟩
          clear hJx3 hy hR hBr7 hF7 hE7
          gi_wp2
          go_wp2
          go_end0
          exact hZ
      · rw [decide_eq_false h2]
        have A1 : Aside (k + 1 ≤ 2 → Ext W w3) := fun _ => hE
        have A2 : Aside (k + 1 = 3 → J [()] w3) := fun h => by omega
        have H2 := Lib.hid h2
        clear h2
        go_wp2
        go_roundw
        case rel => first | exact ⟨k + 1, by omega, by go_num, A1, A2, hBr3⟩ | ((repeat apply Exists.intro); exact ⟨⟨k + 1, by omega, by go_num, A1, A2, hBr3⟩, rfl⟩)
        case measure => simp [intOf]; omega
end Go.Proofs.YtplddeboinhkbaaGreatDoorRR
