/- The program's certain places and its finder, where one place alone is a sound frame. -/

import Derived.Test.YtplddeboinhkbaaGreatDoorRRProg
import Derived.Test.YtplddeboinhkbaaGreatDoorRRSavE
namespace Go.Proofs.YtplddeboinhkbaaGreatDoorRR
open Go.RowKit
theorem found_one (k : Int) (f : List Nat) : ((foundL k f).toArray).all (·.oneCell') = true := by
  rw [Array.all_eq_true_iff_forall_mem]
  intro u hu
  exact foundL_one k f u (by simpa using hu)
theorem ownsRow_base {w : World} {base base' : Nat} {e : TypeId} {size : Nat} {v : Value} {n : Nat} {xs : List Value} (h : w.ownsRow base e size v n xs) (hb : base' ≤ base) : w.ownsRow base' e size v n xs := by
  refine ⟨h.1, ?_⟩
  rcases h.2 with hn | ⟨g, cap, cur, rfl, hbg, r⟩
  · exact .inl hn
  · exact .inr ⟨g, cap, cur, rfl, Nat.le_trans hb hbg, r⟩
theorem info_founds : (Tryz.prog.info? 90).map (·.size) = some 65 := by kernel_rfl
/-- What a row of one element looks like. -/
theorem owns_one {w : World} {base : Nat} {e : TypeId} {size : Nat} {v : Value} {xs : List Value} (h : w.ownsRow base e size v 1 xs) :
    ∃ g cap cur, v = .slice (some ⟨g, 0, none⟩) 1 cap ∧ base ≤ g ∧ w.heap[g]? = some (.cells cur e (0, 0)) ∧ 1 ≤ cap ∧ cur.size = cap * size ∧ cur.extract 0 (0 + size) = xs.toArray := by
  rcases h.2 with ⟨_, h0⟩ | ⟨g, cap, cur, h1, h2, h3, h4, _, h6, h7⟩
  · cases h0
  · refine ⟨g, cap, cur, h1, h2, h3, h4, h6, ?_⟩
    apply Array.ext'
    rw [Nat.one_mul] at h7
    simp [Array.toList_extract, List.extract, h7]
section
variable {P : Program} {ops : Array Oper} {rest : List Oper} {op : Oper} {a : Act} {w : World} {Q : Exit → Act → World → Prop}
theorem wpList_buildSlice_to (hg : op.guard = none) (t e : TypeId) (len : Nat) (L : List (Nat × Operand)) (ho : op.op = .buildSlice t len L.toArray) (V : List (Nat × Value)) (hV : L.map (fun (x : Nat × Operand) => (x.1, a.eval x.2)) = V)
    (cells : Array Value) (ie : TypeInfo) (z : Value) (hu : P.underlying t = some (.slice e)) (hie : P.info? e = some ie) (hz : ie.zero = some z) (hsmall : ¬ len * ie.size > 2 ^ 24) (hpos : ¬ len * ie.size = 0)
    (hf : Instr.fill (fun i => some (i * ie.size, ie.size)) ((Array.range (len * ie.size)).map (z.cells[· % z.cells.size]!)) V = some cells)
    (h : wpList P ops Q rest (a.put op.dst (.slice (some ⟨w.heap.size, 0, none⟩) len len)) (w.alloc (.cells cells e))) : wpList P ops Q (op :: rest) a w :=
  wpList_plain hg fun _ hK => wp_buildSlice_to t e len L ho V hV cells ie z hu hie hz hsmall hpos hf (hK _ _ h)
end
set_option maxRecDepth 100000 in
set_option maxHeartbeats 4000000 in
theorem certain_any (b c : Nat) (H f : List Nat) (w : World) (hO : OneAt H f) (hf : FrameOk f) (hc : 194 ≤ c) (hS : SyncAt w) (hB : w.heap[b]? = some (.cells (encB H) 5 (0, 0))) :
    Calls Tryz.prog 76 #[.slice (some ⟨b, 0, none⟩) 194 c] w (ScanPost f w) := by
  obtain ⟨i0, hi, hz0, hz1, hz2⟩ := info_parts info_found
  have hfl := Lib.hid (foundL_length 2 hf)
  go_enter Tryz.func76, Tryz.ntmps76
  go_wp2_with fail
  refine (scan_any b c H f w hO hf hc hS hB).mono ?_
  rintro e w1 ⟨v, rfl, hown, hE⟩
  obtain ⟨g, cap, cur, rfl, hgb, hg, hcap, hcs, hcx⟩ := owns_one hown
  have HCS := Lib.hid hcs
  have HCX := Lib.hid hcx
  have HI := Lib.hid hi
  have HZ0 := Lib.hid hz0
  have HZ1 := Lib.hid hz1
  have HZ2 := Lib.hid hz2
  clear hown hcs hcx hO hB hc hi hz0 hz1 hz2
  go_wp2
  go_loopw [4, 11] (fun s4 s11 wr => ∃ k : Nat, k ≤ 1 ∧ s11 = .int .i64 k ∧ wr.ownsRow w1.heap.size 90 65 s4 k (List.replicate k (foundL 2 f)).flatten ∧ Aside (k = 0 → s4 = .slice none 0 0) ∧ Ext w1 wr) (fun _ s11 _ => 1 - (intOf s11).toNat)
  case atStart => exact ⟨0, by omega, rfl, World.ownsRow_nil _ _ _ _, (show Aside _ from fun _ => rfl), Ext.refl w1⟩
  case round =>
    obtain ⟨k, hk, rfl, hown, A, hE1⟩ := hrel
    by_cases hk0 : k = 0
    · have h4 := A.out hk0
      subst hk0
      obtain rfl := h4
      have hgw := hE1.heap hg
      clear A hown
      rw [show ((0 : Nat) : Int) = 0 from rfl]
      go_wp2_with ((with_reducible refine stop_load 90 rfl ?_))
      apply Stop.go
      refine wpList_load_blk rfl _ _ rfl g 0 rfl 65 _ cur _ _ hgw Tryz.underlying90 rfl info_founds (by rw [HCS.out]; omega) (foundL 2 f).toArray HCX.out ?_
      simp only [Act.put, List.setIfInBounds_toArray, List.set_cons_zero, List.set_cons_succ]
      go_wp2_with ((with_reducible refine stop_store 90 rfl ?_))
      apply Stop.go
      refine wpList_world fun w2 e2 => ?_
      have hEa := Ext.of_eq e2
      clear e2
      refine wpList_store_whole rfl _ _ _ rfl wr.heap.size rfl (foundL 2 f).toArray rfl _ _ (hEa.heap (block_new wr _)) (by rw [List.size_toArray, hfl.out]; exact info_founds) (by rw [List.size_toArray, hfl.out]; exact zero_found.symm) (found_one 2 f) fun w3 u3 => ?_
      dsimp only [Act.put]
      have hF3 := u3.here
      have hE3 := hE1.trans ((ext_of_alloc _ hEa).upd (by simp) u3)
      clear u3 hEa hgw hE1 w2
      generalize wr.heap.size = fb at hF3 ⊢
      go_wp2
      refine wp_region_ext (by kernel_rfl) (by kernel_rfl) ?_
      repeat (go_big_quiet_step (fail))
      refine wpQuiet_nil ?_
      rintro _ ⟨x, rfl⟩
      have hF4 := x.ext.heap hF3
      have hE4 := hE3.trans x.ext
      generalize x.val = w4 at hF4 hE4 ⊢
      clear hF3 hE3 x w3
      go_wp2_with ((with_reducible refine stop_load 90 rfl ?_))
      apply Stop.go
      refine wpList_load_blk rfl _ _ rfl fb 0 rfl 65 _ _ _ _ hF4 Tryz.underlying90 rfl info_founds (by rw [List.size_toArray, hfl.out]; omega) (foundL 2 f).toArray (by rw [Nat.zero_add, ← hfl.out, ← List.size_toArray, Array.extract_size]) ?_
      simp only [Act.put, List.setIfInBounds_toArray, List.set_cons_zero, List.set_cons_succ]
      refine wpList_buildSlice_to rfl 85 90 1 _ rfl _ rfl (foundL 2 f).toArray i0 _ Tryz.underlying85 HI.out HZ0.out (by rw [HZ1.out]; decide) (by rw [HZ1.out]; decide) (by rw [HZ1.out]; exact fill_single (by decide) _ _ _ rfl (by rw [List.size_toArray, hfl.out])) ?_
      simp only [Act.put, List.setIfInBounds_toArray, List.set_cons_zero, List.set_cons_succ]
      refine wpList_append_ext (w0 := w1) (hE4.alloc _) rfl _ _ 85 rfl 90 i0 _ 65 136 Tryz.underlying85 HI.out HZ0.out HZ1.out HZ2.out zero_found (by decide) (.slice none 0 0) 0 [] rfl (World.ownsRow_nil _ _ _ _) ⟨w4.heap.size, 0, none⟩ 1 1 (foundL 2 f) rfl (by rw [hfl.out]) (cells_new w4 _ _) (foundL_one 2 f) (by decide) (by decide) fun v' w5 hown hE5 => ?_
      simp only [Act.put, List.setIfInBounds_toArray, List.set_cons_zero, List.set_cons_succ]
      obtain ⟨va, vc, rfl⟩ := ownsRow_shape hown
      have hown5 : w5.ownsRow w1.heap.size 90 65 (.slice va (0 + 1) vc) 1 (List.replicate 1 (foundL 2 f)).flatten := by
        rw [show (List.replicate 1 (foundL 2 f)).flatten = [] ++ foundL 2 f by simp]
        exact hown
      have A5 : Aside (1 = 0 → Value.slice va (0 + 1) vc = .slice none 0 0) := fun h => by cases h
      clear hown
      go_wp2
      go_roundw
      case rel => exact ⟨1, by omega, rfl, hown5, A5, hE5⟩
      case measure => simp [intOf]
    · obtain rfl : k = 1 := by omega
      obtain ⟨va, vc, rfl⟩ := ownsRow_shape hown
      rw [show (List.replicate 1 (foundL 2 f)).flatten = foundL 2 f by simp] at hown
      go_wp2
      go_ret
      exact ⟨_, rfl, ownsRow_base hown hE.size, hE.trans hE1⟩
end Go.Proofs.YtplddeboinhkbaaGreatDoorRR
