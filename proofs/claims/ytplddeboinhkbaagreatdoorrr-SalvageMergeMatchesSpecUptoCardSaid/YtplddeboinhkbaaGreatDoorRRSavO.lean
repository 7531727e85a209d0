/- The law's own check of Salvage: it answers true. -/

import Derived.Test.YtplddeboinhkbaaGreatDoorRRProg
import Derived.Test.YtplddeboinhkbaaGreatDoorRRSavN
import Derived.Test.YtplddeboinhkbaaGreatDoorRRSavB
import Derived.Test.YtplddeboinhkbaaGreatDoorRREqs
import Derived.Laws.StructEq
namespace Go.Proofs.YtplddeboinhkbaaGreatDoorRR
open Go.RowKit
theorem info_piecez : (Tryz.prog.info? 47).map (fun i => (i.zero, i.size, i.bytes)) = some (some (.agg #[.slice none 0 0, .bool false]), 2, 32) := by kernel_rfl
theorem dAt_made (w : World) : DAt (w.alloc (.cells (madeCells #[.int .i64 0] 58) 3)) w.heap.size 0 := fun k hk => by
  rw [Nat.zero_add, cell_of_row _ _ _ _ _ _ (block_new w _)]
  have h : (madeCells #[Value.int .i64 0] 58).toList[k]? = some (.int .i64 0) := by
    rw [toList_madeCells_one, List.getElem?_replicate, if_pos hk]
  simpa using h
theorem bAt_row {w : World} {base : Nat} {v : Value} {n : Nat} {l : List Nat} (h : w.ownsRow base 5 1 v n ([Value.int .u8 7] ++ (encB l).toList)) (hn : n = 1 + l.length) :
    ∃ g cap, v = .slice (some ⟨g, 0, none⟩) n cap ∧ BAt w g 0 (7 :: l) := by
  rcases h.2 with ⟨_, h0⟩ | ⟨g, cap, cur, h1, h2, h3, h4, _, h6, h7⟩
  · omega
  · refine ⟨g, cap, h1, fun k hk => ?_⟩
    rw [Nat.zero_add, cell_of_row _ _ _ _ _ _ h3]
    have h8 : ([Value.int .u8 7] ++ (encB l).toList)[k]? = some (.int .u8 (wd (7 :: l) k : Nat)) := by
      cases k with
      | zero => rfl
      | succ j =>
        have hj : j < l.length := by simpa using hk
        have := encB_at (l := l) j hj
        simpa [wd] using this
    rw [← h7, List.getElem?_take] at h8
    split at h8
    · simpa using h8
    · cases h8
theorem encB_ones (l : List Nat) : ∀ u ∈ (encB l).toList, u.oneCell' = true := by
  intro u hu
  simp [encB] at hu
  obtain ⟨n, _, rfl⟩ := hu
  rfl
theorem eql_frame {f : List Nat} (hf : f.length = 64) (w : World) : (binOp .eql 27 (.agg (encF f)) (.agg (encF f))).run Tryz.prog w = .ok (.bool true) w := by
  rw [run_eql_struct, show (10000 : Nat) = 9998 + 1 + 1 from rfl, run_eqF 9998 f f hf hf w]
  simp
theorem run_binOp_op {P : Program} {op : Oper} {a : Act} {w : World} (b : BinOp) (t t' : TypeId) (x y : Operand) (ho : op.op = .binOp b t x y t') {u1 u2 v : Value} (h1 : a.eval x = u1) (h2 : a.eval y = u2) (hg : (eqGuard b t x y u1 u2).run P w = .ok () w) (hr : (binOp b t u1 u2).run P w = .ok v w) :
    (execOp a.eval op).run P w = .ok (.value v) w := by
  unfold execOp
  simp [ho, h1, h2, hg, hr]
theorem wide9 : wideB f9 = false := by rw [f9_lit]; kernel_rfl
set_option maxRecDepth 100000 in
set_option maxHeartbeats 4000000 in
theorem saved_any (w : World) (hS : SyncAt w) :
    Calls Tryz.prog 6 #[] w (fun e w' => e = .returned (.bool true) ∧ Ext w w') := by
  have hfo := f9_ok
  have hO := oneAt9
  have hlt := b9_lt
  have hlen := b9_len
  have hm := merged9
  have hC := cop9
  have h9 := num9
  have hw9 := wide9
  have cn := rNew_any
  have hbl : (bytesF f9).length = 96 := bytTo_length _ _ _
  generalize f9 = f at *
  obtain ⟨i0, hi, hz0, hz1, hz2⟩ := info_parts info_intz
  have HI := Lib.hid hi
  have HZ0 := Lib.hid hz0
  have HZ1 := Lib.hid hz1
  have HZ2 := Lib.hid hz2
  clear hi hz0 hz1 hz2
  obtain ⟨j0, hi, hz0, hz1, hz2⟩ := info_parts info_u8
  have HJ := Lib.hid hi
  have HJ0 := Lib.hid hz0
  have HJ1 := Lib.hid hz1
  have HJ2 := Lib.hid hz2
  clear hi hz0 hz1 hz2
  obtain ⟨p0, hi, hz0, hz1, hz2⟩ := info_parts info_piecez
  have HP := Lib.hid hi
  have HP0 := Lib.hid hz0
  have HP1 := Lib.hid hz1
  clear hi hz0 hz1 hz2
  generalize hbs : bytesF f = bs at *
  go_enter Tryz.func6, Tryz.ntmps6
  go_wp2_with ((with_reducible refine stop_dst 8 rfl ?_))
  apply Stop.go
  refine wpList_make_row _ rfl _ _ 40 rfl 3 i0 (.int .i64 0) Tryz.underlying40 HI.out HZ0.out HZ1.out rfl .i64 .i64 58 rfl rfl (by rw [HZ2.out]; decide) (by decide) ?_
  simp only [Act.put, List.setIfInBounds_toArray, List.set_cons_zero, List.set_cons_succ]
  have hD := dAt_made w
  go_wp2_with fail
  refine (cn w.heap.size 0 58 _ hD).mono ?_
  rintro e w1 ⟨rfl, hE1⟩
  have hE1 := ext_of_alloc _ hE1
  clear hD cn
  go_wp2_with ((with_reducible refine stop_store 27 rfl ?_))
  apply Stop.go
  refine wpList_world fun w4 e4 => ?_
  have hEa := Ext.of_eq e4
  clear e4
  refine wpList_store_whole rfl _ _ _ rfl w1.heap.size rfl (encF f) rfl _ _ (hEa.heap (block_new w1 _)) (by rw [encF_size hfo]; exact info_frame) (by rw [encF_size hfo]; kernel_rfl) (encF_one f) fun w5 u5 => ?_
  dsimp only [Act.put]
  have hF5 := u5.here
  have hE5 := hE1.trans ((ext_of_alloc _ hEa).upd (by simp) u5)
  clear u5 hEa hE1 w4
  generalize w1.heap.size = fb at hF5 ⊢
  go_wp2_with ((with_reducible refine stop_load 27 rfl ?_))
  apply Stop.go
  refine wpList_load_blk rfl _ _ rfl fb 0 rfl 64 _ _ _ _ hF5 Tryz.underlying27 rfl info_frame (by rw [encF_size hfo]; omega) (encF f) (by rw [Nat.zero_add, ← encF_size hfo, Array.extract_size]) ?_
  simp only [Act.put, List.setIfInBounds_toArray, List.set_cons_zero, List.set_cons_succ]
  go_wp2_with fail
  refine (rToBytes_any f _ hfo hw9).mono ?_
  rintro e w6 ⟨gb, rfl, _, hG6, hE6⟩
  rw [hbs] at hG6
  have hF6 := hE6.heap hF5
  have hE6 := hE5.trans hE6
  clear hF5 hE5
  go_wp2_with ((with_reducible refine stop_dst 18 rfl ?_))
  apply Stop.go
  refine wpList_buildSlice_to rfl 41 5 1 [(0, .const (.int .u8 7))] rfl [(0, .int .u8 7)] rfl #[.int .u8 7] j0 _ Tryz.underlying41 HJ.out HJ0.out (by rw [HJ1.out]; decide) (by rw [HJ1.out]; decide) (by rw [HJ1.out]; exact fill_single (by decide) _ _ _ rfl rfl) ?_
  simp only [Act.put, List.setIfInBounds_toArray, List.set_cons_zero, List.set_cons_succ]
  have hE7 := ext_of_alloc (.cells #[.int .u8 7] 5) (Ext.refl (w6.alloc (.cells #[.int .u8 7] 5)))
  have hG7 := hE7.heap hG6
  have hF7 := hE7.heap hF6
  have hE7 := hE6.trans hE7
  have hown : (w6.alloc (.cells #[.int .u8 7] 5)).ownsRow w.heap.size 5 1 (.slice (some ⟨w6.heap.size, 0, none⟩) 1 1) 1 [.int .u8 7] := ⟨rfl, .inr ⟨w6.heap.size, 1, #[.int .u8 7], rfl, hE6.size, block_new w6 _, Nat.le_refl _, by decide, rfl, rfl⟩⟩
  have hfs : fb < w6.heap.size := lt_of_block hF6
  clear hG6 hF6 hE6
  generalize w6.alloc (.cells #[.int .u8 7] 5) = w7 at *
  generalize w6.heap.size = sb at hown hfs ⊢
  go_wp2_with ((with_reducible refine stop_dst 20 rfl ?_))
  apply Stop.go
  refine wpList_append_own w7 rfl _ _ 41 rfl w.heap.size 5 j0 _ 1 1 Tryz.underlying41 HJ.out HJ0.out HJ1.out HJ2.out rfl (by decide) (.slice (some ⟨sb, 0, none⟩) 1 1) 1 [.int .u8 7] rfl hown ⟨gb, 0, none⟩ 96 96 (encB bs).toList rfl (by rw [Array.length_toList, encB_size, hbl]) (cells_at hG7) (encB_ones bs) (by decide) (by decide) hE7.size fun v' w8 hown8 hg8 _ => ?_
  have hF8 : w8.heap[fb]? = some (.cells (encF f) 27 (0, 0)) := (hg8.block fb (lt_of_block hF7) (fun e => by first | exact Nat.ne_of_lt hfs (Option.some.inj e) | exact Nat.ne_of_lt hfs (Option.some.inj e).symm)).trans hF7
  have hE8 : Ext w w8 := Below.grown hE7 hg8 hE7.size fun k hk => (hown.lt k hk).1
  obtain ⟨g8, cap, rfl, hB8⟩ := bAt_row hown8 (by rw [hbl])
  clear hown8 hg8 hown hG7 hF7 hE7 hfs
  simp only [Act.put, List.setIfInBounds_toArray, List.set_cons_zero, List.set_cons_succ]
  go_wp2_with ((with_reducible refine stop_dst 22 rfl ?_))
  apply Stop.go
  refine wpList_buildSlice_to rfl 48 47 1 [(0, .tmp 21)] rfl [(0, .agg #[.slice (some ⟨g8, 0, none⟩) 97 cap, .bool false])] rfl #[.slice (some ⟨g8, 0, none⟩) 97 cap, .bool false] p0 _ Tryz.underlying48 HP.out HP0.out (by rw [HP1.out]; decide) (by rw [HP1.out]; decide) (by rw [HP1.out]; exact fill_single (by decide) _ _ _ rfl rfl) ?_
  simp only [Act.put, List.setIfInBounds_toArray, List.set_cons_zero, List.set_cons_succ]
  have hP9 := block_new w8 (.cells #[.slice (some ⟨g8, 0, none⟩) 97 cap, .bool false] 47)
  have hE9 := ext_of_alloc (.cells #[.slice (some ⟨g8, 0, none⟩) 97 cap, .bool false] 47) (Ext.refl (w8.alloc (.cells #[.slice (some ⟨g8, 0, none⟩) 97 cap, .bool false] 47)))
  have hF9 := hE9.heap hF8
  have hB9 := hB8.ext hE9
  have hE9 := hE8.trans hE9
  clear hF8 hB8 hE8
  generalize w8.alloc (.cells #[.slice (some ⟨g8, 0, none⟩) 97 cap, .bool false] 47) = w9 at *
  generalize w8.heap.size = pb at hP9 ⊢
  go_wp2_with fail
  refine (Salvage_any pb 1 g8 cap (7 :: bs) f w9 hP9 hB9 hlen hlt hO hfo (hS.ext hE9) hm hC h9).mono ?_
  rintro e w10 ⟨v, rfl, ⟨g, gc, cur, rfl, _, hG, hgc, hcs, hcx⟩, hE10⟩
  have hF10 := hE10.heap hF9
  have hE10 := hE9.trans hE10
  clear hF9 hE9 hP9 hB9
  go_wp2
  have hcell : ∀ k u, k < 132 → (encR (oneR f))[k]? = some u → w10.cell? ⟨g, k, none⟩ = some u := fun k u hk hu => by
    rw [cell_of_row _ _ _ _ _ _ hG]
    rw [← hcx, Array.getElem?_extract] at hu
    split at hu
    · simpa using hu
    · cases hu
  have hS10 : w10.cell? ⟨g, 0, none⟩ = some (.int .i64 9) ∧ w10.cell? ⟨g, 129, none⟩ = some (.bool true) ∧ w10.cell? ⟨g, 130, none⟩ = some (.int .i64 1) ∧ w10.cell? ⟨g, 128, none⟩ = some (.int .i64 3) ∧ w10.heap[g]? = some (.cells cur 30 (0, 0)) ∧ w10.heap[fb]? = some (.cells (encF f) 27 (0, 0)) := by
    have hqo := oneR_ok hfo
    refine ⟨hcell 0 _ (by omega) ?_, hcell 129 _ (by omega) (encR_sound hqo), hcell 130 _ (by omega) (encR_copies hqo), hcell 128 _ (by omega) ?_, hG, hF10⟩
    · rw [encR_num hqo, show (oneR f).num = ((numV f : Nat) : Int) from rfl, h9]
      rfl
    · have := encR_st hqo 63 (by omega)
      rw [show 65 + 63 = 128 from rfl] at this
      rw [this, show sv (oneR f).st 63 = 3 from sv_rep 3 63 (by omega)]
  have hxf : cur.extract 1 (1 + 64) = encF f := by
    have h1 := encR_ext_f (oneR_ok hfo)
    rw [← hcx] at h1
    rw [← show (oneR f).f = f from rfl, ← h1]
    apply Array.ext'
    simp only [Array.toList_extract, List.extract, List.drop_zero, Nat.sub_zero, Nat.zero_add]
    rw [List.drop_take, List.take_take]
    rfl
  refine wp_region_open (fun wx => wx.cell? ⟨g, 0, none⟩ = some (.int .i64 9) ∧ wx.cell? ⟨g, 129, none⟩ = some (.bool true) ∧ wx.cell? ⟨g, 130, none⟩ = some (.int .i64 1) ∧ wx.cell? ⟨g, 128, none⟩ = some (.int .i64 3) ∧ wx.heap[g]? = some (.cells cur 30 (0, 0)) ∧ wx.heap[fb]? = some (.cells (encF f) 27 (0, 0))) (by kernel_rfl) (fun _ _ d _ _ h => by cases d <;> exact h) fun Q' hQp hQn => ?_
  have hE7 : Ext w10 w10.drew := (Ext.refl w10).drew
  rw [show ({ w10 with drawn := w10.drawn + 1 } : World) = w10.drew from rfl]
  have hSc : w10.drew.cell? ⟨g, 0, none⟩ = some (.int .i64 9) ∧ w10.drew.cell? ⟨g, 129, none⟩ = some (.bool true) ∧ w10.drew.cell? ⟨g, 130, none⟩ = some (.int .i64 1) ∧ w10.drew.cell? ⟨g, 128, none⟩ = some (.int .i64 3) ∧ w10.drew.heap[g]? = some (.cells cur 30 (0, 0)) ∧ w10.drew.heap[fb]? = some (.cells (encF f) 27 (0, 0)) := hS10
  have hE7 := hE10.trans hE7
  clear hS10 hcell hG hF10 hE10
  generalize w10.drew = w7 at *
  simp only [List.size_toArray, List.length_cons, List.length_nil, Nat.reduceAdd]
  refine held_take 0 (.int .i64 0) (op_at rfl) (by kernel_rfl) (by kernel_rfl) (by kernel_rfl) hQp (by kernel_rfl) hSc (fun wx hSx => ?_) ?_
  · obtain ⟨hy0, hy1, hy2, hy3, hy4, hy5⟩ := hSx
    first
      | (with_reducible rfl)
      | (go_simp; done)
      | (go_simp; with_reducible rfl)
      | kernel_rfl
      | rfl
  simp only [Act.put, List.setIfInBounds_toArray, List.set_cons_zero, List.set_cons_succ]
  refine held_take 1 (.bool true) (op_at rfl) (by kernel_rfl) (by kernel_rfl) (by kernel_rfl) hQp (by kernel_rfl) hSc (fun wx hSx => ?_) ?_
  · obtain ⟨hy0, hy1, hy2, hy3, hy4, hy5⟩ := hSx
    first
      | (with_reducible rfl)
      | (go_simp; done)
      | (go_simp; with_reducible rfl)
      | kernel_rfl
      | rfl
  simp only [Act.put, List.setIfInBounds_toArray, List.set_cons_zero, List.set_cons_succ]
  refine held_take 2 (.bool true) (op_at rfl) (by kernel_rfl) (by kernel_rfl) (by kernel_rfl) hQp (by kernel_rfl) hSc (fun wx hSx => ?_) ?_
  · obtain ⟨hy0, hy1, hy2, hy3, hy4, hy5⟩ := hSx
    first
      | (with_reducible rfl)
      | (go_simp; done)
      | (go_simp; with_reducible rfl)
      | kernel_rfl
      | rfl
  simp only [Act.put, List.setIfInBounds_toArray, List.set_cons_zero, List.set_cons_succ]
  refine held_take 3 (.slice (some ⟨g, 0, none⟩) 1 gc) (op_at rfl) (by kernel_rfl) (by kernel_rfl) (by kernel_rfl) hQp (by kernel_rfl) hSc (fun wx hSx => ?_) ?_
  · obtain ⟨hy0, hy1, hy2, hy3, hy4, hy5⟩ := hSx
    first
      | (with_reducible rfl)
      | (go_simp; done)
      | (go_simp; with_reducible rfl)
      | kernel_rfl
      | rfl
  simp only [Act.put, List.setIfInBounds_toArray, List.set_cons_zero, List.set_cons_succ]
  refine held_take 4 (.int .i64 1) (op_at rfl) (by kernel_rfl) (by kernel_rfl) (by kernel_rfl) hQp (by kernel_rfl) hSc (fun wx hSx => ?_) ?_
  · obtain ⟨hy0, hy1, hy2, hy3, hy4, hy5⟩ := hSx
    first
      | (with_reducible rfl)
      | (go_simp; done)
      | (go_simp; with_reducible rfl)
      | kernel_rfl
      | rfl
  simp only [Act.put, List.setIfInBounds_toArray, List.set_cons_zero, List.set_cons_succ]
  refine held_take 5 (.bool true) (op_at rfl) (by kernel_rfl) (by kernel_rfl) (by kernel_rfl) hQp (by kernel_rfl) hSc (fun wx hSx => ?_) ?_
  · obtain ⟨hy0, hy1, hy2, hy3, hy4, hy5⟩ := hSx
    first
      | (with_reducible rfl)
      | (go_simp; done)
      | (go_simp; with_reducible rfl)
      | kernel_rfl
      | rfl
  simp only [Act.put, List.setIfInBounds_toArray, List.set_cons_zero, List.set_cons_succ]
  refine held_take 6 (.bool true) (op_at rfl) (by kernel_rfl) (by kernel_rfl) (by kernel_rfl) hQp (by kernel_rfl) hSc (fun wx hSx => ?_) ?_
  · obtain ⟨hy0, hy1, hy2, hy3, hy4, hy5⟩ := hSx
    first
      | (with_reducible rfl)
      | (go_simp; done)
      | (go_simp; with_reducible rfl)
      | kernel_rfl
      | rfl
  simp only [Act.put, List.setIfInBounds_toArray, List.set_cons_zero, List.set_cons_succ]
  refine held_take 7 (.bool true) (op_at rfl) (by kernel_rfl) (by kernel_rfl) (by kernel_rfl) hQp (by kernel_rfl) hSc (fun wx hSx => ?_) ?_
  · obtain ⟨hy0, hy1, hy2, hy3, hy4, hy5⟩ := hSx
    first
      | (with_reducible rfl)
      | (go_simp; done)
      | (go_simp; with_reducible rfl)
      | kernel_rfl
      | rfl
  simp only [Act.put, List.setIfInBounds_toArray, List.set_cons_zero, List.set_cons_succ]
  refine held_take 8 (.slice (some ⟨g, 0, none⟩) 1 gc) (op_at rfl) (by kernel_rfl) (by kernel_rfl) (by kernel_rfl) hQp (by kernel_rfl) hSc (fun wx hSx => ?_) ?_
  · obtain ⟨hy0, hy1, hy2, hy3, hy4, hy5⟩ := hSx
    first
      | (with_reducible rfl)
      | (go_simp; done)
      | (go_simp; with_reducible rfl)
      | kernel_rfl
      | rfl
  simp only [Act.put, List.setIfInBounds_toArray, List.set_cons_zero, List.set_cons_succ]
  refine held_take 9 (.pointer (some ⟨g, 0, none⟩)) (op_at rfl) (by kernel_rfl) (by kernel_rfl) (by kernel_rfl) hQp (by kernel_rfl) hSc (fun wx hSx => ?_) ?_
  · obtain ⟨hy0, hy1, hy2, hy3, hy4, hy5⟩ := hSx
    first
      | (with_reducible rfl)
      | (go_simp; done)
      | (go_simp; with_reducible rfl)
      | kernel_rfl
      | rfl
  simp only [Act.put, List.setIfInBounds_toArray, List.set_cons_zero, List.set_cons_succ]
  refine held_take 10 (.pointer (some ⟨g, 0, none⟩)) (op_at rfl) (by kernel_rfl) (by kernel_rfl) (by kernel_rfl) hQp (by kernel_rfl) hSc (fun wx hSx => ?_) ?_
  · obtain ⟨hy0, hy1, hy2, hy3, hy4, hy5⟩ := hSx
    first
      | (with_reducible rfl)
      | (go_simp; done)
      | (go_simp; with_reducible rfl)
      | kernel_rfl
      | rfl
  simp only [Act.put, List.setIfInBounds_toArray, List.set_cons_zero, List.set_cons_succ]
  refine held_take 11 (.int .i64 9) (op_at rfl) (by kernel_rfl) (by kernel_rfl) (by kernel_rfl) hQp (by kernel_rfl) hSc (fun wx hSx => ?_) ?_
  · obtain ⟨hy0, hy1, hy2, hy3, hy4, hy5⟩ := hSx
    first
      | (with_reducible rfl)
      | (go_simp; done)
      | (go_simp; with_reducible rfl)
      | kernel_rfl
      | rfl
  simp only [Act.put, List.setIfInBounds_toArray, List.set_cons_zero, List.set_cons_succ]
  refine held_take 12 (.bool true) (op_at rfl) (by kernel_rfl) (by kernel_rfl) (by kernel_rfl) hQp (by kernel_rfl) hSc (fun wx hSx => ?_) ?_
  · obtain ⟨hy0, hy1, hy2, hy3, hy4, hy5⟩ := hSx
    first
      | (with_reducible rfl)
      | (go_simp; done)
      | (go_simp; with_reducible rfl)
      | kernel_rfl
      | rfl
  simp only [Act.put, List.setIfInBounds_toArray, List.set_cons_zero, List.set_cons_succ]
  refine held_take 13 (.bool true) (op_at rfl) (by kernel_rfl) (by kernel_rfl) (by kernel_rfl) hQp (by kernel_rfl) hSc (fun wx hSx => ?_) ?_
  · obtain ⟨hy0, hy1, hy2, hy3, hy4, hy5⟩ := hSx
    first
      | (with_reducible rfl)
      | (go_simp; done)
      | (go_simp; with_reducible rfl)
      | kernel_rfl
      | rfl
  simp only [Act.put, List.setIfInBounds_toArray, List.set_cons_zero, List.set_cons_succ]
  refine held_take 14 (.bool true) (op_at rfl) (by kernel_rfl) (by kernel_rfl) (by kernel_rfl) hQp (by kernel_rfl) hSc (fun wx hSx => ?_) ?_
  · obtain ⟨hy0, hy1, hy2, hy3, hy4, hy5⟩ := hSx
    first
      | (with_reducible rfl)
      | (go_simp; done)
      | (go_simp; with_reducible rfl)
      | kernel_rfl
      | rfl
  simp only [Act.put, List.setIfInBounds_toArray, List.set_cons_zero, List.set_cons_succ]
  refine held_take 15 (.slice (some ⟨g, 0, none⟩) 1 gc) (op_at rfl) (by kernel_rfl) (by kernel_rfl) (by kernel_rfl) hQp (by kernel_rfl) hSc (fun wx hSx => ?_) ?_
  · obtain ⟨hy0, hy1, hy2, hy3, hy4, hy5⟩ := hSx
    first
      | (with_reducible rfl)
      | (go_simp; done)
      | (go_simp; with_reducible rfl)
      | kernel_rfl
      | rfl
  simp only [Act.put, List.setIfInBounds_toArray, List.set_cons_zero, List.set_cons_succ]
  refine held_take 16 (.pointer (some ⟨g, 0, none⟩)) (op_at rfl) (by kernel_rfl) (by kernel_rfl) (by kernel_rfl) hQp (by kernel_rfl) hSc (fun wx hSx => ?_) ?_
  · obtain ⟨hy0, hy1, hy2, hy3, hy4, hy5⟩ := hSx
    first
      | (with_reducible rfl)
      | (go_simp; done)
      | (go_simp; with_reducible rfl)
      | kernel_rfl
      | rfl
  simp only [Act.put, List.setIfInBounds_toArray, List.set_cons_zero, List.set_cons_succ]
  refine held_take 17 (.pointer (some ⟨g, 1, none⟩)) (op_at rfl) (by kernel_rfl) (by kernel_rfl) (by kernel_rfl) hQp (by kernel_rfl) hSc (fun wx hSx => ?_) ?_
  · obtain ⟨hy0, hy1, hy2, hy3, hy4, hy5⟩ := hSx
    first
      | (with_reducible rfl)
      | (go_simp; done)
      | (go_simp; with_reducible rfl)
      | kernel_rfl
      | rfl
  simp only [Act.put, List.setIfInBounds_toArray, List.set_cons_zero, List.set_cons_succ]
  refine held_take 18 (.agg (encF f)) (op_at rfl) (by kernel_rfl) (by kernel_rfl) (by kernel_rfl) hQp (by kernel_rfl) hSc (fun wx hSx => run_load_op 27 _ rfl g 1 rfl 64 _ _ _ _ hSx.2.2.2.2.1 Tryz.underlying27 rfl info_frame (by omega) (encF f) hxf) ?_
  simp only [Act.put, List.setIfInBounds_toArray, List.set_cons_zero, List.set_cons_succ]
  refine held_take 19 (.agg (encF f)) (op_at rfl) (by kernel_rfl) (by kernel_rfl) (by kernel_rfl) hQp (by kernel_rfl) hSc (fun wx hSx => run_load_op 27 _ rfl fb 0 rfl 64 _ _ _ _ hSx.2.2.2.2.2 Tryz.underlying27 rfl info_frame (by rw [encF_size hfo]; omega) (encF f) (by rw [Nat.zero_add, ← encF_size hfo, Array.extract_size])) ?_
  simp only [Act.put, List.setIfInBounds_toArray, List.set_cons_zero, List.set_cons_succ]
  refine held_take 20 (.bool true) (op_at rfl) (by kernel_rfl) (by kernel_rfl) (by kernel_rfl) hQp (by kernel_rfl) hSc (fun wx hSx => run_binOp_op .eql 27 _ _ _ rfl (u1 := .agg (encF f)) (u2 := .agg (encF f)) rfl rfl (by rfl) (eql_frame hfo.1 wx)) ?_
  simp only [Act.put, List.setIfInBounds_toArray, List.set_cons_zero, List.set_cons_succ]
  refine held_take 21 (.bool true) (op_at rfl) (by kernel_rfl) (by kernel_rfl) (by kernel_rfl) hQp (by kernel_rfl) hSc (fun wx hSx => ?_) ?_
  · obtain ⟨hy0, hy1, hy2, hy3, hy4, hy5⟩ := hSx
    first
      | (with_reducible rfl)
      | (go_simp; done)
      | (go_simp; with_reducible rfl)
      | kernel_rfl
      | rfl
  simp only [Act.put, List.setIfInBounds_toArray, List.set_cons_zero, List.set_cons_succ]
  refine held_take 22 (.bool true) (op_at rfl) (by kernel_rfl) (by kernel_rfl) (by kernel_rfl) hQp (by kernel_rfl) hSc (fun wx hSx => ?_) ?_
  · obtain ⟨hy0, hy1, hy2, hy3, hy4, hy5⟩ := hSx
    first
      | (with_reducible rfl)
      | (go_simp; done)
      | (go_simp; with_reducible rfl)
      | kernel_rfl
      | rfl
  simp only [Act.put, List.setIfInBounds_toArray, List.set_cons_zero, List.set_cons_succ]
  refine held_take 23 (.slice (some ⟨g, 0, none⟩) 1 gc) (op_at rfl) (by kernel_rfl) (by kernel_rfl) (by kernel_rfl) hQp (by kernel_rfl) hSc (fun wx hSx => ?_) ?_
  · obtain ⟨hy0, hy1, hy2, hy3, hy4, hy5⟩ := hSx
    first
      | (with_reducible rfl)
      | (go_simp; done)
      | (go_simp; with_reducible rfl)
      | kernel_rfl
      | rfl
  simp only [Act.put, List.setIfInBounds_toArray, List.set_cons_zero, List.set_cons_succ]
  refine held_take 24 (.pointer (some ⟨g, 0, none⟩)) (op_at rfl) (by kernel_rfl) (by kernel_rfl) (by kernel_rfl) hQp (by kernel_rfl) hSc (fun wx hSx => ?_) ?_
  · obtain ⟨hy0, hy1, hy2, hy3, hy4, hy5⟩ := hSx
    first
      | (with_reducible rfl)
      | (go_simp; done)
      | (go_simp; with_reducible rfl)
      | kernel_rfl
      | rfl
  simp only [Act.put, List.setIfInBounds_toArray, List.set_cons_zero, List.set_cons_succ]
  refine held_take 25 (.pointer (some ⟨g, 129, none⟩)) (op_at rfl) (by kernel_rfl) (by kernel_rfl) (by kernel_rfl) hQp (by kernel_rfl) hSc (fun wx hSx => ?_) ?_
  · obtain ⟨hy0, hy1, hy2, hy3, hy4, hy5⟩ := hSx
    first
      | (with_reducible rfl)
      | (go_simp; done)
      | (go_simp; with_reducible rfl)
      | kernel_rfl
      | rfl
  simp only [Act.put, List.setIfInBounds_toArray, List.set_cons_zero, List.set_cons_succ]
  refine held_take 26 (.bool true) (op_at rfl) (by kernel_rfl) (by kernel_rfl) (by kernel_rfl) hQp (by kernel_rfl) hSc (fun wx hSx => ?_) ?_
  · obtain ⟨hy0, hy1, hy2, hy3, hy4, hy5⟩ := hSx
    first
      | (with_reducible rfl)
      | (go_simp; done)
      | (go_simp; with_reducible rfl)
      | kernel_rfl
      | rfl
  simp only [Act.put, List.setIfInBounds_toArray, List.set_cons_zero, List.set_cons_succ]
  refine held_take 27 (.bool true) (op_at rfl) (by kernel_rfl) (by kernel_rfl) (by kernel_rfl) hQp (by kernel_rfl) hSc (fun wx hSx => ?_) ?_
  · obtain ⟨hy0, hy1, hy2, hy3, hy4, hy5⟩ := hSx
    first
      | (with_reducible rfl)
      | (go_simp; done)
      | (go_simp; with_reducible rfl)
      | kernel_rfl
      | rfl
  simp only [Act.put, List.setIfInBounds_toArray, List.set_cons_zero, List.set_cons_succ]
  refine held_take 28 (.bool true) (op_at rfl) (by kernel_rfl) (by kernel_rfl) (by kernel_rfl) hQp (by kernel_rfl) hSc (fun wx hSx => ?_) ?_
  · obtain ⟨hy0, hy1, hy2, hy3, hy4, hy5⟩ := hSx
    first
      | (with_reducible rfl)
      | (go_simp; done)
      | (go_simp; with_reducible rfl)
      | kernel_rfl
      | rfl
  simp only [Act.put, List.setIfInBounds_toArray, List.set_cons_zero, List.set_cons_succ]
  refine held_take 29 (.slice (some ⟨g, 0, none⟩) 1 gc) (op_at rfl) (by kernel_rfl) (by kernel_rfl) (by kernel_rfl) hQp (by kernel_rfl) hSc (fun wx hSx => ?_) ?_
  · obtain ⟨hy0, hy1, hy2, hy3, hy4, hy5⟩ := hSx
    first
      | (with_reducible rfl)
      | (go_simp; done)
      | (go_simp; with_reducible rfl)
      | kernel_rfl
      | rfl
  simp only [Act.put, List.setIfInBounds_toArray, List.set_cons_zero, List.set_cons_succ]
  refine held_take 30 (.pointer (some ⟨g, 0, none⟩)) (op_at rfl) (by kernel_rfl) (by kernel_rfl) (by kernel_rfl) hQp (by kernel_rfl) hSc (fun wx hSx => ?_) ?_
  · obtain ⟨hy0, hy1, hy2, hy3, hy4, hy5⟩ := hSx
    first
      | (with_reducible rfl)
      | (go_simp; done)
      | (go_simp; with_reducible rfl)
      | kernel_rfl
      | rfl
  simp only [Act.put, List.setIfInBounds_toArray, List.set_cons_zero, List.set_cons_succ]
  refine held_take 31 (.pointer (some ⟨g, 130, none⟩)) (op_at rfl) (by kernel_rfl) (by kernel_rfl) (by kernel_rfl) hQp (by kernel_rfl) hSc (fun wx hSx => ?_) ?_
  · obtain ⟨hy0, hy1, hy2, hy3, hy4, hy5⟩ := hSx
    first
      | (with_reducible rfl)
      | (go_simp; done)
      | (go_simp; with_reducible rfl)
      | kernel_rfl
      | rfl
  simp only [Act.put, List.setIfInBounds_toArray, List.set_cons_zero, List.set_cons_succ]
  refine held_take 32 (.int .i64 1) (op_at rfl) (by kernel_rfl) (by kernel_rfl) (by kernel_rfl) hQp (by kernel_rfl) hSc (fun wx hSx => ?_) ?_
  · obtain ⟨hy0, hy1, hy2, hy3, hy4, hy5⟩ := hSx
    first
      | (with_reducible rfl)
      | (go_simp; done)
      | (go_simp; with_reducible rfl)
      | kernel_rfl
      | rfl
  simp only [Act.put, List.setIfInBounds_toArray, List.set_cons_zero, List.set_cons_succ]
  refine held_take 33 (.bool true) (op_at rfl) (by kernel_rfl) (by kernel_rfl) (by kernel_rfl) hQp (by kernel_rfl) hSc (fun wx hSx => ?_) ?_
  · obtain ⟨hy0, hy1, hy2, hy3, hy4, hy5⟩ := hSx
    first
      | (with_reducible rfl)
      | (go_simp; done)
      | (go_simp; with_reducible rfl)
      | kernel_rfl
      | rfl
  simp only [Act.put, List.setIfInBounds_toArray, List.set_cons_zero, List.set_cons_succ]
  refine held_take 34 (.bool true) (op_at rfl) (by kernel_rfl) (by kernel_rfl) (by kernel_rfl) hQp (by kernel_rfl) hSc (fun wx hSx => ?_) ?_
  · obtain ⟨hy0, hy1, hy2, hy3, hy4, hy5⟩ := hSx
    first
      | (with_reducible rfl)
      | (go_simp; done)
      | (go_simp; with_reducible rfl)
      | kernel_rfl
      | rfl
  simp only [Act.put, List.setIfInBounds_toArray, List.set_cons_zero, List.set_cons_succ]
  refine held_take 35 (.bool true) (op_at rfl) (by kernel_rfl) (by kernel_rfl) (by kernel_rfl) hQp (by kernel_rfl) hSc (fun wx hSx => ?_) ?_
  · obtain ⟨hy0, hy1, hy2, hy3, hy4, hy5⟩ := hSx
    first
      | (with_reducible rfl)
      | (go_simp; done)
      | (go_simp; with_reducible rfl)
      | kernel_rfl
      | rfl
  simp only [Act.put, List.setIfInBounds_toArray, List.set_cons_zero, List.set_cons_succ]
  refine held_take 36 (.slice (some ⟨g, 0, none⟩) 1 gc) (op_at rfl) (by kernel_rfl) (by kernel_rfl) (by kernel_rfl) hQp (by kernel_rfl) hSc (fun wx hSx => ?_) ?_
  · obtain ⟨hy0, hy1, hy2, hy3, hy4, hy5⟩ := hSx
    first
      | (with_reducible rfl)
      | (go_simp; done)
      | (go_simp; with_reducible rfl)
      | kernel_rfl
      | rfl
  simp only [Act.put, List.setIfInBounds_toArray, List.set_cons_zero, List.set_cons_succ]
  refine held_take 37 (.pointer (some ⟨g, 0, none⟩)) (op_at rfl) (by kernel_rfl) (by kernel_rfl) (by kernel_rfl) hQp (by kernel_rfl) hSc (fun wx hSx => ?_) ?_
  · obtain ⟨hy0, hy1, hy2, hy3, hy4, hy5⟩ := hSx
    first
      | (with_reducible rfl)
      | (go_simp; done)
      | (go_simp; with_reducible rfl)
      | kernel_rfl
      | rfl
  simp only [Act.put, List.setIfInBounds_toArray, List.set_cons_zero, List.set_cons_succ]
  refine held_take 38 (.pointer (some ⟨g, 65, none⟩)) (op_at rfl) (by kernel_rfl) (by kernel_rfl) (by kernel_rfl) hQp (by kernel_rfl) hSc (fun wx hSx => ?_) ?_
  · obtain ⟨hy0, hy1, hy2, hy3, hy4, hy5⟩ := hSx
    first
      | (with_reducible rfl)
      | (go_simp; done)
      | (go_simp; with_reducible rfl)
      | kernel_rfl
      | rfl
  simp only [Act.put, List.setIfInBounds_toArray, List.set_cons_zero, List.set_cons_succ]
  refine held_take 39 (.pointer (some ⟨g, 128, none⟩)) (op_at rfl) (by kernel_rfl) (by kernel_rfl) (by kernel_rfl) hQp (by kernel_rfl) hSc (fun wx hSx => ?_) ?_
  · obtain ⟨hy0, hy1, hy2, hy3, hy4, hy5⟩ := hSx
    first
      | (with_reducible rfl)
      | (go_simp; done)
      | (go_simp; with_reducible rfl)
      | kernel_rfl
      | rfl
  simp only [Act.put, List.setIfInBounds_toArray, List.set_cons_zero, List.set_cons_succ]
  refine held_take 40 (.int .i64 3) (op_at rfl) (by kernel_rfl) (by kernel_rfl) (by kernel_rfl) hQp (by kernel_rfl) hSc (fun wx hSx => ?_) ?_
  · obtain ⟨hy0, hy1, hy2, hy3, hy4, hy5⟩ := hSx
    first
      | (with_reducible rfl)
      | (go_simp; done)
      | (go_simp; with_reducible rfl)
      | kernel_rfl
      | rfl
  simp only [Act.put, List.setIfInBounds_toArray, List.set_cons_zero, List.set_cons_succ]
  refine held_take 41 (.bool true) (op_at rfl) (by kernel_rfl) (by kernel_rfl) (by kernel_rfl) hQp (by kernel_rfl) hSc (fun wx hSx => ?_) ?_
  · obtain ⟨hy0, hy1, hy2, hy3, hy4, hy5⟩ := hSx
    first
      | (with_reducible rfl)
      | (go_simp; done)
      | (go_simp; with_reducible rfl)
      | kernel_rfl
      | rfl
  simp only [Act.put, List.setIfInBounds_toArray, List.set_cons_zero, List.set_cons_succ]
  refine held_take 42 (.bool true) (op_at rfl) (by kernel_rfl) (by kernel_rfl) (by kernel_rfl) hQp (by kernel_rfl) hSc (fun wx hSx => ?_) ?_
  · obtain ⟨hy0, hy1, hy2, hy3, hy4, hy5⟩ := hSx
    first
      | (with_reducible rfl)
      | (go_simp; done)
      | (go_simp; with_reducible rfl)
      | kernel_rfl
      | rfl
  simp only [Act.put, List.setIfInBounds_toArray, List.set_cons_zero, List.set_cons_succ]
  refine held_take 43 (.bool true) (op_at rfl) (by kernel_rfl) (by kernel_rfl) (by kernel_rfl) hQp (by kernel_rfl) hSc (fun wx hSx => by rfl) ?_
  simp only [Act.put, List.setIfInBounds_toArray, List.set_cons_zero]
  refine wpAnyH_done (by kernel_rfl) (hQn _ _ ?_) _
  go_wp2
  go_ret
  exact ⟨rfl, hE7⟩
end Go.Proofs.YtplddeboinhkbaaGreatDoorRR
