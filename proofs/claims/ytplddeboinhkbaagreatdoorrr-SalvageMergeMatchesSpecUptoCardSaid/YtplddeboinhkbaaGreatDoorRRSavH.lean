/- The program's finder, where one place alone is a sound frame. -/

import Derived.Test.YtplddeboinhkbaaGreatDoorRRProg
import Derived.Test.YtplddeboinhkbaaGreatDoorRRSavG
namespace Go.Proofs.YtplddeboinhkbaaGreatDoorRR
open Go.RowKit
theorem block_new' (w : World) (o : Obj) : (w.alloc o).heap[w.heap.size]? = some o := (MapKept.heap_alloc w o).1
theorem found_frame (k : Int) (f : List Nat) (hf : FrameOk f) : (foundL k f).toArray.extract 1 (1 + 64) = encF f := by
  apply Array.ext'
  simp only [foundL, encF, Array.toList_extract, List.extract, List.drop_succ_cons, List.drop_zero]
  rw [List.take_of_length_le (by simp [hf.1])]
def FinderPost (f : List Nat) (b c : Nat) (w : World) (e : Ending) (w' : World) : Prop :=
  ∃ fx g cap ng ncap mv cur, e = .returned (.pointer (some ⟨fx, 0, none⟩)) ∧
    w'.heap[fx]? = some (.cells #[.slice (some ⟨b, 0, none⟩) 194 c, .slice (some ⟨g, 0, none⟩) 1 cap, .slice (some ⟨ng, 0, none⟩) 1 ncap, mv] 88 (0, 0)) ∧
    w'.heap[g]? = some (.cells cur 90 (0, 0)) ∧ cur.size = cap * 65 ∧ 1 ≤ cap ∧ cur.extract 0 (0 + 65) = (foundL 2 f).toArray ∧ w'.cell? ⟨ng, 0, none⟩ = some (.int .i64 (numV f : Nat)) ∧ Ext w w'
theorem info_intz : (Tryz.prog.info? 3).map (fun i => (i.zero, i.size, i.bytes)) = some (some (.int .i64 0), 1, 8) := by kernel_rfl
theorem int_one (k : Int) : ∀ u ∈ [Value.int .i64 k], u.oneCell' = true := by
  intro u hu
  obtain rfl : u = _ := List.mem_singleton.1 hu
  rfl
set_option maxRecDepth 100000 in
set_option maxHeartbeats 4000000 in
theorem newFinder_any (b c : Nat) (H f : List Nat) (w : World) (hO : OneAt H f) (hf : FrameOk f) (hc : 194 ≤ c) (hS : SyncAt w) (hB : w.heap[b]? = some (.cells (encB H) 5 (0, 0))) :
    Calls Tryz.prog 60 #[.slice (some ⟨b, 0, none⟩) 194 c] w (FinderPost f b c w) := by
  have hfl := Lib.hid (foundL_length 2 hf)
  have hmm := @run_makeMap Tryz.prog
  obtain ⟨i0, hi, hz0, hz1, hz2⟩ := info_parts info_intz
  have HI := Lib.hid hi
  have HZ0 := Lib.hid hz0
  have HZ1 := Lib.hid hz1
  have HZ2 := Lib.hid hz2
  clear hi hz0 hz1 hz2
  go_enter Tryz.func60, Tryz.ntmps60
  go_wp2_with fail
  refine (certain_any b c H f w hO hf hc hS hB).mono ?_
  rintro e w1 ⟨v, rfl, hown, hE⟩
  obtain ⟨g, cap, cur, rfl, hgb, hg, hcap, hcs, hcx⟩ := owns_one hown
  have HCS := Lib.hid hcs
  have HCX := Lib.hid hcx
  clear hown hcs hcx hO hB hc
  go_wp2
  refine wp_world fun w2 e2 => ?_
  have hE2 := Ext.of_eq e2
  clear e2 hmm
  have hM := hE2.heap (block_old (.cells #[.slice (some ⟨b, 0, none⟩) 194 c, .slice (some ⟨g, 0, none⟩) 1 cap, .slice none 0 0, .map (some w1.heap.size)] 88) (block_new' w1 (.map #[] 0)))
  have hX := hE2.heap (heap_alloc2_new w1 (.map #[] 0) (.cells #[.slice (some ⟨b, 0, none⟩) 194 c, .slice (some ⟨g, 0, none⟩) 1 cap, .slice none 0 0, .map (some w1.heap.size)] 88))
  have hg2 := (ext_of_alloc _ (ext_of_alloc _ hE2)).heap hg
  have hwm0 := hE.size
  have hE := hE.trans (ext_of_alloc _ (ext_of_alloc _ hE2))
  have hgm : g < w1.heap.size := lt_of_block hg
  have hwm : w.heap.size ≤ w1.heap.size := hwm0
  clear hE2 hg hwm0
  generalize w1.heap.size = mb at hM hX hwm hgm ⊢
  go_loopw [19] (fun i wr => ∃ k : Nat, k ≤ 1 ∧ i = .int .i64 k ∧ Aside (k = 0 → wr.heap[mb + 1]? = some (.cells #[.slice (some ⟨b, 0, none⟩) 194 c, .slice (some ⟨g, 0, none⟩) 1 cap, .slice none 0 0, .map (some mb)] 88 (0, 0)) ∧ wr.heap[mb]? = some (.map #[] 0) ∧ Ext w2 wr) ∧
    Aside (k = 1 → ∃ ng ncap, wr.heap[mb + 1]? = some (.cells #[.slice (some ⟨b, 0, none⟩) 194 c, .slice (some ⟨g, 0, none⟩) 1 cap, .slice (some ⟨ng, 0, none⟩) 1 ncap, .map (some mb)] 88 (0, 0)) ∧ wr.cell? ⟨ng, 0, none⟩ = some (.int .i64 (numV f : Nat)) ∧ wr.heap[g]? = some (.cells cur 90 (0, 0)) ∧ Ext w wr)) (fun i _ => 1 - (intOf i).toNat)
  case atStart => exact ⟨0, by omega, rfl, (show Aside _ from fun _ => ⟨hX, hM, Ext.refl w2⟩), (show Aside _ from fun h => by cases h)⟩
  case round =>
    obtain ⟨k, hk, rfl, A0, A1⟩ := hrel
    by_cases hk0 : k = 0
    · obtain ⟨hX3, hM3, hE3⟩ := A0.out hk0
      subst hk0
      have hg3 := hE3.heap hg2
      have hE3 := hE.trans hE3
      clear A0 A1 hX hM hg2 hE
      rw [show ((0 : Nat) : Int) = 0 from rfl]
      go_wp2_with ((with_reducible refine stop_load 90 rfl ?_))
      apply Stop.go
      refine wpList_load_blk rfl _ _ rfl g 0 rfl 65 _ cur _ _ hg3 Tryz.underlying90 rfl info_founds (by rw [HCS.out]; omega) (foundL 2 f).toArray HCX.out ?_
      simp only [Act.put, List.setIfInBounds_toArray, List.set_cons_zero, List.set_cons_succ]
      go_wp2_with ((with_reducible refine stop_store 90 rfl ?_))
      apply Stop.go
      refine wpList_world fun w4 e4 => ?_
      have hEa := Ext.of_eq e4
      clear e4
      refine wpList_store_whole rfl _ _ _ rfl wr.heap.size rfl (foundL 2 f).toArray rfl _ _ (hEa.heap (block_new wr _)) (by rw [List.size_toArray, hfl.out]; exact info_founds) (by rw [List.size_toArray, hfl.out]; exact zero_found.symm) (found_one 2 f) fun w5 u5 => ?_
      dsimp only [Act.put]
      have hF5 := u5.here
      have hEb := (ext_of_alloc _ hEa).upd (by simp) u5
      have hX5 := hEb.heap hX3
      have hM5 := hEb.heap hM3
      have hg5 := hEb.heap hg3
      have hE5 := hE3.trans hEb
      have hfx : mb + 1 < wr.heap.size := lt_of_block hX3
      clear u5 hEa hEb hX3 hM3 hg3 hE3 w4
      generalize wr.heap.size = fb at hF5 hfx ⊢
      go_wp2_with ((with_reducible refine stop_load 27 rfl ?_))
      apply Stop.go
      refine wpList_load_blk rfl _ _ rfl fb 1 rfl 64 _ _ _ _ hF5 Tryz.underlying27 rfl info_frame (by rw [List.size_toArray, hfl.out]; omega) (encF f) (found_frame 2 f hf) ?_
      simp only [Act.put, List.setIfInBounds_toArray, List.set_cons_zero, List.set_cons_succ]
      go_wp2_with fail
      refine (number_any f _ hf).mono ?_
      rintro e w6 ⟨rfl, hE6⟩
      have hF6 := hE6.heap hF5
      have hX6 := hE6.heap hX5
      have hM6 := hE6.heap hM5
      have hg6 := hE6.heap hg5
      have hE6 := hE5.trans hE6
      clear hF5 hX5 hM5 hg5 hE5
      generalize hnv : numV f = nv at *
      generalize numOk f = no at *
      go_wp2
      refine wp_region_open (fun wx => wx.cell? ⟨mb + 1, 3, none⟩ = some (.map (some mb)) ∧ wx.cell? ⟨fb, 0, none⟩ = some (.int .i64 2)) (by kernel_rfl) (fun _ _ d _ _ h => by cases d <;> exact h) fun Q' hQp hQn => ?_
      have hE7 : Ext w6 w6.drew := (Ext.refl w6).drew
      rw [show ({ w6 with drawn := w6.drawn + 1 } : World) = w6.drew from rfl]
      have hF7 := hE7.heap hF6
      have hX7 := hE7.heap hX6
      have hM7 := hE7.heap hM6
      have hg7 := hE7.heap hg6
      have hE7 := hE6.trans hE7
      clear hF6 hX6 hM6 hg6 hE6
      generalize w6.drew = w7 at *
      have hSc : w7.cell? ⟨mb + 1, 3, none⟩ = some (.map (some mb)) ∧ w7.cell? ⟨fb, 0, none⟩ = some (.int .i64 2) := ⟨by rw [cell_of_row _ _ _ _ _ _ hX7]; rfl, by rw [cell_of_row _ _ _ _ _ _ hF7]; rfl⟩
      simp only [List.size_toArray, List.length_cons, List.length_nil, Nat.reduceAdd]
      refine held_take 0 (.pointer (some ⟨mb + 1, 0, none⟩)) (op_at rfl) (by kernel_rfl) (by kernel_rfl) (by kernel_rfl) hQp (by kernel_rfl) hSc (fun wx hSx => ?_) ?_
      · obtain ⟨hx1, hx2⟩ := hSx
        first
          | (with_reducible rfl)
          | (go_simp; done)
          | (go_simp; with_reducible rfl)
          | kernel_rfl
          | rfl
      simp only [Act.put, List.setIfInBounds_toArray, List.set_cons_zero, List.set_cons_succ]
      refine held_take 1 (.pointer (some ⟨mb + 1, 0, none⟩)) (op_at rfl) (by kernel_rfl) (by kernel_rfl) (by kernel_rfl) hQp (by kernel_rfl) hSc (fun wx hSx => ?_) ?_
      · obtain ⟨hx1, hx2⟩ := hSx
        first
          | (with_reducible rfl)
          | (go_simp; done)
          | (go_simp; with_reducible rfl)
          | kernel_rfl
          | rfl
      simp only [Act.put, List.setIfInBounds_toArray, List.set_cons_zero, List.set_cons_succ]
      refine held_take 2 (.pointer (some ⟨mb + 1, 0, none⟩)) (op_at rfl) (by kernel_rfl) (by kernel_rfl) (by kernel_rfl) hQp (by kernel_rfl) hSc (fun wx hSx => ?_) ?_
      · obtain ⟨hx1, hx2⟩ := hSx
        first
          | (with_reducible rfl)
          | (go_simp; done)
          | (go_simp; with_reducible rfl)
          | kernel_rfl
          | rfl
      simp only [Act.put, List.setIfInBounds_toArray, List.set_cons_zero, List.set_cons_succ]
      refine held_take 3 (.pointer (some ⟨mb + 1, 3, none⟩)) (op_at rfl) (by kernel_rfl) (by kernel_rfl) (by kernel_rfl) hQp (by kernel_rfl) hSc (fun wx hSx => ?_) ?_
      · obtain ⟨hx1, hx2⟩ := hSx
        first
          | (with_reducible rfl)
          | (go_simp; done)
          | (go_simp; with_reducible rfl)
          | kernel_rfl
          | rfl
      simp only [Act.put, List.setIfInBounds_toArray, List.set_cons_zero, List.set_cons_succ]
      refine held_take 4 (.map (some mb)) (op_at rfl) (by kernel_rfl) (by kernel_rfl) (by kernel_rfl) hQp (by kernel_rfl) hSc (fun wx hSx => ?_) ?_
      · obtain ⟨hx1, hx2⟩ := hSx
        first
          | (with_reducible rfl)
          | (go_simp; done)
          | (go_simp; with_reducible rfl)
          | kernel_rfl
          | rfl
      simp only [Act.put, List.setIfInBounds_toArray, List.set_cons_zero, List.set_cons_succ]
      refine held_take 5 (.pointer (some ⟨fb, 0, none⟩)) (op_at rfl) (by kernel_rfl) (by kernel_rfl) (by kernel_rfl) hQp (by kernel_rfl) hSc (fun wx hSx => ?_) ?_
      · obtain ⟨hx1, hx2⟩ := hSx
        first
          | (with_reducible rfl)
          | (go_simp; done)
          | (go_simp; with_reducible rfl)
          | kernel_rfl
          | rfl
      simp only [Act.put, List.setIfInBounds_toArray, List.set_cons_zero, List.set_cons_succ]
      refine held_take 6 (.int .i64 2) (op_at rfl) (by kernel_rfl) (by kernel_rfl) (by kernel_rfl) hQp (by kernel_rfl) hSc (fun wx hSx => ?_) ?_
      · obtain ⟨hx1, hx2⟩ := hSx
        first
          | (with_reducible rfl)
          | (go_simp; done)
          | (go_simp; with_reducible rfl)
          | kernel_rfl
          | rfl
      simp only [Act.put, List.setIfInBounds_toArray, List.set_cons_zero, List.set_cons_succ]
      refine held_take 7 (.pointer (some ⟨mb + 1, 0, none⟩)) (op_at rfl) (by kernel_rfl) (by kernel_rfl) (by kernel_rfl) hQp (by kernel_rfl) hSc (fun wx hSx => ?_) ?_
      · obtain ⟨hx1, hx2⟩ := hSx
        first
          | (with_reducible rfl)
          | (go_simp; done)
          | (go_simp; with_reducible rfl)
          | kernel_rfl
          | rfl
      simp only [Act.put, List.setIfInBounds_toArray, List.set_cons_zero, List.set_cons_succ]
      refine held_take 8 (.pointer (some ⟨mb + 1, 0, none⟩)) (op_at rfl) (by kernel_rfl) (by kernel_rfl) (by kernel_rfl) hQp (by kernel_rfl) hSc (fun wx hSx => ?_) ?_
      · obtain ⟨hx1, hx2⟩ := hSx
        first
          | (with_reducible rfl)
          | (go_simp; done)
          | (go_simp; with_reducible rfl)
          | kernel_rfl
          | rfl
      simp only [Act.put, List.setIfInBounds_toArray, List.set_cons_zero, List.set_cons_succ]
      refine held_take 9 (.pointer (some ⟨mb + 1, 2, none⟩)) (op_at rfl) (by kernel_rfl) (by kernel_rfl) (by kernel_rfl) hQp (by kernel_rfl) hSc (fun wx hSx => ?_) ?_
      · obtain ⟨hx1, hx2⟩ := hSx
        first
          | (with_reducible rfl)
          | (go_simp; done)
          | (go_simp; with_reducible rfl)
          | kernel_rfl
          | rfl
      simp only [Act.put, List.setIfInBounds_toArray, List.set_cons_zero, List.set_cons_succ]
      refine held_take 11 (.int .i64 (nv : Nat)) (op_at rfl) (by kernel_rfl) (by kernel_rfl) (by kernel_rfl) hQp (by kernel_rfl) hSc (fun wx hSx => ?_) ?_
      · obtain ⟨hx1, hx2⟩ := hSx
        first
          | (with_reducible rfl)
          | (go_simp; done)
          | (go_simp; with_reducible rfl)
          | kernel_rfl
          | rfl
      simp only [Act.put, List.setIfInBounds_toArray, List.set_cons_zero, List.set_cons_succ]
      refine held_take 14 (.int .i64 0) (op_at rfl) (by kernel_rfl) (by kernel_rfl) (by kernel_rfl) hQp (by kernel_rfl) hSc (fun wx hSx => ?_) ?_
      · obtain ⟨hx1, hx2⟩ := hSx
        first
          | (with_reducible rfl)
          | (go_simp; done)
          | (go_simp; with_reducible rfl)
          | kernel_rfl
          | rfl
      simp only [Act.put, List.setIfInBounds_toArray, List.set_cons_zero, List.set_cons_succ]
      have hSe : ∀ X Y : World, (X.cell? ⟨mb + 1, 3, none⟩ = some (.map (some mb)) ∧ X.cell? ⟨fb, 0, none⟩ = some (.int .i64 2)) → Ext X Y → (Y.cell? ⟨mb + 1, 3, none⟩ = some (.map (some mb)) ∧ Y.cell? ⟨fb, 0, none⟩ = some (.int .i64 2)) := fun X Y h hE => ⟨hE.cell h.1, hE.cell h.2⟩
      have hN8 := block_new w7 (.cells #[.int .i64 (nv : Nat)] 3)
      have hE8 := ext_of_alloc (.cells #[.int .i64 (nv : Nat)] 3) (Ext.refl (w7.alloc (.cells #[.int .i64 (nv : Nat)] 3)))
      generalize hw8 : w7.alloc (.cells #[.int .i64 (nv : Nat)] 3) = w8 at hN8 hE8
      refine held_two (i := 10) (j := 12) (op_at rfl) (op_at rfl) (by kernel_rfl) (by kernel_rfl) (by kernel_rfl) ?_ ?_
      · have hc2 : w7.cell? ⟨mb + 1, 2, none⟩ = some (.slice none 0 0) := by rw [cell_of_row _ _ _ _ _ _ hX7]; rfl
        refine op_value (v := .slice none 0 0) (by go_simp; done) ⟨hSc, ?_⟩
        clear hc2
        simp only [Act.put, List.setIfInBounds_toArray, List.set_cons_zero, List.set_cons_succ]
        refine held_one (i := 12) (op_at rfl) (by kernel_rfl) (by kernel_rfl) ?_
        refine wp_buildSlice_to 40 3 1 [(0, .tmp 41)] rfl [(0, .int .i64 (nv : Nat))] rfl #[.int .i64 (nv : Nat)] i0 _ Tryz.underlying40 HI.out HZ0.out (by rw [HZ1.out]; decide) (by rw [HZ1.out]; decide) (by rw [HZ1.out]; exact fill_single (by decide) _ _ _ rfl rfl) ?_
        refine ⟨hSe _ _ hSc (ext_of_alloc _ (Ext.refl _)), ?_⟩
        simp only [Act.put, List.setIfInBounds_toArray, List.set_cons_zero, List.set_cons_succ]
        rw [hw8]
        clear hw8
        refine held_one (i := 13) (op_at rfl) (by kernel_rfl) (by kernel_rfl) ?_
        refine wp_append_nil (w := w8) _ _ 40 rfl 3 i0 _ 1 8 Tryz.underlying40 HI.out HZ0.out HZ1.out HZ2.out rfl (by decide) rfl w7.heap.size 1 [.int .i64 (nv : Nat)] rfl rfl _ _ hN8 (int_one _) (by decide) fun ng ncap ncur w9 hng hN9 hnc hncs hncx _ hE9 => ⟨hSe _ _ hSc (hE8.trans hE9), ?_⟩
        have hE89 := hE8.trans hE9
        have hX9 := hE89.heap hX7
        have hM9 := hE89.heap hM7
        have hF9 := hE89.heap hF7
        have hg9 := hE89.heap hg7
        have hS9 := hSe _ _ hSc hE89
        have hE9 := hE7.trans hE89
        have hn9 : w9.cell? ⟨ng, 0, none⟩ = some (.int .i64 (nv : Nat)) := by
          rw [cell_of_row _ _ _ _ _ _ hN9]
          have h0 : (ncur.extract 0 (0 + 1))[0]? = some (.int .i64 (nv : Nat)) := by rw [hncx]; rfl
          rw [Array.getElem?_extract] at h0
          simp at h0
          simpa using h0.2
        have hngm : mb + 1 < ng := Nat.lt_of_lt_of_le (lt_of_block hX7) (Nat.le_trans hE8.size hng)
        clear hE8 hE89 hN8 hX7 hM7 hF7 hg7 hE7 hSc hN9 hncx hng
        simp only [Act.put, List.setIfInBounds_toArray, List.set_cons_zero, List.set_cons_succ]
        refine held_one (i := 15) (op_at rfl) (by kernel_rfl) (by kernel_rfl) ?_
        refine op_value (v := .pointer (some ⟨mb + 1, 0, none⟩)) (by go_simp; done) ⟨hS9, ?_⟩
        simp only [Act.put, List.setIfInBounds_toArray, List.set_cons_zero, List.set_cons_succ]
        refine held_one (i := 16) (op_at rfl) (by kernel_rfl) (by kernel_rfl) ?_
        refine op_value (v := .pointer (some ⟨mb + 1, 2, none⟩)) (by go_simp; done) ⟨hS9, ?_⟩
        simp only [Act.put, List.setIfInBounds_toArray, List.set_cons_zero, List.set_cons_succ]
        refine held_one (i := 17) (op_at rfl) (by kernel_rfl) (by kernel_rfl) ?_
        refine wp_store1 40 _ _ rfl (mb + 1) 2 rfl (.slice (some ⟨ng, 0, none⟩) 1 ncap) rfl _ _ hX9 (by kernel_rfl) (by simp) rfl fun w10 u10 => ?_
        have hX10 := u10.here
        have hM10 := u10.keep hM9 (by omega)
        have hF10 := u10.keep hF9 (by omega)
        have hg10 := u10.keep hg9 (by omega)
        have hn10 := u10.cell hn9 (by show ng ≠ _; omega)
        have hE10 := hE9.upd (by omega) u10
        have hS10 : w10.cell? ⟨mb + 1, 3, none⟩ = some (.map (some mb)) ∧ w10.cell? ⟨fb, 0, none⟩ = some (.int .i64 2) := ⟨by rw [cell_of_row _ _ _ _ _ _ hX10]; rfl, by rw [cell_of_row _ _ _ _ _ _ hF10]; rfl⟩
        clear u10 hX9 hM9 hF9 hg9 hn9 hE9 hS9
        refine ⟨hS10, ?_⟩
        dsimp only [Act.put]
        refine held_one (i := 18) (op_at rfl) (by kernel_rfl) (by kernel_rfl) ?_
        refine wp_mapEntry rfl rfl rfl (run_mapEntry_int Tryz.underlying86 Tryz.underlying3 hM10 (z := .int .i64 0) (by rfl)) ?_
        have u11 := upd_map (o' := .map #[{ key := .int .i64 2, val := .int .i64 0, born := 0 }] (0 + 1)) hM10
        generalize hw11 : ({ w10 with heap := w10.heap.setIfInBounds mb (.map #[{ key := .int .i64 2, val := .int .i64 0, born := 0 }] (0 + 1)) } : World) = w11 at u11 ⊢
        have hM11 := u11.here
        have hX11 := u11.keep hX10 (by omega)
        have hF11 := u11.keep hF10 (by omega)
        have hg11 := u11.keep hg10 (by omega)
        have hn11 := u11.cell hn10 (by show ng ≠ _; omega)
        have hE11 := hE10.upd (by omega) u11
        have hS11 : w11.cell? ⟨mb + 1, 3, none⟩ = some (.map (some mb)) ∧ w11.cell? ⟨fb, 0, none⟩ = some (.int .i64 2) := ⟨by rw [cell_of_row _ _ _ _ _ _ hX11]; rfl, by rw [cell_of_row _ _ _ _ _ _ hF11]; rfl⟩
        clear u11 hw11 hX10 hM10 hF10 hg10 hn10 hE10 hS10 w10
        refine ⟨hS11, ?_⟩
        simp only [Act.put, List.setIfInBounds_toArray, List.set_cons_zero, List.set_cons_succ]
        refine held_one (i := 19) (op_at rfl) (by kernel_rfl) (by kernel_rfl) ?_
        refine op_value (v := .int .i64 0) (by go_simp; done) ⟨hS11, ?_⟩
        simp only [Act.put, List.setIfInBounds_toArray, List.set_cons_zero, List.set_cons_succ]
        refine held_one (i := 20) (op_at rfl) (by kernel_rfl) (by kernel_rfl) ?_
        refine wp_entryStore rfl rfl rfl rfl (run_entryStore_int hM11 (.int .i64 0)) ?_
        have u12 := upd_map (o' := .map #[{ key := .int .i64 2, val := .int .i64 0, born := 0 }] (0 + 1)) hM11
        generalize hw12 : ({ w11 with heap := w11.heap.setIfInBounds mb (.map #[{ key := .int .i64 2, val := .int .i64 0, born := 0 }] (0 + 1)) } : World) = w12 at u12 ⊢
        have hX12 := u12.keep hX11 (by omega)
        have hF12 := u12.keep hF11 (by omega)
        have hg12 := u12.keep hg11 (by omega)
        have hn12 := u12.cell hn11 (by show ng ≠ _; omega)
        have hE12 := hE11.upd (by omega) u12
        have hS12 : w12.cell? ⟨mb + 1, 3, none⟩ = some (.map (some mb)) ∧ w12.cell? ⟨fb, 0, none⟩ = some (.int .i64 2) := ⟨by rw [cell_of_row _ _ _ _ _ _ hX12]; rfl, by rw [cell_of_row _ _ _ _ _ _ hF12]; rfl⟩
        clear u12 hw12 hM11 hX11 hF11 hg11 hn11 hE11 hS11 w11
        refine ⟨hS12, wpAnyH_done (by kernel_rfl) (hQn _ _ ?_) _⟩
        dsimp only [Act.put]
        go_wp2_with fail
        go_roundw
        case rel => exact ⟨1, Nat.le_refl _, rfl, (show Aside _ from fun h => by cases h), (show Aside _ from fun _ => ⟨ng, ncap, hX12, by rw [hnv]; exact hn12, hg12, hE12⟩)⟩
        case measure => simp [intOf]
      · refine wp_buildSlice_to 40 3 1 [(0, .tmp 41)] rfl [(0, .int .i64 (nv : Nat))] rfl #[.int .i64 (nv : Nat)] i0 _ Tryz.underlying40 HI.out HZ0.out (by rw [HZ1.out]; decide) (by rw [HZ1.out]; decide) (by rw [HZ1.out]; exact fill_single (by decide) _ _ _ rfl rfl) ?_
        refine ⟨hSe _ _ hSc (ext_of_alloc _ (Ext.refl _)), ?_⟩
        simp only [Act.put, List.setIfInBounds_toArray, List.set_cons_zero, List.set_cons_succ]
        rw [hw8]
        refine held_one (i := 10) (op_at rfl) (by kernel_rfl) (by kernel_rfl) ?_
        have hX8 := hE8.heap hX7
        have hS8 := hSe _ _ hSc hE8
        have hc2 : w8.cell? ⟨mb + 1, 2, none⟩ = some (.slice none 0 0) := by rw [cell_of_row _ _ _ _ _ _ hX8]; rfl
        refine op_value (v := .slice none 0 0) (by go_simp; done) ⟨hS8, ?_⟩
        clear hc2 hw8 hX8 hS8
        simp only [Act.put, List.setIfInBounds_toArray, List.set_cons_zero, List.set_cons_succ]
        refine held_one (i := 13) (op_at rfl) (by kernel_rfl) (by kernel_rfl) ?_
        refine wp_append_nil (w := w8) _ _ 40 rfl 3 i0 _ 1 8 Tryz.underlying40 HI.out HZ0.out HZ1.out HZ2.out rfl (by decide) rfl w7.heap.size 1 [.int .i64 (nv : Nat)] rfl rfl _ _ hN8 (int_one _) (by decide) fun ng ncap ncur w9 hng hN9 hnc hncs hncx _ hE9 => ⟨hSe _ _ hSc (hE8.trans hE9), ?_⟩
        have hE89 := hE8.trans hE9
        have hX9 := hE89.heap hX7
        have hM9 := hE89.heap hM7
        have hF9 := hE89.heap hF7
        have hg9 := hE89.heap hg7
        have hS9 := hSe _ _ hSc hE89
        have hE9 := hE7.trans hE89
        have hn9 : w9.cell? ⟨ng, 0, none⟩ = some (.int .i64 (nv : Nat)) := by
          rw [cell_of_row _ _ _ _ _ _ hN9]
          have h0 : (ncur.extract 0 (0 + 1))[0]? = some (.int .i64 (nv : Nat)) := by rw [hncx]; rfl
          rw [Array.getElem?_extract] at h0
          simp at h0
          simpa using h0.2
        have hngm : mb + 1 < ng := Nat.lt_of_lt_of_le (lt_of_block hX7) (Nat.le_trans hE8.size hng)
        clear hE8 hE89 hN8 hX7 hM7 hF7 hg7 hE7 hSc hN9 hncx hng
        simp only [Act.put, List.setIfInBounds_toArray, List.set_cons_zero, List.set_cons_succ]
        refine held_one (i := 15) (op_at rfl) (by kernel_rfl) (by kernel_rfl) ?_
        refine op_value (v := .pointer (some ⟨mb + 1, 0, none⟩)) (by go_simp; done) ⟨hS9, ?_⟩
        simp only [Act.put, List.setIfInBounds_toArray, List.set_cons_zero, List.set_cons_succ]
        refine held_one (i := 16) (op_at rfl) (by kernel_rfl) (by kernel_rfl) ?_
        refine op_value (v := .pointer (some ⟨mb + 1, 2, none⟩)) (by go_simp; done) ⟨hS9, ?_⟩
        simp only [Act.put, List.setIfInBounds_toArray, List.set_cons_zero, List.set_cons_succ]
        refine held_one (i := 17) (op_at rfl) (by kernel_rfl) (by kernel_rfl) ?_
        refine wp_store1 40 _ _ rfl (mb + 1) 2 rfl (.slice (some ⟨ng, 0, none⟩) 1 ncap) rfl _ _ hX9 (by kernel_rfl) (by simp) rfl fun w10 u10 => ?_
        have hX10 := u10.here
        have hM10 := u10.keep hM9 (by omega)
        have hF10 := u10.keep hF9 (by omega)
        have hg10 := u10.keep hg9 (by omega)
        have hn10 := u10.cell hn9 (by show ng ≠ _; omega)
        have hE10 := hE9.upd (by omega) u10
        have hS10 : w10.cell? ⟨mb + 1, 3, none⟩ = some (.map (some mb)) ∧ w10.cell? ⟨fb, 0, none⟩ = some (.int .i64 2) := ⟨by rw [cell_of_row _ _ _ _ _ _ hX10]; rfl, by rw [cell_of_row _ _ _ _ _ _ hF10]; rfl⟩
        clear u10 hX9 hM9 hF9 hg9 hn9 hE9 hS9
        refine ⟨hS10, ?_⟩
        dsimp only [Act.put]
        refine held_one (i := 18) (op_at rfl) (by kernel_rfl) (by kernel_rfl) ?_
        refine wp_mapEntry rfl rfl rfl (run_mapEntry_int Tryz.underlying86 Tryz.underlying3 hM10 (z := .int .i64 0) (by rfl)) ?_
        have u11 := upd_map (o' := .map #[{ key := .int .i64 2, val := .int .i64 0, born := 0 }] (0 + 1)) hM10
        generalize hw11 : ({ w10 with heap := w10.heap.setIfInBounds mb (.map #[{ key := .int .i64 2, val := .int .i64 0, born := 0 }] (0 + 1)) } : World) = w11 at u11 ⊢
        have hM11 := u11.here
        have hX11 := u11.keep hX10 (by omega)
        have hF11 := u11.keep hF10 (by omega)
        have hg11 := u11.keep hg10 (by omega)
        have hn11 := u11.cell hn10 (by show ng ≠ _; omega)
        have hE11 := hE10.upd (by omega) u11
        have hS11 : w11.cell? ⟨mb + 1, 3, none⟩ = some (.map (some mb)) ∧ w11.cell? ⟨fb, 0, none⟩ = some (.int .i64 2) := ⟨by rw [cell_of_row _ _ _ _ _ _ hX11]; rfl, by rw [cell_of_row _ _ _ _ _ _ hF11]; rfl⟩
        clear u11 hw11 hX10 hM10 hF10 hg10 hn10 hE10 hS10 w10
        refine ⟨hS11, ?_⟩
        simp only [Act.put, List.setIfInBounds_toArray, List.set_cons_zero, List.set_cons_succ]
        refine held_one (i := 19) (op_at rfl) (by kernel_rfl) (by kernel_rfl) ?_
        refine op_value (v := .int .i64 0) (by go_simp; done) ⟨hS11, ?_⟩
        simp only [Act.put, List.setIfInBounds_toArray, List.set_cons_zero, List.set_cons_succ]
        refine held_one (i := 20) (op_at rfl) (by kernel_rfl) (by kernel_rfl) ?_
        refine wp_entryStore rfl rfl rfl rfl (run_entryStore_int hM11 (.int .i64 0)) ?_
        have u12 := upd_map (o' := .map #[{ key := .int .i64 2, val := .int .i64 0, born := 0 }] (0 + 1)) hM11
        generalize hw12 : ({ w11 with heap := w11.heap.setIfInBounds mb (.map #[{ key := .int .i64 2, val := .int .i64 0, born := 0 }] (0 + 1)) } : World) = w12 at u12 ⊢
        have hX12 := u12.keep hX11 (by omega)
        have hF12 := u12.keep hF11 (by omega)
        have hg12 := u12.keep hg11 (by omega)
        have hn12 := u12.cell hn11 (by show ng ≠ _; omega)
        have hE12 := hE11.upd (by omega) u12
        have hS12 : w12.cell? ⟨mb + 1, 3, none⟩ = some (.map (some mb)) ∧ w12.cell? ⟨fb, 0, none⟩ = some (.int .i64 2) := ⟨by rw [cell_of_row _ _ _ _ _ _ hX12]; rfl, by rw [cell_of_row _ _ _ _ _ _ hF12]; rfl⟩
        clear u12 hw12 hM11 hX11 hF11 hg11 hn11 hE11 hS11 w11
        refine ⟨hS12, wpAnyH_done (by kernel_rfl) (hQn _ _ ?_) _⟩
        dsimp only [Act.put]
        go_wp2_with fail
        go_roundw
        case rel => exact ⟨1, Nat.le_refl _, rfl, (show Aside _ from fun h => by cases h), (show Aside _ from fun _ => ⟨ng, ncap, hX12, by rw [hnv]; exact hn12, hg12, hE12⟩)⟩
        case measure => simp [intOf]
    · obtain rfl : k = 1 := by omega
      obtain ⟨ng, ncap, h1, h2, h3, h4⟩ := A1.out rfl
      have HCap := Lib.hid hcap
      clear A0 A1 hX hM hg2 hE hcap
      go_wp2
      go_ret
      exact ⟨mb + 1, g, cap, ng, ncap, _, cur, rfl, h1, h3, HCS.out, HCap.out, HCX.out, h2, h4⟩
end Go.Proofs.YtplddeboinhkbaaGreatDoorRR
