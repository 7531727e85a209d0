/- The program's functions on pieces and halves: what they return. -/

import Derived.Test.YtplddeboinhkbaaGreatDoorRRProg
import Derived.Test.YtplddeboinhkbaaGreatDoorRRSavB
namespace Go.Proofs.YtplddeboinhkbaaGreatDoorRR
open Go.RowKit
/-- From o on block b holds the bytes l. -/
def BAt (w : World) (b o : Nat) (l : List Nat) : Prop := ∀ k, k < l.length → w.cell? ⟨b, o + k, none⟩ = some (.int .u8 (wd l k : Nat))
theorem BAt.ext {w w' : World} {b o : Nat} {l : List Nat} (h : BAt w b o l) (hE : Ext w w') : BAt w' b o l := fun k hk => hE.cell (h k hk)
theorem BAt.of_block {w : World} {b : Nat} {l : List Nat} {t : TypeId} {fr : Nat × Nat} (h : w.heap[b]? = some (.cells (encB l) t fr)) : BAt w b 0 l := fun k hk => by
  rw [Nat.zero_add, cell_of_row w b k _ t fr h]
  exact encB_at k hk
/-- A piece without a half at its beginning. -/
def pieceV (b o n c : Nat) : Value := .agg #[.slice (some ⟨b, o, none⟩) n c, .bool false]
theorem ahead_any (b o n c : Nat) (w : World) :
    Calls Tryz.prog 65 #[.agg #[.slice (some ⟨b, o, none⟩) n c, .bool false]] w fun e w' => e = .returned (.int .i64 0) ∧ Ext w w' := by
  go_enter Tryz.func65, Tryz.ntmps65
  go_wp2
  go_ret
  exact ⟨rfl, (Ext.refl w).alloc _⟩
theorem checkPiece_any (b o n c : Nat) (w : World) (hn : n ≤ 200000) :
    Calls Tryz.prog 35 #[.agg #[.slice (some ⟨b, o, none⟩) n c, .bool false]] w fun e w' => e = .returned (.int .i64 0) ∧ Ext w w' := by
  have hn' : ((n : Nat) : Int) ≤ 200000 := by omega
  go_enter Tryz.func35, Tryz.ntmps35
  go_wp2
  go_ret
  exact ⟨rfl, (Ext.refl w).alloc _⟩
theorem length_any (b o n c : Nat) (w : World) (hn : n ≤ 200000) :
    Calls Tryz.prog 63 #[.agg #[.slice (some ⟨b, o, none⟩) n c, .bool false]] w fun e w' => e = .returned (.int .i64 ((2 * n : Nat) : Int)) ∧ Ext w w' := by
  have s1 : IntKind.i64.wrap (2 * (n : Int)) = 2 * (n : Int) := IntWalk.i64_in _ (by omega)
  go_enter Tryz.func63, Tryz.ntmps63
  go_wp2
  refine wp_world fun w1 e1 => ?_
  have hE1 := Ext.of_eq e1
  clear e1
  have hB := hE1.heap (block_new w _)
  have hE := ext_of_alloc _ hE1
  have c0 : ∀ x : ExtW w1, x.val.cell? ⟨w.heap.size, 0, none⟩ = some (.slice (some ⟨b, o, none⟩) n c) := fun x => by rw [cell_of_row _ _ _ _ _ _ (x.ext.heap hB)]; rfl
  have c1 : ∀ x : ExtW w1, x.val.cell? ⟨w.heap.size, 1, none⟩ = some (.bool false) := fun x => by rw [cell_of_row _ _ _ _ _ _ (x.ext.heap hB)]; rfl
  refine wp_region_ext (by kernel_rfl) (by kernel_rfl) ?_
  repeat (go_big_quiet_step ((go_at_call 65; refine calls_ext (ahead_any b o n c _))))
  refine wpQuiet_nil ?_
  rintro _ ⟨x, rfl⟩
  go_wp2
  go_ret
  exact ⟨ret_int (by omega), hE.trans x.ext⟩
def halfB (l : List Nat) (i : Nat) : Nat := wd l (i / 2) / 2 ^ (4 - 4 * (i % 2)) % 16
theorem halfB_lt (l : List Nat) (i : Nat) : halfB l i < 16 := Nat.mod_lt _ (by decide)
set_option maxHeartbeats 1000000 in
theorem halfOf_any (b o c : Nat) (l : List Nat) (i : Nat) (w : World) (hl : l.length ≤ 200000) (hi : i / 2 < l.length) (hB : BAt w b o l) (hb : wd l (i / 2) < 256) :
    Calls Tryz.prog 64 #[.slice (some ⟨b, o, none⟩) l.length c, .int .i64 i] w fun e w' => e = .returned (.int .u8 (halfB l i : Nat)) ∧ Ext w w' := by
  have hc := hB (i / 2) hi
  have HV := Lib.hid (show halfB l i = wd l (i / 2) / 2 ^ (4 - 4 * (i % 2)) % 16 from rfl)
  generalize wd l (i / 2) = v at hc hb HV
  generalize halfB l i = a at HV ⊢
  generalize l.length = n at hl hi ⊢
  have h2 : i % 2 = 0 ∨ i % 2 = 1 := by omega
  rcases h2 with h | h
  · have hm : ((i : Nat) : Int) % 2 = ((i % 2 : Nat) : Int) := rfl
    rw [h] at hm
    have HH := Lib.hid h
    clear h
    go_enter Tryz.func64, Tryz.ntmps64
    go_wp2
    go_ret
    refine ⟨ret_int ?_, Ext.refl w⟩
    have h3 := HV.out
    rw [HH.out] at h3
    simp at h3
    omega
  · have hm : ((i : Nat) : Int) % 2 = ((i % 2 : Nat) : Int) := rfl
    rw [h] at hm
    have HH := Lib.hid h
    clear h
    go_enter Tryz.func64, Tryz.ntmps64
    go_wp2
    go_ret
    refine ⟨ret_int ?_, Ext.refl w⟩
    have h3 := HV.out
    rw [HH.out] at h3
    simp at h3
    omega
theorem list_bound {l : List Nat} (h : ∀ k, wd l k < 256) (i : Nat) : wd l i < 256 := h i
def halvesF (l : List Nat) : List Nat := bytTo (halfB l) (2 * l.length) (2 * l.length)
def HalPost (l : List Nat) (w : World) (e : Ending) (w' : World) : Prop := ∃ g, e = .returned (.slice (some ⟨g, 0, none⟩) (2 * l.length) (2 * l.length)) ∧ w.heap.size ≤ g ∧ w'.heap[g]? = some (.cells (encB (halvesF l)) 5 (0, 0)) ∧ Ext w w'
set_option maxRecDepth 100000 in
set_option maxHeartbeats 1000000 in
theorem halves_any (b o c : Nat) (l : List Nat) (w : World) (hl : l.length ≤ 200000) (hB : BAt w b o l) (hb : ∀ k, wd l k < 256) :
    Calls Tryz.prog 37 #[.agg #[.slice (some ⟨b, o, none⟩) l.length c, .bool false]] w (HalPost l w) := by
  obtain ⟨i0, hi, hz0, hz1, hz2⟩ := info_parts info_u8
  have HF := Lib.hid (show halvesF l = bytTo (halfB l) (2 * l.length) (2 * l.length) from rfl)
  have hho := fun (i : Nat) (u : World) (hx : Ext w u) (hi : i / 2 < l.length) => halfOf_any b o c l i u hl hi (hB.ext hx) (hb _)
  have HB := Lib.hid (halfB_lt l)
  have HS := Lib.hid (bytTo_set (halfB l) (2 * l.length))
  have HM := Lib.hid (made_bytes (halfB l) (2 * l.length))
  have HN := Lib.hid (bytTo_length (halfB l) (2 * l.length))
  unfold HalPost
  generalize halvesF l = hv at HF ⊢
  generalize halfB l = hg at HF HB HS HM HN hho
  generalize l.length = n at *
  clear hB hb l
  go_enter Tryz.func37, Tryz.ntmps37
  go_wp2_with fail
  refine (length_any b o n c _ hl).mono ?_
  rintro e w1 ⟨rfl, hE1⟩
  have hP := hE1.heap (block_new w _)
  have hE := ext_of_alloc _ hE1
  clear hE1
  obtain ⟨m, hm⟩ : ∃ m, m = 2 * n := ⟨_, rfl⟩
  rw [← hm] at HF HS HM HN ⊢
  have hmn : m ≤ 400000 := by omega
  have HMn := Lib.hid hm
  clear hm
  go_wp2_with ((with_reducible refine stop_dst 7 rfl ?_))
  apply Stop.go
  refine wpList_make_row _ rfl _ _ 41 rfl 5 i0 (.int .u8 0) Tryz.underlying41 hi hz0 hz1 rfl .i64 .i64 m rfl rfl (by rw [hz2]; omega) (by omega) ?_
  rw [HM.out]
  simp only [Act.put, List.setIfInBounds_toArray, List.set_cons_zero, List.set_cons_succ]
  refine wpList_world fun w2 e2 => ?_
  have hE2 := Ext.of_eq e2
  clear e2
  have hG := hE2.heap (block_new w1 _)
  have hE2 := ext_of_alloc _ hE2
  have hP2 := hE2.heap hP
  have hle := hE.size
  have hgp : w.heap.size < w1.heap.size := lt_of_block hP
  have hE := hE.trans hE2
  clear hE2 hP hi hz0 hz1 hz2 i0
  generalize w1.heap.size = g at hG hle hgp ⊢
  go_wp2
  go_loopw [10] (fun i wr => ∃ k : Nat, k ≤ m ∧ i = .int .i64 k ∧ wr.heap[g]? = some (.cells (encB (bytTo hg m k)) 5 (0, 0)) ∧ wr.heap[w.heap.size]? = some (.cells #[.slice (some ⟨b, o, none⟩) n c, .bool false] 47 (0, 0)) ∧ Ext w wr) (fun i _ => m - (intOf i).toNat)
  case atStart => exact ⟨0, by omega, rfl, hG, hP2, hE⟩
  case round =>
    obtain ⟨k, hk, rfl, hGr, hPr, hEr⟩ := hrel
    clear hG hP2 hE
    by_cases hlt : k < m
    · have c0 : ∀ x : ExtW wr, x.val.cell? ⟨w.heap.size, 0, none⟩ = some (.slice (some ⟨b, o, none⟩) n c) := fun x => by rw [cell_of_row _ _ _ _ _ _ (x.ext.heap hPr)]; rfl
      have c1 : ∀ x : ExtW wr, x.val.cell? ⟨w.heap.size, 1, none⟩ = some (.bool false) := fun x => by rw [cell_of_row _ _ _ _ _ _ (x.ext.heap hPr)]; rfl
      have CH := Lib.hid (show ∀ x : ExtW wr, _ from fun x => hho k x.val (hEr.trans x.ext) (by have := HMn.out; omega))
      have hv16 := HB.out k
      have HS2 := Lib.hid (HS.out k hlt)
      have HN2 := Lib.hid (HN.out k)
      generalize hg k = v at CH hv16 HS2
      generalize bytTo hg m k = l0 at hGr HS2 HN2
      go_wp2
      refine wp_region_tail 10 _ rfl rfl rfl (by kernel_rfl) (by kernel_rfl) (by kernel_rfl) ?_
      simp only [List.modify_succ_cons, List.modify_zero_cons, idle]
      repeat (go_big_quiet_step ((first | (go_at_call 65; refine calls_ext (ahead_any b o n c _)) | (go_at_call 64; refine calls_ext (CH.out _)))))
      refine wpQuiet_nil ?_
      rintro _ ⟨x, rfl⟩
      have hG2 := x.ext.heap hGr
      have hP2 := x.ext.heap hPr
      have hE2 := hEr.trans x.ext
      clear hGr hPr hEr c0 c1
      refine wpList_store1 rfl _ _ _ rfl g k rfl (.int .u8 (v : Nat)) rfl _ _ hG2 info_u8s (by rw [encB_size, HN2.out]; exact hlt) rfl fun w3 u3 => ?_
      dsimp only [Act.put]
      have hG3 := u3.here
      rw [encB_set, HS2.out] at hG3
      have hP3 := u3.keep hP2 (by omega)
      have hE3 := hE2.upd (by omega) u3
      clear u3 hG2 hP2 hE2
      go_wp2
      go_roundw
      case rel => first | exact ⟨k + 1, by omega, by go_num, hG3, hP3, hE3⟩ | ((repeat apply Exists.intro); exact ⟨⟨k + 1, by omega, by go_num, hG3, hP3, hE3⟩, rfl⟩)
      case measure => simp [intOf]; omega
    · obtain rfl : k = m := by omega
      rw [← HF.out] at hGr
      go_wp2
      go_ret
      exact ⟨g, by rw [← HMn.out]; rfl, by omega, hGr, hEr⟩
def wordB (a b c : Nat) : Nat := a * 256 + b * 16 + c
theorem word_bits (a b c : Nat) (ha : a < 16) (hb : b < 16) (hc : c < 16) : bits BinOp.or IntKind.u16 (bits BinOp.or IntKind.u16 ((a : Int) * 256) ((b : Int) * 16)) (c : Int) = (wordB a b c : Nat) := by
  have e1 := u16_or_nat (a * 256) (b * 16) (by omega) (by omega)
  rw [nat_join 8 (a * 256) (b * 16) (by omega) (by omega)] at e1
  have e2 := u16_or_nat (a * 256 + b * 16) c (by omega) (by omega)
  rw [nat_join 4 (a * 256 + b * 16) c (by omega) (by omega)] at e2
  rw [show (a : Int) * 256 = ((a * 256 : Nat) : Int) by omega, show (b : Int) * 16 = ((b * 16 : Nat) : Int) by omega, e1, e2]
  rfl
theorem wordAt_any (b o n c v0 v1 v2 : Nat) (w : World) (hn : 3 ≤ n) (hn2 : n ≤ 400000) (h0 : w.cell? ⟨b, o, none⟩ = some (.int .u8 (v0 : Nat))) (h1 : w.cell? ⟨b, o + 1, none⟩ = some (.int .u8 (v1 : Nat))) (h2 : w.cell? ⟨b, o + 2, none⟩ = some (.int .u8 (v2 : Nat)))
    (b0 : v0 < 16) (b1 : v1 < 16) (b2 : v2 < 16) :
    Calls Tryz.prog 92 #[.slice (some ⟨b, o, none⟩) n c] w fun e w' => e = .returned (.int .u16 (wordB v0 v1 v2 : Nat)) ∧ Ext w w' := by
  have c0 : ∀ x : ExtW w, x.val.cell? ⟨b, o, none⟩ = some (.int .u8 (v0 : Nat)) := fun x => x.ext.cell h0
  have c1 : ∀ x : ExtW w, x.val.cell? ⟨b, o + 1, none⟩ = some (.int .u8 (v1 : Nat)) := fun x => x.ext.cell h1
  have c2 : ∀ x : ExtW w, x.val.cell? ⟨b, o + 2, none⟩ = some (.int .u8 (v2 : Nat)) := fun x => x.ext.cell h2
  clear h0 h1 h2
  have n0 : (0 : Int) < (n : Int) := by omega
  have n1 : (1 : Int) < (n : Int) := by omega
  have n2 : (2 : Int) < (n : Int) := by omega
  have HW := Lib.hid (word_bits v0 v1 v2 b0 b1 b2)
  go_enter Tryz.func92, Tryz.ntmps92
  go_wp2
  refine wp_region_ext (by kernel_rfl) (by kernel_rfl) ?_
  repeat (go_big_quiet_step (fail))
  refine wpQuiet_nil ?_
  rintro _ ⟨x, rfl⟩
  go_wp2
  go_ret
  exact ⟨ret_int HW.out, x.ext⟩
/-- Is a word one of the sync words? -/
def isSyncB (v : Nat) : Bool := v == 583 || v == 1464 || v == 2631 || v == 3512
def noSync (v k : Nat) : Prop := ∀ j, j < k → syncN j ≠ v
set_option maxHeartbeats 1000000 in
theorem isSync_any (v : Nat) (w : World) (_hv : v < 65536) (hS : SyncAt w) :
    Calls Tryz.prog 116 #[.int .u16 v] w fun e w' => e = .returned (.bool (isSyncB v)) ∧ Ext w w' := by
  have HI := Lib.hid (show isSyncB v = (v == 583 || v == 1464 || v == 2631 || v == 3512) from rfl)
  generalize isSyncB v = z at HI ⊢
  go_enter Tryz.func116, Tryz.ntmps116
  go_wp2
  go_loopw [6] (fun i wr => ∃ k : Nat, k ≤ 4 ∧ i = .int .i64 k ∧ Aside (noSync v k) ∧ Ext w wr) (fun i _ => 4 - (intOf i).toNat)
  case atStart => exact ⟨0, by omega, rfl, (show Aside _ from fun j hj => by omega), Ext.refl w⟩
  case round =>
    obtain ⟨k, hk, rfl, A, hE⟩ := hrel
    by_cases hlt : k < 4
    · have hsl := syncN_lt k
      have HY := Lib.hid (show syncN k = v → z = true from fun h => by
        rw [HI.out]
        have h4 : k = 0 ∨ k = 1 ∨ k = 2 ∨ k = 3 := by omega
        rcases h4 with rfl | rfl | rfl | rfl <;> (rw [← h]; rfl))
      have HN := Lib.hid (show syncN k ≠ v → noSync v (k + 1) from fun h j hj => by
        rcases Nat.lt_succ_iff_lt_or_eq.1 hj with e | e
        · exact A.out j e
        · subst e; exact h)
      have cs := sync_any ((k : Nat) : Int) wr (by omega) (by omega) (hS.ext hE)
      rw [Int.toNat_natCast] at cs
      generalize syncN k = s at hsl HY HN cs
      go_wp2_with fail
      refine cs.mono ?_
      rintro e w2 ⟨rfl, hE2⟩
      by_cases hs : s = v
      · have hs' : (((s : Nat) : Int) == ((v : Nat) : Int)) = true := by simp [hs]
        have HZ := Lib.hid (HY.out hs)
        clear hs cs
        go_wp2
        go_ret
        exact ⟨ret_bool HZ.out.symm, hE.trans hE2⟩
      · have hs' : (((s : Nat) : Int) == ((v : Nat) : Int)) = false := by simp; omega
        have HZ : Aside (noSync v (k + 1)) := HN.out hs
        clear hs cs
        go_wp2
        go_roundw
        case rel => first | exact ⟨k + 1, by omega, by go_num, HZ, hE.trans hE2⟩ | ((repeat apply Exists.intro); exact ⟨⟨k + 1, by omega, by go_num, HZ, hE.trans hE2⟩, rfl⟩)
        case measure => simp [intOf]; omega
    · obtain rfl : k = 4 := by omega
      have HZ := Lib.hid (show z = false by
        have a0 := A.out 0 (by omega)
        have a1 := A.out 1 (by omega)
        have a2 := A.out 2 (by omega)
        have a3 := A.out 3 (by omega)
        simp only [syncN] at a0 a1 a2 a3
        rw [HI.out]
        simp at a0 a1 a2 a3 ⊢
        omega)
      go_wp2
      go_ret
      exact ⟨ret_bool HZ.out.symm, hE⟩
def frameH (l : List Nat) (i : Nat) : Nat := wordB (wd l (3 * i)) (wd l (3 * i + 1)) (wd l (3 * i + 2))
def frameL (l : List Nat) : List Nat := bytTo (frameH l) 64 64
theorem wordB_lt {a b c : Nat} (ha : a < 16) (hb : b < 16) (hc : c < 16) : wordB a b c < 4096 := by unfold wordB; omega
theorem frameH_lt {l : List Nat} (h : ∀ k, wd l k < 16) (i : Nat) : frameH l i < 4096 := wordB_lt (h _) (h _) (h _)
theorem bytTo_ok {g : Nat → Nat} (h : ∀ i, g i < 65536) (k : Nat) : FrameOk (bytTo g 64 k) := frameOk_map _ fun j => by
  split
  · exact h j
  · omega
theorem frameL_ok {l : List Nat} (h : ∀ k, wd l k < 16) : FrameOk (frameL l) := bytTo_ok (fun i => by have := frameH_lt h i; omega) 64
theorem bytTo_zero (g : Nat → Nat) : bytTo g 64 0 = List.replicate 64 0 := by
  apply List.ext_getElem (by simp [bytTo])
  intro i h1 h2
  rw [List.getElem_replicate]
  simp [bytTo]
theorem heap_alloc3_new (w : World) (a b c : Obj) : (((w.alloc a).alloc b).alloc c).heap[w.heap.size + 2]? = some c := by
  have h := heap_alloc2_new (w.alloc a) b c
  rw [show (w.alloc a).heap.size + 1 = w.heap.size + 2 by simp] at h
  exact h
theorem slice_window (b k : Nat) (hk : k < 64) (w : World) :
    (Instr.sliceAt 147 (.pointer (some ⟨b, 0, none⟩)) (some (.int .i64 (3 * (k : Int)))) (some (.int .i64 (3 * (k : Int) + 3))) none).run Tryz.prog w = .ok (.slice (some ⟨b, 3 * k, none⟩) 3 (192 - 3 * k)) w := by
  have hu : Tryz.prog.underlying 147 = some (.array 192 5) := by kernel_rfl
  have hl : Tryz.prog.arrayLen 147 = 192 := by kernel_rfl
  have he : Tryz.prog.elem 147 = 5 := by kernel_rfl
  have hs : (sizeOf 5).run Tryz.prog w = .ok 1 w := by
    obtain ⟨i0, hi, hz0, hz1, hz2⟩ := info_parts info_u8
    simp [sizeOf, typeInfo, hi, hz1]
  have h1 : (3 * (k : Int)).toNat = 3 * k := by omega
  have h2 : (3 * (k : Int) + 3).toNat = 3 * k + 3 := by omega
  have h := run_sliceAt_array_lh (P := Tryz.prog) w 147 ⟨b, 0, none⟩ (by rw [hl, he]; exact hu) .i64 .i64 (3 * (k : Int)) (3 * (k : Int) + 3) (by omega) (by omega) (by rw [hl]; omega)
  rw [h, he, hs, Result.andThen_ok]
  unfold slicedAt
  rw [hl, h1, h2, if_neg (by omega), show 3 * k + 3 - 3 * k = 3 by omega]
  simp [Addr.add]
  exact fun h => h.symm
set_option maxRecDepth 100000 in
set_option maxHeartbeats 1000000 in
theorem frameIn_any (l : List Nat) (w : World) (hl : l.length = 192) (hb : ∀ k, wd l k < 16) :
    Calls Tryz.prog 117 #[.agg (encB l)] w fun e w' => e = .returned (.agg (encF (frameL l))) ∧ Ext w w' := by
  have HF := Lib.hid (show frameL l = bytTo (frameH l) 64 64 from rfl)
  have hfo := frameL_ok hb
  obtain ⟨q, hq⟩ : ∃ q, q = frameL l := ⟨_, rfl⟩
  rw [← hq] at HF hfo ⊢
  clear hq
  have HO := Lib.hid (show ∀ k, FrameOk (bytTo (frameH l) 64 k) from bytTo_ok (fun i => by have := frameH_lt hb i; omega))
  have HS := Lib.hid (bytTo_set (frameH l) 64)
  have HLn := Lib.hid hl
  clear hl
  go_enter Tryz.func117, Tryz.ntmps117
  go_wp2
  refine wp_world fun w1 e1 => ?_
  have hE1 := Ext.of_eq e1
  clear e1
  have hW : w1.heap[w.heap.size]? = some (.cells (encB l) 147 (0, 0)) := hE1.heap (block_old _ (block_old _ (block_new w _)))
  obtain ⟨Z, hZ, hZs⟩ : ∃ Z : Array Value, w1.heap[w.heap.size + 1]? = some (.cells Z 27 (0, 0)) ∧ Z.size = 64 := ⟨_, hE1.heap (block_old _ (heap_alloc2_new w _ _)), rfl⟩
  have hG : w1.heap[w.heap.size + 2]? = some (.cells (encF (bytTo (frameH l) 64 0)) 27 (0, 0)) := by
    rw [bytTo_zero]
    exact hE1.heap (heap_alloc3_new w _ _ _)
  have hE := ext_of_alloc _ (ext_of_alloc _ (ext_of_alloc _ hE1))
  clear hE1
  go_loopw [5] (fun i wr => ∃ k : Nat, k ≤ 64 ∧ i = .int .i64 k ∧ wr.heap[w.heap.size + 2]? = some (.cells (encF (bytTo (frameH l) 64 k)) 27 (0, 0)) ∧ wr.heap[w.heap.size]? = some (.cells (encB l) 147 (0, 0)) ∧ wr.heap[w.heap.size + 1]? = some (.cells Z 27 (0, 0)) ∧ Ext w wr) (fun i _ => 64 - (intOf i).toNat)
  case atStart => exact ⟨0, by omega, rfl, hG, hW, hZ, hE⟩
  case round =>
    obtain ⟨k, hk, rfl, hGr, hWr, hZr, hEr⟩ := hrel
    clear hG hW hZ hE
    by_cases hlt : k < 64
    · have hlt' : ((k : Nat) : Int) < 64 := by omega
      have HA := Lib.hid (BAt.of_block hWr)
      have hfl := frameH_lt hb k
      have HV := Lib.hid (show frameH l k = wordB (wd l (3 * k)) (wd l (3 * k + 1)) (wd l (3 * k + 2)) from rfl)
      have HS2 := Lib.hid (HS.out k hlt)
      have hko := HO.out k
      generalize bytTo (frameH l) 64 k = p at hko HS2 hGr
      generalize frameH l k = v at hfl HV HS2
      have hsl := slice_window w.heap.size k hlt
      have HLk := HLn.out
      have g0 := HA.out (3 * k) (by omega)
      have g1 := HA.out (3 * k + 1) (by omega)
      have g2 := HA.out (3 * k + 2) (by omega)
      rw [Nat.zero_add] at g0
      rw [show 0 + (3 * k + 1) = 3 * k + 1 by omega] at g1
      rw [show 0 + (3 * k + 2) = 3 * k + 2 by omega] at g2
      have G0 := Lib.hid g0
      have G1 := Lib.hid g1
      have G2 := Lib.hid g2
      clear g0 g1 g2 HLk
      go_wp2_with fail
      refine (wordAt_any w.heap.size (3 * k) 3 (192 - 3 * k) _ _ _ wr (by omega) (by omega) G0.out G1.out G2.out (hb _) (hb _) (hb _)).mono ?_
      rintro e w2 ⟨rfl, hE2⟩
      rw [← HV.out]
      have hG2 := hE2.heap hGr
      have hW2 := hE2.heap hWr
      have hZ2 := hE2.heap hZr
      have hE2 := hEr.trans hE2
      clear hGr hWr hZr hEr hsl HA
      go_wp2_with ((with_reducible refine stop_store 25 rfl ?_))
      apply Stop.go
      refine wpList_store1 rfl _ _ _ rfl (w.heap.size + 2) k rfl (.int .u16 (v : Nat)) rfl _ _ hG2 info_u16 (by rw [encF_size hko]; omega) rfl fun w3 u3 => ?_
      dsimp only [Act.put]
      have hG3 := u3.here
      rw [encF_set, HS2.out] at hG3
      have hW3 := u3.keep hW2 (by omega)
      have hZ3 := u3.keep hZ2 (by omega)
      have hE3 := hE2.upd (by omega) u3
      clear u3 hG2 hW2 hZ2 hE2
      go_wp2
      go_roundw
      case rel => first | exact ⟨k + 1, by omega, by go_num, hG3, hW3, hZ3, hE3⟩ | ((repeat apply Exists.intro); exact ⟨⟨k + 1, by omega, by go_num, hG3, hW3, hZ3, hE3⟩, rfl⟩)
      case measure => simp [intOf]; omega
    · obtain rfl : k = 64 := by omega
      rw [← HF.out] at hGr
      go_wp2_with ((with_reducible refine stop_load 27 rfl ?_))
      apply Stop.go
      refine wpList_load_blk rfl _ _ rfl (w.heap.size + 2) 0 rfl 64 _ _ _ _ hGr Tryz.underlying27 rfl info_frame (by rw [encF_size hfo]; omega) (encF q) (by rw [Nat.zero_add, ← encF_size hfo, Array.extract_size]) ?_
      simp only [Act.put, List.setIfInBounds_toArray, List.set_cons_zero, List.set_cons_succ]
      go_wp2_with ((with_reducible refine stop_store 27 rfl ?_))
      apply Stop.go
      refine wpList_store_whole rfl _ _ _ rfl (w.heap.size + 1) rfl (encF q) rfl _ _ hZr (by rw [encF_size hfo]; exact info_frame) (by rw [encF_size hfo, hZs]) (encF_one _) fun w9 u9 => ?_
      dsimp only [Act.put]
      go_wp2
      exact bodyPost_ret (v := .agg (encF q)) (results_cell_row Tryz.results117 _ _ (w.heap.size + 1) _ _ _ _ rfl u9.here Tryz.underlying27 rfl (by rw [encF_size hfo]; exact info_frame)) rfl ⟨rfl, hEr.upd (by omega) u9⟩
end Go.Proofs.YtplddeboinhkbaaGreatDoorRR
