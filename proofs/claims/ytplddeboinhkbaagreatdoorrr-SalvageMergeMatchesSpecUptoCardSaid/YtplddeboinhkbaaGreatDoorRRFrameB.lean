/- The functions of package frame that say whether a frame is sound, give its number, and put a word in its place: what they return. -/

import Derived.Test.YtplddeboinhkbaaGreatDoorRRProg
import Derived.Test.YtplddeboinhkbaaGreatDoorRRFrameA
namespace Go.Proofs.YtplddeboinhkbaaGreatDoorRR
open Go.RowKit
/-- The table of the sync words lies in its variable. -/
def SyncAt (w : World) : Prop := ∀ k, k < 4 → w.cell? ⟨0, k, none⟩ = some (.int .u16 (syncN k : Nat))
theorem SyncAt.ext {w w' : World} (h : SyncAt w) (hE : Ext w w') : SyncAt w' := fun k hk => hE.cell (h k hk)
theorem syncN_mod (n : Nat) : syncN (n % 4) = syncN n := by unfold syncN; simp
def synced (f : List Nat) : Bool := wd f 0 == syncN (numN f)
theorem ne_int {a b : Nat} (h : (a == b) = false) : (((a : Nat) : Int) != ((b : Nat) : Int)) = true := by simp at h; simp; omega
theorem nne_int {a b : Nat} (h : (a == b) = true) : (((a : Nat) : Int) != ((b : Nat) : Int)) = false := by simp at h; simp; omega
theorem eq_int {a b : Nat} : (((a : Nat) : Int) == ((b : Nat) : Int)) = (a == b) := by rw [Bool.eq_iff_iff]; simp; omega
theorem numN_lt (f : List Nat) : numN f < 4194304 := by unfold numN; omega
def checked (f : List Nat) : Bool := wd f 62 % 2048 * 2048 + wd f 63 % 2048 == crcN f
theorem soundB_eq (f : List Nat) : soundB f = (!wideB f && synced f && (wd f 61 % 2048 == sumN f) && oddTo f 63 && checked f) := rfl
theorem oddTo_false (f : List Nat) (k : Nat) (hk : k < 63) (h : rightB (wd f (k + 1)) = false) : ∀ n, k < n → oddTo f n = false
  | 0, h0 => by omega
  | n + 1, h0 => by
    by_cases e : k = n
    · subst e; simp [oddTo, h]
    · simp [oddTo, oddTo_false f k hk h n (by omega)]
theorem chk_val (a b c : Nat) (ha : a < 2048) (hb : b < 2048) : (bits BinOp.or IntKind.i64 ((a : Int) * 2048) (b : Int) == (c : Int)) = (a * 2048 + b == c) := by
  have h := i64_or_nat (a * 2048) b (by omega) (by omega)
  rw [nat_join 11 (a * 2048) b (by omega) (by omega)] at h
  rw [show ((a : Int) * 2048) = ((a * 2048 : Nat) : Int) from by omega, h]
  exact eq_int
set_option maxHeartbeats 1000000 in
theorem sound_any (b o : Nat) (f : List Nat) (w : World) (hf : FrameOk f) (hF : FAt w b o f) (hS : SyncAt w) :
    Calls Tryz.prog 69 #[.pointer (some ⟨b, o, none⟩)] w fun e w' => e = .returned (.bool (soundB f)) ∧ Ext w w' := by
  by_cases h1 : wideB f = true
  · have cw := wide_any b o f
    rw [h1] at cw
    have CW := Lib.hid cw
    have HB := Lib.hid (show soundB f = false by simp [soundB, h1])
    clear cw h1
    go_enter Tryz.func69, Tryz.ntmps69
    go_wp2
    refine wp_region_ext (by kernel_rfl) (by kernel_rfl) ?_
    repeat (go_big_quiet_step ((go_at_call 67; refine calls_ext (CW.out _ (hF.ext (ExtW.ext _))))))
    refine wpQuiet_nil ?_
    rintro _ ⟨x, rfl⟩
    go_wp2
    go_ret
    exact ⟨ret_bool HB.out.symm, x.ext⟩
  have cw := wide_any b o f
  rw [show wideB f = false by simpa using h1] at cw
  by_cases h2 : synced f = true
  · by_cases h3 : (wd f 61 % 2048 == sumN f) = true
    · have h2' := nne_int (show (wd f 0 == syncN (numN f)) = true from h2)
      have h3' : (((wd f 61 : Nat) : Int) % 2048 != ((sumN f : Nat) : Int)) = false := nne_int h3
      have HB := Lib.hid (show soundB f = (oddTo f 63 && checked f) by simp [soundB_eq, h1, h2, h3])
      clear h2 h3
      have CW := Lib.hid cw
      clear cw h1
      have hn := numN_lt f
      have cn := fun (x : ExtW w) => numberOf_any b o f x.val hf (hF.ext x.ext)
      have c0 : ∀ x : ExtW w, x.val.cell? ⟨b, o, none⟩ = some (.int .u16 (wd f 0 : Nat)) := hF.all 0 (by omega)
      have c61 := hF.all 61 (by omega)
      have b61 := hf.2 61
      have hs := hS (numN f % 4) (by omega)
      rw [syncN_mod] at hs
      have cS : ∀ x : ExtW w, x.val.cell? ⟨0, numN f % 4, none⟩ = some (.int .u16 (syncN (numN f) : Nat)) := fun x => x.ext.cell hs
      clear hs
      have cs := fun (x : ExtW w) => sumOf_any b o f x.val hf (hF.ext x.ext)
      go_enter Tryz.func69, Tryz.ntmps69
      go_wp2
      refine wp_region_ext (by kernel_rfl) (by kernel_rfl) ?_
      repeat (go_big_quiet_step ((first | (go_at_call 67; refine calls_ext (CW.out _ (hF.ext (ExtW.ext _)))) | (go_at_call 72; refine calls_ext (cn _)) | (go_at_call 87; refine calls_ext (data_any _ _ (by assumption))) | (go_at_call 85; refine calls_ext (cs _)))))
      refine wpQuiet_nil ?_
      rintro _ ⟨x, rfl⟩
      clear h2' h3' c0 c61 cS cn cs
      go_wp2
      go_loopw [3] (fun i wr => ∃ k : Nat, k ≤ 63 ∧ i = .int .i64 (k + 1) ∧ oddTo f k = true ∧ Ext w wr) (fun i _ => 64 - (intOf i).toNat)
      case atStart => exact ⟨0, by omega, rfl, rfl, x.ext⟩
      case round =>
        obtain ⟨k, hk, rfl, ho, hE⟩ := hrel
        have HO := Lib.hid ho
        clear ho
        by_cases hlt : k < 63
        · have hc := hE.cell (hF (k + 1) (by omega))
          have hb := hf.2 (k + 1)
          by_cases hr : rightB (wd f (k + 1)) = true
          · have co := odd_any (wd f (k + 1))
            rw [hr] at co
            have CO := Lib.hid co
            have HR := Lib.hid hr
            clear co hr
            go_wp2_with (go_at_call 71; refine (CO.out _ hb).mono ?_; rintro e w1 ⟨rfl, hE1⟩)
            go_roundw
            case rel => first | exact ⟨k + 1, by omega, by go_num, by simp [oddTo, HO.out, HR.out], hE.trans hE1⟩ | ((repeat apply Exists.intro); exact ⟨⟨k + 1, by omega, by go_num, by simp [oddTo, HO.out, HR.out], hE.trans hE1⟩, rfl⟩)
            case measure => simp [intOf]; omega
          · have hr' : rightB (wd f (k + 1)) = false := by simpa using hr
            have co := odd_any (wd f (k + 1))
            rw [hr'] at co
            have CO := Lib.hid co
            have HB2 := Lib.hid (show soundB f = false by rw [HB.out, oddTo_false f k hlt hr' 63 hlt]; rfl)
            clear co hr hr'
            go_wp2_with (go_at_call 71; refine (CO.out _ hb).mono ?_; rintro e w1 ⟨rfl, hE1⟩)
            go_ret
            exact ⟨ret_bool HB2.out.symm, hE.trans hE1⟩
        · obtain rfl : k = 63 := by omega
          have c62 := fun (x : ExtW wr) => x.ext.cell (hE.cell (hF 62 (by omega)))
          have c63 := fun (x : ExtW wr) => x.ext.cell (hE.cell (hF 63 (by omega)))
          have b62 := hf.2 62
          have b63 := hf.2 63
          have ck := fun (x : ExtW wr) => checkOf_any b o f x.val hf (hF.ext (hE.trans x.ext))
          go_wp2
          refine wp_region_ext (by kernel_rfl) (by kernel_rfl) ?_
          repeat (go_big_quiet_step ((first | (go_at_call 87; refine calls_ext (data_any _ _ (by assumption))) | (go_at_call 86; refine calls_ext (ck _)))))
          refine wpQuiet_nil ?_
          rintro _ ⟨y, rfl⟩
          go_wp2
          go_ret
          exact ⟨ret_bool (by rw [HB.out, HO.out, Bool.true_and]; exact chk_val (wd f 62 % 2048) (wd f 63 % 2048) (crcN f) (by omega) (by omega)), (hE.trans y.ext)⟩
    · have h2' := nne_int (show (wd f 0 == syncN (numN f)) = true from h2)
      have h3' : (((wd f 61 : Nat) : Int) % 2048 != ((sumN f : Nat) : Int)) = true := ne_int (show (wd f 61 % 2048 == sumN f) = false by simpa using h3)
      have HB := Lib.hid (show soundB f = false by simp [soundB_eq, h3])
      clear h2 h3
      have CW := Lib.hid cw
      clear cw h1
      have hn := numN_lt f
      have cn := fun (x : ExtW w) => numberOf_any b o f x.val hf (hF.ext x.ext)
      have c0 : ∀ x : ExtW w, x.val.cell? ⟨b, o, none⟩ = some (.int .u16 (wd f 0 : Nat)) := hF.all 0 (by omega)
      have c61 := hF.all 61 (by omega)
      have b61 := hf.2 61
      have hs := hS (numN f % 4) (by omega)
      rw [syncN_mod] at hs
      have cS : ∀ x : ExtW w, x.val.cell? ⟨0, numN f % 4, none⟩ = some (.int .u16 (syncN (numN f) : Nat)) := fun x => x.ext.cell hs
      clear hs
      have cs := fun (x : ExtW w) => sumOf_any b o f x.val hf (hF.ext x.ext)
      go_enter Tryz.func69, Tryz.ntmps69
      go_wp2
      refine wp_region_ext (by kernel_rfl) (by kernel_rfl) ?_
      repeat (go_big_quiet_step ((first | (go_at_call 67; refine calls_ext (CW.out _ (hF.ext (ExtW.ext _)))) | (go_at_call 72; refine calls_ext (cn _)) | (go_at_call 87; refine calls_ext (data_any _ _ (by assumption))) | (go_at_call 85; refine calls_ext (cs _)))))
      refine wpQuiet_nil ?_
      rintro _ ⟨x, rfl⟩
      go_wp2
      go_ret
      exact ⟨ret_bool HB.out.symm, x.ext⟩
  · have HB := Lib.hid (show soundB f = false by simp [soundB_eq, h2])
    have h2' := ne_int (show (wd f 0 == syncN (numN f)) = false by simpa [synced] using h2)
    clear h2
    have CW := Lib.hid cw
    clear cw h1
    have hn := numN_lt f
    have cn := fun (x : ExtW w) => numberOf_any b o f x.val hf (hF.ext x.ext)
    have c0 : ∀ x : ExtW w, x.val.cell? ⟨b, o, none⟩ = some (.int .u16 (wd f 0 : Nat)) := hF.all 0 (by omega)
    have c61 := hF.all 61 (by omega)
    have b61 := hf.2 61
    have hs := hS (numN f % 4) (by omega)
    rw [syncN_mod] at hs
    have cS : ∀ x : ExtW w, x.val.cell? ⟨0, numN f % 4, none⟩ = some (.int .u16 (syncN (numN f) : Nat)) := fun x => x.ext.cell hs
    clear hs
    go_enter Tryz.func69, Tryz.ntmps69
    go_wp2
    refine wp_region_ext (by kernel_rfl) (by kernel_rfl) ?_
    repeat (go_big_quiet_step ((first | (go_at_call 67; refine calls_ext (CW.out _ (hF.ext (ExtW.ext _)))) | (go_at_call 72; refine calls_ext (cn _)))))
    refine wpQuiet_nil ?_
    rintro _ ⟨x, rfl⟩
    go_wp2
    go_ret
    exact ⟨ret_bool HB.out.symm, x.ext⟩
/-- A frame as a value. -/
def encF (f : List Nat) : Array Value := (f.map fun n => Value.int .u16 (n : Nat)).toArray
theorem encF_at {f : List Nat} (hf : FrameOk f) (k : Nat) (hk : k < 64) : (encF f)[k]? = some (.int .u16 (wd f k : Nat)) := by
  have hl := hf.1
  simp [encF, wd, List.getD_eq_getElem?_getD, List.getElem?_eq_getElem (show k < f.length by omega)]
theorem encF_size {f : List Nat} (hf : FrameOk f) : (encF f).size = 64 := by simp [encF, hf.1]
/-- A frame lies at the head of a block of its own. -/
theorem FAt.of_block {w : World} {b : Nat} {f : List Nat} {t : TypeId} {fr : Nat × Nat} (hf : FrameOk f) (hb : w.heap[b]? = some (.cells (encF f) t fr)) : FAt w b 0 f := fun k hk => by
  rw [Nat.zero_add, cell_of_row w b k _ t fr hb]
  exact encF_at hf k hk
theorem FAt.of_alloc {w : World} {f : List Nat} {t : TypeId} (hf : FrameOk f) : FAt (w.alloc (.cells (encF f) t)) w.heap.size 0 f := FAt.of_block hf (heap_alloc_new w _)
set_option maxHeartbeats 400000 in
theorem soundx_any (f : List Nat) (w : World) (hf : FrameOk f) (hS : SyncAt w) :
    Calls Tryz.prog 48 #[.agg (encF f)] w fun e w' => e = .returned (.bool (soundB f)) ∧ Ext w w' := by
  go_enter Tryz.func48, Tryz.ntmps48
  go_wp2_with (go_at_call 69; refine (sound_any _ _ f _ hf (FAt.of_alloc hf) (hS.ext ((Ext.refl w).alloc _))).mono ?_; rintro e w1 ⟨rfl, hE⟩)
  go_ret
  exact ⟨rfl, ext_of_alloc _ hE⟩
/-- The number of a frame, and whether its words are right. -/
def numOk (f : List Nat) : Bool := rightB (wd f 1) && rightB (wd f 2)
def numV (f : List Nat) : Nat := if numOk f then numN f else 0
set_option maxHeartbeats 400000 in
theorem number_any (f : List Nat) (w : World) (hf : FrameOk f) :
    Calls Tryz.prog 47 #[.agg (encF f)] w fun e w' => e = .returned (.tuple #[.int .i64 (numV f : Nat), .bool (numOk f)]) ∧ Ext w w' := by
  have hF := fun (w : World) => FAt.of_alloc (w := w) (t := 27) hf
  have c1 := encF_at hf 1 (by omega)
  have c2 := encF_at hf 2 (by omega)
  have b1 := hf.2 1
  have b2 := hf.2 2
  have o1 := odd_any (wd f 1)
  have o2 := odd_any (wd f 2)
  by_cases h1 : rightB (wd f 1) = true
  · by_cases h2 : rightB (wd f 2) = true
    · rw [h1] at o1
      rw [h2] at o2
      have O1 := Lib.hid o1
      have O2 := Lib.hid o2
      have HN := Lib.hid (show numOk f = true by simp [numOk, h1, h2])
      have HV := Lib.hid (show numV f = numN f by simp [numV, HN.out])
      clear o1 o2 h1 h2
      go_enter Tryz.func47, Tryz.ntmps47
      go_wp2_with fail
      refine (O1.out _ b1).mono ?_
      rintro e w1 ⟨rfl, hE1⟩
      have k2 : w1.cell? ⟨w.heap.size, 2, none⟩ = some (.int .u16 (wd f 2 : Nat)) := hE1.cell (hF w 2 (by omega))
      go_wp2_with fail
      refine (O2.out _ b2).mono ?_
      rintro e w2 ⟨rfl, hE2⟩
      go_wp2_with fail
      refine (numberOf_any _ _ f _ hf ((hF w).ext (hE1.trans hE2))).mono ?_
      rintro e w3 ⟨rfl, hE3⟩
      go_wp2
      go_ret2
      exact ⟨by rw [HV.out, HN.out]; rfl, ext_of_alloc _ ((hE1.trans hE2).trans hE3)⟩
    · have h2' : rightB (wd f 2) = false := by simpa using h2
      rw [h1] at o1
      rw [h2'] at o2
      have O1 := Lib.hid o1
      have O2 := Lib.hid o2
      have HN := Lib.hid (show numOk f = false by simp [numOk, h2'])
      have HV := Lib.hid (show numV f = 0 by simp [numV, HN.out])
      clear o1 o2 h1 h2 h2'
      go_enter Tryz.func47, Tryz.ntmps47
      go_wp2_with fail
      refine (O1.out _ b1).mono ?_
      rintro e w1 ⟨rfl, hE1⟩
      have k2 : w1.cell? ⟨w.heap.size, 2, none⟩ = some (.int .u16 (wd f 2 : Nat)) := hE1.cell (hF w 2 (by omega))
      go_wp2_with fail
      refine (O2.out _ b2).mono ?_
      rintro e w2 ⟨rfl, hE2⟩
      go_wp2
      go_ret2
      exact ⟨by rw [HV.out, HN.out]; rfl, ext_of_alloc _ (hE1.trans hE2)⟩
  · have h1' : rightB (wd f 1) = false := by simpa using h1
    rw [h1'] at o1
    have O1 := Lib.hid o1
    have HN := Lib.hid (show numOk f = false by simp [numOk, h1'])
    have HV := Lib.hid (show numV f = 0 by simp [numV, HN.out])
    clear o1 o2 h1 h1'
    go_enter Tryz.func47, Tryz.ntmps47
    go_wp2_with fail
    refine (O1.out _ b1).mono ?_
    rintro e w1 ⟨rfl, hE1⟩
    go_wp2
    go_ret2
    exact ⟨by rw [HV.out, HN.out]; rfl, ext_of_alloc _ hE1⟩
set_option maxHeartbeats 400000 in
theorem sync_any (n : Int) (w : World) (h0 : 0 ≤ n) (h1 : n < 4194304) (hS : SyncAt w) :
    Calls Tryz.prog 95 #[.int .i64 n] w fun e w' => e = .returned (.tuple #[.int .i64 (syncN n.toNat : Nat), .int .i64 0]) ∧ Ext w w' := by
  obtain ⟨n, rfl⟩ := Int.eq_ofNat_of_zero_le h0
  rw [Int.toNat_natCast]
  have hs := hS (n % 4) (by omega)
  rw [syncN_mod] at hs
  have hl := syncN_lt n
  have t1 : decide ((n : Int) < 0) = false := by simp
  have t2 : decide ((4194304 : Int) ≤ (n : Int)) = false := by simp; omega
  go_enter Tryz.func95, Tryz.ntmps95
  go_wp2_with fail
  trace_state
  go_ret2
  exact ⟨rfl, Ext.refl w⟩
end Go.Proofs.YtplddeboinhkbaaGreatDoorRR
