/- The program's merge: what it makes of right rests of one number. -/

import Derived.Test.YtplddeboinhkbaaGreatDoorRRProg
import Derived.Test.YtplddeboinhkbaaGreatDoorRROfParts
namespace Go.Proofs.YtplddeboinhkbaaGreatDoorRR
open Go.RowKit
/-- The copies of the first rests together. -/
def copTo (l : List SR) : Nat → Int
  | 0 => 0
  | k + 1 => copTo l k + (rv l k).copies
def zeroR (num : Int) : SR := ⟨num, List.replicate 64 0, List.replicate 64 0, false, 0, false⟩
def baseR (l : List SR) : SR := { zeroR (rv l 0).num with copies := copTo l l.length }
def confAny (l : List SR) : Bool := l.any fun r => r.conf
def clash (l : List SR) : Bool := confAny l || soDiff l (baseR l) l.length
def clashR (l : List SR) : SR := { baseR l with conf := true }
/-- Whole words make it sound. -/
def wholeR (q : SR) : SR := if !someB q 0 0 && soundAsB q.f q.num then { q with sound := true, st := List.replicate 64 3, copies := 1 } else q
def bothR (l : List SR) : SR := if (soTo l (baseR l) l.length).sound then soTo l (baseR l) l.length else wholeR (par l (baseR l) 64)
def goodR (q : SR) : SR := if q.sound && allB q 3 then { q with copies := max q.copies 1 } else q
def mergeP (l : List SR) : SR := if clash l then clashR l else goodR (bothR l)
theorem frameOk_zero : FrameOk (List.replicate 64 0) := ⟨by simp, fun k => by
  unfold wd
  rw [List.getD_eq_getElem?_getD, List.getElem?_replicate]
  split <;> simp⟩
theorem zeroR_ok (n : Int) : RestOk (zeroR n) := ⟨frameOk_zero, by simp [zeroR]⟩
theorem baseR_ok (l : List SR) : RestOk (baseR l) := ⟨frameOk_zero, by simp [baseR, zeroR]⟩
theorem baseR_par (l : List SR) : par l (baseR l) 0 = baseR l := by
  have h1 : parF l 0 = List.replicate 64 0 := by
    apply List.ext_getElem (by simp [parF])
    intro i h1 h2
    rw [List.getElem_replicate]
    simp [parF]
  have h2 : parS l 0 = List.replicate 64 0 := by
    apply List.ext_getElem (by simp [parS])
    intro i h1 h2
    rw [List.getElem_replicate]
    simp [parS]
  simp only [par, h1, h2]
  rfl
theorem soTo_unsound (l : List SR) (o : SR) : ∀ k, (soTo l o k).sound = false → soTo l o k = o
  | 0, _ => rfl
  | k + 1, h => by
    simp only [soTo, soStep] at h ⊢
    by_cases hs : (rv l k).sound = true
    · simp [hs] at h
    · simp only [hs, if_false, Bool.false_eq_true] at h ⊢
      exact soTo_unsound l o k h
theorem copTo_bounds (l : List SR) (h : ∀ k, k < l.length → 0 ≤ (rv l k).copies ∧ (rv l k).copies ≤ 1099511627776) : ∀ k, k ≤ l.length → 0 ≤ copTo l k ∧ copTo l k ≤ k * 1099511627776
  | 0, _ => by simp [copTo]
  | k + 1, hk => by
    have := copTo_bounds l h k (by omega)
    have h2 := h k (by omega)
    simp only [copTo]
    omega
theorem zero_cells : Tryz.zeroCells30 = encR (zeroR 0) := by kernel_rfl
theorem setR_num {r : SR} (v : Int) : (encR r).setIfInBounds 0 (.int .i64 v) = encR { r with num := v } := by
  simp [encR]
theorem zero_num (v : Int) : Tryz.zeroCells30.setIfInBounds 0 (.int .i64 v) = encR (zeroR v) := by
  rw [zero_cells, setR_num]
  rfl
theorem clash_cells (n c : Int) : ((Tryz.zeroCells30.setIfInBounds 0 (.int .i64 n)).setIfInBounds 130 (.int .i64 c)).setIfInBounds 131 (.bool true) = encR { zeroR n with copies := c, conf := true } := by
  rw [zero_num, setR_copies (zeroR_ok n), setR_conf (r := { zeroR n with copies := c }) ⟨frameOk_zero, by simp [zeroR]⟩]
theorem clashR_ok (l : List SR) : RestOk (clashR l) := ⟨frameOk_zero, by simp [clashR, baseR, zeroR]⟩
theorem goodR_ok {q : SR} (h : RestOk q) : RestOk (goodR q) := by
  unfold goodR
  split
  · exact ⟨h.f, h.st⟩
  · exact h
def CopOk (l : List SR) : Prop := ∀ k, k < l.length → 0 ≤ copTo l k ∧ copTo l k ≤ 10995116277760000 ∧ 0 ≤ (rv l k).copies ∧ (rv l k).copies ≤ 10995116277760000
set_option maxRecDepth 100000 in
set_option maxHeartbeats 4000000 in
theorem merge_any (b o c : Nat) (l : List SR) (w : World) (hl : l.length < 10000) (h0 : 0 < l.length) (hR : RsAt w b o l) (hO : RsOk l) (hC : CopOk l) (hS : SyncAt w) :
    Calls Tryz.prog 20 #[.slice (some ⟨b, o, none⟩) l.length c] w fun e w' => e = .returned (.agg (encR (mergeP l))) ∧ Ext w w' := by
  have hbw : b < w.heap.size := by
    obtain ⟨cs, t, fr, hb, _⟩ := hR
    rcases Nat.lt_or_ge b w.heap.size with h | h
    · exact h
    · rw [Array.getElem?_eq_none h] at hb; cases hb
  have hc0 : ∀ x : ExtW w, x.val.cell? ⟨b, o, none⟩ = some (.int .i64 (rv l 0).num) := fun x => by
    have := (hR.ext x.ext).cell (k := 0) h0 (j := 0) (by omega) (encR_num (hO 0 h0))
    simpa using this
  obtain ⟨n, hn⟩ : ∃ n, n = l.length := ⟨_, rfl⟩
  have HL := Lib.hid hn
  rw [← hn] at hl h0 ⊢
  clear hn
  have hc1 : ∀ ob : Obj, (w.alloc ob).cell? ⟨b, o, none⟩ = some (.int .i64 (rv l 0).num) := fun ob => hc0 ⟨w.alloc ob, (Ext.refl w).alloc ob⟩
  clear hc0
  go_enter Tryz.func20, Tryz.ntmps20
  go_wp2_with ((with_reducible refine stop_store 30 rfl ?_))
  apply Stop.go
  rw [zero_num]
  refine wpList_world fun w1 e1 => ?_
  have hE1 := Ext.of_eq e1
  clear e1 hc1
  refine store_rest rfl _ _ rfl (w.heap.size + 1) rfl (zeroR (rv l 0).num) (zeroR_ok _) rfl _ (hE1.heap (heap_alloc2_new w _ _)) zero_rest fun w2 u2 => ?_
  have hZ := u2.keep (hE1.heap (block_old _ (block_new w _))) (by omega)
  have hE2 := (ext_of_alloc _ (ext_of_alloc _ hE1)).upd (by omega) u2
  have hG : RAt w2 (w.heap.size + 1) (zeroR (rv l 0).num) := u2.here
  have hgw : w.heap.size + 1 < w2.heap.size := by
    have := hE1.size
    simp at this
    rw [u2.size]
    omega
  clear u2 hE1 w1
  dsimp only [Act.put]
  obtain ⟨g, hg⟩ : ∃ g, g = w.heap.size + 1 := ⟨_, rfl⟩
  rw [← hg] at hG hgw ⊢
  have hgz : w.heap.size < g := by omega
  clear hg
  have hbg : b ≠ g := by omega
  obtain ⟨num, hnum⟩ : ∃ num, num = (rv l 0).num := ⟨_, rfl⟩
  rw [← hnum] at hG ⊢
  have HN := Lib.hid hnum
  clear hnum
  go_wp2
  go_loopw [15] (fun i wr => ∃ k : Nat, k ≤ n ∧ i = .int .i64 k ∧ Aside (RAt wr g { zeroR num with copies := copTo l k }) ∧ wr.heap[w.heap.size]? = some (.cells Tryz.zeroCells30 30 (0, 0)) ∧ Ext w wr ∧ g < wr.heap.size) (fun i _ => n - (intOf i).toNat)
  case atStart => exact ⟨0, by omega, rfl, hG, hZ, hE2, hgw⟩
  case round =>
    obtain ⟨k, hk, rfl, B, hZ, hE, hgr⟩ := hrel
    by_cases hlt : k < n
    · have hkl : k < l.length := by rw [← HL.out]; exact hlt
      have hRw := hR.ext hE
      have hOk := hO k hkl
      have hqo : RestOk { zeroR num with copies := copTo l k } := ⟨frameOk_zero, by simp [zeroR]⟩
      have hGq := B.out
      clear B hG hE2 hgw
      go_wp2_with ((with_reducible refine stop_load 30 rfl ?_))
      apply Stop.go
      refine load_elem rfl _ rfl hRw k hkl rfl ?_
      simp only [Act.put, List.setIfInBounds_toArray, List.set_cons_zero, List.set_cons_succ]
      go_wp2_with ((with_reducible refine stop_store 30 rfl ?_))
      apply Stop.go
      refine wpList_world fun w3 e3 => ?_
      have hEa := Ext.of_eq e3
      clear e3
      refine store_rest rfl _ _ rfl wr.heap.size rfl (rv l k) hOk rfl _ (hEa.heap (block_new wr _)) zero_rest fun w4 u4 => ?_
      have hE4 := (ext_of_alloc _ hEa).upd (by simp) u4
      have hR4 : RAt w4 wr.heap.size (rv l k) := u4.here
      have hG4 := hGq.ext hE4
      have hZ4 := hE4.heap hZ
      have hgr4 : g < w4.heap.size := Nat.lt_of_lt_of_le hgr hE4.size
      have hE4 := hE.trans hE4
      clear u4 hEa w3 hRw hGq hZ hE
      dsimp only [Act.put]
      have c1 := hG4.copies hqo
      have c2 := hR4.copies hOk
      have b1 := hC k hkl
      have HC := Lib.hid (show copTo l (k + 1) = copTo l k + (rv l k).copies from rfl)
      simp only at c1
      generalize copTo l k = cp at *
      generalize (rv l k).copies = rc at *
      obtain ⟨b11, b13, b21, b22⟩ := b1
      clear hR4
      go_wp2_with ((with_reducible refine stop_store 3 rfl ?_))
      apply Stop.go
      refine wpList_store1 rfl _ _ _ rfl g 130 rfl (.int .i64 (cp + rc)) rfl _ _ hG4 info_int (by rw [encR_size hqo]; omega) rfl fun w6 u6 => ?_
      dsimp only [Act.put]
      have hG6 := u6.here
      rw [setR_copies hqo] at hG6
      have hZ6 := u6.keep hZ4 (by omega)
      have hE6 := hE4.upd (by omega) u6
      have hgr6 : g < w6.heap.size := by rw [u6.size]; exact hgr4
      have hB6 : Aside (RAt w6 g { zeroR num with copies := copTo l (k + 1) }) := by
        show RAt w6 g { zeroR num with copies := copTo l (k + 1) }
        rw [HC.out]
        exact hG6
      clear u6 hG4 hZ4 hE4 hgr4 hG6 c1 c2
      go_wp2
      go_roundw
      case rel => first | exact ⟨k + 1, by omega, by go_num, hB6, hZ6, hE6, hgr6⟩ | ((repeat apply Exists.intro); exact ⟨⟨k + 1, by omega, by go_num, hB6, hZ6, hE6, hgr6⟩, rfl⟩)
      case measure => simp [intOf]; omega
    · obtain rfl : k = n := by omega
      have hG0 : RAt wr g (baseR l) := by
        have h1 := B.out
        rw [HN.out, HL.out] at h1
        exact h1
      clear B hG hE2 hgw
      have hqo := baseR_ok l
      have hMP := Lib.hid (show mergeP l = if clash l then clashR l else goodR (bothR l) from rfl)
      have hcon := containsFuncR_any b o c l 39 #[] (fun r => r.conf) wr (by rw [← HL.out]; exact hl) (hR.ext hE) (enters_of Tryz.func39 (by kernel_rfl) rfl) (fun W k _ hk => merge1_any (rv l k) W (hO k hk))
      rw [show (l.any fun r => r.conf) = confAny l from rfl] at hcon
      have hsn := fun (wx : World) (hRx : RsAt wx b o l) (hGx : RAt wx g (baseR l)) (hgx : g < wx.heap.size) => ofSound_any g b o c l (baseR l) wx (by rw [← HL.out]; exact hl) hRx hbg hGx hgx hqo hO
      rw [← HL.out] at hcon hsn
      go_wp2_with fail
      refine hcon.mono ?_
      rintro e w3 ⟨rfl, hE3⟩
      clear hcon
      have hR3 := (hR.ext hE).ext hE3
      have hG3 := hG0.ext hE3
      have hZ3 := hE3.heap hZ
      have hgr3 : g < w3.heap.size := Nat.lt_of_lt_of_le hgr hE3.size
      have hE := hE.trans hE3
      clear hG0 hZ hgr hE3 hR
      go_wp2_with fail
      refine (hsn _ hR3 hG3 hgr3).mono ?_
      rintro e w4 ⟨rfl, q, hqq, hG4, hsame, HQ, hM4⟩
      clear hsn
      have hR4 := hR3.mod hM4 hbg
      have hZ4 := hM4.heap hZ3 (by omega)
      have hgr4 : g < w4.heap.size := Nat.lt_of_lt_of_le hgr3 hM4.size
      have hE4 := hE.mod (by omega) hM4
      clear hR3 hG3 hZ3 hgr3 hE hM4
      by_cases hcl : clash l = true
      · have HP := Lib.hid (show mergeP l = clashR l by rw [hMP.out, if_pos hcl])
        cases hcf : confAny l with
        | true =>
          clear HQ hMP hcl hcf
          have c1 := hG4.num hqq
          have c2 := hG4.copies hqq
          rw [hsame.1] at c1
          rw [hsame.2] at c2
          go_wp2_with ((with_reducible refine stop_store 30 rfl ?_))
          apply Stop.go
          rw [clash_cells]
          refine store_rest rfl _ _ rfl w.heap.size rfl (clashR l) (clashR_ok l) rfl _ hZ4 zero_rest fun w5 u5 => ?_
          dsimp only [Act.put]
          go_wp2
          exact bodyPost_ret (v := .agg (encR (clashR l))) (results_cell_row Tryz.results20 _ _ w.heap.size _ _ _ _ rfl u5.here Tryz.underlying30 rfl (by rw [encR_size (clashR_ok l)]; exact info_rest)) rfl ⟨by rw [HP.out], (hE4.upd (by omega) u5)⟩
        | false =>
          have hsd : soDiff l (baseR l) k = true := by
            rw [HL.out]
            unfold clash at hcl
            rw [hcf, Bool.false_or] at hcl
            exact hcl
          rw [hsd]
          clear HQ hMP hcl hcf hsd
          have c1 := hG4.num hqq
          have c2 := hG4.copies hqq
          rw [hsame.1] at c1
          rw [hsame.2] at c2
          go_wp2_with ((with_reducible refine stop_store 30 rfl ?_))
          apply Stop.go
          rw [clash_cells]
          refine store_rest rfl _ _ rfl w.heap.size rfl (clashR l) (clashR_ok l) rfl _ hZ4 zero_rest fun w5 u5 => ?_
          dsimp only [Act.put]
          go_wp2
          exact bodyPost_ret (v := .agg (encR (clashR l))) (results_cell_row Tryz.results20 _ _ w.heap.size _ _ _ _ rfl u5.here Tryz.underlying30 rfl (by rw [encR_size (clashR_ok l)]; exact info_rest)) rfl ⟨by rw [HP.out], (hE4.upd (by omega) u5)⟩
      · have hcf : confAny l = false := by
          cases h : confAny l with
          | false => rfl
          | true => exact absurd (by unfold clash; rw [h]; rfl) hcl
        have hsd : soDiff l (baseR l) k = false := by
          rw [HL.out]
          cases h : soDiff l (baseR l) l.length with
          | false => rfl
          | true => exact absurd (by unfold clash; rw [h, Bool.or_true]) hcl
        have HP := Lib.hid (show mergeP l = goodR (bothR l) by rw [hMP.out, if_neg hcl])
        have HQ := Lib.hid (HQ hsd)
        rw [hcf, hsd]
        clear hMP hcl hcf hsd hsame
        have hso := hG4.sound hqq
        by_cases hs : q.sound = true
        · have HF := Lib.hid (show mergeP l = goodR q by
            have h := HQ.out
            rw [HL.out] at h
            rw [HP.out, bothR, ← h, hs]
            rfl)
          rw [hs] at hso
          have cq := all_any q 3
          cases hall : allB q 3 with
          | true =>
            rw [hall] at cq
            have HF2 := Lib.hid (show mergeP l = { q with copies := max q.copies 1 } by rw [HF.out]; unfold goodR; rw [hall, hs]; rfl)
            clear hall
            go_wp2_with ((with_reducible refine stop_load 30 rfl ?_))
            apply Stop.go
            refine wpList_wanted rfl fun K hK => ?_
            refine wp_load_blk _ _ rfl g 0 rfl 132 _ _ _ _ hG4 Tryz.underlying30 rfl info_rest (by rw [encR_size hqq]; omega) (encR q) (encR_whole hqq) (hK _ _ ?_)
            clear hK K
            simp only [Act.put, List.setIfInBounds_toArray, List.set_cons_zero, List.set_cons_succ]
            go_wp2_with fail
            refine (cq _ hqq).mono ?_
            rintro e w6 ⟨rfl, hE6⟩
            have hG6 := hG4.ext hE6
            have hZ6 := hE6.heap hZ4
            have hgr6 : g < w6.heap.size := Nat.lt_of_lt_of_le hgr4 hE6.size
            have hE6 := hE4.trans hE6
            have hc6 := hG6.copies hqq
            go_wp2_with ((with_reducible refine stop_store 3 rfl ?_))
            apply Stop.go
            refine wpList_store1 rfl _ _ _ rfl g 130 rfl (.int .i64 (max q.copies 1)) rfl _ _ hG6 info_int (by rw [encR_size hqq]; omega) rfl fun w7 u7 => ?_
            dsimp only [Act.put]
            have hG7 := u7.here
            rw [setR_copies hqq] at hG7
            have hZ7 := u7.keep hZ6 (by omega)
            have hE7 := hE6.upd (by omega) u7
            have hq7 : RestOk { q with copies := max q.copies 1 } := ⟨hqq.f, hqq.st⟩
            clear u7 hG6 hZ6 hE6 cq
            go_wp2_with ((with_reducible refine stop_load 30 rfl ?_))
            apply Stop.go
            refine wpList_load_blk rfl _ _ rfl g 0 rfl 132 _ _ _ _ hG7 Tryz.underlying30 rfl info_rest (by rw [encR_size hq7]; omega) (encR { q with copies := max q.copies 1 }) (encR_whole hq7) ?_
            simp only [Act.put, List.setIfInBounds_toArray, List.set_cons_zero, List.set_cons_succ]
            go_wp2_with ((with_reducible refine stop_store 30 rfl ?_))
            apply Stop.go
            refine store_rest rfl _ _ rfl w.heap.size rfl { q with copies := max q.copies 1 } hq7 rfl _ hZ7 zero_rest fun w9 u9 => ?_
            dsimp only [Act.put]
            go_wp2
            exact bodyPost_ret (v := .agg (encR { q with copies := max q.copies 1 })) (results_cell_row Tryz.results20 _ _ w.heap.size _ _ _ _ rfl u9.here Tryz.underlying30 rfl (by rw [encR_size hq7]; exact info_rest)) rfl ⟨by rw [HF2.out], (hE7.upd (by omega) u9)⟩
          | false =>
            rw [hall] at cq
            have HF2 := Lib.hid (show mergeP l = q by rw [HF.out]; unfold goodR; rw [hall, Bool.and_false]; rfl)
            clear hall
            go_wp2_with ((with_reducible refine stop_load 30 rfl ?_))
            apply Stop.go
            refine wpList_wanted rfl fun K hK => ?_
            refine wp_load_blk _ _ rfl g 0 rfl 132 _ _ _ _ hG4 Tryz.underlying30 rfl info_rest (by rw [encR_size hqq]; omega) (encR q) (encR_whole hqq) (hK _ _ ?_)
            clear hK K
            simp only [Act.put, List.setIfInBounds_toArray, List.set_cons_zero, List.set_cons_succ]
            go_wp2_with fail
            refine (cq _ hqq).mono ?_
            rintro e w6 ⟨rfl, hE6⟩
            have hG6 := hG4.ext hE6
            have hZ6 := hE6.heap hZ4
            have hgr6 : g < w6.heap.size := Nat.lt_of_lt_of_le hgr4 hE6.size
            have hE6 := hE4.trans hE6
            clear cq
            go_wp2_with ((with_reducible refine stop_load 30 rfl ?_))
            apply Stop.go
            refine wpList_load_blk rfl _ _ rfl g 0 rfl 132 _ _ _ _ hG6 Tryz.underlying30 rfl info_rest (by rw [encR_size hqq]; omega) (encR q) (encR_whole hqq) ?_
            simp only [Act.put, List.setIfInBounds_toArray, List.set_cons_zero, List.set_cons_succ]
            go_wp2_with ((with_reducible refine stop_store 30 rfl ?_))
            apply Stop.go
            refine store_rest rfl _ _ rfl w.heap.size rfl q hqq rfl _ hZ6 zero_rest fun w9 u9 => ?_
            dsimp only [Act.put]
            go_wp2
            exact bodyPost_ret (v := .agg (encR q)) (results_cell_row Tryz.results20 _ _ w.heap.size _ _ _ _ rfl u9.here Tryz.underlying30 rfl (by rw [encR_size hqq]; exact info_rest)) rfl ⟨by rw [HF2.out], (hE6.upd (by omega) u9)⟩
        · have hs' : q.sound = false := by simpa using hs
          rw [hs'] at hso
          have hqb : q = baseR l := by
            rw [HQ.out]
            exact soTo_unsound l (baseR l) k (by rw [← HQ.out]; exact hs')
          have HF := Lib.hid (show mergeP l = goodR (wholeR (par l (baseR l) 64)) by
            have h := HQ.out
            rw [HL.out] at h
            rw [HP.out, bothR, ← h, hs']
            rfl)
          have hGb : RAt w4 g (par l (baseR l) 0) := by
            rw [baseR_par, ← hqb]
            exact hG4
          have hpt := ofParts_any g b o c l (baseR l) w4 (by rw [← HL.out]; exact hl) hR4 hbg hGb hgr4 hO
          have hpo := par_ok hO (baseR l) 64
          have hps : (par l (baseR l) 64).sound = false := rfl
          rw [← HL.out] at hpt
          clear HQ HP hqb hG4 hGb hs hs' hqq
          generalize par l (baseR l) 64 = p at hpt hpo hps HF
          have cs := some_any p 0 0
          go_wp2_with fail
          refine hpt.mono ?_
          rintro e w5 ⟨rfl, hG5, hM5⟩
          clear hpt
          have hZ5 := hM5.heap hZ4 (by omega)
          have hgr5 : g < w5.heap.size := Nat.lt_of_lt_of_le hgr4 hM5.size
          have hE5 := hE4.mod (by omega) hM5
          clear hZ4 hgr4 hE4 hM5 hR4
          go_wp2_with ((with_reducible refine stop_load 30 rfl ?_))
          apply Stop.go
          refine wpList_load_blk rfl _ _ rfl g 0 rfl 132 _ _ _ _ hG5 Tryz.underlying30 rfl info_rest (by rw [encR_size hpo]; omega) (encR p) (encR_whole hpo) ?_
          simp only [Act.put, List.setIfInBounds_toArray, List.set_cons_zero, List.set_cons_succ]
          cases h0 : someB p 0 0 with
          | true =>
            rw [h0] at cs
            have HF := Lib.hid (show mergeP l = p by rw [HF.out, wholeR, h0]; simp [goodR, hps])
            go_wp2_with fail
            refine (cs _ hpo).mono ?_
            rintro e w6 ⟨rfl, hE6⟩
            have hG6 := hG5.ext hE6
            have hZ6 := hE6.heap hZ5
            have hgr6 : g < w6.heap.size := Nat.lt_of_lt_of_le hgr5 hE6.size
            have hE6 := hE5.trans hE6
            have hso := hG6.sound hpo
            rw [hps] at hso
            clear cs h0 hG5 hZ5 hE5
            go_wp2_with ((with_reducible refine stop_load 30 rfl ?_))
            apply Stop.go
            refine wpList_unwanted rfl ?_
            simp only [Act.put, List.setIfInBounds_toArray, List.set_cons_zero, List.set_cons_succ]
            go_wp2_with ((with_reducible refine stop_load 30 rfl ?_))
            apply Stop.go
            refine wpList_load_blk rfl _ _ rfl g 0 rfl 132 _ _ _ _ hG6 Tryz.underlying30 rfl info_rest (by rw [encR_size hpo]; omega) (encR p) (encR_whole hpo) ?_
            simp only [Act.put, List.setIfInBounds_toArray, List.set_cons_zero, List.set_cons_succ]
            go_wp2_with ((with_reducible refine stop_store 30 rfl ?_))
            apply Stop.go
            refine store_rest rfl _ _ rfl w.heap.size rfl p hpo rfl _ hZ6 zero_rest fun w9 u9 => ?_
            dsimp only [Act.put]
            go_wp2
            exact bodyPost_ret (v := .agg (encR p)) (results_cell_row Tryz.results20 _ _ w.heap.size _ _ _ _ rfl u9.here Tryz.underlying30 rfl (by rw [encR_size hpo]; exact info_rest)) rfl ⟨by rw [HF.out], (hE6.upd (by omega) u9)⟩
          | false =>
            rw [h0] at cs
            have ca := soundAs_any p.f p.num
            go_wp2_with fail
            refine (cs _ hpo).mono ?_
            rintro e w6 ⟨rfl, hE6⟩
            have hG6 := hG5.ext hE6
            have hZ6 := hE6.heap hZ5
            have hgr6 : g < w6.heap.size := Nat.lt_of_lt_of_le hgr5 hE6.size
            have hE6 := hE5.trans hE6
            have hnm := hG6.num hpo
            clear cs hG5 hZ5 hE5
            go_wp2_with ((with_reducible refine stop_load 27 rfl ?_))
            apply Stop.go
            refine wpList_wanted rfl fun K hK => ?_
            refine wp_load_blk _ _ rfl g 1 rfl 64 _ _ _ _ hG6 Tryz.underlying27 rfl info_frame (by rw [encR_size hpo]; omega) (encF p.f) (encR_ext_f hpo) (hK _ _ ?_)
            clear hK K
            simp only [Act.put, List.setIfInBounds_toArray, List.set_cons_zero, List.set_cons_succ]
            cases hsa : soundAsB p.f p.num with
            | true =>
              rw [hsa] at ca
              have HF := Lib.hid (show mergeP l = goodR { p with sound := true, st := List.replicate 64 3, copies := 1 } by rw [HF.out, wholeR, h0, hsa]; rfl)
              go_wp2_with fail
              refine (ca _ hpo.f (hS.ext hE6)).mono ?_
              rintro e w7 ⟨rfl, hE7⟩
              have hG7 := hG6.ext hE7
              have hZ7 := hE7.heap hZ6
              have hgr7 : g < w7.heap.size := Nat.lt_of_lt_of_le hgr6 hE7.size
              have hE7 := hE6.trans hE7
              clear ca h0 hsa hG6 hZ6 hE6
              go_wp2_with fail
              refine (filled_any 3 _).mono ?_
              rintro e w8 ⟨rfl, hE8⟩
              have hG8 := hG7.ext hE8
              have hZ8 := hE8.heap hZ7
              have hgr8 : g < w8.heap.size := Nat.lt_of_lt_of_le hgr7 hE8.size
              have hE8 := hE7.trans hE8
              clear hG7 hZ7 hE7
              have q1o : RestOk { p with sound := true } := ⟨hpo.f, hpo.st⟩
              have q2o : RestOk { p with sound := true, st := List.replicate 64 3 } := ⟨hpo.f, by simp⟩
              have q3o : RestOk { p with sound := true, st := List.replicate 64 3, copies := 1 } := ⟨hpo.f, by simp⟩
              go_wp2_with ((with_reducible refine stop_store 4 rfl ?_))
              apply Stop.go
              refine wpList_store1 rfl _ _ _ rfl g 129 rfl (.bool true) rfl _ _ hG8 info_bool (by rw [encR_size hpo]; omega) rfl fun w9 u9 => ?_
              dsimp only [Act.put]
              have hG9 := u9.here
              rw [setR_sound hpo] at hG9
              have hZ9 := u9.keep hZ8 (by omega)
              have hE9 := hE8.upd (by omega) u9
              have hgr9 : g < w9.heap.size := by rw [u9.size]; exact hgr8
              clear u9 hG8 hZ8 hE8 hgr8
              go_wp2_with ((with_reducible refine stop_store 28 rfl ?_))
              apply Stop.go
              refine wpList_store_blk rfl _ _ _ rfl g 65 rfl (encS (List.replicate 64 3)) rfl _ _ hG9 (by rw [encS_size (by simp)]; exact info_states) (by rw [encR_size q1o, encS_size (by simp)]; omega) (encS_one _) fun w10 u10 => ?_
              dsimp only [Act.put]
              have hG10 := u10.here
              rw [setR_states q1o _ (by simp)] at hG10
              have hZ10 := u10.keep hZ9 (by omega)
              have hE10 := hE9.upd (by omega) u10
              have hgr10 : g < w10.heap.size := by rw [u10.size]; exact hgr9
              clear u10 hG9 hZ9 hE9 hgr9
              go_wp2_with ((with_reducible refine stop_store 3 rfl ?_))
              apply Stop.go
              refine wpList_store1 rfl _ _ _ rfl g 130 rfl (.int .i64 1) rfl _ _ hG10 info_int (by rw [encR_size q2o]; omega) rfl fun w11 u11 => ?_
              dsimp only [Act.put]
              have hG11 := u11.here
              rw [setR_copies q2o] at hG11
              have hZ11 := u11.keep hZ10 (by omega)
              have hE11 := hE10.upd (by omega) u11
              have hgr11 : g < w11.heap.size := by rw [u11.size]; exact hgr10
              clear u11 hG10 hZ10 hE10 hgr10 q1o q2o
              obtain ⟨q, hq⟩ : ∃ q : SR, q = { p with sound := true, st := List.replicate 64 3, copies := 1 } := ⟨_, rfl⟩
              have hs : q.sound = true := by rw [hq]
              have hG11 : RAt w11 g q := by rw [hq]; exact hG11
              rw [← hq] at q3o HF
              clear hq
              have hso := hG11.sound q3o
              rw [hs] at hso
              have cq := all_any q 3
              cases hall : allB q 3 with
              | true =>
                rw [hall] at cq
                have HF2 := Lib.hid (show mergeP l = { q with copies := max q.copies 1 } by rw [HF.out]; unfold goodR; rw [hall, hs]; rfl)
                clear hall
                go_wp2_with ((with_reducible refine stop_load 30 rfl ?_))
                apply Stop.go
                refine wpList_wanted rfl fun K hK => ?_
                refine wp_load_blk _ _ rfl g 0 rfl 132 _ _ _ _ hG11 Tryz.underlying30 rfl info_rest (by rw [encR_size q3o]; omega) (encR q) (encR_whole q3o) (hK _ _ ?_)
                clear hK K
                simp only [Act.put, List.setIfInBounds_toArray, List.set_cons_zero, List.set_cons_succ]
                go_wp2_with fail
                refine (cq _ q3o).mono ?_
                rintro e w6 ⟨rfl, hE6⟩
                have hG6 := hG11.ext hE6
                have hZ6 := hE6.heap hZ11
                have hgr6 : g < w6.heap.size := Nat.lt_of_lt_of_le hgr11 hE6.size
                have hE6 := hE11.trans hE6
                have hc6 := hG6.copies q3o
                go_wp2_with ((with_reducible refine stop_store 3 rfl ?_))
                apply Stop.go
                refine wpList_store1 rfl _ _ _ rfl g 130 rfl (.int .i64 (max q.copies 1)) rfl _ _ hG6 info_int (by rw [encR_size q3o]; omega) rfl fun w7 u7 => ?_
                dsimp only [Act.put]
                have hG7 := u7.here
                rw [setR_copies q3o] at hG7
                have hZ7 := u7.keep hZ6 (by omega)
                have hE7 := hE6.upd (by omega) u7
                have hq7 : RestOk { q with copies := max q.copies 1 } := ⟨q3o.f, q3o.st⟩
                clear u7 hG6 hZ6 hE6 cq
                go_wp2_with ((with_reducible refine stop_load 30 rfl ?_))
                apply Stop.go
                refine wpList_load_blk rfl _ _ rfl g 0 rfl 132 _ _ _ _ hG7 Tryz.underlying30 rfl info_rest (by rw [encR_size hq7]; omega) (encR { q with copies := max q.copies 1 }) (encR_whole hq7) ?_
                simp only [Act.put, List.setIfInBounds_toArray, List.set_cons_zero, List.set_cons_succ]
                go_wp2_with ((with_reducible refine stop_store 30 rfl ?_))
                apply Stop.go
                refine store_rest rfl _ _ rfl w.heap.size rfl { q with copies := max q.copies 1 } hq7 rfl _ hZ7 zero_rest fun w9 u9 => ?_
                dsimp only [Act.put]
                go_wp2
                exact bodyPost_ret (v := .agg (encR { q with copies := max q.copies 1 })) (results_cell_row Tryz.results20 _ _ w.heap.size _ _ _ _ rfl u9.here Tryz.underlying30 rfl (by rw [encR_size hq7]; exact info_rest)) rfl ⟨by rw [HF2.out], (hE7.upd (by omega) u9)⟩
              | false =>
                rw [hall] at cq
                have HF2 := Lib.hid (show mergeP l = q by rw [HF.out]; unfold goodR; rw [hall, Bool.and_false]; rfl)
                clear hall
                go_wp2_with ((with_reducible refine stop_load 30 rfl ?_))
                apply Stop.go
                refine wpList_wanted rfl fun K hK => ?_
                refine wp_load_blk _ _ rfl g 0 rfl 132 _ _ _ _ hG11 Tryz.underlying30 rfl info_rest (by rw [encR_size q3o]; omega) (encR q) (encR_whole q3o) (hK _ _ ?_)
                clear hK K
                simp only [Act.put, List.setIfInBounds_toArray, List.set_cons_zero, List.set_cons_succ]
                go_wp2_with fail
                refine (cq _ q3o).mono ?_
                rintro e w6 ⟨rfl, hE6⟩
                have hG6 := hG11.ext hE6
                have hZ6 := hE6.heap hZ11
                have hgr6 : g < w6.heap.size := Nat.lt_of_lt_of_le hgr11 hE6.size
                have hE6 := hE11.trans hE6
                clear cq
                go_wp2_with ((with_reducible refine stop_load 30 rfl ?_))
                apply Stop.go
                refine wpList_load_blk rfl _ _ rfl g 0 rfl 132 _ _ _ _ hG6 Tryz.underlying30 rfl info_rest (by rw [encR_size q3o]; omega) (encR q) (encR_whole q3o) ?_
                simp only [Act.put, List.setIfInBounds_toArray, List.set_cons_zero, List.set_cons_succ]
                go_wp2_with ((with_reducible refine stop_store 30 rfl ?_))
                apply Stop.go
                refine store_rest rfl _ _ rfl w.heap.size rfl q q3o rfl _ hZ6 zero_rest fun w9 u9 => ?_
                dsimp only [Act.put]
                go_wp2
                exact bodyPost_ret (v := .agg (encR q)) (results_cell_row Tryz.results20 _ _ w.heap.size _ _ _ _ rfl u9.here Tryz.underlying30 rfl (by rw [encR_size q3o]; exact info_rest)) rfl ⟨by rw [HF2.out], (hE6.upd (by omega) u9)⟩
            | false =>
              rw [hsa] at ca
              have HF := Lib.hid (show mergeP l = p by rw [HF.out, wholeR, h0, hsa]; simp [goodR, hps])
              go_wp2_with fail
              refine (ca _ hpo.f (hS.ext hE6)).mono ?_
              rintro e w7 ⟨rfl, hE7⟩
              have hG7 := hG6.ext hE7
              have hZ7 := hE7.heap hZ6
              have hgr7 : g < w7.heap.size := Nat.lt_of_lt_of_le hgr6 hE7.size
              have hE7 := hE6.trans hE7
              have hso := hG7.sound hpo
              rw [hps] at hso
              clear ca h0 hsa hG6 hZ6 hE6
              go_wp2_with ((with_reducible refine stop_load 30 rfl ?_))
              apply Stop.go
              refine wpList_unwanted rfl ?_
              simp only [Act.put, List.setIfInBounds_toArray, List.set_cons_zero, List.set_cons_succ]
              go_wp2_with ((with_reducible refine stop_load 30 rfl ?_))
              apply Stop.go
              refine wpList_load_blk rfl _ _ rfl g 0 rfl 132 _ _ _ _ hG7 Tryz.underlying30 rfl info_rest (by rw [encR_size hpo]; omega) (encR p) (encR_whole hpo) ?_
              simp only [Act.put, List.setIfInBounds_toArray, List.set_cons_zero, List.set_cons_succ]
              go_wp2_with ((with_reducible refine stop_store 30 rfl ?_))
              apply Stop.go
              refine store_rest rfl _ _ rfl w.heap.size rfl p hpo rfl _ hZ7 zero_rest fun w9 u9 => ?_
              dsimp only [Act.put]
              go_wp2
              exact bodyPost_ret (v := .agg (encR p)) (results_cell_row Tryz.results20 _ _ w.heap.size _ _ _ _ rfl u9.here Tryz.underlying30 rfl (by rw [encR_size hpo]; exact info_rest)) rfl ⟨by rw [HF.out], (hE7.upd (by omega) u9)⟩
end Go.Proofs.YtplddeboinhkbaaGreatDoorRR
