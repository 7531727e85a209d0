/- The check of a rest: what the program's CheckRest and checkAll return. -/

import Derived.Test.YtplddeboinhkbaaGreatDoorRRProg
import Derived.Test.YtplddeboinhkbaaGreatDoorRRRestA
namespace Go.Proofs.YtplddeboinhkbaaGreatDoorRR
open Go.RowKit
/-- The error of one word: its state, its bits. -/
def cellFault (s : Int) (f : Nat) : Int := if 0 ≤ s ∧ s ≤ 3 then (if (s = 0 ∧ f ≠ 0) ∨ 4095 < f then 2 else 0) else 9
/-- The error of the first words: that of the first wrong one. -/
def scanTo (r : SR) : Nat → Int
  | 0 => 0
  | k + 1 => if scanTo r k = 0 then cellFault (sv r.st k) (wd r.f k) else scanTo r k
def tailF (r : SR) : Int :=
  if r.sound && (!soundAsB r.f r.num || someB r 0 1) then 2 else if !r.sound && someB r 3 2 then 2
  else if decide (r.copies < 0) || (r.copies == 0 && r.sound && allB r 3) then 9 else if r.conf && r.sound then 2 else 0
/-- The error of a rest. -/
def checkP (r : SR) : Int := if 0 ≤ r.num ∧ r.num ≤ 4194303 then (if scanTo r 64 = 0 then tailF r else scanTo r 64) else 9
theorem scanTo_stays (r : SR) (k : Nat) (h : scanTo r k ≠ 0) : ∀ n, k ≤ n → scanTo r n = scanTo r k
  | 0, hk => by obtain rfl : k = 0 := by omega
                rfl
  | n + 1, hk => by
    by_cases e : k = n + 1
    · rw [e]
    · have := scanTo_stays r k h n (by omega)
      rw [scanTo, this, if_neg h]
theorem checkP_at (r : SR) (k : Nat) (hk : k < 64) (hn : 0 ≤ r.num ∧ r.num ≤ 4194303) (h0 : scanTo r k = 0) {e : Int} (he : cellFault (sv r.st k) (wd r.f k) = e) (hne : e ≠ 0) : checkP r = e := by
  have h1 : scanTo r (k + 1) = e := by rw [scanTo, if_pos h0, he]
  have h2 := scanTo_stays r (k + 1) (by rw [h1]; exact hne) 64 (by omega)
  unfold checkP
  rw [if_pos hn, h2, h1, if_neg hne]
section
variable {P : Program} {ops : Array Oper} {rest : List Oper} {op : Oper} {a : Act} {w : World} {Q : Exit → Act → World → Prop}
theorem wpList_wanted (hw : Region.wanted op (yielded ops a.tmps) = true)
    (h : ∀ K : Act → World → Prop, (∀ a w, wpList P ops Q rest a w → K a w) → op.wp P a w K Q) : wpList P ops Q (op :: rest) a w :=
  wpList_step fun K hK => by rw [if_pos hw]; exact h K hK
theorem wpList_unwanted (hw : Region.wanted op (yielded ops a.tmps) = false) (h : wpList P ops Q rest (a.put op.dst undef) w) : wpList P ops Q (op :: rest) a w :=
  wpList_step fun K hK => by rw [if_neg (by rw [hw]; exact Bool.false_ne_true)]; exact hK _ _ h
theorem stop_loadw (ty : TypeId) {x : Operand} (_ : op.op = .load ty x) (_ : Region.wanted op (yielded ops a.tmps) = true) (h : Stop (wpList P ops Q (op :: rest) a w)) : wpList P ops Q (op :: rest) a w := h
theorem wpList_load_blkw (hw : Region.wanted op (yielded ops a.tmps) = true) (ty : TypeId) (x : Operand) (ho : op.op = .load ty x)
    (b o : Nat) (hx : a.eval x = .pointer (some ⟨b, o, none⟩)) (n : Nat) (t : TypeId) (cs : Array Value) (fr : Nat × Nat) (d : TypeDesc) (hb : w.heap[b]? = some (.cells cs t fr))
    (hu : P.underlying ty = some d) (hd : d.isRow = true) (hi : (P.info? ty).map (·.size) = some n) (hn : o + n ≤ cs.size) (vs : Array Value) (hvs : cs.extract o (o + n) = vs)
    (h : wpList P ops Q rest (a.put op.dst (.agg vs)) w) : wpList P ops Q (op :: rest) a w :=
  wpList_wanted hw fun _ hK => wp_load_blk ty x ho b o hx n t cs fr d hb hu hd hi hn vs hvs (hK _ _ h)
end
theorem index_states {st : List Int} (h : st.length = 64) (k : Nat) (hk : k < 64) (w : World) : (Instr.index 28 (.agg (encS st)) (.int .i64 (k : Int))).run Tryz.prog w = .ok (.int .i64 (sv st k)) w :=
  run_index_agg w 28 3 64 _ Tryz.underlying28 Tryz.underlying3 rfl info_int (encS st) .i64 k hk _ (encS_at h k hk)
set_option maxRecDepth 100000 in
set_option maxHeartbeats 4000000 in
theorem checkRest_any (r : SR) (w : World) (h : RestOk r) (hS : SyncAt w) :
    Calls Tryz.prog 11 #[.agg (encR r)] w fun e w' => e = .returned (.int .i64 (checkP r)) ∧ Ext w w' := by
  by_cases hn : 0 ≤ r.num ∧ r.num ≤ 4194303
  · have cw := within_any r.num 0 4194303
    rw [show (decide (0 ≤ r.num) && decide (r.num ≤ 4194303)) = true by simp [hn.1, hn.2]] at cw
    have HP := Lib.hid (show checkP r = if scanTo r 64 = 0 then tailF r else scanTo r 64 from if_pos hn)
    have HN := Lib.hid hn
    have hc0 := fun w : World => (RAt.new w r).num h
    clear hn
    go_enter Tryz.func11, Tryz.ntmps11
    go_wp2_with fail
    refine (cw _).mono ?_
    rintro e w1 ⟨rfl, hE1⟩
    have hR1 : RAt w1 w.heap.size r := (RAt.new w r).ext hE1
    have hE : Ext w w1 := ext_of_alloc _ hE1
    clear hE1 hc0
    go_wp2_with ((with_reducible refine stop_load 28 rfl ?_))
    apply Stop.go
    refine wpList_load_blk rfl _ _ rfl w.heap.size 65 rfl 64 _ _ _ _ hR1 Tryz.underlying28 rfl info_states (by rw [encR_size h]; omega) (encS r.st) (encR_ext_st h) ?_
    simp only [Act.put, List.setIfInBounds_toArray, List.set_cons_zero, List.set_cons_succ]
    clear cw
    go_wp2
    go_loopw [11] (fun i wr => ∃ k : Nat, k ≤ 64 ∧ i = .int .i64 k ∧ Aside (scanTo r k = 0) ∧ Ext w1 wr) (fun i _ => 64 - (intOf i).toNat)
    case atStart => exact ⟨0, by omega, rfl, (show Aside _ from rfl), Ext.refl w1⟩
    case round =>
      obtain ⟨k, hk, rfl, A, hE2⟩ := hrel
      by_cases hlt : k < 64
      · have hi := fun w : World => index_states h.st k hlt w
        have cw := within_any (sv r.st k) 0 3
        have hf := fun (w' : World) (hE3 : Ext wr w') => ((hR1.ext hE2).ext hE3).f h k hlt
        obtain ⟨s, hs⟩ : ∃ s, s = sv r.st k := ⟨_, rfl⟩
        obtain ⟨f, hf2⟩ : ∃ f, f = wd r.f k := ⟨_, rfl⟩
        have hbf := h.f.2 k
        rw [← hs] at hi cw
        rw [← hf2] at hf hbf
        have HS := Lib.hid hs
        have HF := Lib.hid hf2
        clear hs hf2
        have HC := Lib.hid (show ∀ e, cellFault s f = e → e ≠ 0 → checkP r = e from fun e he hne => checkP_at r k hlt HN.out A.out (by rw [← HS.out, ← HF.out]; exact he) hne)
        have HD := Lib.hid (show cellFault s f = 0 → scanTo r (k + 1) = 0 from fun he => by rw [scanTo, if_pos A.out, ← HS.out, ← HF.out]; exact he)
        clear hR1
        by_cases h1 : 0 ≤ s ∧ s ≤ 3
        · rw [show (decide (0 ≤ s) && decide (s ≤ 3)) = true by simp [h1.1, h1.2]] at cw
          by_cases h2 : s = 0
          · subst h2
            by_cases h3 : f = 0
            · subst h3
              have HZ := Lib.hid (HD.out (by decide))
              clear HD HC h1
              go_wp2_with fail
              refine (cw _).mono ?_
              rintro e w2 ⟨rfl, hE3⟩
              have hf := hf _ hE3
              go_wp2
              go_roundw
              case rel => first | exact ⟨k + 1, by omega, by go_num, HZ.out, hE2.trans hE3⟩ | ((repeat apply Exists.intro); exact ⟨⟨k + 1, by omega, by go_num, HZ.out, hE2.trans hE3⟩, rfl⟩)
              case measure => simp [intOf]; omega
            · have HZ := Lib.hid (HC.out 2 (by simp [cellFault, h3]) (by decide))
              have h3' : (((f : Nat) : Int) != 0) = true := by simp [h3]
              clear HD HC h1 h3
              go_wp2_with fail
              refine (cw _).mono ?_
              rintro e w2 ⟨rfl, hE3⟩
              have hf := hf _ hE3
              go_wp2
              go_ret
              exact ⟨ret_int HZ.out.symm, (hE.trans hE2).trans hE3⟩
          · have h2' : (s == 0) = false := by simp [h2]
            by_cases h3 : 4095 < f
            · have HZ := Lib.hid (HC.out 2 (by simp [cellFault, h2, h3, h1]) (by decide))
              have h3' : (4095 : Int) < ((f : Nat) : Int) := by omega
              clear HD HC h1 h3 h2
              go_wp2_with fail
              refine (cw _).mono ?_
              rintro e w2 ⟨rfl, hE3⟩
              have hf := hf _ hE3
              go_wp2
              go_ret
              exact ⟨ret_int HZ.out.symm, (hE.trans hE2).trans hE3⟩
            · have HZ := Lib.hid (HD.out (by simp [cellFault, h2, h3, h1]))
              have h3' : ¬ (4095 : Int) < ((f : Nat) : Int) := by omega
              clear HD HC h1 h3 h2
              go_wp2_with fail
              refine (cw _).mono ?_
              rintro e w2 ⟨rfl, hE3⟩
              have hf := hf _ hE3
              go_wp2
              go_roundw
              case rel => first | exact ⟨k + 1, by omega, by go_num, HZ.out, hE2.trans hE3⟩ | ((repeat apply Exists.intro); exact ⟨⟨k + 1, by omega, by go_num, HZ.out, hE2.trans hE3⟩, rfl⟩)
              case measure => simp [intOf]; omega
        · have HZ := Lib.hid (HC.out 9 (by simp [cellFault, h1]) (by decide))
          rw [show (decide (0 ≤ s) && decide (s ≤ 3)) = false by rw [← Bool.decide_and]; simpa using h1] at cw
          clear HD HC h1
          go_wp2_with fail
          refine (cw _).mono ?_
          rintro e w2 ⟨rfl, hE3⟩
          go_wp2
          go_ret
          exact ⟨ret_int HZ.out.symm, (hE.trans hE2).trans hE3⟩
      · obtain rfl : k = 64 := by omega
        have HP := Lib.hid (show checkP r = tailF r by rw [HP.out, if_pos A.out])
        clear A HN hlt hk
        have hR := hR1.ext hE2
        have hE := hE.trans hE2
        clear hE2 hR1
        have hso := hR.sound h
        by_cases s1 : r.sound = true
        · rw [s1] at hso
          have ca := soundAs_any r.f r.num
          have hnm := hR.num h
          by_cases s2 : soundAsB r.f r.num = true
          · rw [s2] at ca
            have cs := some_any r 0 1
            by_cases s3 : someB r 0 1 = true
            · have HP := Lib.hid (show checkP r = 2 by rw [HP.out]; simp [tailF, s1, s3])
              rw [s3] at cs
              clear s1 s2 s3
              go_wp2_with ((with_reducible refine stop_load 27 rfl ?_))
              apply Stop.go
              refine wpList_wanted rfl fun K hK => ?_
              refine wp_load_blk _ _ rfl w.heap.size 1 rfl 64 _ _ _ _ hR Tryz.underlying27 rfl info_frame (by rw [encR_size h]; omega) (encF r.f) (encR_ext_f h) (hK _ _ ?_)
              clear hK K
              simp only [Act.put, List.setIfInBounds_toArray, List.set_cons_zero, List.set_cons_succ]
              go_wp2_with fail
              refine (ca _ h.f (hS.ext hE)).mono ?_
              rintro e w2 ⟨rfl, hE2⟩
              have hR2 := hR.ext hE2
              go_wp2_with ((with_reducible refine stop_load 30 rfl ?_))
              apply Stop.go
              refine wpList_wanted rfl fun K hK => ?_
              refine wp_load_blk _ _ rfl w.heap.size 0 rfl 132 _ _ _ _ hR2 Tryz.underlying30 rfl info_rest (by rw [encR_size h]; omega) (encR r) (encR_whole h) (hK _ _ ?_)
              clear hK K
              simp only [Act.put, List.setIfInBounds_toArray, List.set_cons_zero, List.set_cons_succ]
              go_wp2_with fail
              refine (cs _ h).mono ?_
              rintro e w3 ⟨rfl, hE3⟩
              go_wp2
              go_ret
              exact ⟨ret_int HP.out.symm, (hE.trans hE2).trans hE3⟩
            · have s3' : someB r 0 1 = false := by simpa using s3
              rw [s3'] at cs
              go_wp2_with ((with_reducible refine stop_load 27 rfl ?_))
              apply Stop.go
              refine wpList_wanted rfl fun K hK => ?_
              refine wp_load_blk _ _ rfl w.heap.size 1 rfl 64 _ _ _ _ hR Tryz.underlying27 rfl info_frame (by rw [encR_size h]; omega) (encF r.f) (encR_ext_f h) (hK _ _ ?_)
              clear hK K
              simp only [Act.put, List.setIfInBounds_toArray, List.set_cons_zero, List.set_cons_succ]
              go_wp2_with fail
              refine (ca _ h.f (hS.ext hE)).mono ?_
              rintro e w2 ⟨rfl, hE2⟩
              have hR2 := hR.ext hE2
              go_wp2_with ((with_reducible refine stop_load 30 rfl ?_))
              apply Stop.go
              refine wpList_wanted rfl fun K hK => ?_
              refine wp_load_blk _ _ rfl w.heap.size 0 rfl 132 _ _ _ _ hR2 Tryz.underlying30 rfl info_rest (by rw [encR_size h]; omega) (encR r) (encR_whole h) (hK _ _ ?_)
              clear hK K
              simp only [Act.put, List.setIfInBounds_toArray, List.set_cons_zero, List.set_cons_succ]
              go_wp2_with fail
              refine (cs _ h).mono ?_
              rintro e w3 ⟨rfl, hE3⟩
              have hR3 := hR2.ext hE3
              have hE := (hE.trans hE2).trans hE3
              have hso := hR3.sound h
              have hco := hR3.copies h
              have hcf := hR3.conf h
              rw [s1] at hso
              by_cases s4 : r.copies < 0
              · have HP := Lib.hid (show checkP r = 9 by rw [HP.out]; simp [tailF, s1, s2, s3', s4])
                clear s1 s2 s3 s3' hcf
                go_wp2
                go_ret
                exact ⟨ret_int HP.out.symm, hE⟩
              · by_cases s5 : (r.copies == 0) = true
                · have cq := all_any r 3
                  by_cases s6 : allB r 3 = true
                  · have HP := Lib.hid (show checkP r = 9 by rw [HP.out]; simp [tailF, s1, s2, s3', s4, s5, s6])
                    rw [s6] at cq
                    clear s1 s2 s3 s3' hcf s6
                    go_wp2_with ((with_reducible refine stop_load 30 rfl ?_))
                    apply Stop.go
                    refine wpList_unwanted rfl ?_
                    simp only [Act.put, List.setIfInBounds_toArray, List.set_cons_zero, List.set_cons_succ]
                    go_wp2_with ((with_reducible refine stop_load 30 rfl ?_))
                    apply Stop.go
                    refine wpList_wanted rfl fun K hK => ?_
                    refine wp_load_blk _ _ rfl w.heap.size 0 rfl 132 _ _ _ _ hR3 Tryz.underlying30 rfl info_rest (by rw [encR_size h]; omega) (encR r) (encR_whole h) (hK _ _ ?_)
                    clear hK K
                    simp only [Act.put, List.setIfInBounds_toArray, List.set_cons_zero, List.set_cons_succ]
                    go_wp2_with fail
                    refine (cq _ h).mono ?_
                    rintro e w4 ⟨rfl, hE4⟩
                    go_wp2
                    go_ret
                    exact ⟨ret_int HP.out.symm, hE.trans hE4⟩
                  · have s6' : allB r 3 = false := by simpa using s6
                    have HP := Lib.hid (show checkP r = if r.conf then 2 else 0 by rw [HP.out]; simp [tailF, s1, s2, s3', s4, s5, s6'])
                    rw [s6'] at cq
                    clear s2 s3 s3' hcf s6 s6'
                    go_wp2_with ((with_reducible refine stop_load 30 rfl ?_))
                    apply Stop.go
                    refine wpList_unwanted rfl ?_
                    simp only [Act.put, List.setIfInBounds_toArray, List.set_cons_zero, List.set_cons_succ]
                    go_wp2_with ((with_reducible refine stop_load 30 rfl ?_))
                    apply Stop.go
                    refine wpList_wanted rfl fun K hK => ?_
                    refine wp_load_blk _ _ rfl w.heap.size 0 rfl 132 _ _ _ _ hR3 Tryz.underlying30 rfl info_rest (by rw [encR_size h]; omega) (encR r) (encR_whole h) (hK _ _ ?_)
                    clear hK K
                    simp only [Act.put, List.setIfInBounds_toArray, List.set_cons_zero, List.set_cons_succ]
                    go_wp2_with fail
                    refine (cq _ h).mono ?_
                    rintro e w4 ⟨rfl, hE4⟩
                    have hR4 := hR3.ext hE4
                    have hso := hR4.sound h
                    have hcf := hR4.conf h
                    rw [s1] at hso
                    clear s1
                    by_cases s7 : r.conf = true
                    · rw [s7] at hcf
                      rw [s7] at HP
                      clear s7
                      go_wp2
                      go_ret
                      exact ⟨ret_int HP.out.symm, hE.trans hE4⟩
                    · rw [show r.conf = false by simpa using s7] at hcf HP
                      clear s7
                      go_wp2
                      go_ret
                      exact ⟨ret_int HP.out.symm, hE.trans hE4⟩
                · have s5' : (r.copies == 0) = false := by simpa using s5
                  have HP := Lib.hid (show checkP r = if r.conf then 2 else 0 by rw [HP.out]; simp [tailF, s1, s2, s3', s4, s5'])
                  clear s2 s3 s3' s1
                  by_cases s7 : r.conf = true
                  · rw [s7] at hcf
                    rw [s7] at HP
                    clear s7
                    go_wp2
                    go_ret
                    exact ⟨ret_int HP.out.symm, hE⟩
                  · rw [show r.conf = false by simpa using s7] at hcf HP
                    clear s7
                    go_wp2
                    go_ret
                    exact ⟨ret_int HP.out.symm, hE⟩
          · have s2' : soundAsB r.f r.num = false := by simpa using s2
            have HP := Lib.hid (show checkP r = 2 by rw [HP.out]; simp [tailF, s1, s2'])
            rw [s2'] at ca
            clear s1 s2 s2'
            go_wp2_with ((with_reducible refine stop_load 27 rfl ?_))
            apply Stop.go
            refine wpList_wanted rfl fun K hK => ?_
            refine wp_load_blk _ _ rfl w.heap.size 1 rfl 64 _ _ _ _ hR Tryz.underlying27 rfl info_frame (by rw [encR_size h]; omega) (encF r.f) (encR_ext_f h) (hK _ _ ?_)
            clear hK K
            simp only [Act.put, List.setIfInBounds_toArray, List.set_cons_zero, List.set_cons_succ]
            go_wp2_with fail
            refine (ca _ h.f (hS.ext hE)).mono ?_
            rintro e w2 ⟨rfl, hE2⟩
            go_wp2
            go_ret
            exact ⟨ret_int HP.out.symm, hE.trans hE2⟩
        · have s1' : r.sound = false := by simpa using s1
          rw [s1'] at hso
          have cs := some_any r 3 2
          by_cases s3 : someB r 3 2 = true
          · have HP := Lib.hid (show checkP r = 2 by rw [HP.out]; simp [tailF, s1', s3])
            rw [s3] at cs
            clear s1 s1' s3
            go_wp2_with ((with_reducible refine stop_load 30 rfl ?_))
            apply Stop.go
            refine wpList_wanted rfl fun K hK => ?_
            refine wp_load_blk _ _ rfl w.heap.size 0 rfl 132 _ _ _ _ hR Tryz.underlying30 rfl info_rest (by rw [encR_size h]; omega) (encR r) (encR_whole h) (hK _ _ ?_)
            clear hK K
            simp only [Act.put, List.setIfInBounds_toArray, List.set_cons_zero, List.set_cons_succ]
            go_wp2_with fail
            refine (cs _ h).mono ?_
            rintro e w3 ⟨rfl, hE3⟩
            go_wp2
            go_ret
            exact ⟨ret_int HP.out.symm, hE.trans hE3⟩
          · have s3' : someB r 3 2 = false := by simpa using s3
            rw [s3'] at cs
            go_wp2_with ((with_reducible refine stop_load 30 rfl ?_))
            apply Stop.go
            refine wpList_wanted rfl fun K hK => ?_
            refine wp_load_blk _ _ rfl w.heap.size 0 rfl 132 _ _ _ _ hR Tryz.underlying30 rfl info_rest (by rw [encR_size h]; omega) (encR r) (encR_whole h) (hK _ _ ?_)
            clear hK K
            simp only [Act.put, List.setIfInBounds_toArray, List.set_cons_zero, List.set_cons_succ]
            go_wp2_with fail
            refine (cs _ h).mono ?_
            rintro e w3 ⟨rfl, hE3⟩
            have hR3 := hR.ext hE3
            have hE := hE.trans hE3
            have hso := hR3.sound h
            have hco := hR3.copies h
            have hcf := hR3.conf h
            rw [s1'] at hso
            by_cases s4 : r.copies < 0
            · have HP := Lib.hid (show checkP r = 9 by rw [HP.out]; simp [tailF, s1', s3', s4])
              clear s1 s1' s3 s3' hcf
              go_wp2
              go_ret
              exact ⟨ret_int HP.out.symm, hE⟩
            · have HP := Lib.hid (show checkP r = 0 by rw [HP.out]; simp [tailF, s1', s3', s4])
              clear s1 s1' s3 s3'
              by_cases s5 : (r.copies == 0) = true
              · by_cases s7 : r.conf = true
                · rw [s7] at hcf
                  clear s7
                  go_wp2
                  go_ret
                  exact ⟨ret_int HP.out.symm, hE⟩
                · rw [show r.conf = false by simpa using s7] at hcf
                  clear s7
                  go_wp2
                  go_ret
                  exact ⟨ret_int HP.out.symm, hE⟩
              · have s5' : (r.copies == 0) = false := by simpa using s5
                by_cases s7 : r.conf = true
                · rw [s7] at hcf
                  clear s7
                  go_wp2
                  go_ret
                  exact ⟨ret_int HP.out.symm, hE⟩
                · rw [show r.conf = false by simpa using s7] at hcf
                  clear s7
                  go_wp2
                  go_ret
                  exact ⟨ret_int HP.out.symm, hE⟩
  · have cw := within_any r.num 0 4194303
    rw [show (decide (0 ≤ r.num) && decide (r.num ≤ 4194303)) = false by rw [← Bool.decide_and]; simpa using hn] at cw
    have HP := Lib.hid (show checkP r = 9 from if_neg hn)
    have hc0 := fun w : World => (RAt.new w r).num h
    clear hn
    go_enter Tryz.func11, Tryz.ntmps11
    go_wp2_with fail
    refine (cw _).mono ?_
    rintro e w1 ⟨rfl, hE1⟩
    clear hc0
    go_wp2
    go_ret
    exact ⟨ret_int HP.out.symm, ext_of_alloc _ hE1⟩
end Go.Proofs.YtplddeboinhkbaaGreatDoorRR
