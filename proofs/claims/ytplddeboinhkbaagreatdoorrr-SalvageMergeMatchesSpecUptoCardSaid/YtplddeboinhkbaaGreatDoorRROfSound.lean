/- The program's ofSound: what it makes of the rest that it is handed. -/

import Derived.Test.YtplddeboinhkbaaGreatDoorRRProg
import Derived.Test.YtplddeboinhkbaaGreatDoorRRFill
import Derived.Test.YtplddeboinhkbaaGreatDoorRREqs
import Derived.Lib.MinMax
namespace Go.Proofs.YtplddeboinhkbaaGreatDoorRR
open Go.RowKit
def mixS (a b : List Int) (k : Nat) : List Int := (List.range 64).map fun i => if i < k then max (sv a i) (sv b i) else sv a i
theorem mixS_length (a b : List Int) (k : Nat) : (mixS a b k).length = 64 := by simp [mixS]
theorem sv_mixS (a b : List Int) (k i : Nat) (hi : i < 64) : sv (mixS a b k) i = if i < k then max (sv a i) (sv b i) else sv a i := by
  simp [sv, mixS, List.getD_eq_getElem?_getD, hi]
theorem mixS_zero (a b : List Int) (h : a.length = 64) : mixS a b 0 = a := by
  apply List.ext_getElem (by simp [mixS, h])
  intro i h1 h2
  rw [sv_at h1, sv_at h2, sv_mixS _ _ _ _ (by omega)]
  simp
theorem mixS_set (a b : List Int) (k : Nat) (_hk : k < 64) : (mixS a b k).set k (max (sv a k) (sv b k)) = mixS a b (k + 1) := by
  apply List.ext_getElem (by simp [mixS])
  intro i h1 h2
  have hi : i < 64 := by simpa [mixS] using h2
  rw [List.getElem_set, sv_at h2, sv_mixS _ _ _ _ hi]
  split
  · rename_i e
    subst e
    simp
  · rename_i e
    rw [sv_at (by simpa using h1), sv_mixS _ _ _ _ hi]
    by_cases h3 : i < k
    · simp [h3, show i < k + 1 from by omega]
    · simp [h3, show ¬ i < k + 1 from by omega]
def soStep (o r : SR) : SR := if r.sound then { o with sound := true, f := r.f, st := mixS o.st r.st 64 } else o
def soTo (l : List SR) (o : SR) : Nat → SR
  | 0 => o
  | k + 1 => soStep (soTo l o k) (rv l k)
/-- Do sound frames differ? -/
def soDiff (l : List SR) (o : SR) : Nat → Bool
  | 0 => false
  | k + 1 => soDiff l o k || ((rv l k).sound && ((soTo l o k).sound && ((soTo l o k).f != (rv l k).f)))
theorem soDiff_stays (l : List SR) (o : SR) (k : Nat) (h : soDiff l o k = true) : ∀ n, k ≤ n → soDiff l o n = true
  | 0, hk => by obtain rfl : k = 0 := by omega
                exact h
  | n + 1, hk => by
    by_cases e : k = n + 1
    · rw [← e]; exact h
    · simp [soDiff, soDiff_stays l o k h n (by omega)]
theorem soStep_ok {o r : SR} (ho : RestOk o) (hr : RestOk r) : RestOk (soStep o r) := by
  unfold soStep
  split
  · exact ⟨hr.f, mixS_length _ _ _⟩
  · exact ho
theorem soTo_ok {l : List SR} {o : SR} (ho : RestOk o) (hO : RsOk l) : ∀ k, k ≤ l.length → RestOk (soTo l o k)
  | 0, _ => ho
  | k + 1, hk => soStep_ok (soTo_ok ho hO k (by omega)) (hO k (by omega))
def pr3 (a b c : SR) : Nat → SR
  | 0 => a
  | 1 => b
  | _ => c
theorem soTo_same (l : List SR) (o : SR) : ∀ k, (soTo l o k).num = o.num ∧ (soTo l o k).copies = o.copies
  | 0 => ⟨rfl, rfl⟩
  | k + 1 => by
    have h := soTo_same l o k
    simp only [soTo, soStep]
    split
    · exact h
    · exact h
/-- Comparing frames inside a region. -/
theorem neq_frames (f g : List Nat) (hf : f.length = 64) (hg : g.length = 64) (w : World) :
    (binOp .neq 27 (.agg (encF f)) (.agg (encF g))).run Tryz.prog w = .ok (.bool (f != g)) w := by
  rw [run_neq_struct, show (10000 : Nat) = 9998 + 1 + 1 from rfl, run_eqF 9998 f g hf hg w]
  rfl
set_option maxRecDepth 100000 in
set_option maxHeartbeats 4000000 in
theorem ofSound_any (g b o c : Nat) (l : List SR) (o0 : SR) (w : World) (hl : l.length < 10000) (hR : RsAt w b o l) (hbg : b ≠ g) (hG : RAt w g o0) (hgw : g < w.heap.size) (h0 : RestOk o0) (hO : RsOk l) :
    Calls Tryz.prog 40 #[.pointer (some ⟨g, 0, none⟩), .slice (some ⟨b, o, none⟩) l.length c] w fun e w' => e = .returned (.bool (!soDiff l o0 l.length)) ∧
      ∃ r', RestOk r' ∧ RAt w' g r' ∧ (r'.num = o0.num ∧ r'.copies = o0.copies) ∧ (soDiff l o0 l.length = false → r' = soTo l o0 l.length) ∧ Mod g w w' := by
  obtain ⟨n, hn⟩ : ∃ n, n = l.length := ⟨_, rfl⟩
  have HL := Lib.hid hn
  have HG := Lib.hid (show ∀ w' r, RestOk r → RAt w' g r → (r.num = o0.num ∧ r.copies = o0.copies) → Mod g w w' → soDiff l o0 n = true → ∃ r', RestOk r' ∧ RAt w' g r' ∧ (r'.num = o0.num ∧ r'.copies = o0.copies) ∧ (soDiff l o0 n = false → r' = soTo l o0 n) ∧ Mod g w w' from
    fun w' r h1 h2 h6 h3 h4 => ⟨r, h1, h2, h6, (fun h5 => by rw [h4] at h5; cases h5), h3⟩)
  rw [← hn] at hl ⊢
  clear hn
  go_enter Tryz.func40, Tryz.ntmps40
  go_wp2
  go_loopw [11] (fun i wr => ∃ k : Nat, k ≤ n ∧ i = .int .i64 k ∧ Aside (soDiff l o0 k = false) ∧ Aside (RAt wr g (soTo l o0 k)) ∧ Mod g w wr) (fun i _ => n - (intOf i).toNat)
  case atStart => exact ⟨0, by omega, rfl, (show Aside _ from rfl), hG, Mod.refl g w⟩
  case round =>
    obtain ⟨k, hk, rfl, A, B, hM⟩ := hrel
    by_cases hlt : k < n
    · have hkl : k < l.length := by rw [← HL.out]; exact hlt
      have hRw := hR.mod hM hbg
      have hOk := hO k hkl
      have hos := Lib.hid (soTo_ok h0 hO k (by omega))
      obtain ⟨q, hq⟩ : ∃ q, q = soTo l o0 k := ⟨_, rfl⟩
      have HQ := Lib.hid hq
      have hGq : RAt wr g q := by rw [hq]; exact B.out
      have hqo : RestOk q := by rw [hq]; exact hos.out
      clear hq B hos hR hG
      obtain ⟨r, hr⟩ : ∃ r, r = rv l k := ⟨_, rfl⟩
      have HRr := Lib.hid hr
      go_wp2_with ((with_reducible refine stop_load 30 rfl ?_))
      apply Stop.go
      refine load_elem rfl _ rfl hRw k hkl rfl ?_
      simp only [Act.put, List.setIfInBounds_toArray, List.set_cons_zero, List.set_cons_succ]
      go_wp2_with ((with_reducible refine stop_store 30 rfl ?_))
      apply Stop.go
      refine wpList_world fun w1 e1 => ?_
      have hEa := Ext.of_eq e1
      clear e1
      refine store_rest rfl _ _ rfl wr.heap.size rfl (rv l k) hOk rfl _ (hEa.heap (block_new wr _)) zero_rest fun w2 u2 => ?_
      have hE2 := (ext_of_alloc _ hEa).upd (by simp) u2
      have hM2 := hM.ext hE2
      have hR2 : RAt w2 wr.heap.size (rv l k) := u2.here
      have hG2 := hGq.ext hE2
      clear u2 hEa w1 hRw hE2 hGq
      dsimp only [Act.put]
      rw [← hr] at hR2 hOk ⊢
      clear hr
      have hso := hR2.sound hOk
      by_cases s1 : r.sound = true
      · rw [s1] at hso
        have go1 : ∀ x : ExtW w2, x.val.cell? ⟨g, 129, none⟩ = some (.bool q.sound) := fun x => (hG2.ext x.ext).sound hqo
        by_cases s2 : q.sound = true
        · rw [s2] at go1
          have hne := neq_frames q.f r.f hqo.f.1 hOk.f.1
          by_cases s3 : (q.f != r.f) = true
          · rw [s3] at hne
            have HZ := Lib.hid (show soDiff l o0 n = true from soDiff_stays l o0 (k + 1) (by simp [soDiff, ← HQ.out, ← HRr.out, s1, s2, s3]) n hlt)
            clear s1 s2 s3
            go_wp2
            refine wp_region_ext (by kernel_rfl) (by kernel_rfl) ?_
            repeat (go_big_quiet_step (fail))
            refine BigFrame.wpQuiet_want rfl fun K hK => ?_
            refine quiet_load_blk _ _ rfl g 1 rfl 64 _ _ _ _ (by rintro _ ⟨x, rfl⟩; exact ((hG2.ext x.ext))) Tryz.underlying27 rfl info_frame (by rw [encR_size hqo]; omega) (encF q.f) (encR_ext_f hqo) (hK _ ?_)
            clear hK K
            simp only [Act.put, List.setIfInBounds_toArray, List.set_cons_zero, List.set_cons_succ]
            repeat (go_big_quiet_step (fail))
            refine BigFrame.wpQuiet_want rfl fun K hK => ?_
            refine quiet_load_blk _ _ rfl wr.heap.size 1 rfl 64 _ _ _ _ (by rintro _ ⟨x, rfl⟩; exact ((hR2.ext x.ext))) Tryz.underlying27 rfl info_frame (by rw [encR_size hOk]; omega) (encF r.f) (encR_ext_f hOk) (hK _ ?_)
            clear hK K
            simp only [Act.put, List.setIfInBounds_toArray, List.set_cons_zero, List.set_cons_succ]
            repeat (go_big_quiet_step (fail))
            refine wpQuiet_nil ?_
            rintro _ ⟨x, rfl⟩
            go_wp2
            go_ret
            exact ⟨ret_bool (by rw [HZ.out]; rfl), HG.out _ q hqo (hG2.ext x.ext) (by rw [HQ.out]; exact soTo_same l o0 k) (hM2.ext x.ext) HZ.out⟩
          · have s3' : (q.f != r.f) = false := by simpa using s3
            rw [s3'] at hne
            have HZ := Lib.hid (show soDiff l o0 (k + 1) = false by simp [soDiff, A.out, ← HQ.out, ← HRr.out, s3'])
            have HB := Lib.hid (show soTo l o0 (k + 1) = { q with sound := true, f := r.f, st := mixS q.st r.st 64 } by simp [soTo, soStep, ← HQ.out, ← HRr.out, s1])
            clear s1 s2 s3 s3'
            go_wp2
            refine wp_region_ext (by kernel_rfl) (by kernel_rfl) ?_
            repeat (go_big_quiet_step (fail))
            refine BigFrame.wpQuiet_want rfl fun K hK => ?_
            refine quiet_load_blk _ _ rfl g 1 rfl 64 _ _ _ _ (by rintro _ ⟨x, rfl⟩; exact ((hG2.ext x.ext))) Tryz.underlying27 rfl info_frame (by rw [encR_size hqo]; omega) (encF q.f) (encR_ext_f hqo) (hK _ ?_)
            clear hK K
            simp only [Act.put, List.setIfInBounds_toArray, List.set_cons_zero, List.set_cons_succ]
            repeat (go_big_quiet_step (fail))
            refine BigFrame.wpQuiet_want rfl fun K hK => ?_
            refine quiet_load_blk _ _ rfl wr.heap.size 1 rfl 64 _ _ _ _ (by rintro _ ⟨x, rfl⟩; exact ((hR2.ext x.ext))) Tryz.underlying27 rfl info_frame (by rw [encR_size hOk]; omega) (encF r.f) (encR_ext_f hOk) (hK _ ?_)
            clear hK K
            simp only [Act.put, List.setIfInBounds_toArray, List.set_cons_zero, List.set_cons_succ]
            repeat (go_big_quiet_step (fail))
            refine wpQuiet_nil ?_
            rintro _ ⟨x, rfl⟩
            have hG3 := hG2.ext x.ext
            have hR3 := hR2.ext x.ext
            have hM3 := hM2.ext x.ext
            generalize x.val = w3 at hG3 hR3 hM3 ⊢
            clear hso go1 hG2 hR2 hM2 x
            have hng : wr.heap.size ≠ g := by have := hM.size; omega
            have q2o : RestOk { q with sound := true, f := r.f } := ⟨hOk.f, hqo.st⟩
            have q1o : RestOk { q with sound := true } := ⟨hqo.f, hqo.st⟩
            go_wp2
            refine wp_region_stores2 [6, 9] (fun k w' => Mod g w3 w' ∧ RAt w' g (pr3 q { q with sound := true } { q with sound := true, f := r.f } k)) (by kernel_rfl) (by kernel_rfl) (by kernel_rfl) ⟨(Mod.refl g w3).ext (Ext.refl w3).drew, hG3.ext (Ext.refl w3).drew⟩ fun hNE => ?_
            simp only [List.map_cons, List.map_nil, idle1, isStore, if_true, if_false, Bool.false_eq_true, idle]
            repeat (go_big_quiet_step (fail))
            refine BigFrame.wpQuiet_want rfl fun K hK => ?_
            refine quiet_load_blk _ _ rfl wr.heap.size 1 rfl 64 _ _ _ _ (by rintro _ ⟨x, rfl⟩; exact ((x.ok.elim fun _ h => hR3.mod h.1 hng))) Tryz.underlying27 rfl info_frame (by rw [encR_size hOk]; omega) (encF r.f) (encR_ext_f hOk) (hK _ ?_)
            clear hK K
            simp only [Act.put, List.setIfInBounds_toArray, List.set_cons_zero, List.set_cons_succ]
            repeat (go_big_quiet_step (fail))
            refine wpQuiet_nil ?_
            refine stores_two 6 9 rfl rfl (fun w4 hw => ?_) (fun w4 hw => ?_) fun w4 hw => ?_
            · have hw2 : RAt w4 g q := hw.2
              refine exec_store1k (P := Tryz.prog) 4 _ _ rfl g 129 rfl (.bool true) rfl _ _ hw2 info_bool (by rw [encR_size hqo]; omega) rfl fun w5 u => ⟨hw.1.upd u, ?_⟩
              have h2 := u.here
              rw [setR_sound hqo] at h2
              exact h2
            · have hw2 : RAt w4 g { q with sound := true } := hw.2
              refine exec_store_blkk (P := Tryz.prog) 27 _ _ rfl g 1 rfl (encF r.f) rfl _ _ hw2 (by rw [encF_size hOk.f]; exact info_frame) (by rw [encR_size q1o, encF_size hOk.f]; omega) (encF_one _) fun w5 u => ⟨hw.1.upd u, ?_⟩
              have h2 := u.here
              rw [setR_frame q1o _ hOk.f.1] at h2
              exact h2
            have hw2 : RAt w4 g { q with sound := true, f := r.f } := hw.2
            have hM4 := hM3.trans hw.1
            have hR4 := hR3.mod hw.1 hng
            clear hw hM3 hR3 hG3 hNE w3
            go_wp2_with ((with_reducible refine stop_load 28 rfl ?_))
            apply Stop.go
            refine wpList_load_blk rfl _ _ rfl wr.heap.size 65 rfl 64 _ _ _ _ hR4 Tryz.underlying28 rfl info_states (by rw [encR_size hOk]; omega) (encS r.st) (encR_ext_st hOk) ?_
            simp only [Act.put, List.setIfInBounds_toArray, List.set_cons_zero, List.set_cons_succ]
            go_wp2
            go_loopw [41] (fun i wv => ∃ j : Nat, j ≤ 64 ∧ i = .int .i64 j ∧ Aside (RAt wv g { q with sound := true, f := r.f, st := mixS q.st r.st j }) ∧ Mod g w wv) (fun i _ => 64 - (intOf i).toNat)
            case atStart => exact ⟨0, by omega, rfl, (by rw [mixS_zero q.st r.st hqo.st]; exact hw2), hM4⟩
            case round =>
              obtain ⟨j, hj, rfl, B, hMv⟩ := hrel
              by_cases hjl : j < 64
              · have hi := fun w : World => index_states hOk.st j hjl w
                have hGv := B.out
                have qvo : RestOk { q with sound := true, f := r.f, st := mixS q.st r.st j } := ⟨hOk.f, mixS_length _ _ _⟩
                have hcv : ∀ x : ExtW wr, x.val.cell? ⟨g, 65 + j, none⟩ = some (.int .i64 (sv q.st j)) := fun x => by
                  have := (hGv.ext x.ext).st qvo j hjl
                  rw [sv_mixS _ _ _ _ hjl, if_neg (Nat.lt_irrefl j)] at this
                  exact this
                clear B hw2 hR4 hM4
                go_wp2
                refine wp_region_tail 13 _ rfl rfl rfl (by kernel_rfl) (by kernel_rfl) (by kernel_rfl) ?_
                simp only [List.modify_succ_cons, List.modify_zero_cons, idle]
                repeat (go_big_quiet_step (fail))
                refine wpQuiet_nil ?_
                rintro _ ⟨x, rfl⟩
                refine wpList_store1 rfl _ _ _ rfl g (65 + j) rfl (.int .i64 (max (sv q.st j) (sv r.st j))) rfl _ _ (hGv.ext x.ext) info_int (by rw [encR_size qvo]; omega) rfl fun w6 u6 => ?_
                dsimp only [Act.put]
                have hG6 := u6.here
                rw [setR_st qvo j hjl, mixS_set q.st r.st j hjl] at hG6
                have hM6 := (hMv.ext x.ext).upd u6
                clear u6 hGv hcv hMv x
                go_wp2
                go_roundw
                case rel => first | exact ⟨j + 1, by omega, by go_num, hG6, hM6⟩ | ((repeat apply Exists.intro); exact ⟨⟨j + 1, by omega, by go_num, hG6, hM6⟩, rfl⟩)
                case measure => simp [intOf]; omega
              · obtain rfl : j = 64 := by omega
                have hG6 : Aside (RAt wr g (soTo l o0 (k + 1))) := by
                  show RAt wr g (soTo l o0 (k + 1))
                  rw [HB.out]
                  exact B.out
                clear B hw2 hM4 hR4
                go_wp2
                go_roundw
                case rel => first | exact ⟨k + 1, by omega, by go_num, HZ.out, hG6, hMv⟩ | ((repeat apply Exists.intro); exact ⟨⟨k + 1, by omega, by go_num, HZ.out, hG6, hMv⟩, rfl⟩)
                case measure => simp [intOf]; omega
        · have s2' : q.sound = false := by simpa using s2
          rw [s2'] at go1
          have HZ := Lib.hid (show soDiff l o0 (k + 1) = false by simp [soDiff, A.out, ← HQ.out, ← HRr.out, s2'])
          have HB := Lib.hid (show soTo l o0 (k + 1) = { q with sound := true, f := r.f, st := mixS q.st r.st 64 } by simp [soTo, soStep, ← HQ.out, ← HRr.out, s1])
          clear s1 s2 s2'
          go_wp2
          refine wp_region_ext (by kernel_rfl) (by kernel_rfl) ?_
          repeat (go_big_quiet_step (fail))
          refine wpQuiet_nil ?_
          rintro _ ⟨x, rfl⟩
          have hG3 := hG2.ext x.ext
          have hR3 := hR2.ext x.ext
          have hM3 := hM2.ext x.ext
          generalize x.val = w3 at hG3 hR3 hM3 ⊢
          clear hso go1 hG2 hR2 hM2 x
          have hng : wr.heap.size ≠ g := by have := hM.size; omega
          have q2o : RestOk { q with sound := true, f := r.f } := ⟨hOk.f, hqo.st⟩
          have q1o : RestOk { q with sound := true } := ⟨hqo.f, hqo.st⟩
          go_wp2
          refine wp_region_stores2 [6, 9] (fun k w' => Mod g w3 w' ∧ RAt w' g (pr3 q { q with sound := true } { q with sound := true, f := r.f } k)) (by kernel_rfl) (by kernel_rfl) (by kernel_rfl) ⟨(Mod.refl g w3).ext (Ext.refl w3).drew, hG3.ext (Ext.refl w3).drew⟩ fun hNE => ?_
          simp only [List.map_cons, List.map_nil, idle1, isStore, if_true, if_false, Bool.false_eq_true, idle]
          repeat (go_big_quiet_step (fail))
          refine BigFrame.wpQuiet_want rfl fun K hK => ?_
          refine quiet_load_blk _ _ rfl wr.heap.size 1 rfl 64 _ _ _ _ (by rintro _ ⟨x, rfl⟩; exact ((x.ok.elim fun _ h => hR3.mod h.1 hng))) Tryz.underlying27 rfl info_frame (by rw [encR_size hOk]; omega) (encF r.f) (encR_ext_f hOk) (hK _ ?_)
          clear hK K
          simp only [Act.put, List.setIfInBounds_toArray, List.set_cons_zero, List.set_cons_succ]
          repeat (go_big_quiet_step (fail))
          refine wpQuiet_nil ?_
          refine stores_two 6 9 rfl rfl (fun w4 hw => ?_) (fun w4 hw => ?_) fun w4 hw => ?_
          · have hw2 : RAt w4 g q := hw.2
            refine exec_store1k (P := Tryz.prog) 4 _ _ rfl g 129 rfl (.bool true) rfl _ _ hw2 info_bool (by rw [encR_size hqo]; omega) rfl fun w5 u => ⟨hw.1.upd u, ?_⟩
            have h2 := u.here
            rw [setR_sound hqo] at h2
            exact h2
          · have hw2 : RAt w4 g { q with sound := true } := hw.2
            refine exec_store_blkk (P := Tryz.prog) 27 _ _ rfl g 1 rfl (encF r.f) rfl _ _ hw2 (by rw [encF_size hOk.f]; exact info_frame) (by rw [encR_size q1o, encF_size hOk.f]; omega) (encF_one _) fun w5 u => ⟨hw.1.upd u, ?_⟩
            have h2 := u.here
            rw [setR_frame q1o _ hOk.f.1] at h2
            exact h2
          have hw2 : RAt w4 g { q with sound := true, f := r.f } := hw.2
          have hM4 := hM3.trans hw.1
          have hR4 := hR3.mod hw.1 hng
          clear hw hM3 hR3 hG3 hNE w3
          go_wp2_with ((with_reducible refine stop_load 28 rfl ?_))
          apply Stop.go
          refine wpList_load_blk rfl _ _ rfl wr.heap.size 65 rfl 64 _ _ _ _ hR4 Tryz.underlying28 rfl info_states (by rw [encR_size hOk]; omega) (encS r.st) (encR_ext_st hOk) ?_
          simp only [Act.put, List.setIfInBounds_toArray, List.set_cons_zero, List.set_cons_succ]
          go_wp2
          go_loopw [41] (fun i wv => ∃ j : Nat, j ≤ 64 ∧ i = .int .i64 j ∧ Aside (RAt wv g { q with sound := true, f := r.f, st := mixS q.st r.st j }) ∧ Mod g w wv) (fun i _ => 64 - (intOf i).toNat)
          case atStart => exact ⟨0, by omega, rfl, (by rw [mixS_zero q.st r.st hqo.st]; exact hw2), hM4⟩
          case round =>
            obtain ⟨j, hj, rfl, B, hMv⟩ := hrel
            by_cases hjl : j < 64
            · have hi := fun w : World => index_states hOk.st j hjl w
              have hGv := B.out
              have qvo : RestOk { q with sound := true, f := r.f, st := mixS q.st r.st j } := ⟨hOk.f, mixS_length _ _ _⟩
              have hcv : ∀ x : ExtW wr, x.val.cell? ⟨g, 65 + j, none⟩ = some (.int .i64 (sv q.st j)) := fun x => by
                have := (hGv.ext x.ext).st qvo j hjl
                rw [sv_mixS _ _ _ _ hjl, if_neg (Nat.lt_irrefl j)] at this
                exact this
              clear B hw2 hR4 hM4
              go_wp2
              refine wp_region_tail 13 _ rfl rfl rfl (by kernel_rfl) (by kernel_rfl) (by kernel_rfl) ?_
              simp only [List.modify_succ_cons, List.modify_zero_cons, idle]
              repeat (go_big_quiet_step (fail))
              refine wpQuiet_nil ?_
              rintro _ ⟨x, rfl⟩
              refine wpList_store1 rfl _ _ _ rfl g (65 + j) rfl (.int .i64 (max (sv q.st j) (sv r.st j))) rfl _ _ (hGv.ext x.ext) info_int (by rw [encR_size qvo]; omega) rfl fun w6 u6 => ?_
              dsimp only [Act.put]
              have hG6 := u6.here
              rw [setR_st qvo j hjl, mixS_set q.st r.st j hjl] at hG6
              have hM6 := (hMv.ext x.ext).upd u6
              clear u6 hGv hcv hMv x
              go_wp2
              go_roundw
              case rel => first | exact ⟨j + 1, by omega, by go_num, hG6, hM6⟩ | ((repeat apply Exists.intro); exact ⟨⟨j + 1, by omega, by go_num, hG6, hM6⟩, rfl⟩)
              case measure => simp [intOf]; omega
            · obtain rfl : j = 64 := by omega
              have hG6 : Aside (RAt wr g (soTo l o0 (k + 1))) := by
                show RAt wr g (soTo l o0 (k + 1))
                rw [HB.out]
                exact B.out
              clear B hw2 hM4 hR4
              go_wp2
              go_roundw
              case rel => first | exact ⟨k + 1, by omega, by go_num, HZ.out, hG6, hMv⟩ | ((repeat apply Exists.intro); exact ⟨⟨k + 1, by omega, by go_num, HZ.out, hG6, hMv⟩, rfl⟩)
              case measure => simp [intOf]; omega
      · have s1' : r.sound = false := by simpa using s1
        rw [s1'] at hso
        have HZ := Lib.hid (show soDiff l o0 (k + 1) = false by simp [soDiff, A.out, ← HRr.out, s1'])
        have HB := Lib.hid (show soTo l o0 (k + 1) = q by simp [soTo, soStep, ← HQ.out, ← HRr.out, s1'])
        clear s1 s1'
        go_wp2
        have HB2 : Aside (RAt w2 g (soTo l o0 (k + 1))) := by
          show RAt w2 g (soTo l o0 (k + 1))
          rw [HB.out]
          exact hG2
        go_roundw
        case rel => first | exact ⟨k + 1, by omega, by go_num, HZ.out, HB2, hM2⟩ | ((repeat apply Exists.intro); exact ⟨⟨k + 1, by omega, by go_num, HZ.out, HB2, hM2⟩, rfl⟩)
        case measure => simp [intOf]; omega
    · obtain rfl : k = n := by omega
      have HZ := Lib.hid A.out
      have hF : ∃ r', RestOk r' ∧ RAt wr g r' ∧ (r'.num = o0.num ∧ r'.copies = o0.copies) ∧ (soDiff l o0 k = false → r' = soTo l o0 k) ∧ Mod g w wr := ⟨soTo l o0 k, soTo_ok h0 hO k (by rw [← HL.out]; exact Nat.le_refl _), B.out, soTo_same l o0 k, (fun _ => rfl), hM⟩
      clear A B hR hG
      go_wp2
      go_ret
      exact ⟨ret_bool (by rw [HZ.out]; rfl), hF⟩
end Go.Proofs.YtplddeboinhkbaaGreatDoorRR
