/- Lists of rests: what the program's checkAll, ContainsFunc and the closures return. -/

import Derived.Test.YtplddeboinhkbaaGreatDoorRRProg
import Derived.Test.YtplddeboinhkbaaGreatDoorRRRestB
namespace Go.Proofs.YtplddeboinhkbaaGreatDoorRR
open Go.RowKit
instance : Inhabited SR := ⟨⟨0, [], [], false, 0, false⟩⟩
def rv (l : List SR) (k : Nat) : SR := l.getD k default
theorem rv_at {l : List SR} {k : Nat} (h : k < l.length) : l[k]? = some (rv l k) := by simp [rv, List.getD_eq_getElem?_getD, List.getElem?_eq_getElem h]
theorem rv_mem {l : List SR} {k : Nat} (h : k < l.length) : rv l k ∈ l := List.mem_of_getElem? (rv_at h)
/-- From o on block b holds the rests of l. -/
def RsAt (w : World) (b o : Nat) (l : List SR) : Prop :=
  ∃ (cs : Array Value) (t : TypeId) (fr : Nat × Nat), w.heap[b]? = some (.cells cs t fr) ∧ ∀ k, k < l.length → o + k * 132 + 132 ≤ cs.size ∧ cs.extract (o + k * 132) (o + k * 132 + 132) = encR (rv l k)
theorem RsAt.ext {w w' : World} {b o : Nat} {l : List SR} (h : RsAt w b o l) (hE : Ext w w') : RsAt w' b o l := by
  obtain ⟨cs, t, fr, hb, hk⟩ := h
  exact ⟨cs, t, fr, hE.heap hb, hk⟩
def RsOk (l : List SR) : Prop := ∀ k, k < l.length → RestOk (rv l k)
theorem RsAt.cell {w : World} {b o : Nat} {l : List SR} (h : RsAt w b o l) {k j : Nat} (hk : k < l.length) (_hj : j < 132) {v : Value} (hv : (encR (rv l k))[j]? = some v) : w.cell? ⟨b, o + k * 132 + j, none⟩ = some v := by
  obtain ⟨cs, t, fr, hb, hc⟩ := h
  obtain ⟨h1, h2⟩ := hc k hk
  rw [← h2] at hv
  rw [cell_of_row w b _ cs t fr hb]
  rw [Array.getElem?_extract] at hv
  split at hv
  · exact hv
  · cases hv
theorem store_rest {ops : Array Oper} {rest : List Oper} {op : Oper} {a : Act} {w : World} {Q : Exit → Act → World → Prop} (hgd : op.guard = none) (x y : Operand) (ho : op.op = .store 30 x y)
    (b : Nat) (hx : a.eval x = .pointer (some ⟨b, 0, none⟩)) (r : SR) (hr : RestOk r) (hy : a.eval y = .agg (encR r)) (cs : Array Value) (hb : w.heap[b]? = some (.cells cs 30 (0, 0))) (hc : cs.size = 132)
    (h : ∀ w', Upd w b (.cells (encR r) 30 (0, 0)) w' → wpList Tryz.prog ops Q rest (a.put op.dst undef) w') : wpList Tryz.prog ops Q (op :: rest) a w :=
  wpList_store_whole hgd 30 x y ho b hx (encR r) hy 30 cs hb (by rw [encR_size hr]; exact info_rest) (by rw [encR_size hr, hc]) (encR_one r) h
theorem load_elem {ops : Array Oper} {rest : List Oper} {op : Oper} {a : Act} {w : World} {Q : Exit → Act → World → Prop} (hgd : op.guard = none) (x : Operand) (ho : op.op = .load 30 x)
    {b o : Nat} {l : List SR} (hR : RsAt w b o l) (k : Nat) (hk : k < l.length) (hx : a.eval x = .pointer (some ⟨b, o + k * 132, none⟩))
    (h : wpList Tryz.prog ops Q rest (a.put op.dst (.agg (encR (rv l k)))) w) : wpList Tryz.prog ops Q (op :: rest) a w := by
  obtain ⟨cs, t, fr, hb, hc⟩ := hR
  obtain ⟨h1, h2⟩ := hc k hk
  exact wpList_load_blk hgd 30 x ho b (o + k * 132) hx 132 t cs fr _ hb Tryz.underlying30 rfl info_rest h1 (encR (rv l k)) h2 h
def chkTo (l : List SR) : Nat → Int
  | 0 => 0
  | k + 1 => if chkTo l k = 0 then checkP (rv l k) else chkTo l k
def chkAll (l : List SR) : Int := chkTo l l.length
theorem chkTo_stays (l : List SR) (k : Nat) (h : chkTo l k ≠ 0) : ∀ n, k ≤ n → chkTo l n = chkTo l k
  | 0, hk => by obtain rfl : k = 0 := by omega
                rfl
  | n + 1, hk => by
    by_cases e : k = n + 1
    · rw [e]
    · have := chkTo_stays l k h n (by omega)
      rw [chkTo, this, if_neg h]
theorem chkAll_at (l : List SR) (k : Nat) (hk : k < l.length) (h0 : chkTo l k = 0) {e : Int} (he : checkP (rv l k) = e) (hne : e ≠ 0) : chkAll l = e := by
  have h1 : chkTo l (k + 1) = e := by rw [chkTo, if_pos h0, he]
  have h2 := chkTo_stays l (k + 1) (by rw [h1]; exact hne) l.length (by omega)
  unfold chkAll
  rw [h2, h1]
theorem zero_rest : Tryz.zeroCells30.size = 132 := by kernel_rfl
set_option maxHeartbeats 1000000 in
theorem checkAll_any (b o c : Nat) (l : List SR) (w : World) (hl : l.length < 10000) (hR : RsAt w b o l) (hO : RsOk l) (hS : SyncAt w) :
    Calls Tryz.prog 18 #[.slice (some ⟨b, o, none⟩) l.length c] w fun e w' => e = .returned (.int .i64 (chkAll l)) ∧ Ext w w' := by
  obtain ⟨n, hn⟩ : ∃ n, n = l.length := ⟨_, rfl⟩
  rw [← hn] at hl ⊢
  have HL := Lib.hid hn
  clear hn
  go_enter Tryz.func18, Tryz.ntmps18
  go_wp2
  go_loopw [8] (fun i wr => ∃ k : Nat, k ≤ n ∧ i = .int .i64 k ∧ Aside (chkTo l k = 0) ∧ Ext w wr) (fun i _ => n - (intOf i).toNat)
  case atStart => exact ⟨0, by omega, rfl, (show Aside _ from rfl), Ext.refl w⟩
  case round =>
    obtain ⟨k, hk, rfl, A, hE⟩ := hrel
    by_cases hlt : k < n
    · have hkl : k < l.length := by rw [← HL.out]; exact hlt
      have hRw := hR.ext hE
      have hO := hO k hkl
      have hc := checkRest_any (rv l k)
      have HC := Lib.hid (show ∀ e, checkP (rv l k) = e → e ≠ 0 → chkAll l = e from fun e he hne => chkAll_at l k hkl A.out he hne)
      have HD := Lib.hid (show checkP (rv l k) = 0 → chkTo l (k + 1) = 0 from fun he => by rw [chkTo, if_pos A.out, he])
      obtain ⟨ce, hce⟩ : ∃ ce, ce = checkP (rv l k) := ⟨_, rfl⟩
      rw [← hce] at hc HC HD
      clear hce
      go_wp2_with ((with_reducible refine stop_load 30 rfl ?_))
      apply Stop.go
      refine load_elem rfl _ rfl hRw k hkl rfl ?_
      simp only [Act.put, List.setIfInBounds_toArray, List.set_cons_zero, List.set_cons_succ]
      go_wp2_with ((with_reducible refine stop_store 30 rfl ?_))
      apply Stop.go
      refine wpList_world fun w1 e1 => ?_
      have hEa := Ext.of_eq e1
      clear e1
      refine store_rest rfl _ _ rfl wr.heap.size rfl (rv l k) hO rfl _ (hEa.heap (block_new wr _)) zero_rest fun w2 u2 => ?_
      have hE2 := (ext_of_alloc _ hEa).upd (by simp) u2
      have hE2 := hE.trans hE2
      have hR2 : RAt w2 wr.heap.size (rv l k) := u2.here
      clear u2 hEa w1
      dsimp only [Act.put]
      go_wp2_with ((with_reducible refine stop_load 30 rfl ?_))
      apply Stop.go
      refine wpList_load_blk rfl _ _ rfl wr.heap.size 0 rfl 132 _ _ _ _ hR2 Tryz.underlying30 rfl info_rest (by rw [encR_size hO]; omega) (encR (rv l k)) (encR_whole hO) ?_
      simp only [Act.put, List.setIfInBounds_toArray, List.set_cons_zero, List.set_cons_succ]
      by_cases hz : ce = 0
      · subst hz
        have HZ := Lib.hid (HD.out rfl)
        go_wp2_with fail
        refine (hc _ hO (hS.ext hE2)).mono ?_
        rintro e w3 ⟨rfl, hE3⟩
        go_wp2
        go_roundw
        case rel => first | exact ⟨k + 1, by omega, by go_num, HZ.out, hE2.trans hE3⟩ | ((repeat apply Exists.intro); exact ⟨⟨k + 1, by omega, by go_num, HZ.out, hE2.trans hE3⟩, rfl⟩)
        case measure => simp [intOf]; omega
      · have hz' : (ce != 0) = true := by simpa using hz
        have HZ := Lib.hid (HC.out ce rfl hz)
        clear hz
        go_wp2_with fail
        refine (hc _ hO (hS.ext hE2)).mono ?_
        rintro e w3 ⟨rfl, hE3⟩
        go_wp2
        go_ret
        exact ⟨ret_int HZ.out.symm, hE2.trans hE3⟩
    · obtain rfl : k = n := by omega
      have HZ := Lib.hid (show chkAll l = 0 by rw [chkAll, ← HL.out]; exact A.out)
      go_wp2
      go_ret
      exact ⟨ret_int HZ.out.symm, hE⟩
def idxR (p : SR → Bool) (l : List SR) : Int := match l.findIdx? p with
  | some i => (i : Int)
  | none => -1
theorem idxR_any (p : SR → Bool) (l : List SR) : decide (0 ≤ idxR p l) = l.any p := by
  unfold idxR
  cases h : l.findIdx? p with
  | none =>
    rw [List.findIdx?_eq_none_iff] at h
    have : l.any p = false := by simpa using h
    simp [this]
  | some i =>
    have : l.any p = true := by
      obtain ⟨hi, hp, _⟩ := List.findIdx?_eq_some_iff_getElem.1 h
      rw [List.any_eq_true]
      exact ⟨_, List.getElem_mem hi, hp⟩
    rw [this]
    simp
theorem rv_get {l : List SR} {k : Nat} (h : k < l.length) : l[k] = rv l k := by simp [rv, List.getD_eq_getElem?_getD, List.getElem?_eq_getElem h]
theorem idxR_hit {p : SR → Bool} {l : List SR} {k : Nat} (hk : k < l.length) (hp : p (rv l k) = true) (hA : ∀ j, j < k → p (rv l j) = false) : idxR p l = k := by
  unfold idxR
  rw [List.findIdx?_eq_some_iff_getElem.2 ⟨hk, by rw [rv_get hk]; exact hp, fun j hj => by rw [rv_get (by omega), hA j hj]; simp⟩]
theorem idxR_miss {p : SR → Bool} {l : List SR} (hA : ∀ j, j < l.length → p (rv l j) = false) : idxR p l = -1 := by
  unfold idxR
  rw [List.findIdx?_eq_none_iff.2 fun x hx => by
    obtain ⟨j, hj, rfl⟩ := List.getElem_of_mem hx
    rw [rv_get hj]
    exact hA j hj]
set_option maxHeartbeats 400000 in
theorem indexFuncR_any (b o c : Nat) (l : List SR) (g : Nat) (lb : Array Value) (p : SR → Bool) (w : World) (hl : l.length < 10000) (hR : RsAt w b o l)
    (eg : ∀ args w, (callFunc g args).run Tryz.prog w = .ok (.enter g args) w)
    (hp : ∀ (W : World) (k : Nat), Ext w W → k < l.length → Calls Tryz.prog g (#[.agg (encR (rv l k))] ++ lb) W fun e w' => e = .returned (.bool (p (rv l k))) ∧ Ext W w') :
    Calls Tryz.prog 31 #[.slice (some ⟨b, o, none⟩) l.length c, .func (.func g) #[] lb] w fun e w' => e = .returned (.int .i64 (idxR p l)) ∧ Ext w w' := by
  obtain ⟨n, hn⟩ : ∃ n, n = l.length := ⟨_, rfl⟩
  rw [← hn]
  have hN := Lib.hid hn
  rw [← hn] at hl
  clear hn
  go_enter Tryz.func31, Tryz.ntmps31
  go_wp2
  go_loopw [5, 8] (fun _ i wr => ∃ k : Nat, k ≤ n ∧ i = .int .i64 k ∧ Aside (∀ j, j < k → p (rv l j) = false) ∧ Ext w wr) (fun _ i _ => n - (intOf i).toNat)
  case atStart => exact ⟨0, by omega, rfl, (show Aside _ from fun j hj => by omega), Ext.refl w⟩
  case round =>
    obtain ⟨k, hk, rfl, A, hE⟩ := hrel
    by_cases hlt : k < n
    · have hkl : k < l.length := by rw [← hN.out]; exact hlt
      have hRw := hR.ext hE
      have hcall := hp wr k hE hkl
      clear hp hR
      have HQ := Lib.hid (show p (rv l k) = p (rv l k) from rfl)
      cases hq : p (rv l k) with
      | true =>
        rw [hq] at hcall
        have HZ := Lib.hid (idxR_hit hkl hq A.out)
        clear hq HQ
        go_wp2_with ((with_reducible refine stop_load 30 rfl ?_))
        apply Stop.go
        refine load_elem rfl _ rfl hRw k hkl rfl ?_
        simp only [Act.put, List.setIfInBounds_toArray, List.set_cons_zero, List.set_cons_succ]
        go_wp2_with (go_at_fn g; refine hcall.mono ?_; rintro e w1 ⟨rfl, hE1⟩)
        go_ret
        exact ⟨ret_int HZ.out.symm, hE.trans hE1⟩
      | false =>
        rw [hq] at hcall
        have A2 : Aside (∀ j, j < k + 1 → p (rv l j) = false) := fun j hj => by
          rcases Nat.lt_succ_iff_lt_or_eq.1 hj with e | e
          · exact A.out j e
          · subst e; exact hq
        clear hq HQ
        go_wp2_with ((with_reducible refine stop_load 30 rfl ?_))
        apply Stop.go
        refine load_elem rfl _ rfl hRw k hkl rfl ?_
        simp only [Act.put, List.setIfInBounds_toArray, List.set_cons_zero, List.set_cons_succ]
        go_wp2_with (go_at_fn g; refine hcall.mono ?_; rintro e w1 ⟨rfl, hE1⟩)
        go_roundw
        case rel => first | exact ⟨k + 1, by omega, by go_num, A2, hE.trans hE1⟩ | ((repeat apply Exists.intro); exact ⟨⟨k + 1, by omega, by go_num, A2, hE.trans hE1⟩, rfl⟩)
        case measure => simp [intOf]; omega
    · obtain rfl : k = n := by omega
      have HZ := Lib.hid (idxR_miss (fun j hj => A.out j (by rw [hN.out]; exact hj)))
      go_wp2
      go_ret
      exact ⟨ret_int HZ.out.symm, hE⟩
theorem containsFuncR_any (b o c : Nat) (l : List SR) (g : Nat) (lb : Array Value) (p : SR → Bool) (w : World) (hl : l.length < 10000) (hR : RsAt w b o l)
    (eg : ∀ args w, (callFunc g args).run Tryz.prog w = .ok (.enter g args) w)
    (hp : ∀ (W : World) (k : Nat), Ext w W → k < l.length → Calls Tryz.prog g (#[.agg (encR (rv l k))] ++ lb) W fun e w' => e = .returned (.bool (p (rv l k))) ∧ Ext W w') :
    Calls Tryz.prog 13 #[.slice (some ⟨b, o, none⟩) l.length c, .func (.func g) #[] lb] w fun e w' => e = .returned (.bool (l.any p)) ∧ Ext w w' := by
  have hcon := indexFuncR_any b o c l g lb p w hl hR eg hp
  have hr := Lib.hid (idxR_any p l)
  generalize idxR p l = r at hcon hr
  generalize l.length = n at hcon
  clear hp hR hl
  go_enter Tryz.func13, Tryz.ntmps13
  go_wp2_with (go_at_call 31; refine hcon.mono ?_; rintro e w1 ⟨rfl, hE1⟩)
  go_ret
  exact ⟨ret_bool hr.out, hE1⟩
theorem merge1_any (r : SR) (w : World) (h : RestOk r) :
    Calls Tryz.prog 39 #[.agg (encR r)] w fun e w' => e = .returned (.bool r.conf) ∧ Ext w w' := by
  have hc := (RAt.new w r).conf h
  go_enter Tryz.func39, Tryz.ntmps39
  go_wp2
  go_ret
  exact ⟨rfl, ext_of_alloc _ (Ext.refl _)⟩
theorem vast1_any (r : SR) (w : World) (h : RestOk r) :
    Calls Tryz.prog 14 #[.agg (encR r)] w fun e w' => e = .returned (.bool (decide (1099511627776 < r.copies))) ∧ Ext w w' := by
  have hc := (RAt.new w r).copies h
  go_enter Tryz.func14, Tryz.ntmps14
  go_wp2
  go_ret
  exact ⟨rfl, ext_of_alloc _ (Ext.refl _)⟩
def vastB (l : List SR) : Bool := l.any fun r => decide (1099511627776 < r.copies)
theorem vast_any (b o c : Nat) (l : List SR) (w : World) (hl : l.length < 10000) (hR : RsAt w b o l) (hO : RsOk l) :
    Calls Tryz.prog 5 #[.slice (some ⟨b, o, none⟩) l.length c] w fun e w' => e = .returned (.bool (vastB l)) ∧ Ext w w' := by
  have hcon := containsFuncR_any b o c l 14 #[] (fun r => decide (1099511627776 < r.copies)) w hl hR (enters_of Tryz.func14 (by kernel_rfl) rfl)
    (fun W k _ hk => vast1_any (rv l k) W (hO k hk))
  have hr := Lib.hid (show (l.any fun r => decide (1099511627776 < r.copies)) = vastB l from rfl)
  generalize (l.any fun r => decide (1099511627776 < r.copies)) = r at hcon hr
  generalize vastB l = z at hr ⊢
  generalize l.length = n at hcon ⊢
  clear hR hl hO
  go_enter Tryz.func5, Tryz.ntmps5
  go_wp2_with (go_at_call 13; refine hcon.mono ?_; rintro e w1 ⟨rfl, hE1⟩)
  go_ret
  exact ⟨ret_bool hr.out, hE1⟩
theorem Merge1_any (B b o n c : Nat) (l : List SR) (r : SR) (w : World) (h : RestOk r) (h0 : RestOk (rv l 0)) (hn : 0 < n) (hnl : 0 < l.length) (hR : RsAt w b o l) (hB : w.cell? ⟨B, 0, none⟩ = some (.slice (some ⟨b, o, none⟩) n c)) :
    Calls Tryz.prog 19 #[.agg (encR r), .pointer (some ⟨B, 0, none⟩)] w fun e w' => e = .returned (.bool (r.num != (rv l 0).num)) ∧ Ext w w' := by
  have hc := fun (x : ExtW (w.alloc (.cells (encR r) 30))) => ((RAt.new w r).ext x.ext).num h
  have hc2 : ∀ (x : ExtW (w.alloc (.cells (encR r) 30))), x.val.cell? ⟨b, o, none⟩ = some (.int .i64 (rv l 0).num) := fun x => by
    have := (hR.ext (ext_of_alloc _ x.ext)).cell (k := 0) hnl (j := 0) (by omega) (encR_num h0)
    simpa using this
  have hc3 := fun (x : ExtW (w.alloc (.cells (encR r) 30))) => (ext_of_alloc _ x.ext).cell hB
  have hn' : (0 : Int) < (n : Int) := by omega
  clear hB hR
  generalize (rv l 0).num = m at hc2 ⊢
  go_enter Tryz.func19, Tryz.ntmps19
  go_wp2
  refine wp_region_ext (by kernel_rfl) (by kernel_rfl) ?_
  repeat (go_big_quiet_step (fail))
  refine wpQuiet_nil ?_
  rintro _ ⟨x, rfl⟩
  go_wp2
  go_ret
  exact ⟨rfl, ext_of_alloc _ x.ext⟩
end Go.Proofs.YtplddeboinhkbaaGreatDoorRR
