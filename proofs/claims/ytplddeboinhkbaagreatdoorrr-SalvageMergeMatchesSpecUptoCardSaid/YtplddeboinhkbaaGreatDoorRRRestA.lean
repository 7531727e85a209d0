/- Rests as values, and the small functions on them: within, all, some, soundAs, filled. -/

import Derived.Test.YtplddeboinhkbaaGreatDoorRRProg
import Derived.Test.YtplddeboinhkbaaGreatDoorRRFrameC
import Derived.Shelf.Abstract
namespace Go.Proofs.YtplddeboinhkbaaGreatDoorRR
open Go.RowKit
/-- A rest. -/
structure SR where
  num : Int
  f : List Nat
  st : List Int
  sound : Bool
  copies : Int
  conf : Bool
structure RestOk (r : SR) : Prop where
  f : FrameOk r.f
  st : r.st.length = 64
def encS (st : List Int) : Array Value := (st.map fun n => Value.int .i64 n).toArray
def encR (r : SR) : Array Value := (Value.int .i64 r.num :: ((r.f.map fun n => Value.int .u16 (n : Nat)) ++ (r.st.map (fun n => Value.int .i64 n) ++ [.bool r.sound, .int .i64 r.copies, .bool r.conf]))).toArray
def sv (st : List Int) (k : Nat) : Int := st.getD k 0
theorem encS_size {st : List Int} (h : st.length = 64) : (encS st).size = 64 := by simp [encS, h]
theorem encS_at {st : List Int} (h : st.length = 64) (k : Nat) (hk : k < 64) : (encS st)[k]? = some (.int .i64 (sv st k)) := by
  simp [encS, sv, List.getD_eq_getElem?_getD, List.getElem?_eq_getElem (show k < st.length by omega)]
section
variable {r : SR} (h : RestOk r)
include h
theorem encR_size : (encR r).size = 132 := by simp [encR, h.f.1, h.st]
theorem encR_num : (encR r)[0]? = some (.int .i64 r.num) := by
  have _ := h
  simp [encR]
theorem encR_f (k : Nat) (hk : k < 64) : (encR r)[1 + k]? = some (.int .u16 (wd r.f k : Nat)) := by
  have hl := h.f.1
  rw [Nat.add_comm]
  simp [encR, wd, List.getD_eq_getElem?_getD, List.getElem?_append, show k < r.f.length by omega]
theorem encR_st (k : Nat) (hk : k < 64) : (encR r)[65 + k]? = some (.int .i64 (sv r.st k)) := by
  have hl := h.f.1
  have hs := h.st
  rw [show 65 + k = (64 + k) + 1 from by omega]
  simp [encR, sv, List.getD_eq_getElem?_getD, List.getElem?_append, hl, hs, hk]
theorem encR_sound : (encR r)[129]? = some (.bool r.sound) := by
  simp [encR, h.f.1, h.st]
theorem encR_copies : (encR r)[130]? = some (.int .i64 r.copies) := by
  simp [encR, h.f.1, h.st]
theorem encR_conf : (encR r)[131]? = some (.bool r.conf) := by
  simp [encR, h.f.1, h.st]
theorem encR_ext_f : (encR r).extract 1 (1 + 64) = encF r.f := by
  apply Array.ext'
  simp [encR, encF, List.extract, h.f.1]
theorem encR_ext_st : (encR r).extract 65 (65 + 64) = encS r.st := by
  apply Array.ext'
  simp [encR, encS, List.extract, h.f.1, h.st]
end
theorem encR_whole {r : SR} (h : RestOk r) : (encR r).extract 0 (0 + 132) = encR r := by rw [Nat.zero_add, ← encR_size h, Array.extract_size]
theorem encR_one (r : SR) : (encR r).all (·.oneCell') = true := by
  unfold encR
  rw [Array.all_eq_true_iff_forall_mem]
  intro v hv
  simp at hv
  rcases hv with rfl | ⟨n, _, rfl⟩ | ⟨n, _, rfl⟩ | rfl | rfl | rfl <;> rfl
theorem encS_one (r : List Int) : (encS r).all (·.oneCell') = true := by
  unfold encS
  rw [Array.all_eq_true_iff_forall_mem]
  intro v hv
  simp at hv
  obtain ⟨n, _, rfl⟩ := hv
  rfl
theorem info_rest : (Tryz.prog.info? 30).map (·.size) = some 132 := by kernel_rfl
theorem info_states : (Tryz.prog.info? 28).map (·.size) = some 64 := by kernel_rfl
theorem info_int : (Tryz.prog.info? 3).map (·.size) = some 1 := by kernel_rfl
theorem info_bool : (Tryz.prog.info? 4).map (·.size) = some 1 := by kernel_rfl
/-- Block b is the rest r. -/
def RAt (w : World) (b : Nat) (r : SR) : Prop := w.heap[b]? = some (.cells (encR r) 30 (0, 0))
section
variable {w : World} {b : Nat} {r : SR} (h : RestOk r) (hR : RAt w b r)
include h hR
theorem RAt.cell {k : Nat} {v : Value} (hv : (encR r)[k]? = some v) : w.cell? ⟨b, k, none⟩ = some v := by
  have _ := h
  rw [cell_of_row w b k (encR r) 30 (0, 0) hR]
  exact hv
theorem RAt.num : w.cell? ⟨b, 0, none⟩ = some (.int .i64 r.num) := hR.cell h (encR_num h)
theorem RAt.sound : w.cell? ⟨b, 129, none⟩ = some (.bool r.sound) := hR.cell h (encR_sound h)
theorem RAt.copies : w.cell? ⟨b, 130, none⟩ = some (.int .i64 r.copies) := hR.cell h (encR_copies h)
theorem RAt.conf : w.cell? ⟨b, 131, none⟩ = some (.bool r.conf) := hR.cell h (encR_conf h)
theorem RAt.f (k : Nat) (hk : k < 64) : w.cell? ⟨b, 1 + k, none⟩ = some (.int .u16 (wd r.f k : Nat)) := hR.cell h (encR_f h k hk)
theorem RAt.st (k : Nat) (hk : k < 64) : w.cell? ⟨b, 65 + k, none⟩ = some (.int .i64 (sv r.st k)) := hR.cell h (encR_st h k hk)
end
theorem RAt.ext {w w' : World} {b : Nat} {r : SR} (h : RAt w b r) (hE : Ext w w') : RAt w' b r := hE.heap h
theorem RAt.new (w : World) (r : SR) : RAt (w.alloc (.cells (encR r) 30)) w.heap.size r := block_new w _
theorem within_any (n lo hi : Int) (w : World) :
    Calls Tryz.prog 25 #[.int .i64 n, .int .i64 lo, .int .i64 hi] w fun e w' => e = .returned (.bool (decide (lo ≤ n) && decide (n ≤ hi))) ∧ Ext w w' := by
  by_cases h1 : lo ≤ n
  · go_enter Tryz.func25, Tryz.ntmps25
    go_wp2
    go_ret
    exact ⟨ret_bool (by simp [h1]), Ext.refl w⟩
  · have hd := Lib.hid (show (decide (lo ≤ n) && decide (n ≤ hi)) = false by simp [h1])
    go_enter Tryz.func25, Tryz.ntmps25
    go_wp2
    go_ret
    exact ⟨ret_bool hd.out.symm, Ext.refl w⟩
/-- Where the first number stands of which p holds; -1: nowhere. -/
def idxP (p : Int → Bool) (l : List Int) : Int := match l.findIdx? p with
  | some i => (i : Int)
  | none => -1
theorem idxP_any (p : Int → Bool) (l : List Int) : decide (0 ≤ idxP p l) = l.any p := by
  unfold idxP
  cases h : l.findIdx? p with
  | none =>
    rw [List.findIdx?_eq_none_iff] at h
    have : l.any p = false := by simpa using h
    simp [this]
  | some i =>
    have : l.any p = true := by
      obtain ⟨hi, hp, _⟩ := List.findIdx?_eq_some_iff_getElem.1 h
      rw [List.any_eq_true]
      exact ⟨_, List.getElem_mem hi, hp⟩
    rw [this]
    simp
theorem sv_at {l : List Int} {k : Nat} (h : k < l.length) : l[k] = sv l k := by simp [sv, List.getD_eq_getElem?_getD, List.getElem?_eq_getElem h]
theorem idxP_hit {p : Int → Bool} {l : List Int} {k : Nat} (hk : k < l.length) (hp : p (sv l k) = true) (hA : ∀ j, j < k → p (sv l j) = false) : idxP p l = k := by
  unfold idxP
  rw [List.findIdx?_eq_some_iff_getElem.2 ⟨hk, by rw [sv_at hk]; exact hp, fun j hj => by rw [sv_at (by omega), hA j hj]; simp⟩]
theorem idxP_miss {p : Int → Bool} {l : List Int} (hA : ∀ j, j < l.length → p (sv l j) = false) : idxP p l = -1 := by
  unfold idxP
  rw [List.findIdx?_eq_none_iff.2 fun x hx => by
    obtain ⟨j, hj, rfl⟩ := List.getElem_of_mem hx
    rw [sv_at hj]
    exact hA j hj]
/-- A row of numbers from a place on. -/
def IAt (w : World) (b o : Nat) (l : List Int) : Prop := ∀ k, k < l.length → w.cell? ⟨b, o + k, none⟩ = some (.int .i64 (sv l k))
theorem IAt.ext {w w' : World} {b o : Nat} {l : List Int} (h : IAt w b o l) (hE : Ext w w') : IAt w' b o l := fun k hk => hE.cell (h k hk)
theorem indexFuncI_any (b o c : Nat) (l : List Int) (g : Nat) (lb : Array Value) (p : Int → Bool) (w : World) (hl : l.length < 1000) (hI : IAt w b o l)
    (eg : ∀ args w, (callFunc g args).run Tryz.prog w = .ok (.enter g args) w)
    (hp : ∀ (W : World) (x : Int), Ext w W → Calls Tryz.prog g (#[.int .i64 x] ++ lb) W fun e w' => e = .returned (.bool (p x)) ∧ Ext W w') :
    Calls Tryz.prog 73 #[.slice (some ⟨b, o, none⟩) l.length c, .func (.func g) #[] lb] w fun e w' => e = .returned (.int .i64 (idxP p l)) ∧ Ext w w' := by
  obtain ⟨n, hn⟩ : ∃ n, n = l.length := ⟨_, rfl⟩
  rw [← hn]
  have hN := Lib.hid hn
  rw [← hn] at hl
  clear hn
  go_enter Tryz.func73, Tryz.ntmps73
  go_wp2
  go_loopw [5, 8] (fun _ i wr => ∃ k : Nat, k ≤ n ∧ i = .int .i64 k ∧ Aside (∀ j, j < k → p (sv l j) = false) ∧ Ext w wr) (fun _ i _ => n - (intOf i).toNat)
  case atStart => exact ⟨0, by omega, rfl, (show Aside _ from fun j hj => by omega), Ext.refl w⟩
  case round =>
    obtain ⟨k, hk, rfl, A, hE⟩ := hrel
    by_cases hlt : k < n
    · have hc := (hI.ext hE) k (by rw [← hN.out]; exact hlt)
      have hcall := hp wr (sv l k) hE
      obtain ⟨y, hy⟩ : ∃ y, y = sv l k := ⟨_, rfl⟩
      rw [← hy] at hc hcall
      have B := Lib.hid hy
      clear hy hp
      cases hq : p y with
      | true =>
        rw [hq] at hcall
        go_wp2_with (go_at_fn g; refine hcall.mono ?_; rintro e w1 ⟨rfl, hE1⟩)
        go_ret
        exact ⟨ret_int (idxP_hit (by rw [← hN.out]; exact hlt) (by rw [← B.out]; exact hq) A.out).symm, hE.trans hE1⟩
      | false =>
        rw [hq] at hcall
        go_wp2_with (go_at_fn g; refine hcall.mono ?_; rintro e w1 ⟨rfl, hE1⟩)
        have A2 : Aside (∀ j, j < k + 1 → p (sv l j) = false) := fun j hj => by
          rcases Nat.lt_succ_iff_lt_or_eq.1 hj with e | e
          · exact A.out j e
          · subst e; rw [← B.out]; exact hq
        go_roundw
        case rel => first | exact ⟨k + 1, by omega, by go_num, A2, hE.trans hE1⟩ | ((repeat apply Exists.intro); exact ⟨⟨k + 1, by omega, by go_num, A2, hE.trans hE1⟩, rfl⟩)
        case measure => simp [intOf]; omega
    · obtain rfl : k = n := by omega
      go_wp2
      go_ret
      exact ⟨ret_int (idxP_miss (fun j hj => A.out j (by rw [hN.out]; exact hj))).symm, hE⟩
theorem containsFuncI_any (b o c : Nat) (l : List Int) (g : Nat) (lb : Array Value) (p : Int → Bool) (w : World) (hl : l.length < 1000) (hI : IAt w b o l)
    (eg : ∀ args w, (callFunc g args).run Tryz.prog w = .ok (.enter g args) w)
    (hp : ∀ (W : World) (x : Int), Ext w W → Calls Tryz.prog g (#[.int .i64 x] ++ lb) W fun e w' => e = .returned (.bool (p x)) ∧ Ext W w') :
    Calls Tryz.prog 49 #[.slice (some ⟨b, o, none⟩) l.length c, .func (.func g) #[] lb] w fun e w' => e = .returned (.bool (l.any p)) ∧ Ext w w' := by
  have hcon := indexFuncI_any b o c l g lb p w hl hI eg hp
  have hr := Lib.hid (idxP_any p l)
  generalize idxP p l = r at hcon hr
  generalize l.length = n at hcon
  clear hp hI hl
  go_enter Tryz.func49, Tryz.ntmps49
  go_wp2_with (go_at_call 73; refine hcon.mono ?_; rintro e w1 ⟨rfl, hE1⟩)
  go_ret
  exact ⟨ret_bool hr.out, hE1⟩
theorem all1_any (B : Nat) (s : Int) (W : World) (x : Int) (hc : W.cell? ⟨B, 0, none⟩ = some (.int .i64 s)) :
    Calls Tryz.prog 51 #[.int .i64 x, .pointer (some ⟨B, 0, none⟩)] W fun e w' => e = .returned (.bool (x != s)) ∧ Ext W w' := by
  go_enter Tryz.func51, Tryz.ntmps51
  go_wp2
  go_ret
  exact ⟨rfl, Ext.refl W⟩
theorem some1_any (B C : Nat) (s t : Int) (W : World) (x : Int) (hc : W.cell? ⟨B, 0, none⟩ = some (.int .i64 s)) (hd : W.cell? ⟨C, 0, none⟩ = some (.int .i64 t)) :
    Calls Tryz.prog 50 #[.int .i64 x, .pointer (some ⟨B, 0, none⟩), .pointer (some ⟨C, 0, none⟩)] W fun e w' => e = .returned (.bool (x == s || x == t)) ∧ Ext W w' := by
  by_cases h : (x == s) = true
  · go_enter Tryz.func50, Tryz.ntmps50
    go_wp2
    go_ret
    exact ⟨ret_bool (by simp [h]), Ext.refl W⟩
  · have h' : (x == s) = false := by simpa using h
    go_enter Tryz.func50, Tryz.ntmps50
    go_wp2
    go_ret
    exact ⟨ret_bool (by simp [h']), Ext.refl W⟩
/-- Of all words of a rest the state is s. -/
def allB (r : SR) (s : Int) : Bool := !(r.st.any fun x => x != s)
def someB (r : SR) (s t : Int) : Bool := r.st.any fun x => x == s || x == t
theorem RAt.states {w : World} {b : Nat} {r : SR} (h : RestOk r) (hR : RAt w b r) : IAt w b 65 r.st := fun k hk => hR.st h k (by rw [← h.st]; exact hk)
theorem all_any (r : SR) (s : Int) (w : World) (h : RestOk r) :
    Calls Tryz.prog 28 #[.agg (encR r), .int .i64 s] w fun e w' => e = .returned (.bool (allB r s)) ∧ Ext w w' := by
  have hcon := fun (W : World) (hR : RAt W w.heap.size r) (hc : W.cell? ⟨w.heap.size + 1, 0, none⟩ = some (.int .i64 s)) =>
    containsFuncI_any w.heap.size 65 64 r.st 51 #[.pointer (some ⟨w.heap.size + 1, 0, none⟩)] (fun x => x != s) W (by rw [h.st]; omega) (hR.states h) (enters_of Tryz.func51 (by kernel_rfl) rfl)
      (fun W' x hW => all1_any (w.heap.size + 1) s W' x (hW.cell hc))
  rw [h.st] at hcon
  have hz := Lib.hid (show (!(r.st.any fun x => x != s)) = allB r s from rfl)
  generalize (r.st.any fun x => x != s) = y at hcon hz
  generalize allB r s = z at hz ⊢
  go_enter Tryz.func28, Tryz.ntmps28
  go_wp2_with (go_at_call 49; refine (hcon _ (block_old _ (block_new w _)) (by simp)).mono ?_; rintro e w1 ⟨rfl, hE1⟩)
  go_ret
  exact ⟨ret_bool hz.out, ext_of_alloc _ (ext_of_alloc _ hE1)⟩
theorem box2 (w : World) (o : Obj) (v : Value) (t : TypeId) : ((w.alloc o).alloc (.cells #[v] t)).cell? ⟨w.heap.size + 1, 0, none⟩ = some v := by simp
theorem box3 (w : World) (o o' : Obj) (v : Value) (t : TypeId) : (((w.alloc o).alloc o').alloc (.cells #[v] t)).cell? ⟨w.heap.size + 1 + 1, 0, none⟩ = some v := by
  rw [show w.heap.size + 1 + 1 = ((w.alloc o).alloc o').heap.size by simp]
  rw [cell_of_row _ _ 0 _ t (0, 0) (block_new ((w.alloc o).alloc o') _)]
  rfl
theorem some_any (r : SR) (s t : Int) (w : World) (h : RestOk r) :
    Calls Tryz.prog 27 #[.agg (encR r), .int .i64 s, .int .i64 t] w fun e w' => e = .returned (.bool (someB r s t)) ∧ Ext w w' := by
  have hcon := fun (W : World) (hR : RAt W w.heap.size r) (hc : W.cell? ⟨w.heap.size + 1, 0, none⟩ = some (.int .i64 s)) (hd : W.cell? ⟨w.heap.size + 1 + 1, 0, none⟩ = some (.int .i64 t)) =>
    containsFuncI_any w.heap.size 65 64 r.st 50 #[.pointer (some ⟨w.heap.size + 1, 0, none⟩), .pointer (some ⟨w.heap.size + 1 + 1, 0, none⟩)] (fun x => x == s || x == t) W (by rw [h.st]; omega) (hR.states h) (enters_of Tryz.func50 (by kernel_rfl) rfl)
      (fun W' x hW => some1_any (w.heap.size + 1) (w.heap.size + 1 + 1) s t W' x (hW.cell hc) (hW.cell hd))
  rw [h.st] at hcon
  rw [show (r.st.any fun x => x == s || x == t) = someB r s t from rfl] at hcon
  generalize someB r s t = z at hcon ⊢
  go_enter Tryz.func27, Tryz.ntmps27
  go_wp2_with fail
  refine (hcon _ (block_old _ (block_old _ (block_new w _))) (((Ext.refl ((w.alloc _).alloc _)).alloc _).cell (box2 w _ _ _)) (box3 w _ _ _ _)).mono ?_
  rintro e w1 ⟨rfl, hE1⟩
  go_wp2
  go_ret
  exact ⟨rfl, ext_of_alloc _ (ext_of_alloc _ (ext_of_alloc _ hE1))⟩
def soundAsB (f : List Nat) (n : Int) : Bool := soundB f && (numV f == n)
set_option maxRecDepth 100000 in
theorem soundAs_any (f : List Nat) (n : Int) (w : World) (hf : FrameOk f) (hS : SyncAt w) :
    Calls Tryz.prog 26 #[.agg (encF f), .int .i64 n] w fun e w' => e = .returned (.bool (soundAsB f n)) ∧ Ext w w' := by
  have hz := Lib.hid (show (soundB f && (((numV f : Nat) : Int) == n)) = soundAsB f n from rfl)
  have c1 := fun (w : World) => number_any f w hf
  have c2 := fun (w : World) (hS : SyncAt w) => soundx_any f w hf hS
  generalize numOk f = ok at c1
  generalize numV f = v at c1 hz
  generalize soundAsB f n = z at hz ⊢
  cases hs : soundB f with
  | true =>
    rw [hs] at c2 hz
    go_enter Tryz.func26, Tryz.ntmps26
    go_wp2_with ((with_reducible refine stop_load 27 rfl ?_))
    apply Stop.go
    refine wpList_world fun w1 e1 => ?_
    have hE : Ext w w1 := ext_of_alloc _ (Ext.of_eq e1)
    have hB0 : w1.heap[w.heap.size]? = some (.cells (encF f) 27 (0, 0)) := (Ext.of_eq e1).heap (block_new w _)
    clear e1
    refine wpList_load_blk rfl _ _ rfl w.heap.size 0 rfl 64 _ _ _ _ hB0 Tryz.underlying27 rfl info_frame (by rw [encF_size hf]; omega) (encF f) (by rw [Nat.zero_add, ← encF_size hf, Array.extract_size]) ?_
    simp only [Act.put, List.setIfInBounds_toArray, List.set_cons_zero, List.set_cons_succ]
    go_wp2_with fail
    refine (c1 _).mono ?_
    rintro e w2 ⟨rfl, hE2⟩
    go_wp2_with ((with_reducible refine stop_load 27 rfl ?_))
    apply Stop.go
    refine wpList_load_blk rfl _ _ rfl w.heap.size 0 rfl 64 _ _ _ _ (hE2.heap hB0) Tryz.underlying27 rfl info_frame (by rw [encF_size hf]; omega) (encF f) (by rw [Nat.zero_add, ← encF_size hf, Array.extract_size]) ?_
    simp only [Act.put, List.setIfInBounds_toArray, List.set_cons_zero, List.set_cons_succ]
    go_wp2_with (go_at_call 48; refine (c2 _ (hS.ext (hE.trans hE2))).mono ?_; rintro e w3 ⟨rfl, hE3⟩)
    go_ret
    exact ⟨ret_bool hz.out, (hE.trans hE2).trans hE3⟩
  | false =>
    rw [hs] at c2 hz
    go_enter Tryz.func26, Tryz.ntmps26
    go_wp2_with ((with_reducible refine stop_load 27 rfl ?_))
    apply Stop.go
    refine wpList_world fun w1 e1 => ?_
    have hE : Ext w w1 := ext_of_alloc _ (Ext.of_eq e1)
    have hB0 : w1.heap[w.heap.size]? = some (.cells (encF f) 27 (0, 0)) := (Ext.of_eq e1).heap (block_new w _)
    clear e1
    refine wpList_load_blk rfl _ _ rfl w.heap.size 0 rfl 64 _ _ _ _ hB0 Tryz.underlying27 rfl info_frame (by rw [encF_size hf]; omega) (encF f) (by rw [Nat.zero_add, ← encF_size hf, Array.extract_size]) ?_
    simp only [Act.put, List.setIfInBounds_toArray, List.set_cons_zero, List.set_cons_succ]
    go_wp2_with fail
    refine (c1 _).mono ?_
    rintro e w2 ⟨rfl, hE2⟩
    go_wp2_with ((with_reducible refine stop_load 27 rfl ?_))
    apply Stop.go
    refine wpList_load_blk rfl _ _ rfl w.heap.size 0 rfl 64 _ _ _ _ (hE2.heap hB0) Tryz.underlying27 rfl info_frame (by rw [encF_size hf]; omega) (encF f) (by rw [Nat.zero_add, ← encF_size hf, Array.extract_size]) ?_
    simp only [Act.put, List.setIfInBounds_toArray, List.set_cons_zero, List.set_cons_succ]
    go_wp2_with (go_at_call 48; refine (c2 _ (hS.ext (hE.trans hE2))).mono ?_; rintro e w3 ⟨rfl, hE3⟩)
    go_ret
    exact ⟨ret_bool hz.out, (hE.trans hE2).trans hE3⟩
end Go.Proofs.YtplddeboinhkbaaGreatDoorRR
