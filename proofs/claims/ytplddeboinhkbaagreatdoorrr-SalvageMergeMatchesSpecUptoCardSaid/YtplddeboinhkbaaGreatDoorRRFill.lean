/- Rests in memory, changed one field at a time; the program's filled. -/

import Derived.Test.YtplddeboinhkbaaGreatDoorRRProg
import Derived.Test.YtplddeboinhkbaaGreatDoorRRRestC
import Derived.Test.YtplddeboinhkbaaGreatDoorRRStores
namespace Go.Proofs.YtplddeboinhkbaaGreatDoorRR
open Go.RowKit
/-- All but block g is as it was. -/
structure Mod (g : Nat) (w w' : World) : Prop where
  os : w'.os = w.os
  tape : w'.tape = w.tape
  output : w'.output = w.output
  size : w.heap.size ≤ w'.heap.size
  block : ∀ k, k < w.heap.size → k ≠ g → w'.heap[k]? = w.heap[k]?
theorem Mod.refl (g : Nat) (w : World) : Mod g w w := ⟨rfl, rfl, rfl, Nat.le_refl _, fun _ _ _ => rfl⟩
theorem Mod.trans {g : Nat} {a b c : World} (h : Mod g a b) (h2 : Mod g b c) : Mod g a c :=
  ⟨h2.os.trans h.os, h2.tape.trans h.tape, h2.output.trans h.output, Nat.le_trans h.size h2.size, fun k hk hne => (h2.block k (Nat.lt_of_lt_of_le hk h.size) hne).trans (h.block k hk hne)⟩
theorem Mod.ext {g : Nat} {a b c : World} (h : Mod g a b) (h2 : Ext b c) : Mod g a c :=
  ⟨h2.os.trans h.os, h2.tape.trans h.tape, h2.output.trans h.output, Nat.le_trans h.size h2.size, fun k hk hne => (h2.block k (Nat.lt_of_lt_of_le hk h.size)).trans (h.block k hk hne)⟩
theorem Mod.upd {g : Nat} {a b c : World} {o : Obj} (h : Mod g a b) (u : Upd b g o c) : Mod g a c :=
  ⟨u.os.trans h.os, u.tape.trans h.tape, u.output.trans h.output, by rw [u.size]; exact h.size, fun k hk hne => (u.other k hne).trans (h.block k hk hne)⟩
/-- A block of the call's own. -/
theorem Mod.upd2 {g b2 : Nat} {a b c : World} {o : Obj} (h : Mod g a b) (hb : a.heap.size ≤ b2) (u : Upd b b2 o c) : Mod g a c :=
  ⟨u.os.trans h.os, u.tape.trans h.tape, u.output.trans h.output, by rw [u.size]; exact h.size, fun k hk hne => (u.other k (by omega)).trans (h.block k hk hne)⟩
theorem Mod.heap {g : Nat} {a b : World} (h : Mod g a b) {k : Nat} {o : Obj} (hk : a.heap[k]? = some o) (hne : k ≠ g) : b.heap[k]? = some o :=
  (h.block k (by
    rcases Nat.lt_or_ge k a.heap.size with h' | h'
    · exact h'
    · rw [Array.getElem?_eq_none h'] at hk; cases hk) hne).trans hk
theorem Mod.cell {g : Nat} {a b : World} (h : Mod g a b) {p : Addr} {v : Value} (hp : a.cell? p = some v) (hne : p.block ≠ g) : b.cell? p = some v := by
  unfold World.cell? at hp ⊢
  cases hk : a.heap[p.block]? with
  | none => rw [hk] at hp; cases hp
  | some o => rw [h.heap hk hne]; rw [hk] at hp; exact hp
theorem Ext.mod {g : Nat} {w0 a b : World} (h : Ext w0 a) (hg : w0.heap.size ≤ g) (m : Mod g a b) : Ext w0 b :=
  ⟨m.os.trans h.os, m.tape.trans h.tape, m.output.trans h.output, Nat.le_trans h.size m.size, fun k hk => (m.block k (Nat.lt_of_lt_of_le hk h.size) (by omega)).trans (h.block k hk)⟩
theorem SyncAt.mod {g : Nat} {a b : World} (h : SyncAt a) (m : Mod g a b) (hg : 0 ≠ g) : SyncAt b := fun k hk => m.cell (h k hk) hg
theorem RsAt.mod {g : Nat} {a b : World} {bb o : Nat} {l : List SR} (h : RsAt a bb o l) (m : Mod g a b) (hg : bb ≠ g) : RsAt b bb o l := by
  obtain ⟨cs, t, fr, hb, hk⟩ := h
  exact ⟨cs, t, fr, m.heap hb hg, hk⟩
theorem RAt.mod {g : Nat} {a b : World} {bb : Nat} {r : SR} (h : RAt a bb r) (m : Mod g a b) (hg : bb ≠ g) : RAt b bb r := m.heap h hg
/-! One field anew. -/
section
variable {r : SR} (h : RestOk r)
include h
theorem setR_st (k : Nat) (hk : k < 64) (v : Int) : (encR r).setIfInBounds (65 + k) (.int .i64 v) = encR { r with st := r.st.set k v } := by
  have hf := h.f.1
  have hs := h.st
  apply Array.ext'
  rw [show 65 + k = (64 + k) + 1 from by omega]
  simp only [encR, List.setIfInBounds_toArray, List.set_cons_succ]
  simp [hf, hs, hk, List.map_set]
theorem setR_f (k : Nat) (hk : k < 64) (v : Nat) : (encR r).setIfInBounds (1 + k) (.int .u16 (v : Nat)) = encR { r with f := r.f.set k v } := by
  have hf := h.f.1
  apply Array.ext'
  rw [Nat.add_comm]
  simp only [encR, List.setIfInBounds_toArray, List.set_cons_succ]
  simp [hf, hk, List.map_set]
theorem setR_sound (v : Bool) : (encR r).setIfInBounds 129 (.bool v) = encR { r with sound := v } := by
  have hf := h.f.1
  have hs := h.st
  apply Array.ext'
  simp only [encR, List.setIfInBounds_toArray, List.set_cons_succ]
  simp [hf, hs]
theorem setR_copies (v : Int) : (encR r).setIfInBounds 130 (.int .i64 v) = encR { r with copies := v } := by
  have hf := h.f.1
  have hs := h.st
  apply Array.ext'
  simp only [encR, List.setIfInBounds_toArray, List.set_cons_succ]
  simp [hf, hs]
theorem setR_conf (v : Bool) : (encR r).setIfInBounds 131 (.bool v) = encR { r with conf := v } := by
  have hf := h.f.1
  have hs := h.st
  apply Array.ext'
  simp only [encR, List.setIfInBounds_toArray, List.set_cons_succ]
  simp [hf, hs]
theorem setR_frame (f : List Nat) (hf2 : f.length = 64) : splice (encR r) 1 (encF f) = encR { r with f := f } := by
  have hf := h.f.1
  simp [splice, encR, encF, hf2, hf]
theorem setR_states (st : List Int) (hs2 : st.length = 64) : splice (encR r) 65 (encS st) = encR { r with st := st } := by
  have hf := h.f.1
  have hs := h.st
  simp [splice, encR, encS, hs2, List.drop_append, hf, hs]
end
theorem encS_set (st : List Int) (i : Nat) (v : Int) : (encS st).setIfInBounds i (.int .i64 v) = encS (st.set i v) := by
  simp [encS, List.map_set]
/-- The first k are s, the others 0. -/
def filTo (s : Int) (k : Nat) : List Int := List.replicate k s ++ List.replicate (64 - k) 0
theorem filTo_set (s : Int) (k : Nat) (hk : k < 64) : (filTo s k).set k s = filTo s (k + 1) := by
  unfold filTo
  rw [List.set_append_right _ _ (by simp), List.length_replicate, Nat.sub_self, show 64 - k = (64 - (k + 1)) + 1 from by omega, List.replicate_succ (n := 64 - (k + 1)), List.set_cons_zero, List.replicate_succ' (n := k)]
  simp
theorem filTo_length (s : Int) (k : Nat) (hk : k ≤ 64) : (filTo s k).length = 64 := by simp [filTo]; omega
set_option maxHeartbeats 1000000 in
theorem filled_any (s : Int) (w : World) :
    Calls Tryz.prog 42 #[.int .i64 s] w fun e w' => e = .returned (.agg (encS (List.replicate 64 s))) ∧ Ext w w' := by
  go_enter Tryz.func42, Tryz.ntmps42
  go_wp2
  go_loopw [5] (fun i wr => ∃ k : Nat, k ≤ 64 ∧ i = .int .i64 k ∧ wr.heap[w.heap.size + 1]? = some (.cells (encS (filTo s k)) 28 (0, 0)) ∧ (∃ Z : Array Value, wr.heap[w.heap.size]? = some (.cells Z 28 (0, 0)) ∧ Z.size = 64) ∧ Ext w wr) (fun i _ => 64 - (intOf i).toNat)
  case atStart => exact ⟨0, by omega, rfl, (heap_alloc2_new w _ _).trans (by rfl), ⟨_, block_old _ (block_new w _), rfl⟩, ext_of_alloc _ (ext_of_alloc _ (Ext.refl _))⟩
  case round =>
    obtain ⟨k, hk, rfl, hB, ⟨Z, hZ, hZs⟩, hE⟩ := hrel
    by_cases hlt : k < 64
    · go_wp2_with ((with_reducible refine stop_store 3 rfl ?_))
      apply Stop.go
      refine wpList_store1 rfl _ _ _ rfl (w.heap.size + 1) k rfl (.int .i64 s) rfl _ _ hB info_int (by rw [encS_size (filTo_length s k hk)]; exact hlt) rfl fun w2 u2 => ?_
      dsimp only [Act.put]
      have hB2 := u2.here
      rw [encS_set, filTo_set s k hlt] at hB2
      have hZ2 := u2.keep hZ (by omega)
      have hE2 := hE.upd (by omega) u2
      clear u2 hB hZ
      go_wp2
      go_roundw
      case rel => first | exact ⟨k + 1, by omega, by go_num, hB2, ⟨Z, hZ2, hZs⟩, hE2⟩ | ((repeat apply Exists.intro); exact ⟨⟨k + 1, by omega, by go_num, hB2, ⟨Z, hZ2, hZs⟩, hE2⟩, rfl⟩)
      case measure => simp [intOf]; omega
    · obtain rfl : k = 64 := by omega
      have hx := Lib.hid (show (encS (filTo s 64)).extract 0 (0 + 64) = encS (List.replicate 64 s) by simp [filTo, encS])
      have hsz : (encS (List.replicate 64 s)).size = 64 := by simp [encS]
      go_wp2_with ((with_reducible refine stop_load 28 rfl ?_))
      apply Stop.go
      refine wpList_load_blk rfl _ _ rfl (w.heap.size + 1) 0 rfl 64 _ _ _ _ hB Tryz.underlying28 rfl info_states (by rw [encS_size (filTo_length s 64 (by omega))]; omega) (encS (List.replicate 64 s)) hx.out ?_
      simp only [Act.put, List.setIfInBounds_toArray, List.set_cons_zero, List.set_cons_succ]
      go_wp2_with ((with_reducible refine stop_store 28 rfl ?_))
      apply Stop.go
      refine wpList_store_whole rfl _ _ _ rfl w.heap.size rfl (encS (List.replicate 64 s)) rfl _ _ hZ (by rw [hsz]; exact info_states) (by rw [hsz, hZs]) (encS_one _) fun w3 u3 => ?_
      dsimp only [Act.put]
      go_wp2
      exact bodyPost_ret (v := .agg (encS (List.replicate 64 s))) (results_cell_row Tryz.results42 _ _ w.heap.size _ _ _ _ rfl u3.here Tryz.underlying28 rfl (by rw [hsz]; exact info_states)) rfl ⟨rfl, hE.upd (by omega) u3⟩
end Go.Proofs.YtplddeboinhkbaaGreatDoorRR
