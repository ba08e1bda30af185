/- diff.of at lists of few short texts: those of a list that are in another one, or are not; nothing that was there has changed. -/
import Derived.Test.YtnnnlbbgmdoehaaDoorDfB
namespace Go.Proofs.YtnnnlbbgmdoehaaDoor.Df
open Go.RowKit Go.Proofs.YtnnnlbbgmdoehaaDoorW.PrintWords Go.Proofs.YtnnnlbbgmdoehaaDoorW.PrintLast Go.Proofs.YtnnnlbbgmdoehaaDoor
open Go.Maps (Keyed)
open Go.Sort

theorem plainElem_bool_inv {H : Type} {P : Program} {e : TypeId} (he : P.underlying e = some .bool) {v : Value} {z : DataW H × List MemPlace} (h : plainElem P e v = some z) : ∃ x, v = .bool x ∧ z = (.lit (.bool x), []) := by
  unfold plainElem at h
  rw [he] at h
  cases v <;> simp at h
  exact ⟨_, rfl, h.symm⟩

/-- The captured things: a bool in block g, a set in block g + 1, a variable that holds the set in block g + 2. -/
def Env (W : World) (g : Nat) (l : List ByteArray) (b : Bool) : Prop :=
  W.heap[g]? = some (.cells #[.bool b] 4 (0, 0)) ∧ (∃ n, SetAt W (g + 1) n l) ∧ W.heap[g + 2]? = some (.cells #[.map (some (g + 1))] 40 (0, 0))
theorem Env.move {W W' : World} {g : Nat} {l : List ByteArray} {b : Bool} (h : Env W g l b) (hm : ∀ k, g ≤ k → k ≤ g + 2 → W'.heap[k]? = W.heap[k]?) : Env W' g l b := by
  obtain ⟨h1, ⟨n, es, clock, hb, r⟩, h3⟩ := h
  exact ⟨(hm g (by omega) (by omega)).trans h1, ⟨n, es, clock, (hm (g + 1) (by omega) (by omega)).trans hb, r⟩, (hm (g + 2) (by omega) (by omega)).trans h3⟩
theorem Env.lt {W : World} {g : Nat} {l : List ByteArray} {b : Bool} (h : Env W g l b) : g + 2 < W.heap.size := (Array.getElem?_eq_some_iff.1 h.2.2).1
theorem Env.below {W W' : World} {g : Nat} {l : List ByteArray} {b : Bool} (h : Env W g l b) (hb : Below W.heap.size W W') : Env W' g l b := h.move fun k _ hk => hb.block k (by have := h.lt; omega)

/-- Texts that a map's key may be. -/
abbrev S := { s : ByteArray // s.size ≤ maxLen }
instance : Inhabited S := ⟨⟨ByteArray.empty, Nat.zero_le _⟩⟩
def encS (x : S) : Value := .string x.1
def toS (s : ByteArray) : S := if h : s.size ≤ maxLen then ⟨s, h⟩ else default
theorem toS_val {s : ByteArray} (h : s.size ≤ 1000) : (toS s).1 = s := by
  unfold toS
  rw [dif_pos (by unfold maxLen; omega)]
def inB (l : List ByteArray) (s : ByteArray) : Bool := l.any (fun x => decide (x = s))

theorem gives_any (W : World) (g : Nat) (l : List ByteArray) (b : Bool) (x : S) (hE : Env W g l b) :
    Go.Proofs.FnGives Tryd.prog 36 #[.pointer (some ⟨g + 2, 0, none⟩), .pointer (some ⟨g, 0, none⟩)] #[encS x] (.bool (inB l x.1 != b)) W := by
  obtain ⟨h1, ⟨n, hown⟩, h3⟩ := hE
  have c1 : W.cell? ⟨g, 0, none⟩ = some (.bool b) := by simp [World.cell?, h1]
  have c3 : W.cell? ⟨g + 2, 0, none⟩ = some (.map (some (g + 1))) := by simp [World.cell?, h3]
  have hkey : keyOf Tryd.prog 9 (.string x.1) = some (litS x.1) := WideMaps.keyOf_string_mk Tryd.underlying9 x.2
  obtain ⟨v, ps, hrun, hRv⟩ := World.ownsMap.lookup (z := .bool false) (zd := .lit (.bool false)) (zp := []) hown law Tryd.underlying40 (by kernel_rfl) (plainElem_bool Tryd.underlying4 false) hkey
  obtain ⟨y, rfl, hy⟩ := plainElem_bool_inv Tryd.underlying4 hRv
  rw [setD_at] at hy
  have hyy : inB l x.1 = y := by
    injection hy with hy _
    injection hy with hy
    injection hy with hy
  rw [hyy]
  clear hRv hy hyy h1 h3 hown hkey
  show Calls Tryd.prog 36 #[.string x.1, .pointer (some ⟨g + 2, 0, none⟩), .pointer (some ⟨g, 0, none⟩)] W _
  generalize x.1 = s at hrun ⊢
  go_enter Tryd.func36, Tryd.ntmps36
  go_wp2
  go_ret
  exact ⟨by cases y <;> cases b <;> rfl, 0, rfl⟩

theorem sw_block {α : Type} [Inhabited α] (enc : α → Value) (w : World) (g off n : Nat) (d : Array α) (os : Array Obj) (k : Nat) (hk : k < w.heap.size) (hne : k ≠ g) : (Go.Proofs.sortWorld enc w g off n d os).heap[k]? = w.heap[k]? := by
  unfold Go.Proofs.sortWorld
  rw [heap_grow_old _ _ (by simpa using hk)]
  simp [putRow, mapBlock, Sort.ahead, Array.getElem?_modify, hne.symm]

theorem delete_none (a : Option Addr) (c : Nat) (fv : Value) (w : World) : Calls Tryd.prog 34 #[.slice a 0 c, fv] w fun e w' => e = .returned (.slice a 0 c) ∧ w' = w := by
  go_enter Tryd.func34, Tryd.ntmps34
  go_wp2_with (go_at_call 33; refine (Tryd.slices_IndexFunc_empty (α := Int) _ _ _ _).mono ?_; rintro e w' ⟨rfl, rfl⟩)
  go_ret
  exact ⟨rfl, rfl⟩

/-- Those of l that are in l1 (b), or are not (not b). -/
def ofV (l l1 : List ByteArray) (b : Bool) : List ByteArray := l.filter fun s => !(inB l1 s != b)
theorem ofV_mem {l l1 : List ByteArray} {b : Bool} {s : ByteArray} (h : s ∈ ofV l l1 b) : s ∈ l := (List.mem_filter.1 h).1

/-- What DeleteFunc leaves, of a clone. -/
theorem delete_any (g0 : Nat) (l l1 : List ByteArray) (b : Bool) (w : World) (v : Value) (base : Nat) (hs : smallB l = true) (hE : Env w g0 l1 b) (hg : g0 + 2 < base) (ho : w.ownsRow base 9 1 v l.length (l.map Value.string)) :
    Calls Tryd.prog 34 #[v, .func (.func 36) #[] #[.pointer (some ⟨g0 + 2, 0, none⟩), .pointer (some ⟨g0, 0, none⟩)]] w fun e w' =>
      ∃ v', e = .returned v' ∧ w'.ownsRow base 9 1 v' (ofV l l1 b).length ((ofV l l1 b).map Value.string) ∧ Below base w w' := by
  have hlen := small_len hs
  by_cases h0 : l.length = 0
  · obtain rfl := List.length_eq_zero_iff.1 h0
    rcases ho.2 with ⟨rfl, _⟩ | ⟨g, cap, cur, rfl, _⟩
    · exact (delete_none _ _ _ w).mono fun e w' ⟨he, hw⟩ => ⟨_, he, hw ▸ ho, hw ▸ Below.refl _ _⟩
    · exact (delete_none _ _ _ w).mono fun e w' ⟨he, hw⟩ => ⟨_, he, hw ▸ ho, hw ▸ Below.refl _ _⟩
  · rcases ho.2 with ⟨_, hz⟩ | ⟨g, cap, cur, rfl, hbg, hb, hnc, hcm, hcs, htake⟩
    · exact absurd hz h0
    have hdl : (l.map toS).toArray.size = l.length := by simp
    have hgl : g < w.heap.size := (Array.getElem?_eq_some_iff.1 hb).1
    have hval : ∀ s ∈ l, (toS s).1 = s := fun s hm => toS_val (by
      obtain ⟨k, hk, rfl⟩ := List.getElem_of_mem hm
      have := small_at hs hk
      rwa [List.getD_eq_getElem?_getD, List.getElem?_eq_getElem hk] at this)
    have henc : (l.map toS).map encS = l.map Value.string := by
      rw [List.map_map]
      exact List.map_congr_left fun s hm => by simp [encS, hval s hm]
    have hH : Holds encS w g 0 (l.map toS).toArray := by
      intro j hj
      rw [hdl] at hj
      refine ⟨?_, by simp [World.frozen?, hb]⟩
      have h1 : (cur.toList.take (l.length * 1))[j]? = ((l.map toS).map encS)[j]? := by rw [htake, henc]
      rw [List.getElem?_take_of_lt (by omega), Array.getElem?_toList] at h1
      simp only [World.cell?, hb, Nat.zero_add, Option.isSome_none, Bool.false_eq_true, if_false]
      rw [h1]
      simp [hj]
    have hcon := Tryd.slices_DeleteFunc encS (fun _ => rfl) (fun x : S => inB l1 x.1 != b) 36 #[.pointer (some ⟨g0 + 2, 0, none⟩), .pointer (some ⟨g0, 0, none⟩)]
      (enters_of Tryd.func36 (by kernel_rfl) rfl) default (fun w => by exact Tryd.zeroValue9 w) g 0 cap (l.map toS).toArray w
      (fun W x hbW => gives_any W g0 l1 b x (hE.below hbW))
      (fun n os dk x _ => gives_any _ g0 l1 b x (hE.move fun k hk1 hk2 => sw_block _ _ _ _ _ _ _ k (by have := hE.lt; omega) (by omega)))
      hH (by rw [hdl]; omega) (by rw [hdl]; exact hnc)
    rw [hdl] at hcon
    have hf : ((l.map toS).toArray.toList.filter fun x : S => !(inB l1 x.1 != b)) = (ofV l l1 b).map toS := by
      rw [List.toList_toArray, List.filter_map]
      unfold ofV
      congr 1
      refine List.filter_congr fun s hm => ?_
      simp only [Function.comp_apply, hval s hm]
    simp only [hf] at hcon
    rw [List.length_map] at hcon
    have hle : (ofV l l1 b).length ≤ l.length := List.length_filter_le _ _
    refine hcon.mono ?_
    rintro e w' ⟨rfl, q, rfl⟩
    have hvs : ((ofV l l1 b).map toS).map encS = (ofV l l1 b).map Value.string := by
      rw [List.map_map]
      exact List.map_congr_left fun s hm => by simp [encS, hval s (ofV_mem hm)]
    refine ⟨_, rfl, ⟨by simp, .inr ⟨g, cap, putCells encS 0 ((ofV l l1 b).map toS ++ List.replicate (l.length - (ofV l l1 b).length) default).toArray cur, rfl, hbg, ?_, by omega, hcm, by simp [putCells, hcs], ?_⟩⟩, ⟨rfl, rfl, rfl, by simp [Sort.ahead], fun k hk => ?_⟩⟩
    · simp [putRow, mapBlock, Sort.ahead, Array.getElem?_modify, hb, onCells]
    · rw [← hvs]
      apply List.ext_getElem?
      intro j
      by_cases hj : j < (ofV l l1 b).length
      · rw [List.getElem?_take_of_lt (by omega), Array.getElem?_toList]
        have hjc : j < cur.size := by omega
        have hjl : j < l.length := by omega
        simp [putCells, hj, hjc, hjl]
        rw [if_pos (by omega), List.getElem?_append_left (by simpa using hj)]
        simp [hj]
      · rw [List.getElem?_take_eq_none (by omega), List.getElem?_eq_none (by simp; omega)]
    · have : g ≠ k := by omega
      simp [putRow, mapBlock, Sort.ahead, Array.getElem?_modify, this]

def ofF (l l1 : List ByteArray) (b : Bool) : Option (List ByteArray) := if smallB l && smallB l1 then some (ofV l l1 b) else none

set_option maxHeartbeats 1000000 in
theorem of_any (A0 : Option Addr) (c0 : Nat) (l0 : List ByteArray) (A1 : Option Addr) (c1 : Nat) (l1 : List ByteArray) (b : Bool) (w : World) (hr0 : Kd.C Kd.string w A0 l0.length l0) (hr1 : Kd.C Kd.string w A1 l1.length l1) (hs0 : smallB l0 = true) (hs1 : smallB l1 = true) :
    Calls Tryd.prog 25 #[.slice A0 l0.length c0, .slice A1 l1.length c1, .bool b] w fun e w' =>
      ∃ v', e = .returned v' ∧ w'.ownsRow w.heap.size 9 1 v' (ofV l0 l1 b).length ((ofV l0 l1 b).map Value.string) ∧ Below w.heap.size w w' := by
  have hlen := small_len hs1
  have hclone := fun W (hb : Below w.heap.size w W) => clone_any A0 c0 l0 W (Kd.C_below hr0 hb) hs0
  have HR1 := Lib.hid hr1
  have HS0 := Lib.hid hs0
  have HS1 := Lib.hid hs1
  have HCL := Lib.hid hclone
  clear hr0 hr1 hs0 hs1 hclone
  obtain ⟨m, hm⟩ : ∃ m, l0.length = m := ⟨_, rfl⟩
  rw [hm] at HCL ⊢
  have HM0 := Lib.hid hm
  obtain ⟨n, hn⟩ : ∃ n, l1.length = n := ⟨_, rfl⟩
  rw [hn] at hlen ⊢
  have HN := Lib.hid hn
  clear hn hm
  obtain ⟨r, hr⟩ : ∃ r, ofV l0 l1 b = r := ⟨_, rfl⟩
  rw [hr]
  have HRR := Lib.hid hr
  clear hr
  have hmk := @run_makeMap Tryd.prog
  go_enter Tryd.func25, Tryd.ntmps25
  go_wp2
  go_loopw [13] (fun i wr => ∃ k : Nat, k ≤ n ∧ i = .int .i64 k ∧ Hid (wr.heap[w.heap.size]? = some (.cells #[.bool b] 4 (0, 0))) ∧ Hid (SetAt wr (w.heap.size + 1) k (l1.take k)) ∧ Hid (wr.heap[w.heap.size + 2]? = some (.cells #[.map (some (w.heap.size + 1))] 40 (0, 0))) ∧ Hid (Below w.heap.size w wr)) (fun i _ => n - (intOf i).toNat)
  case atStart =>
    refine ⟨0, Nat.zero_le _, rfl, Lib.hid ?_, Lib.hid ?_, Lib.hid ?_, Lib.hid ((((Below.refl _ _).alloc (Nat.le_refl _) _).alloc (by simp) _).alloc (by simp; omega) _)⟩
    · rw [heap_alloc_old _ _ (by simp; omega), heap_alloc_old _ _ (by simp), heap_alloc_new]
    · have h := World.ownsMap_made (H := Nat) (w.alloc (.cells #[.bool b] 4)) Tryd.prog 9 (plainElem Tryd.prog 4)
      rw [show (w.alloc (.cells #[.bool b] 4)).heap.size = w.heap.size + 1 by simp] at h
      exact h.alloc _
    · have h := heap_alloc_new ((w.alloc (.cells #[.bool b] 4)).alloc (.map #[] 0)) (.cells #[.map (some (w.heap.size + 1))] 40)
      rw [show ((w.alloc (.cells #[.bool b] 4)).alloc (.map #[] 0)).heap.size = w.heap.size + 2 by simp] at h
      exact h
  case round =>
    obtain ⟨k, hk, rfl, HI, HM, HV, HB⟩ := hrel
    have hcv : wr.cell? ⟨w.heap.size + 2, 0, none⟩ = some (.map (some (w.heap.size + 1))) := by simp [World.cell?, HV.out]
    by_cases hlt : k < n
    · obtain ⟨bb, off, rfl, hcells⟩ := C_cell (Kd.C_below HR1.out HB.out) (by rw [HN.out]; exact hlt : k < l1.length)
      have hck := hcells k (by rw [HN.out]; exact hlt)
      have hsz := small_at HS1.out (by rw [HN.out]; exact hlt : k < l1.length)
      have hsnoc : l1.take (k + 1) = l1.take k ++ [l1.getD k ByteArray.empty] := by
        rw [List.take_succ_eq_append_getElem (by rw [HN.out]; exact hlt), List.getD_eq_getElem?_getD, List.getElem?_eq_getElem (by rw [HN.out]; exact hlt)]
        rfl
      generalize l1.getD k ByteArray.empty = s at hck hsz hsnoc
      have hown : wr.ownsMap (H := Nat) Tryd.prog 9 (plainElem Tryd.prog 4) (w.heap.size + 1) k (setD (l1.take k)) := HM.out
      have hkey : keyOf Tryd.prog 9 (.string s) = some (litS s) := WideMaps.keyOf_string_mk Tryd.underlying9 (by unfold maxLen; omega : s.size ≤ maxLen)
      have HSN := Lib.hid hsnoc
      clear hcells hsnoc
      go_wp2_with (at_mapUpdate; refine wpList_mapUpdate_own _ rfl _ _ _ 40 rfl 9 4 law Tryd.underlying40 _ (w.heap.size + 1) k _ rfl hown (by unfold maxLen; omega) _ _ _ rfl rfl hkey _ [] (plainElem_bool Tryd.underlying4 true) ?_; intro w1 hown1 hgrow1; have HO := Lib.hid hown1; have HG := Lib.hid hgrow1; clear hown1 hgrow1)
      go_roundw
      case rel =>
        have hlt2 := (Array.getElem?_eq_some_iff.1 HV.out).1
        exact ⟨k + 1, by omega, by go_num, Lib.hid ((HG.out.block _ (by omega) (by simp)).trans HI.out), Lib.hid (by rw [HSN.out]; unfold SetAt; rw [← setD_snoc]; exact HO.out), Lib.hid ((HG.out.block _ hlt2 (by simp)).trans HV.out), Lib.hid (HB.out.grown HG.out HB.out.size (fun x hx => by cases hx; omega))⟩
      case measure => simp [intOf]; omega
    · obtain rfl : k = n := by omega
      have HE : Hid (Env wr w.heap.size l1 b) := by
        have hM := HM.out
        rw [show l1.take k = l1 from by rw [← HN.out, List.take_length]] at hM
        exact Lib.hid ⟨HI.out, ⟨k, hM⟩, HV.out⟩
      go_wp2_with fail
      refine (HCL.out _ HB.out).mono ?_
      rintro e w2 ⟨v2, rfl, ho2, hb2⟩
      have hE2 := HE.out.below hb2
      have ho2' : w2.ownsRow wr.heap.size 9 1 v2 l0.length (l0.map Value.string) := by rw [HM0.out]; exact ho2
      have hdel := delete_any w.heap.size l0 l1 b w2 v2 wr.heap.size HS0.out hE2 HE.out.lt ho2'
      rw [HRR.out] at hdel
      have HD := Lib.hid hdel
      have HB2 := Lib.hid hb2
      clear hdel ho2 ho2' hE2 hb2
      go_wp2_with fail
      refine HD.out.mono ?_
      rintro e w3 ⟨v3, rfl, ho3, hb3⟩
      have HO3 := Lib.hid ho3
      have HB3 := Lib.hid hb3
      clear ho3 hb3
      go_wp2_with fail
      go_ret
      have hsz := HB.out.size
      refine ⟨v3, rfl, ⟨HO3.out.1, ?_⟩, HB.out.trans ((HB2.out.trans HB3.out).mono hsz)⟩
      rcases HO3.out.2 with h | ⟨g, cap, cur, h1, h2, h3⟩
      · exact .inl h
      · exact .inr ⟨g, cap, cur, h1, by omega, h3⟩

theorem of_calls (A0 : Option Addr) (c0 : Nat) (l0 : List ByteArray) (A1 : Option Addr) (c1 : Nat) (l1 : List ByteArray) (a2 : Bool) (r : List ByteArray) (w : World) (hr0 : Kd.C Kd.string w A0 l0.length l0) (_ : l0.length ≤ c0) (hr1 : Kd.C Kd.string w A1 l1.length l1) (_ : l1.length ≤ c1) (h : ofF l0 l1 a2 = some r) :
    Calls Tryd.prog 25 #[.slice A0 l0.length c0, .slice A1 l1.length c1, .bool a2] w fun e w' => ∃ v0_ : Value, e = .returned v0_ ∧ Kd.R Kd.string 9 w' w.heap.size (fun _ => True) v0_ r ∧ Below w.heap.size w w' := by
  unfold ofF at h
  split at h
  · rename_i hs
    rw [Bool.and_eq_true] at hs
    cases h
    exact (of_any A0 c0 l0 A1 c1 l1 a2 w hr0 hr1 hs.1 hs.2).mono fun e w' ⟨v', he, ho, hb⟩ => ⟨v', he, Kd.R_of_own ho (fun _ _ => trivial), hb⟩
  · cases h
end Go.Proofs.YtnnnlbbgmdoehaaDoor.Df
