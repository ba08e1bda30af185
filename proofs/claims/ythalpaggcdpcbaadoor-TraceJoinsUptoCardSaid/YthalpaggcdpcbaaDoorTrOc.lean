/- trace.Of: its closure, slices.Clone at outputs, itself. -/
import Derived.Test.YthalpaggcdpcbaaDoorTrOb
namespace Go.Proofs.YthalpaggcdpcbaaDoor.Tr
open Go.RowKit Go.Proofs.YthalpaggcdpcbaaDoor Go.Proofs.YthalpaggcdpcbaaDoor.Nm Go.Proofs.YthalpaggcdpcbaaDoor.Cf
def ofB (k id : Int) (o : OutV) : Bool := (o.k != k) || (o.id != id)
set_option maxHeartbeats 2000000 in
theorem ofClos_any (w : World) (o : OutV) (b1 b2 : Nat) (k id : Int) (h1 : w.cell? ⟨b1, 0, none⟩ = some (.int .i64 k)) (h2 : w.cell? ⟨b2, 0, none⟩ = some (.int .i64 id)) :
    Calls Tryd.prog 40 #[outArg o, .pointer (some ⟨b1, 0, none⟩), .pointer (some ⟨b2, 0, none⟩)] w fun e w' => e = .returned (.bool (ofB k id o)) ∧ B w w' := by
  obtain ⟨ok, oi, of, od, ot⟩ := o
  have k1 := World.block_lt_of_cell? w _ h1
  have k2 := World.block_lt_of_cell? w _ h2
  simp only at k1 k2
  unfold outArg ofB
  dsimp only
  have HB := Lib.hid (B_alloc (B_refl w) (.cells #[.int .i64 ok, .int .i64 oi, .int .i64 of, .string od, .string ot] 27))
  cases hk : (ok != k) with
  | true =>
    go_enter Tryd.func40, Tryd.ntmps40
    go_wp2_with fail
    go_ret
    exact ⟨rfl, by repeat (first | with_reducible exact HB.out | refine B_drew ?_ | refine B_drewN ?_ _)⟩
  | false =>
    go_enter Tryd.func40, Tryd.ntmps40
    go_wp2_with fail
    go_ret
    exact ⟨rfl, by repeat (first | with_reducible exact HB.out | refine B_drew ?_ | refine B_drewN ?_ _)⟩
def ClonePost (w : World) (L : List OutV) (e : Ending) (w' : World) : Prop := ∃ A c, e = .returned (.slice A L.length c) ∧ Sl w' 27 5 (.slice A L.length c) L.length (L.flatMap encO) ∧ (∀ g, Value.ownBlock (.slice A L.length c) = some g → w.heap.size ≤ g) ∧ B w w'
set_option maxRecDepth 100000 in
set_option maxHeartbeats 4000000 in
theorem cloneOut_any (w : World) (A : Option Addr) (c : Nat) (L : List OutV) (hl : L.length ≤ 100000) (hz : OutsAt w A L) :
    Calls Tryd.prog 39 #[.slice A L.length c] w (ClonePost w L) := by
  obtain ⟨i0, hi, hz0, hz1, hz2⟩ := info_parts out_info
  have HZ := Lib.hid hz
  have HB0 := Lib.hid (B_refl w)
  clear hz
  cases A with
  | none =>
    have hn : L = [] := by
      match L, HZ with
      | [], _ => rfl
      | o :: r, HZ => obtain ⟨g, off, e, _⟩ := HZ.out 0 o rfl; cases e
    subst hn
    have heq : ∀ W, (binOp .eql 22 (.slice none 0 c) (.slice none 0 0)).run Tryd.prog W = .ok (.bool true) W := fun W => by
      rw [Lib.run_eql_slice_nil W 22 27 none 0 c 0 0 Tryd.underlying22]
      rfl
    dsimp only [List.length_nil]
    go_enter Tryd.func39, Tryd.ntmps39
    go_wp2_with fail
    go_ret
    exact ⟨none, 0, rfl, Sl.nil _ _ _, fun g hg => (by cases hg), by repeat (first | with_reducible exact HB0.out | refine B_drew ?_ | refine B_drewN ?_ _)⟩
  | some a =>
    have heq : ∀ W, (binOp .eql 22 (.slice (some a) L.length c) (.slice none 0 0)).run Tryd.prog W = .ok (.bool false) W := fun W => by
      rw [Lib.run_eql_slice_nil W 22 27 (some a) L.length c 0 0 Tryd.underlying22]
      rfl
    cases L with
    | nil =>
      have HE := Lib.hid (show Sl (w.alloc (.cells #[] 27)) 27 5 (.slice (some ⟨w.heap.size, 0, none⟩) 0 0) 0 [] from ⟨rfl, .inr ⟨w.heap.size, 0, 0, #[], rfl, heap_alloc_new w _, Nat.le_refl _, Nat.zero_le _, Nat.zero_le _, rfl⟩⟩)
      have HB1 := Lib.hid (B_alloc HB0.out (.cells #[] 27))
      dsimp only [List.length_nil] at heq ⊢
      go_enter Tryd.func39, Tryd.ntmps39
      go_wp2_with fail
      go_ret
      exact ⟨some ⟨w.heap.size, 0, none⟩, 0, rfl, by first | exact HE.out | exact HE.out.drew, fun g hg => (by simp [Value.ownBlock] at hg; omega), by repeat (first | with_reducible exact HB1.out | refine B_drew ?_ | refine B_drewN ?_ _)⟩
    | cons o r =>
      obtain ⟨g, off, e, _⟩ := HZ.out 0 o rfl
      injection e with e
      subst e
      generalize hL : o :: r = L at *
      have hL0 : 0 < L.length := by rw [← hL]; simp
      have HN := Lib.hid (show ∀ W, B w W → ∀ j u, (L.flatMap encO)[j]? = some u → W.cell? ((⟨g, off, none⟩ : Addr).add j) = some u from fun W hW j u hj => by
        rw [addr_add]
        have hlt := (List.getElem?_eq_some_iff.1 hj).1
        rw [encOs_len] at hlt
        obtain ⟨q, hq⟩ : ∃ q, L[j / 5]? = some q := ⟨_, List.getElem?_eq_getElem (by omega)⟩
        obtain ⟨g', off', e', c0, c1, c2, c3, c4⟩ := (HZ.out.below hW) (j / 5) q hq
        injection e' with e'
        injection e' with e1 e2
        subst e1 e2
        have hu := enc_get L (j / 5) q hq (j % 5)
        rw [show j / 5 * 5 + j % 5 = j by omega, hj] at hu
        have h5 : j % 5 < 5 := Nat.mod_lt _ (by omega)
        obtain ⟨m, hm⟩ : ∃ m, j % 5 = m := ⟨_, rfl⟩
        rw [hm] at hu h5
        rw [show off + j = off + j / 5 * 5 + m by omega]
        match m, h5 with
        | 0, _ => rw [hu _ rfl]; exact c0
        | 1, _ => rw [hu _ rfl]; exact c1
        | 2, _ => rw [hu _ rfl]; exact c2
        | 3, _ => rw [hu _ rfl]; exact c3
        | 4, _ => rw [hu _ rfl]; exact c4)
      have HE := Lib.hid (show Sl (w.alloc (.cells #[] 27)) 27 5 (.slice (some ⟨w.heap.size, 0, none⟩) 0 0) 0 [] from ⟨rfl, .inr ⟨w.heap.size, 0, 0, #[], rfl, heap_alloc_new w _, Nat.le_refl _, Nat.zero_le _, Nat.zero_le _, rfl⟩⟩)
      have HB1 := Lib.hid (B_alloc HB0.out (.cells #[] 27))
      clear hL HZ
      go_enter Tryd.func39, Tryd.ntmps39
      go_wp2_with (at_builtin; refine wpList_append_sl _ rfl (.tmp 5) (.tmp 6) 22 rfl 27 i0 _ 5 56 Tryd.underlying22 hi hz0 hz1 hz2 rfl (by decide) (.slice (some ⟨w.heap.size, 0, none⟩) 0 0) 0 [] rfl ?hs ⟨g, off, none⟩ L.length c (L.flatMap encO) rfl ?hl ?hn ?h1 ?hm ?hb ?_)
      case hs => repeat (first | with_reducible exact HE.out | refine Sl.drew ?_)
      case hl => rw [encOs_len]
      case hn => exact HN.out _ (by repeat (first | with_reducible exact HB1.out | refine B_drew ?_))
      case h1 =>
        intro u hu
        obtain ⟨q, _, hq⟩ := List.mem_flatMap.1 hu
        simp [encO] at hq
        rcases hq with rfl | rfl | rfl | rfl | rfl <;> simp [Value.oneCell']
      case hm => unfold maxLen; omega
      case hb => omega
      intro A2 c2 w7 hs7 ho7 hl7
      have HS7 := Lib.hid (show Sl w7 27 5 (.slice A2 L.length c2) L.length (L.flatMap encO) from hs7)
      have B7 := Lib.hid (show B w w7 from B_only (by repeat (first | with_reducible exact HB1.out | refine B_drew ?_)) ho7 (by intro k hk; simp [Value.ownBlock] at hk; omega))
      have HO7 := Lib.hid (lies_new hl7 (w0 := w) (by intro k hk; simp [Value.ownBlock] at hk; omega) (by simp))
      clear hs7 ho7 hl7
      go_wp2_with fail
      go_ret
      exact ⟨A2, c2, rfl, HS7.out, HO7.out, B7.out⟩
set_option maxRecDepth 100000 in
set_option maxHeartbeats 4000000 in
theorem delOut_none (w : World) (b1 b2 : Nat) (p : OutV → Bool)
    (hp : ∀ W o, B w W → Calls Tryd.prog 40 #[outArg o, .pointer (some ⟨b1, 0, none⟩), .pointer (some ⟨b2, 0, none⟩)] W fun e w' => e = .returned (.bool (p o)) ∧ B W w') :
    Calls Tryd.prog 38 #[.slice none 0 0, .func (.func 40) #[] #[.pointer (some ⟨b1, 0, none⟩), .pointer (some ⟨b2, 0, none⟩)]] w fun e w' => e = .returned (.slice none 0 0) ∧ B w w' := by
  have HI := Lib.hid (idxOut_any w none 0 [] b1 b2 p (by simp) (fun j o h => by simp at h) hp)
  rw [show fIdx p [] = -1 from rfl] at HI
  dsimp only [List.length_nil] at HI
  clear hp
  go_enter Tryd.func38, Tryd.ntmps38
  go_wp2_with fail
  refine HI.out.mono ?_
  rintro e w1 ⟨rfl, b1'⟩
  have B1 := Lib.hid b1'
  clear b1'
  go_wp2_with fail
  go_ret
  exact ⟨rfl, B1.out⟩
def OfPost (w : World) (K : List OutV) (e : Ending) (w' : World) : Prop := ∃ A c, e = .returned (.slice A K.length c) ∧ K.length ≤ c ∧ OutsAt w' A K ∧ B w w'
set_option maxRecDepth 100000 in
set_option maxHeartbeats 4000000 in
theorem of_any (w : World) (A : Option Addr) (c : Nat) (L : List OutV) (k id : Int) (hl : L.length ≤ 100000) (hz : OutsAt w A L) :
    Calls Tryd.prog 19 #[.slice A L.length c, .int .i64 k, .int .i64 id] w (OfPost w (keepO (ofB k id) L)) := by
  have HZ := Lib.hid hz
  have HK1 := Lib.hid (Blk.alloc (Blk.new w 3 #[.int .i64 k]) (.cells #[.int .i64 id] 3))
  have HK2 := Lib.hid (show Blk ((w.alloc (.cells #[.int .i64 k] 3)).alloc (.cells #[.int .i64 id] 3)) (w.heap.size + 1) 3 #[.int .i64 id] from heap_at_new _ (by simp))
  have HB0 := Lib.hid (B_alloc (B_alloc (B_refl w) (.cells #[.int .i64 k] 3)) (.cells #[.int .i64 id] 3))
  have HC := Lib.hid (fun W h => cloneOut_any W A c L hl h)
  unfold ClonePost at HC
  clear hz
  go_enter Tryd.func19, Tryd.ntmps19
  go_wp2_with fail
  refine (HC.out _ (HZ.out.below HB0.out)).mono ?_
  rintro e w1 ⟨A1, c1, rfl, hs1, ho1, b1⟩
  have hk1 := HK1.out.b b1
  have hk2 := HK2.out.b b1
  have B1 := Lib.hid (show B w w1 from B_trans HB0.out b1)
  have HCL := Lib.hid (show ∀ F : Nat → Prop, ¬ F w.heap.size → ¬ F (w.heap.size + 1) → ∀ W o, Only F w1 W → Calls Tryd.prog 40 #[outArg o, .pointer (some ⟨w.heap.size, 0, none⟩), .pointer (some ⟨w.heap.size + 1, 0, none⟩)] W fun e w' => e = .returned (.bool (ofB k id o)) ∧ B W w' from fun F f1 f2 W o h =>
    ofClos_any W o _ _ k id ((hk1.only h f1).cell 0) ((hk2.only h f2).cell 0))
  rcases hs1.2 with ⟨he, h0⟩ | ⟨g, off, cap, cur, he, hg, _⟩
  · injection he with ha hb hc
    subst ha hc
    have HD := Lib.hid (delOut_none w1 w.heap.size (w.heap.size + 1) (ofB k id) (fun W o h => HCL.out (fun _ => False) (fun h => h) (fun h => h) W o (Only.of_B h)))
    have HE := Lib.hid (show L = [] from List.eq_nil_of_length_eq_zero h0)
    rw [h0]
    clear hs1 ho1 b1 hk1 hk2 HCL h0 hb
    go_wp2_with fail
    refine HD.out.mono ?_
    rintro e w2 ⟨rfl, b2⟩
    have B2 := Lib.hid (show B w w2 from B_trans (by repeat (first | with_reducible exact B1.out | refine B_drew ?_ | refine B_drewN ?_ _)) b2)
    clear b2
    go_wp2_with fail
    go_ret
    rw [HE.out]
    exact ⟨none, 0, rfl, Nat.le_refl _, fun j o h => by simp [keepO] at h, B2.out⟩
  · injection he with ha hb hc
    subst ha hc
    have hgs : w.heap.size + 2 ≤ g := by have := ho1 g rfl; simpa using this
    have HD := Lib.hid (delOut_any w1 g off L.length c1 L w.heap.size (w.heap.size + 1) (ofB k id) rfl hl hs1 (fun W o h => HCL.out (fun i => i = g) (by omega) (by omega) W o h))
    have hcl := sl_capO hs1
    unfold DelPost at HD
    have hkl : (keepO (ofB k id) L).length ≤ c1 := Nat.le_trans (List.length_filter_le _ _) hcl
    generalize keepO (ofB k id) L = K at *
    clear hs1 ho1 b1 hk1 hk2 HCL hb hg
    go_wp2_with fail
    refine HD.out.mono ?_
    rintro e w2 ⟨rfl, hs2, ho2⟩
    have B2 := Lib.hid (show B w w2 from ((Only.of_B (F := fun _ => False) B1.out).trans_new ho2 (fun i hi he => by omega)).to_B fun _ _ h => h)
    have HO2 := Lib.hid (outs_of_Sl hs2 rfl)
    clear hs2 ho2 HD
    go_wp2_with fail
    go_ret
    exact ⟨_, c1, rfl, hkl, HO2.out, B2.out⟩
end Go.Proofs.YthalpaggcdpcbaaDoor.Tr
