/- trace.Unescape. -/
import Derived.Test.YthalpaggcdpcbaaDoorTrF
namespace Go.Proofs.YthalpaggcdpcbaaDoor.Tr
open Go.RowKit Go.Proofs.YthalpaggcdpcbaaDoor Go.Proofs.YthalpaggcdpcbaaDoor.Nm Go.Proofs.YthalpaggcdpcbaaDoor.Cf
def unescV (s : ByteArray) : ByteArray × Int := match unescL s.data.toList with
  | some o => (bs o, 0)
  | none => (⟨#[]⟩, 2)
theorem unescV_some {s : ByteArray} {o : List UInt8} (h : unescL s.data.toList = some o) : unescV s = (bs o, 0) := by unfold unescV; rw [h]
theorem unescV_none {s : ByteArray} (h : unescL s.data.toList = none) : unescV s = (⟨#[]⟩, 2) := by unfold unescV; rw [h]
def UnPost (s : ByteArray) (w : World) (e : Ending) (w' : World) : Prop := e = .returned (.tuple #[.string (unescV s).1, .int .i64 (unescV s).2]) ∧ Below w.heap.size w w'
theorem or_facts : ∀ a b : Fin 16, bits .or .i64 ((a.val : Int) * 16) (b.val : Int) = (a.val : Int) * 16 + (b.val : Int) := by decide +kernel
theorem idx_run (l : List UInt8) (j : Nat) (hj : j < l.length) (W : World) : (Instr.index 9 (.string (bs l)) (.int .i64 (j : Int))).run Tryd.prog W = .ok (.int .u8 ((l[j]'hj).toNat : Int)) W := by
  have hs : (bs l).size = l.length := bs_size l
  have hj2 : j < (bs l).size := by omega
  rw [run_index_string W 9 (bs l) .i64 j Tryd.underlying9, dif_pos ⟨by omega, by omega⟩]
  have e : (bs l)[j]'hj2 = l[j]'hj := by
    show (bs l).data[j]'hj2 = _
    simp [bs]
  simp only [Int.toNat_natCast]
  rw [e]
theorem cut_run (l : List UInt8) (j : Nat) (hj : j ≤ l.length) (W : World) : (Instr.slice 9 (.string (bs l)) (some (.int .i64 (j : Int))) none none).run Tryd.prog W = .ok (.string (bs (l.drop j))) W := by
  have hs : (bs l).size = l.length := bs_size l
  rw [run_slice_string_l (w := W) (ht := Tryd.underlying9) (kl := .i64) (l := (j : Int)) (h0 := by omega) (h1 := by omega)]
  have e : (bs l).extract j (bs l).size = bs (l.drop j) := by
    refine (of_bs _).symm.trans ?_
    congr 1
    rw [ByteArray.data_extract, Array.toList_extract, List.extract_eq_take_drop, show (bs l).data.toList = l from bs_list l, hs]
    exact List.take_of_length_le (by rw [List.length_drop]; omega)
  rw [Int.toNat_natCast, e]
theorem bx_only {w w2 : World} (ho : OB (w.heap.size + 1) w.heap.size (w.alloc (.cells #[.pointer none, .slice none 0 0] TB)) w2) : Below w.heap.size w w2 :=
  ((Only.of_B (F := fun _ => False) (B_alloc (B_refl w) _)).trans_new ho fun i hi he => by omega).to_B fun _ _ h => h
theorem map_map_app (o : Option (List UInt8)) (d e : List UInt8) : (o.map (e ++ ·)).map (d ++ ·) = o.map ((d ++ e) ++ ·) := by
  cases o with
  | none => rfl
  | some x => simp
/-- A sign's place. -/
theorem hexI_any (c : UInt8) (w : World) : Calls Tryd.prog 37 #[.string signsS, .int .u8 (c.toNat : Int)] w fun e w' => e = .returned (.int .i64 (hexI c)) ∧ w' = w := by
  refine (Tryd.strings_IndexByte signsS (c.toNat : Int) w).mono ?_
  rintro e w' ⟨rfl, rfl⟩
  refine ⟨?_, rfl⟩
  rw [Int.toNat_natCast, show c.toNat.toUInt8 = c from UInt8.ofNat_toNat]
  rfl
def szOf (v : Value) : Nat := (strOf v).size
set_option maxRecDepth 100000 in
set_option maxHeartbeats 4000000 in
theorem unescape_any (s : ByteArray) (hs : s.size ≤ 1000000) (w : World) : Calls Tryd.prog 18 #[.string s] w (UnPost s w) := by
  have HBX := Lib.hid (BX.new w (w.heap.size + 1))
  have hs0 : s = bs s.data.toList := (of_bs s).symm
  have hsl : s.data.toList.length = s.size := by simp
  have HVS := Lib.hid (fun o => unescV_some (s := s) (o := o))
  have HVN := Lib.hid (unescV_none (s := s))
  obtain ⟨V, hV⟩ : ∃ V, unescV s = V := ⟨_, rfl⟩
  unfold UnPost
  rw [hV] at HVS HVN ⊢
  obtain ⟨S, hS⟩ : ∃ S, s.data.toList = S := ⟨_, rfl⟩
  rw [hS] at HVS HVN hs0 hsl
  clear hV hS
  subst hs0
  have HSL := Lib.hid hsl
  clear hsl
  go_enter Tryd.func18, Tryd.ntmps18
  go_wp2_with fail
  go_loopw [0] (fun sv wr => ∃ (r d : List UInt8), sv = .string (bs r) ∧ d.length + r.length ≤ S.length ∧ BX wr (w.heap.size + 1) w.heap.size d ∧ OB (w.heap.size + 1) w.heap.size (w.alloc (.cells #[.pointer none, .slice none 0 0] TB)) wr ∧ Hid (unescL S = (unescL r).map (d ++ ·))) (fun sv _ => szOf sv)
  case atStart => exact ⟨S, [], rfl, by simp, HBX.out, Only.refl _ _, Lib.hid (by cases unescL S <;> simp)⟩
  case round =>
    obtain ⟨r, d, rfl, hlen, hbx, hob, hun⟩ := hrel
    have HX := Lib.hid hbx
    have HO := Lib.hid hob
    have hwr : w.heap.size + 1 ≤ wr.heap.size := by have := hob.size; simpa using this
    have hd1 : d.length ≤ 1000000 := by have := HSL.out; omega
    clear hbx hob
    have HBW := Lib.hid (bx_only HO.out)
    cases r with
    | nil =>
      have HV0 := Lib.hid (HVS.out d (by rw [hun.out]; simp [unescL]))
      have HST := Lib.hid (Tryd.Builder_String_any w.heap.size w.heap.size d wr (HX.out.is (by omega) (Nat.le_refl _)) (by omega))
      have hz : ((bs ([] : List UInt8)).size : Int) = 0 := rfl
      generalize bs ([] : List UInt8) = Sr at *
      clear hun
      go_wp2_with fail
      refine HST.out.mono ?_
      rintro e w5 ⟨rfl, b5⟩
      have B5 := Lib.hid (HBW.out.trans b5)
      clear b5
      go_wp2_with fail
      go_ret2
      exact ⟨by rw [HV0.out]; rfl, B5.out⟩
    | cons c t =>
      have hsz : ((bs (c :: t)).size : Int) = (t.length : Int) + 1 := by rw [bs_size]; simp
      have hszn : szOf (.string (bs (c :: t))) = t.length + 1 := by show (bs (c :: t)).size = _; rw [bs_size]; simp
      have hp : (0 : Int) < ((bs (c :: t)).size : Int) := by omega
      have i0 : ∀ W, (Instr.index 9 (.string (bs (c :: t))) (.int .i64 0)).run Tryd.prog W = .ok (.int .u8 (c.toNat : Int)) W := fun W => idx_run (c :: t) 0 (by simp) W
      have sl1 : ∀ W, (Instr.slice 9 (.string (bs (c :: t))) (some (.int .i64 1)) none none).run Tryd.prog W = .ok (.string (bs t)) W := fun W => cut_run (c :: t) 1 (by simp) W
      simp only [List.length_cons] at hlen
      have HP := Lib.hid (fun W => plain_any c W)
      cases hpl : plainB c with
      | true =>
        rw [hpl] at HP
        have HUN := Lib.hid (show unescL S = (unescL t).map ((d ++ [c]) ++ ·) by rw [hun.out, unesc_plain hpl, show (c :: · : List UInt8 → List UInt8) = ([c] ++ ·) from rfl, map_map_app])
        have HW := Lib.hid (writeByte_any c wr HX.out (by omega) hwr)
        have HSZ := Lib.hid hszn
        have htz : szOf (.string (bs t)) = t.length := bs_size t
        have HTZ := Lib.hid htz
        generalize bs (c :: t) = Sr at *
        clear hun hpl hszn htz
        go_wp2_with fail
        refine (HP.out _).mono ?_
        rintro e w2 ⟨rfl, rfl⟩
        go_wp2_with fail
        refine HW.out.mono ?_
        rintro e w3 ⟨rfl, hx3, ho3⟩
        have HX3 := Lib.hid hx3
        have HO3 := Lib.hid (HO.out.trans ho3)
        clear hx3 ho3
        go_wp2_with fail
        go_roundw
        case rel => exact ⟨t, d ++ [c], rfl, by simp; omega, HX3.out, HO3.out, HUN⟩
        case measure => rw [HSZ.out, HTZ.out]; omega
      | false =>
        rw [hpl] at HP
        by_cases h92 : c = 92
        · subst h92
          have hc92 : ((((92 : UInt8).toNat : Nat) : Int) != 92) = false := by decide
          match t, hlen, hsz, hszn, hp, i0, sl1 with
          | [], hlen, hsz, hszn, hp, i0, sl1 =>
            have HV0 := Lib.hid (HVN.out (by rw [hun.out, unesc_short hpl (by simp)]; rfl))
            have hl3 : ((bs [92]).size : Int) < 3 := by rw [hsz]; simp
            generalize bs [92] = Sr at *
            generalize ((92 : UInt8).toNat : Int) = cn at *
            clear hun hpl
            go_wp2_with fail
            refine (HP.out _).mono ?_
            rintro e w2 ⟨rfl, rfl⟩
            go_wp2_with fail
            go_ret2
            exact ⟨by rw [HV0.out]; rfl, HBW.out⟩
          | [y], hlen, hsz, hszn, hp, i0, sl1 =>
            have HV0 := Lib.hid (HVN.out (by rw [hun.out, unesc_short hpl (by simp)]; rfl))
            have hl3 : ((bs [92, y]).size : Int) < 3 := by rw [hsz]; simp
            generalize bs [92, y] = Sr at *
            generalize ((92 : UInt8).toNat : Int) = cn at *
            clear hun hpl
            go_wp2_with fail
            refine (HP.out _).mono ?_
            rintro e w2 ⟨rfl, rfl⟩
            go_wp2_with fail
            go_ret2
            exact ⟨by rw [HV0.out]; rfl, HBW.out⟩
          | h :: l :: t', hlen, hsz, hszn, hp, i0, sl1 =>
            have hl3 : ¬ ((bs (92 :: h :: l :: t')).size : Int) < 3 := by rw [hsz]; simp; omega
            have hl1 : (1 : Int) < ((bs (92 :: h :: l :: t')).size : Int) := by omega
            have hl2 : (2 : Int) < ((bs (92 :: h :: l :: t')).size : Int) := by omega
            have i1 : ∀ W, (Instr.index 9 (.string (bs (92 :: h :: l :: t'))) (.int .i64 1)).run Tryd.prog W = .ok (.int .u8 (h.toNat : Int)) W := fun W => idx_run (92 :: h :: l :: t') 1 (by simp) W
            have i2 : ∀ W, (Instr.index 9 (.string (bs (92 :: h :: l :: t'))) (.int .i64 2)).run Tryd.prog W = .ok (.int .u8 (l.toNat : Int)) W := fun W => idx_run (92 :: h :: l :: t') 2 (by simp) W
            have sl3 : ∀ W, (Instr.slice 9 (.string (bs (92 :: h :: l :: t'))) (some (.int .i64 3)) none none).run Tryd.prog W = .ok (.string (bs t')) W := fun W => cut_run (92 :: h :: l :: t') 3 (by simp) W
            have HIH := Lib.hid (fun W => hexI_any h W)
            have HIL := Lib.hid (fun W => hexI_any l W)
            unfold signsS at HIH HIL
            have HSZ := Lib.hid hszn
            have htz : szOf (.string (bs t')) = t'.length := bs_size t'
            have HTZ := Lib.hid htz
            simp only [List.length_cons] at hlen
            generalize bs (92 :: h :: l :: t') = Sr at *
            generalize ((92 : UInt8).toNat : Int) = cn at *
            clear hszn htz
            by_cases hh : hexI h < 0
            · have HV0 := Lib.hid (HVN.out (by rw [hun.out, unesc_bad t' hpl (by unfold tripB; rw [decide_eq_false (p := 0 ≤ hexI h) (by omega)]; simp)]; rfl))
              generalize hexI h = a at *
              generalize hexI l = b at *
              clear hun hpl
              go_wp2_with fail
              refine (HP.out _).mono ?_
              rintro e w2 ⟨rfl, rfl⟩
              go_wp2_with fail
              go_quiet (first | (go_at_call 37; with_reducible exact Calls.quiet_of_same (HIH.out _)) | (go_at_call 37; with_reducible exact Calls.quiet_of_same (HIL.out _)))
              go_wp2_with fail
              go_ret2
              exact ⟨by rw [HV0.out]; rfl, by first | exact HBW.out | exact below_drewN' HBW.out _⟩
            · by_cases hl : hexI l < 0
              · have HV0 := Lib.hid (HVN.out (by rw [hun.out, unesc_bad t' hpl (by unfold tripB; rw [decide_eq_false (p := 0 ≤ hexI l) (by omega)]; simp)]; rfl))
                generalize hexI h = a at *
                generalize hexI l = b at *
                clear hun hpl
                go_wp2_with fail
                refine (HP.out _).mono ?_
                rintro e w2 ⟨rfl, rfl⟩
                go_wp2_with fail
                go_quiet (first | (go_at_call 37; with_reducible exact Calls.quiet_of_same (HIH.out _)) | (go_at_call 37; with_reducible exact Calls.quiet_of_same (HIL.out _)))
                go_wp2_with fail
                go_ret2
                exact ⟨by rw [HV0.out]; rfl, by first | exact HBW.out | exact below_drewN' HBW.out _⟩
              · have k1 := hexI_back (c := h) (by omega)
                have k2 := hexI_back (c := l) (by omega)
                obtain ⟨a, ha⟩ : ∃ a : Nat, hexI h = (a : Int) := ⟨(hexI h).toNat, by omega⟩
                obtain ⟨b, hb⟩ : ∃ b : Nat, hexI l = (b : Int) := ⟨(hexI l).toNat, by omega⟩
                have ha16 : a < 16 := by have := k1.2; omega
                have hb16 : b < 16 := by have := k2.2; omega
                have hx : ((byteOf h l).toNat : Int) = (a : Int) * 16 + (b : Int) := by
                  unfold byteOf
                  rw [ha, hb, UInt8.toNat_ofNat_of_lt' (by show _ < 256; simp; omega)]
                  simp
                have u1 : IntKind.i64.wrap ((a : Int) * 16) = (a : Int) * 16 := IntWalk.i64_in _ (by omega)
                have u2 : bits .or .i64 ((a : Int) * 16) (b : Int) = (a : Int) * 16 + (b : Int) := or_facts ⟨a, ha16⟩ ⟨b, hb16⟩
                have u3 : IntKind.u8.wrap ((a : Int) * 16 + (b : Int)) = (a : Int) * 16 + (b : Int) := wrap_u8 (by omega) (by omega)
                have HPX := Lib.hid (fun W => plain_any (byteOf h l) W)
                rw [hx] at HPX
                have ht : tripB 92 h l = !plainB (byteOf h l) := by unfold tripB; rw [decide_eq_true (p := 0 ≤ hexI h) (by omega), decide_eq_true (p := 0 ≤ hexI l) (by omega)]; simp
                have hnl : ¬ (a : Int) < 0 := by omega
                have hnl2 : ¬ (b : Int) < 0 := by omega
                cases hpb : plainB (byteOf h l) with
                | true =>
                  have HV0 := Lib.hid (HVN.out (by rw [hun.out, unesc_bad t' hpl (by rw [ht, hpb]; rfl)]; rfl))
                  rw [hpb] at HPX
                  rw [ha] at HIH
                  rw [hb] at HIL
                  clear hun hpl ht hpb k1 k2 ha hb hh hl hx
                  go_wp2_with fail
                  refine (HP.out _).mono ?_
                  rintro e w2 ⟨rfl, rfl⟩
                  go_wp2_with fail
                  go_quiet (first | (go_at_call 37; with_reducible exact Calls.quiet_of_same (HIH.out _)) | (go_at_call 37; with_reducible exact Calls.quiet_of_same (HIL.out _)))
                  go_wp2_with fail
                  refine (HPX.out _).mono ?_
                  rintro e w3 ⟨rfl, rfl⟩
                  go_wp2_with fail
                  go_ret2
                  exact ⟨by rw [HV0.out]; rfl, by first | exact HBW.out | exact below_drewN' HBW.out _⟩
                | false =>
                  have HUN := Lib.hid (show unescL S = (unescL t').map ((d ++ [byteOf h l]) ++ ·) by rw [hun.out, unesc_three t' hpl (by rw [ht, hpb]; rfl), show (byteOf h l :: · : List UInt8 → List UInt8) = ([byteOf h l] ++ ·) from rfl, map_map_app])
                  rw [hpb] at HPX
                  rw [ha] at HIH
                  rw [hb] at HIL
                  have HW := Lib.hid (fun W h1 h2 => writeByte_any (B := w.heap.size + 1) (b := w.heap.size) (bs := d) (byteOf h l) W h1 (by omega) h2)
                  rw [hx] at HW
                  clear hun hpl ht hpb k1 k2 ha hb hh hl hx
                  go_wp2_with fail
                  refine (HP.out _).mono ?_
                  rintro e w2 ⟨rfl, rfl⟩
                  go_wp2_with fail
                  go_quiet (first | (go_at_call 37; with_reducible exact Calls.quiet_of_same (HIH.out _)) | (go_at_call 37; with_reducible exact Calls.quiet_of_same (HIL.out _)))
                  go_wp2_with fail
                  refine (HPX.out _).mono ?_
                  rintro e w3 ⟨rfl, rfl⟩
                  go_wp2_with fail
                  refine (HW.out _ (HX.out.drewN _) (by exact hwr)).mono ?_
                  rintro e w4 ⟨rfl, hx3, ho3⟩
                  have HX3 := Lib.hid hx3
                  have HO3 := Lib.hid (HO.out.trans (Only.trans (Only.drewN (Only.refl _ _) _) ho3))
                  clear hx3 ho3
                  go_wp2_with fail
                  go_roundw
                  case rel => exact ⟨t', d ++ [byteOf h l], rfl, by simp; omega, HX3.out, HO3.out, HUN⟩
                  case measure => rw [HSZ.out, HTZ.out]; simp; omega
        · have hc92 : ((c.toNat : Int) != 92) = true := by
            rw [bne_iff_ne]
            intro e
            exact h92 (UInt8.toNat_inj.1 (by show c.toNat = 92; omega))
          have hnone : unescL (c :: t) = none := by
            match t with
            | [] => exact unesc_short hpl (by simp)
            | [y] => exact unesc_short hpl (by simp)
            | h :: l :: t' => exact unesc_bad t' hpl (by unfold tripB; rw [decide_eq_false h92]; rfl)
          have HV0 := Lib.hid (HVN.out (by rw [hun.out, hnone]; rfl))
          generalize bs (c :: t) = Sr at *
          clear hun hpl hnone
          go_wp2_with fail
          refine (HP.out _).mono ?_
          rintro e w2 ⟨rfl, rfl⟩
          go_wp2_with fail
          go_ret2
          exact ⟨by rw [HV0.out]; rfl, HBW.out⟩
end Go.Proofs.YthalpaggcdpcbaaDoor.Tr
