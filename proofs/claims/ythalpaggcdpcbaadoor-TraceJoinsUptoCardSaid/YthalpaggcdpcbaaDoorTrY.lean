/- The reference's Line. -/
import Derived.Test.YthalpaggcdpcbaaDoorTrU
import Derived.Test.YthalpaggcdpcbaaDoorTrX
namespace Go.Proofs.YthalpaggcdpcbaaDoor.Tr
open Go.RowKit Go.Proofs.YthalpaggcdpcbaaDoor Go.Proofs.YthalpaggcdpcbaaDoor.Nm Go.Proofs.YthalpaggcdpcbaaDoor.Cf
attribute [local go_sem ↓ high] exec_cat
attribute [local go_sem] strOf_str
attribute [local go_sem ↓ high] exec_cat_k exec_cat_l
theorem two_cat (y e : List UInt8) : (bs y ++ bs [32]) ++ bs e = bs (y ++ 32 :: e) := by rw [bs_append, bs_append]; simp
theorem id_cat (y i : List UInt8) : bs y ++ (bs [32] ++ bs i) = bs (y ++ 32 :: i) := by rw [bs_append, bs_append]; simp
theorem dial_cat (y i t : List UInt8) : ((bs y ++ (bs [32] ++ bs i)) ++ bs [32]) ++ bs t = bs (y ++ 32 :: (i ++ 32 :: t)) := by rw [bs_append, bs_append, bs_append, bs_append]; simp
theorem name_cat (y i f : List UInt8) : (bs y ++ (bs [32] ++ bs i)) ++ (bs [32] ++ bs f) = bs (y ++ 32 :: (i ++ 32 :: f)) := by rw [bs_append, bs_append, bs_append, bs_append]; simp
theorem frame_cat (y i f t : List UInt8) : ((bs y ++ (bs [32] ++ bs i)) ++ (bs [32] ++ bs f)) ++ (bs [32] ++ bs t) = bs (y ++ 32 :: (i ++ 32 :: (f ++ 32 :: t))) := by rw [bs_append, bs_append, bs_append, bs_append, bs_append, bs_append]; simp
theorem dial_cat' (y i : List UInt8) (t : ByteArray) : ((bs y ++ (bs [32] ++ bs i)) ++ bs [32]) ++ t = bs (y ++ 32 :: (i ++ 32 :: t.data.toList)) := by
  have := dial_cat y i t.data.toList
  rwa [of_bs] at this
theorem name_cat' (y i : List UInt8) (f : ByteArray) : (bs y ++ (bs [32] ++ bs i)) ++ (bs [32] ++ f) = bs (y ++ 32 :: (i ++ 32 :: f.data.toList)) := by
  have := name_cat y i f.data.toList
  rwa [of_bs] at this
theorem frame_cat' (y i : List UInt8) (f : ByteArray) (t : List UInt8) : ((bs y ++ (bs [32] ++ bs i)) ++ (bs [32] ++ f)) ++ (bs [32] ++ bs t) = bs (y ++ 32 :: (i ++ 32 :: (f.data.toList ++ 32 :: t))) := by
  have := frame_cat y i f.data.toList t
  rwa [of_bs] at this
theorem refline_not (o : OutV) (ht : o.text.size ≤ 1000) (h : rightV o = false) (w : World) : Calls Tryd.prog 12 #[outArg o] w (LinePost o w) := by
  have HR := Lib.hid (refright_any o (by omega))
  rw [h] at HR
  unfold RefIs at HR
  unfold LinePost
  rw [lineV_no h]
  clear h ht
  unfold outArg at *
  have HB0 := Lib.hid (B_alloc (B_refl w) (.cells #[.int .i64 o.k, .int .i64 o.id, .int .i64 o.fk, .string o.data, .string o.text] 27))
  go_enter Tryd.func12, Tryd.ntmps12
  go_wp2_with fail
  refine (HR.out _).mono ?_
  rintro e w1 ⟨rfl, b1⟩
  have B1 := Lib.hid (B_trans HB0.out b1)
  clear b1
  go_wp2_with fail
  go_ret2
  exact ⟨rfl, B1.out⟩
set_option maxRecDepth 100000 in
set_option maxHeartbeats 2000000 in
theorem refline_5 (id fk : Int) (data text : ByteArray) (ht : text.size ≤ 1000) (h : rightV ⟨5, id, fk, data, text⟩ = true) (w : World) : Calls Tryd.prog 12 #[outArg ⟨5, id, fk, data, text⟩] w (LinePost ⟨5, id, fk, data, text⟩ w) := by
  have HR := Lib.hid (refright_any ⟨5, id, fk, data, text⟩ (by simp only; omega))
  rw [h] at HR
  unfold RefIs outArg at HR
  have HE := Lib.hid (fun W => refescape_any text (by omega) W)
  have hev := escV_size ht
  have HEV := Lib.hid (show (⟨#[116, 111, 108, 100]⟩ ++ ⟨#[32]⟩) ++ escV text = (lineV ⟨5, id, fk, data, text⟩).1 from (two_cat (wordT 5) (escL text.data.toList)).trans (by rw [lineV_yes h]; rfl))
  have HL2 := Lib.hid (show (lineV ⟨5, id, fk, data, text⟩).2 = 0 by rw [lineV_yes h])
  unfold LinePost outArg
  rw [HL2.out, ← HEV.out]
  generalize escV text = ev at *
  clear h ht
  dsimp only at HR ⊢
  have z1 : catOk ⟨#[116, 111, 108, 100]⟩ ⟨#[32]⟩ := by unfold catOk; decide
  have z2 : catOk (⟨#[116, 111, 108, 100]⟩ ++ ⟨#[32]⟩) ev := by unfold catOk; rw [show (⟨#[116, 111, 108, 100]⟩ ++ ⟨#[32]⟩ : ByteArray).size = 5 from rfl]; omega
  have HB0 := Lib.hid (B_alloc (B_refl w) (.cells #[.int .i64 (5), .int .i64 (id), .int .i64 (fk), .string (data), .string (text)] 27))
  have HK0 := Lib.hid (Blk.new w 27 #[.int .i64 (5), .int .i64 (id), .int .i64 (fk), .string (data), .string (text)])
  go_enter Tryd.func12, Tryd.ntmps12
  go_wp2_with fail
  refine (HR.out _).mono ?_
  rintro e w1 ⟨rfl, b1⟩
  have B1 := Lib.hid (show B w w1 from B_trans HB0.out b1)
  have HK1 := Lib.hid (HK0.out.b b1)
  have hk1 := HK1.out
  have d0 := hk1.cell 0
  have d1 := hk1.cell 1
  have d2 := hk1.cell 2
  have d3 := hk1.cell 3
  have d4 := hk1.cell 4
  have hql := hk1.lt
  simp at d0 d1 d2 d3 d4
  clear b1 HK0 HB0 hk1 HR
  go_wp2_with fail
  refine (HE.out _).mono ?_
  rintro e w2 ⟨rfl, b2⟩
  have B2 := Lib.hid (show B w w2 from B_trans (by repeat (first | with_reducible exact B1.out | refine B_alloc ?_ _ | refine B_drew ?_ | refine B_drewN ?_ _)) b2)
  have HK2 := Lib.hid (show Blk w2 w.heap.size 27 #[.int .i64 5, .int .i64 id, .int .i64 fk, .string data, .string text] from Blk.b (show Blk _ w.heap.size 27 #[.int .i64 5, .int .i64 id, .int .i64 fk, .string data, .string text] by repeat (first | with_reducible exact HK1.out | refine Blk.alloc ?_ _ | refine Blk.drew ?_ | refine Blk.drewN ?_ _)) b2)
  clear b2 HK1 B1 d0 d1 d2 d3 d4 hql
  have hk1 := HK2.out
  have d0 := hk1.cell 0
  have d1 := hk1.cell 1
  have d2 := hk1.cell 2
  have d3 := hk1.cell 3
  have d4 := hk1.cell 4
  have hql := hk1.lt
  simp at d0 d1 d2 d3 d4
  clear hk1
  go_wp2_with fail
  go_ret2
  exact ⟨rfl, by repeat (first | with_reducible exact B2.out | refine B_drew ?_ | refine B_drewN ?_ _)⟩
set_option maxRecDepth 100000 in
set_option maxHeartbeats 2000000 in
theorem refline_6 (id fk : Int) (data text : ByteArray) (ht : text.size ≤ 1000) (h : rightV ⟨6, id, fk, data, text⟩ = true) (w : World) : Calls Tryd.prog 12 #[outArg ⟨6, id, fk, data, text⟩] w (LinePost ⟨6, id, fk, data, text⟩ w) := by
  have HR := Lib.hid (refright_any ⟨6, id, fk, data, text⟩ (by simp only; omega))
  rw [h] at HR
  unfold RefIs outArg at HR
  have HE := Lib.hid (fun W => refescape_any text (by omega) W)
  have hev := escV_size ht
  have HEV := Lib.hid (show (⟨#[110, 111, 116, 101]⟩ ++ ⟨#[32]⟩) ++ escV text = (lineV ⟨6, id, fk, data, text⟩).1 from (two_cat (wordT 6) (escL text.data.toList)).trans (by rw [lineV_yes h]; rfl))
  have HL2 := Lib.hid (show (lineV ⟨6, id, fk, data, text⟩).2 = 0 by rw [lineV_yes h])
  unfold LinePost outArg
  rw [HL2.out, ← HEV.out]
  generalize escV text = ev at *
  clear h ht
  dsimp only at HR ⊢
  have z1 : catOk ⟨#[110, 111, 116, 101]⟩ ⟨#[32]⟩ := by unfold catOk; decide
  have z2 : catOk (⟨#[110, 111, 116, 101]⟩ ++ ⟨#[32]⟩) ev := by unfold catOk; rw [show (⟨#[110, 111, 116, 101]⟩ ++ ⟨#[32]⟩ : ByteArray).size = 5 from rfl]; omega
  have HB0 := Lib.hid (B_alloc (B_refl w) (.cells #[.int .i64 (6), .int .i64 (id), .int .i64 (fk), .string (data), .string (text)] 27))
  have HK0 := Lib.hid (Blk.new w 27 #[.int .i64 (6), .int .i64 (id), .int .i64 (fk), .string (data), .string (text)])
  go_enter Tryd.func12, Tryd.ntmps12
  go_wp2_with fail
  refine (HR.out _).mono ?_
  rintro e w1 ⟨rfl, b1⟩
  have B1 := Lib.hid (show B w w1 from B_trans HB0.out b1)
  have HK1 := Lib.hid (HK0.out.b b1)
  have hk1 := HK1.out
  have d0 := hk1.cell 0
  have d1 := hk1.cell 1
  have d2 := hk1.cell 2
  have d3 := hk1.cell 3
  have d4 := hk1.cell 4
  have hql := hk1.lt
  simp at d0 d1 d2 d3 d4
  clear b1 HK0 HB0 hk1 HR
  go_wp2_with fail
  refine (HE.out _).mono ?_
  rintro e w2 ⟨rfl, b2⟩
  have B2 := Lib.hid (show B w w2 from B_trans (by repeat (first | with_reducible exact B1.out | refine B_alloc ?_ _ | refine B_drew ?_ | refine B_drewN ?_ _)) b2)
  have HK2 := Lib.hid (show Blk w2 w.heap.size 27 #[.int .i64 6, .int .i64 id, .int .i64 fk, .string data, .string text] from Blk.b (show Blk _ w.heap.size 27 #[.int .i64 6, .int .i64 id, .int .i64 fk, .string data, .string text] by repeat (first | with_reducible exact HK1.out | refine Blk.alloc ?_ _ | refine Blk.drew ?_ | refine Blk.drewN ?_ _)) b2)
  clear b2 HK1 B1 d0 d1 d2 d3 d4 hql
  have hk1 := HK2.out
  have d0 := hk1.cell 0
  have d1 := hk1.cell 1
  have d2 := hk1.cell 2
  have d3 := hk1.cell 3
  have d4 := hk1.cell 4
  have hql := hk1.lt
  simp at d0 d1 d2 d3 d4
  clear hk1
  go_wp2_with fail
  go_ret2
  exact ⟨rfl, by repeat (first | with_reducible exact B2.out | refine B_drew ?_ | refine B_drewN ?_ _)⟩
set_option maxRecDepth 100000 in
set_option maxHeartbeats 2000000 in
theorem refline_2 (id fk : Int) (data text : ByteArray) (ht : text.size ≤ 1000) (ht2 : text.size ≤ 1000) (hid : 0 < id ∧ id ≤ 999999999) (h : rightV ⟨2, id, fk, data, text⟩ = true) (w : World) : Calls Tryd.prog 12 #[outArg ⟨2, id, fk, data, text⟩] w (LinePost ⟨2, id, fk, data, text⟩ w) := by
  have HR := Lib.hid (refright_any ⟨2, id, fk, data, text⟩ (by simp only; omega))
  rw [h] at HR
  unfold RefIs outArg at HR
  have hw : (Lit.int .i64 id).wf = true := wf_of (by omega)
  have HD := Lib.hid (fun W => digits_any id hw W)
  unfold DigPost at HD
  have hiv : (bs (Lib.itoa id)).size ≤ 100 := by rw [bs_size]; exact itoa_len hw
  have HEV := Lib.hid (show ((⟨#[100, 105, 97, 108]⟩ ++ (⟨#[32]⟩ ++ bs (Lib.itoa id))) ++ ⟨#[32]⟩) ++ text = (lineV ⟨2, id, fk, data, text⟩).1 from (dial_cat' (wordT 2) (Lib.itoa id) text).trans (by rw [lineV_yes h]; rfl))
  have HL2 := Lib.hid (show (lineV ⟨2, id, fk, data, text⟩).2 = 0 by rw [lineV_yes h])
  unfold LinePost outArg
  rw [HL2.out]
  rw [← HEV.out]
  generalize bs (Lib.itoa id) = iv at *
  clear h hw
  dsimp only at HR ⊢



  have z1 : catOk ⟨#[32]⟩ iv := by unfold catOk; rw [show (⟨#[32]⟩ : ByteArray).size = 1 from rfl]; omega
  have z2 : catOk ⟨#[100, 105, 97, 108]⟩ (⟨#[32]⟩ ++ iv) := by unfold catOk; rw [ByteArray.size_append, show (⟨#[100, 105, 97, 108]⟩ : ByteArray).size = 4 from rfl, show (⟨#[32]⟩ : ByteArray).size = 1 from rfl]; omega
  have z3 : catOk (⟨#[100, 105, 97, 108]⟩ ++ (⟨#[32]⟩ ++ iv)) ⟨#[32]⟩ := by unfold catOk; rw [ByteArray.size_append, ByteArray.size_append, show (⟨#[100, 105, 97, 108]⟩ : ByteArray).size = 4 from rfl, show (⟨#[32]⟩ : ByteArray).size = 1 from rfl]; omega
  have z4 : catOk ((⟨#[100, 105, 97, 108]⟩ ++ (⟨#[32]⟩ ++ iv)) ++ ⟨#[32]⟩) text := by unfold catOk; rw [ByteArray.size_append, ByteArray.size_append, ByteArray.size_append, show (⟨#[100, 105, 97, 108]⟩ : ByteArray).size = 4 from rfl, show (⟨#[32]⟩ : ByteArray).size = 1 from rfl]; omega
  clear ht ht2
  have HB0 := Lib.hid (B_alloc (B_refl w) (.cells #[.int .i64 (2), .int .i64 (id), .int .i64 (fk), .string (data), .string (text)] 27))
  have HK0 := Lib.hid (Blk.new w 27 #[.int .i64 (2), .int .i64 (id), .int .i64 (fk), .string (data), .string (text)])
  go_enter Tryd.func12, Tryd.ntmps12
  go_wp2_with fail
  refine (HR.out _).mono ?_
  rintro e w1 ⟨rfl, b1⟩
  have B1 := Lib.hid (show B w w1 from B_trans HB0.out b1)
  have HK1 := Lib.hid (HK0.out.b b1)
  have hk1 := HK1.out
  have d0 := hk1.cell 0
  have d1 := hk1.cell 1
  have d2 := hk1.cell 2
  have d3 := hk1.cell 3
  have d4 := hk1.cell 4
  have hql := hk1.lt
  simp at d0 d1 d2 d3 d4
  clear b1 HK0 HB0 hk1 HR
  go_wp2_with fail
  refine (HD.out _).mono ?_
  rintro e w2 ⟨rfl, b2⟩
  have B2 := Lib.hid (show B w w2 from B_trans (by repeat (first | with_reducible exact B1.out | refine B_alloc ?_ _ | refine B_drew ?_ | refine B_drewN ?_ _)) b2)
  have HK2 := Lib.hid (show Blk w2 w.heap.size 27 #[.int .i64 2, .int .i64 id, .int .i64 fk, .string data, .string text] from Blk.b (show Blk _ w.heap.size 27 #[.int .i64 2, .int .i64 id, .int .i64 fk, .string data, .string text] by repeat (first | with_reducible exact HK1.out | refine Blk.alloc ?_ _ | refine Blk.drew ?_ | refine Blk.drewN ?_ _)) b2)
  clear b2 HK1 B1 d0 d1 d2 d3 d4 hql
  have hk1 := HK2.out
  have d0 := hk1.cell 0
  have d1 := hk1.cell 1
  have d2 := hk1.cell 2
  have d3 := hk1.cell 3
  have d4 := hk1.cell 4
  have hql := hk1.lt
  simp at d0 d1 d2 d3 d4
  clear hk1
  go_wp2_with fail
  go_ret2
  exact ⟨rfl, by repeat (first | with_reducible exact B2.out | refine B_drew ?_ | refine B_drewN ?_ _)⟩
set_option maxRecDepth 100000 in
set_option maxHeartbeats 2000000 in
theorem refline_3 (id fk : Int) (data text : ByteArray) (ht : text.size ≤ 1000) (ht2 : text.size ≤ 1000) (hid : 0 < id ∧ id ≤ 999999999) (h : rightV ⟨3, id, fk, data, text⟩ = true) (w : World) : Calls Tryd.prog 12 #[outArg ⟨3, id, fk, data, text⟩] w (LinePost ⟨3, id, fk, data, text⟩ w) := by
  have HR := Lib.hid (refright_any ⟨3, id, fk, data, text⟩ (by simp only; omega))
  rw [h] at HR
  unfold RefIs outArg at HR
  have hw : (Lit.int .i64 id).wf = true := wf_of (by omega)
  have HD := Lib.hid (fun W => digits_any id hw W)
  unfold DigPost at HD
  have hiv : (bs (Lib.itoa id)).size ≤ 100 := by rw [bs_size]; exact itoa_len hw
  have HEV := Lib.hid (show (⟨#[100, 114, 111, 112]⟩ ++ (⟨#[32]⟩ ++ bs (Lib.itoa id))) = (lineV ⟨3, id, fk, data, text⟩).1 from (id_cat (wordT 3) (Lib.itoa id)).trans (by rw [lineV_yes h]; rfl))
  have HL2 := Lib.hid (show (lineV ⟨3, id, fk, data, text⟩).2 = 0 by rw [lineV_yes h])
  unfold LinePost outArg
  rw [HL2.out]
  rw [← HEV.out]
  generalize bs (Lib.itoa id) = iv at *
  clear h hw
  dsimp only at HR ⊢



  have z1 : catOk ⟨#[32]⟩ iv := by unfold catOk; rw [show (⟨#[32]⟩ : ByteArray).size = 1 from rfl]; omega
  have z2 : catOk ⟨#[100, 114, 111, 112]⟩ (⟨#[32]⟩ ++ iv) := by unfold catOk; rw [ByteArray.size_append, show (⟨#[100, 114, 111, 112]⟩ : ByteArray).size = 4 from rfl, show (⟨#[32]⟩ : ByteArray).size = 1 from rfl]; omega
  clear ht ht2
  have HB0 := Lib.hid (B_alloc (B_refl w) (.cells #[.int .i64 (3), .int .i64 (id), .int .i64 (fk), .string (data), .string (text)] 27))
  have HK0 := Lib.hid (Blk.new w 27 #[.int .i64 (3), .int .i64 (id), .int .i64 (fk), .string (data), .string (text)])
  go_enter Tryd.func12, Tryd.ntmps12
  go_wp2_with fail
  refine (HR.out _).mono ?_
  rintro e w1 ⟨rfl, b1⟩
  have B1 := Lib.hid (show B w w1 from B_trans HB0.out b1)
  have HK1 := Lib.hid (HK0.out.b b1)
  have hk1 := HK1.out
  have d0 := hk1.cell 0
  have d1 := hk1.cell 1
  have d2 := hk1.cell 2
  have d3 := hk1.cell 3
  have d4 := hk1.cell 4
  have hql := hk1.lt
  simp at d0 d1 d2 d3 d4
  clear b1 HK0 HB0 hk1 HR
  go_wp2_with fail
  refine (HD.out _).mono ?_
  rintro e w2 ⟨rfl, b2⟩
  have B2 := Lib.hid (show B w w2 from B_trans (by repeat (first | with_reducible exact B1.out | refine B_alloc ?_ _ | refine B_drew ?_ | refine B_drewN ?_ _)) b2)
  have HK2 := Lib.hid (show Blk w2 w.heap.size 27 #[.int .i64 3, .int .i64 id, .int .i64 fk, .string data, .string text] from Blk.b (show Blk _ w.heap.size 27 #[.int .i64 3, .int .i64 id, .int .i64 fk, .string data, .string text] by repeat (first | with_reducible exact HK1.out | refine Blk.alloc ?_ _ | refine Blk.drew ?_ | refine Blk.drewN ?_ _)) b2)
  clear b2 HK1 B1 d0 d1 d2 d3 d4 hql
  have hk1 := HK2.out
  have d0 := hk1.cell 0
  have d1 := hk1.cell 1
  have d2 := hk1.cell 2
  have d3 := hk1.cell 3
  have d4 := hk1.cell 4
  have hql := hk1.lt
  simp at d0 d1 d2 d3 d4
  clear hk1
  go_wp2_with fail
  go_ret2
  exact ⟨rfl, by repeat (first | with_reducible exact B2.out | refine B_drew ?_ | refine B_drewN ?_ _)⟩
set_option maxRecDepth 100000 in
set_option maxHeartbeats 2000000 in
theorem refline_4 (id fk : Int) (data text : ByteArray) (ht : text.size ≤ 1000) (ht2 : text.size ≤ 1000) (hid : 0 < id ∧ id ≤ 999999999) (h : rightV ⟨4, id, fk, data, text⟩ = true) (w : World) : Calls Tryd.prog 12 #[outArg ⟨4, id, fk, data, text⟩] w (LinePost ⟨4, id, fk, data, text⟩ w) := by
  have HR := Lib.hid (refright_any ⟨4, id, fk, data, text⟩ (by simp only; omega))
  rw [h] at HR
  unfold RefIs outArg at HR
  have hw : (Lit.int .i64 id).wf = true := wf_of (by omega)
  have HD := Lib.hid (fun W => digits_any id hw W)
  unfold DigPost at HD
  have hiv : (bs (Lib.itoa id)).size ≤ 100 := by rw [bs_size]; exact itoa_len hw
  have HEV := Lib.hid (show (⟨#[101, 110, 100]⟩ ++ (⟨#[32]⟩ ++ bs (Lib.itoa id))) = (lineV ⟨4, id, fk, data, text⟩).1 from (id_cat (wordT 4) (Lib.itoa id)).trans (by rw [lineV_yes h]; rfl))
  have HL2 := Lib.hid (show (lineV ⟨4, id, fk, data, text⟩).2 = 0 by rw [lineV_yes h])
  unfold LinePost outArg
  rw [HL2.out]
  rw [← HEV.out]
  generalize bs (Lib.itoa id) = iv at *
  clear h hw
  dsimp only at HR ⊢



  have z1 : catOk ⟨#[32]⟩ iv := by unfold catOk; rw [show (⟨#[32]⟩ : ByteArray).size = 1 from rfl]; omega
  have z2 : catOk ⟨#[101, 110, 100]⟩ (⟨#[32]⟩ ++ iv) := by unfold catOk; rw [ByteArray.size_append, show (⟨#[101, 110, 100]⟩ : ByteArray).size = 3 from rfl, show (⟨#[32]⟩ : ByteArray).size = 1 from rfl]; omega
  clear ht ht2
  have HB0 := Lib.hid (B_alloc (B_refl w) (.cells #[.int .i64 (4), .int .i64 (id), .int .i64 (fk), .string (data), .string (text)] 27))
  have HK0 := Lib.hid (Blk.new w 27 #[.int .i64 (4), .int .i64 (id), .int .i64 (fk), .string (data), .string (text)])
  go_enter Tryd.func12, Tryd.ntmps12
  go_wp2_with fail
  refine (HR.out _).mono ?_
  rintro e w1 ⟨rfl, b1⟩
  have B1 := Lib.hid (show B w w1 from B_trans HB0.out b1)
  have HK1 := Lib.hid (HK0.out.b b1)
  have hk1 := HK1.out
  have d0 := hk1.cell 0
  have d1 := hk1.cell 1
  have d2 := hk1.cell 2
  have d3 := hk1.cell 3
  have d4 := hk1.cell 4
  have hql := hk1.lt
  simp at d0 d1 d2 d3 d4
  clear b1 HK0 HB0 hk1 HR
  go_wp2_with fail
  refine (HD.out _).mono ?_
  rintro e w2 ⟨rfl, b2⟩
  have B2 := Lib.hid (show B w w2 from B_trans (by repeat (first | with_reducible exact B1.out | refine B_alloc ?_ _ | refine B_drew ?_ | refine B_drewN ?_ _)) b2)
  have HK2 := Lib.hid (show Blk w2 w.heap.size 27 #[.int .i64 4, .int .i64 id, .int .i64 fk, .string data, .string text] from Blk.b (show Blk _ w.heap.size 27 #[.int .i64 4, .int .i64 id, .int .i64 fk, .string data, .string text] by repeat (first | with_reducible exact HK1.out | refine Blk.alloc ?_ _ | refine Blk.drew ?_ | refine Blk.drewN ?_ _)) b2)
  clear b2 HK1 B1 d0 d1 d2 d3 d4 hql
  have hk1 := HK2.out
  have d0 := hk1.cell 0
  have d1 := hk1.cell 1
  have d2 := hk1.cell 2
  have d3 := hk1.cell 3
  have d4 := hk1.cell 4
  have hql := hk1.lt
  simp at d0 d1 d2 d3 d4
  clear hk1
  go_wp2_with fail
  go_ret2
  exact ⟨rfl, by repeat (first | with_reducible exact B2.out | refine B_drew ?_ | refine B_drewN ?_ _)⟩
set_option maxRecDepth 100000 in
set_option maxHeartbeats 2000000 in
theorem refline_0 (id fk : Int) (data text : ByteArray) (ht : data.size ≤ 1000) (ht2 : text.size ≤ 1000) (hid : 0 < id ∧ id ≤ 999999999) (hfk : 1 ≤ fk ∧ fk ≤ 8) (h : rightV ⟨0, id, fk, data, text⟩ = true) (w : World) : Calls Tryd.prog 12 #[outArg ⟨0, id, fk, data, text⟩] w (LinePost ⟨0, id, fk, data, text⟩ w) := by
  have HR := Lib.hid (refright_any ⟨0, id, fk, data, text⟩ (by simp only; omega))
  rw [h] at HR
  unfold RefIs outArg at HR
  have hw : (Lit.int .i64 id).wf = true := wf_of (by omega)
  have HD := Lib.hid (fun W => digits_any id hw W)
  unfold DigPost at HD
  have hiv : (bs (Lib.itoa id)).size ≤ 100 := by rw [bs_size]; exact itoa_len hw
  have HF := Lib.hid (fun W => reffname_any fk hfk W)
  have hfv := fname_size fk
  have HE := Lib.hid (fun W => refescape_any data (by omega) W)
  have hev := escV_size ht
  have HEV := Lib.hid (show (!data.toList.isEmpty) = false → (⟨#[99, 108, 105, 101, 110, 116]⟩ ++ (⟨#[32]⟩ ++ bs (Lib.itoa id))) ++ (⟨#[32]⟩ ++ fnameV fk) = (lineV ⟨0, id, fk, data, text⟩).1 from fun he => (name_cat' (wordT 0) (Lib.itoa id) (fnameV fk)).trans (by rw [lineV_yes h, line_bare (by omega) he]))
  have HEW := Lib.hid (show (!data.toList.isEmpty) = true → ((⟨#[99, 108, 105, 101, 110, 116]⟩ ++ (⟨#[32]⟩ ++ bs (Lib.itoa id))) ++ (⟨#[32]⟩ ++ fnameV fk)) ++ (⟨#[32]⟩ ++ escV data) = (lineV ⟨0, id, fk, data, text⟩).1 from fun he => (frame_cat' (wordT 0) (Lib.itoa id) (fnameV fk) (escL data.data.toList)).trans (by rw [lineV_yes h, line_full (by omega) he]))
  generalize fnameV fk = fv at *
  generalize escV data = ev at *
  have HL2 := Lib.hid (show (lineV ⟨0, id, fk, data, text⟩).2 = 0 by rw [lineV_yes h])
  unfold LinePost outArg
  rw [HL2.out]

  generalize bs (Lib.itoa id) = iv at *
  clear h hw hfk
  dsimp only at HR ⊢
  obtain ⟨RV, hRV⟩ : ∃ RV, (lineV ⟨0, id, fk, data, text⟩).1 = RV := ⟨_, rfl⟩
  rw [hRV] at HEV HEW ⊢
  clear hRV
  have z1 : catOk ⟨#[32]⟩ iv := by unfold catOk; rw [show (⟨#[32]⟩ : ByteArray).size = 1 from rfl]; omega
  have z2 : catOk ⟨#[99, 108, 105, 101, 110, 116]⟩ (⟨#[32]⟩ ++ iv) := by unfold catOk; rw [ByteArray.size_append, show (⟨#[99, 108, 105, 101, 110, 116]⟩ : ByteArray).size = 6 from rfl, show (⟨#[32]⟩ : ByteArray).size = 1 from rfl]; omega
  have z3 : catOk ⟨#[32]⟩ fv := by unfold catOk; rw [show (⟨#[32]⟩ : ByteArray).size = 1 from rfl]; omega
  have z4 : catOk (⟨#[99, 108, 105, 101, 110, 116]⟩ ++ (⟨#[32]⟩ ++ iv)) (⟨#[32]⟩ ++ fv) := by unfold catOk; rw [ByteArray.size_append, ByteArray.size_append, ByteArray.size_append, show (⟨#[99, 108, 105, 101, 110, 116]⟩ : ByteArray).size = 6 from rfl, show (⟨#[32]⟩ : ByteArray).size = 1 from rfl]; omega
  have z5 : catOk ⟨#[32]⟩ ev := by unfold catOk; rw [show (⟨#[32]⟩ : ByteArray).size = 1 from rfl]; omega
  have z6 : catOk ((⟨#[99, 108, 105, 101, 110, 116]⟩ ++ (⟨#[32]⟩ ++ iv)) ++ (⟨#[32]⟩ ++ fv)) (⟨#[32]⟩ ++ ev) := by unfold catOk; rw [ByteArray.size_append, ByteArray.size_append, ByteArray.size_append, ByteArray.size_append, ByteArray.size_append, show (⟨#[99, 108, 105, 101, 110, 116]⟩ : ByteArray).size = 6 from rfl, show (⟨#[32]⟩ : ByteArray).size = 1 from rfl]; omega
  clear ht ht2
  have HB0 := Lib.hid (B_alloc (B_refl w) (.cells #[.int .i64 (0), .int .i64 (id), .int .i64 (fk), .string (data), .string (text)] 27))
  have HK0 := Lib.hid (Blk.new w 27 #[.int .i64 (0), .int .i64 (id), .int .i64 (fk), .string (data), .string (text)])
  go_enter Tryd.func12, Tryd.ntmps12
  go_wp2_with fail
  refine (HR.out _).mono ?_
  rintro e w1 ⟨rfl, b1⟩
  have B1 := Lib.hid (show B w w1 from B_trans HB0.out b1)
  have HK1 := Lib.hid (HK0.out.b b1)
  have hk1 := HK1.out
  have d0 := hk1.cell 0
  have d1 := hk1.cell 1
  have d2 := hk1.cell 2
  have d3 := hk1.cell 3
  have d4 := hk1.cell 4
  have hql := hk1.lt
  simp at d0 d1 d2 d3 d4
  clear b1 HK0 HB0 hk1 HR
  go_wp2_with fail
  refine (HD.out _).mono ?_
  rintro e w2 ⟨rfl, b2⟩
  have B2 := Lib.hid (show B w w2 from B_trans (by repeat (first | with_reducible exact B1.out | refine B_alloc ?_ _ | refine B_drew ?_ | refine B_drewN ?_ _)) b2)
  have HK2 := Lib.hid (show Blk w2 w.heap.size 27 #[.int .i64 0, .int .i64 id, .int .i64 fk, .string data, .string text] from Blk.b (show Blk _ w.heap.size 27 #[.int .i64 0, .int .i64 id, .int .i64 fk, .string data, .string text] by repeat (first | with_reducible exact HK1.out | refine Blk.alloc ?_ _ | refine Blk.drew ?_ | refine Blk.drewN ?_ _)) b2)
  clear b2 HK1 B1 d0 d1 d2 d3 d4 hql
  have hk1 := HK2.out
  have d0 := hk1.cell 0
  have d1 := hk1.cell 1
  have d2 := hk1.cell 2
  have d3 := hk1.cell 3
  have d4 := hk1.cell 4
  have hql := hk1.lt
  simp at d0 d1 d2 d3 d4
  clear hk1
  go_wp2_with fail
  refine (HF.out _).mono ?_
  rintro e w3 ⟨rfl, b3⟩
  rcases hde : (!data.toList.isEmpty) with _ | _
  · have HV := Lib.hid (HEV.out hde)
    have B3 := Lib.hid (show B w w3 from B_trans (by repeat (first | with_reducible exact B2.out | refine B_alloc ?_ _ | refine B_drew ?_ | refine B_drewN ?_ _)) b3)
    have HK3 := Lib.hid (show Blk w3 w.heap.size 27 #[.int .i64 0, .int .i64 id, .int .i64 fk, .string data, .string text] from Blk.b (show Blk _ w.heap.size 27 #[.int .i64 0, .int .i64 id, .int .i64 fk, .string data, .string text] by repeat (first | with_reducible exact HK2.out | refine Blk.alloc ?_ _ | refine Blk.drew ?_ | refine Blk.drewN ?_ _)) b3)
    clear b3 HK2 B2 d0 d1 d2 d3 d4 hql
    have hk1 := HK3.out
    have d0 := hk1.cell 0
    have d1 := hk1.cell 1
    have d2 := hk1.cell 2
    have d3 := hk1.cell 3
    have d4 := hk1.cell 4
    have hql := hk1.lt
    simp at d0 d1 d2 d3 d4
    clear hk1
    go_wp2_with fail
    go_ret2
    exact ⟨by rw [← HV.out]; rfl, by repeat (first | with_reducible exact B3.out | refine B_drew ?_ | refine B_drewN ?_ _)⟩
  · have HV := Lib.hid (HEW.out hde)
    have B3 := Lib.hid (show B w w3 from B_trans (by repeat (first | with_reducible exact B2.out | refine B_alloc ?_ _ | refine B_drew ?_ | refine B_drewN ?_ _)) b3)
    have HK3 := Lib.hid (show Blk w3 w.heap.size 27 #[.int .i64 0, .int .i64 id, .int .i64 fk, .string data, .string text] from Blk.b (show Blk _ w.heap.size 27 #[.int .i64 0, .int .i64 id, .int .i64 fk, .string data, .string text] by repeat (first | with_reducible exact HK2.out | refine Blk.alloc ?_ _ | refine Blk.drew ?_ | refine Blk.drewN ?_ _)) b3)
    clear b3 HK2 B2 d0 d1 d2 d3 d4 hql
    have hk1 := HK3.out
    have d0 := hk1.cell 0
    have d1 := hk1.cell 1
    have d2 := hk1.cell 2
    have d3 := hk1.cell 3
    have d4 := hk1.cell 4
    have hql := hk1.lt
    simp at d0 d1 d2 d3 d4
    clear hk1
    go_wp2_with fail
    refine (HE.out _).mono ?_
    rintro e w4 ⟨rfl, b4⟩
    have B4 := Lib.hid (show B w w4 from B_trans (by repeat (first | with_reducible exact B3.out | refine B_alloc ?_ _ | refine B_drew ?_ | refine B_drewN ?_ _)) b4)
    have HK4 := Lib.hid (show Blk w4 w.heap.size 27 #[.int .i64 0, .int .i64 id, .int .i64 fk, .string data, .string text] from Blk.b (show Blk _ w.heap.size 27 #[.int .i64 0, .int .i64 id, .int .i64 fk, .string data, .string text] by repeat (first | with_reducible exact HK3.out | refine Blk.alloc ?_ _ | refine Blk.drew ?_ | refine Blk.drewN ?_ _)) b4)
    clear b4 HK3 B3 d0 d1 d2 d3 d4 hql
    have hk1 := HK4.out
    have d0 := hk1.cell 0
    have d1 := hk1.cell 1
    have d2 := hk1.cell 2
    have d3 := hk1.cell 3
    have d4 := hk1.cell 4
    have hql := hk1.lt
    simp at d0 d1 d2 d3 d4
    clear hk1
    go_wp2_with fail
    go_ret2
    exact ⟨by rw [← HV.out]; rfl, by repeat (first | with_reducible exact B4.out | refine B_drew ?_ | refine B_drewN ?_ _)⟩
set_option maxRecDepth 100000 in
set_option maxHeartbeats 2000000 in
theorem refline_1 (id fk : Int) (data text : ByteArray) (ht : data.size ≤ 1000) (ht2 : text.size ≤ 1000) (hid : 0 < id ∧ id ≤ 999999999) (hfk : 1 ≤ fk ∧ fk ≤ 8) (h : rightV ⟨1, id, fk, data, text⟩ = true) (w : World) : Calls Tryd.prog 12 #[outArg ⟨1, id, fk, data, text⟩] w (LinePost ⟨1, id, fk, data, text⟩ w) := by
  have HR := Lib.hid (refright_any ⟨1, id, fk, data, text⟩ (by simp only; omega))
  rw [h] at HR
  unfold RefIs outArg at HR
  have hw : (Lit.int .i64 id).wf = true := wf_of (by omega)
  have HD := Lib.hid (fun W => digits_any id hw W)
  unfold DigPost at HD
  have hiv : (bs (Lib.itoa id)).size ≤ 100 := by rw [bs_size]; exact itoa_len hw
  have HF := Lib.hid (fun W => reffname_any fk hfk W)
  have hfv := fname_size fk
  have HE := Lib.hid (fun W => refescape_any data (by omega) W)
  have hev := escV_size ht
  have HEV := Lib.hid (show (!data.toList.isEmpty) = false → (⟨#[99, 111, 110, 110]⟩ ++ (⟨#[32]⟩ ++ bs (Lib.itoa id))) ++ (⟨#[32]⟩ ++ fnameV fk) = (lineV ⟨1, id, fk, data, text⟩).1 from fun he => (name_cat' (wordT 1) (Lib.itoa id) (fnameV fk)).trans (by rw [lineV_yes h, line_bare (by omega) he]))
  have HEW := Lib.hid (show (!data.toList.isEmpty) = true → ((⟨#[99, 111, 110, 110]⟩ ++ (⟨#[32]⟩ ++ bs (Lib.itoa id))) ++ (⟨#[32]⟩ ++ fnameV fk)) ++ (⟨#[32]⟩ ++ escV data) = (lineV ⟨1, id, fk, data, text⟩).1 from fun he => (frame_cat' (wordT 1) (Lib.itoa id) (fnameV fk) (escL data.data.toList)).trans (by rw [lineV_yes h, line_full (by omega) he]))
  generalize fnameV fk = fv at *
  generalize escV data = ev at *
  have HL2 := Lib.hid (show (lineV ⟨1, id, fk, data, text⟩).2 = 0 by rw [lineV_yes h])
  unfold LinePost outArg
  rw [HL2.out]

  generalize bs (Lib.itoa id) = iv at *
  clear h hw hfk
  dsimp only at HR ⊢
  obtain ⟨RV, hRV⟩ : ∃ RV, (lineV ⟨1, id, fk, data, text⟩).1 = RV := ⟨_, rfl⟩
  rw [hRV] at HEV HEW ⊢
  clear hRV
  have z1 : catOk ⟨#[32]⟩ iv := by unfold catOk; rw [show (⟨#[32]⟩ : ByteArray).size = 1 from rfl]; omega
  have z2 : catOk ⟨#[99, 111, 110, 110]⟩ (⟨#[32]⟩ ++ iv) := by unfold catOk; rw [ByteArray.size_append, show (⟨#[99, 111, 110, 110]⟩ : ByteArray).size = 4 from rfl, show (⟨#[32]⟩ : ByteArray).size = 1 from rfl]; omega
  have z3 : catOk ⟨#[32]⟩ fv := by unfold catOk; rw [show (⟨#[32]⟩ : ByteArray).size = 1 from rfl]; omega
  have z4 : catOk (⟨#[99, 111, 110, 110]⟩ ++ (⟨#[32]⟩ ++ iv)) (⟨#[32]⟩ ++ fv) := by unfold catOk; rw [ByteArray.size_append, ByteArray.size_append, ByteArray.size_append, show (⟨#[99, 111, 110, 110]⟩ : ByteArray).size = 4 from rfl, show (⟨#[32]⟩ : ByteArray).size = 1 from rfl]; omega
  have z5 : catOk ⟨#[32]⟩ ev := by unfold catOk; rw [show (⟨#[32]⟩ : ByteArray).size = 1 from rfl]; omega
  have z6 : catOk ((⟨#[99, 111, 110, 110]⟩ ++ (⟨#[32]⟩ ++ iv)) ++ (⟨#[32]⟩ ++ fv)) (⟨#[32]⟩ ++ ev) := by unfold catOk; rw [ByteArray.size_append, ByteArray.size_append, ByteArray.size_append, ByteArray.size_append, ByteArray.size_append, show (⟨#[99, 111, 110, 110]⟩ : ByteArray).size = 4 from rfl, show (⟨#[32]⟩ : ByteArray).size = 1 from rfl]; omega
  clear ht ht2
  have HB0 := Lib.hid (B_alloc (B_refl w) (.cells #[.int .i64 (1), .int .i64 (id), .int .i64 (fk), .string (data), .string (text)] 27))
  have HK0 := Lib.hid (Blk.new w 27 #[.int .i64 (1), .int .i64 (id), .int .i64 (fk), .string (data), .string (text)])
  go_enter Tryd.func12, Tryd.ntmps12
  go_wp2_with fail
  refine (HR.out _).mono ?_
  rintro e w1 ⟨rfl, b1⟩
  have B1 := Lib.hid (show B w w1 from B_trans HB0.out b1)
  have HK1 := Lib.hid (HK0.out.b b1)
  have hk1 := HK1.out
  have d0 := hk1.cell 0
  have d1 := hk1.cell 1
  have d2 := hk1.cell 2
  have d3 := hk1.cell 3
  have d4 := hk1.cell 4
  have hql := hk1.lt
  simp at d0 d1 d2 d3 d4
  clear b1 HK0 HB0 hk1 HR
  go_wp2_with fail
  refine (HD.out _).mono ?_
  rintro e w2 ⟨rfl, b2⟩
  have B2 := Lib.hid (show B w w2 from B_trans (by repeat (first | with_reducible exact B1.out | refine B_alloc ?_ _ | refine B_drew ?_ | refine B_drewN ?_ _)) b2)
  have HK2 := Lib.hid (show Blk w2 w.heap.size 27 #[.int .i64 1, .int .i64 id, .int .i64 fk, .string data, .string text] from Blk.b (show Blk _ w.heap.size 27 #[.int .i64 1, .int .i64 id, .int .i64 fk, .string data, .string text] by repeat (first | with_reducible exact HK1.out | refine Blk.alloc ?_ _ | refine Blk.drew ?_ | refine Blk.drewN ?_ _)) b2)
  clear b2 HK1 B1 d0 d1 d2 d3 d4 hql
  have hk1 := HK2.out
  have d0 := hk1.cell 0
  have d1 := hk1.cell 1
  have d2 := hk1.cell 2
  have d3 := hk1.cell 3
  have d4 := hk1.cell 4
  have hql := hk1.lt
  simp at d0 d1 d2 d3 d4
  clear hk1
  go_wp2_with fail
  refine (HF.out _).mono ?_
  rintro e w3 ⟨rfl, b3⟩
  rcases hde : (!data.toList.isEmpty) with _ | _
  · have HV := Lib.hid (HEV.out hde)
    have B3 := Lib.hid (show B w w3 from B_trans (by repeat (first | with_reducible exact B2.out | refine B_alloc ?_ _ | refine B_drew ?_ | refine B_drewN ?_ _)) b3)
    have HK3 := Lib.hid (show Blk w3 w.heap.size 27 #[.int .i64 1, .int .i64 id, .int .i64 fk, .string data, .string text] from Blk.b (show Blk _ w.heap.size 27 #[.int .i64 1, .int .i64 id, .int .i64 fk, .string data, .string text] by repeat (first | with_reducible exact HK2.out | refine Blk.alloc ?_ _ | refine Blk.drew ?_ | refine Blk.drewN ?_ _)) b3)
    clear b3 HK2 B2 d0 d1 d2 d3 d4 hql
    have hk1 := HK3.out
    have d0 := hk1.cell 0
    have d1 := hk1.cell 1
    have d2 := hk1.cell 2
    have d3 := hk1.cell 3
    have d4 := hk1.cell 4
    have hql := hk1.lt
    simp at d0 d1 d2 d3 d4
    clear hk1
    go_wp2_with fail
    go_ret2
    exact ⟨by rw [← HV.out]; rfl, by repeat (first | with_reducible exact B3.out | refine B_drew ?_ | refine B_drewN ?_ _)⟩
  · have HV := Lib.hid (HEW.out hde)
    have B3 := Lib.hid (show B w w3 from B_trans (by repeat (first | with_reducible exact B2.out | refine B_alloc ?_ _ | refine B_drew ?_ | refine B_drewN ?_ _)) b3)
    have HK3 := Lib.hid (show Blk w3 w.heap.size 27 #[.int .i64 1, .int .i64 id, .int .i64 fk, .string data, .string text] from Blk.b (show Blk _ w.heap.size 27 #[.int .i64 1, .int .i64 id, .int .i64 fk, .string data, .string text] by repeat (first | with_reducible exact HK2.out | refine Blk.alloc ?_ _ | refine Blk.drew ?_ | refine Blk.drewN ?_ _)) b3)
    clear b3 HK2 B2 d0 d1 d2 d3 d4 hql
    have hk1 := HK3.out
    have d0 := hk1.cell 0
    have d1 := hk1.cell 1
    have d2 := hk1.cell 2
    have d3 := hk1.cell 3
    have d4 := hk1.cell 4
    have hql := hk1.lt
    simp at d0 d1 d2 d3 d4
    clear hk1
    go_wp2_with fail
    refine (HE.out _).mono ?_
    rintro e w4 ⟨rfl, b4⟩
    have B4 := Lib.hid (show B w w4 from B_trans (by repeat (first | with_reducible exact B3.out | refine B_alloc ?_ _ | refine B_drew ?_ | refine B_drewN ?_ _)) b4)
    have HK4 := Lib.hid (show Blk w4 w.heap.size 27 #[.int .i64 1, .int .i64 id, .int .i64 fk, .string data, .string text] from Blk.b (show Blk _ w.heap.size 27 #[.int .i64 1, .int .i64 id, .int .i64 fk, .string data, .string text] by repeat (first | with_reducible exact HK3.out | refine Blk.alloc ?_ _ | refine Blk.drew ?_ | refine Blk.drewN ?_ _)) b4)
    clear b4 HK3 B3 d0 d1 d2 d3 d4 hql
    have hk1 := HK4.out
    have d0 := hk1.cell 0
    have d1 := hk1.cell 1
    have d2 := hk1.cell 2
    have d3 := hk1.cell 3
    have d4 := hk1.cell 4
    have hql := hk1.lt
    simp at d0 d1 d2 d3 d4
    clear hk1
    go_wp2_with fail
    go_ret2
    exact ⟨by rw [← HV.out]; rfl, by repeat (first | with_reducible exact B4.out | refine B_drew ?_ | refine B_drewN ?_ _)⟩
theorem refline_any (o : OutV) (hd : o.data.size ≤ 1000) (ht : o.text.size ≤ 1000) (w : World) : Calls Tryd.prog 12 #[outArg o] w (LinePost o w) := by
  cases h : rightV o with
  | false => exact refline_not o ht h w
  | true =>
    obtain ⟨k, id, fk, data, text⟩ := o
    simp only at hd ht
    rcases right_cases h with ⟨hk, h1, h2, h3, _⟩ | ⟨hk, h1, h2, _⟩ | ⟨hk, h1, h2, _⟩ | ⟨hk, _⟩
    · simp only at hk h1 h2 h3
      rcases hk with rfl | rfl
      · exact refline_0 id fk data text hd ht ⟨h1, h2⟩ h3 h w
      · exact refline_1 id fk data text hd ht ⟨h1, h2⟩ h3 h w
    · simp only at hk h1 h2
      subst hk
      exact refline_2 id fk data text ht ht ⟨h1, h2⟩ h w
    · simp only at hk h1 h2
      rcases hk with rfl | rfl
      · exact refline_3 id fk data text ht ht ⟨h1, h2⟩ h w
      · exact refline_4 id fk data text ht ht ⟨h1, h2⟩ h w
    · simp only at hk
      rcases hk with rfl | rfl
      · exact refline_5 id fk data text ht h w
      · exact refline_6 id fk data text ht h w
end Go.Proofs.YthalpaggcdpcbaaDoor.Tr
