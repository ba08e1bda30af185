/- The reference's Right. -/
import Derived.Test.YtghjhcobmbobcaaWr
import Derived.Test.YtghjhcobmbobcaaWAdK
import Derived.Test.YtghjhcobmbobcaaMem
namespace Go.Proofs.Ytghjhcobmbobcaa.Wt
open Go.RowKit Go.Proofs.Ytghjhcobmbobcaa Go.Proofs.Ytghjhcobmbobcaa.Ad
attribute [local go_sem high] eqFrame
def RefIs (o : OutV) (r : Bool) : Prop := ∀ W : World, Calls Try.prog 27 #[outArg o] W (fun e w' => e = .returned (.bool r) ∧ Below W.heap.size W w')
set_option maxRecDepth 100000 in
set_option maxHeartbeats 1000000 in
theorem rr_0_low (id fk : Int) (data text : ByteArray) (hsz : text.size ≤ 9999) (i0 : id ≤ 0) : RefIs ⟨0, id, fk, data, text⟩ false := by
  have HN := Lib.hid (fun W => refname_nine text hsz W)
  generalize nameB text = nb at HN
  unfold RefIs outArg
  intro w
  have H0 := Lib.hid (B_alloc (B_refl w) (.cells #[.int .i64 0, .int .i64 id, .int .i64 fk, .string data, .string text] 36))
  have HK := Lib.hid (Blk.new w 36 #[.int .i64 0, .int .i64 id, .int .i64 fk, .string data, .string text])
  clear hsz
  go_enter Try.func27, Try.ntmps27
  go_wp2_with (go_at_call 42; refine (HN.out _).mono ?_; rintro e wn ⟨rfl, bn⟩; have kn := HK.out.b bn; have BN := Lib.hid (B_trans H0.out bn); have k0 := kn.cell 0; have k4 := kn.cell 4; have kl := kn.lt; simp at k0 k4; clear kn bn)
  all_goals go_ret
  all_goals exact ⟨rfl, by first | exact H0.out | exact BN.out⟩
set_option maxRecDepth 100000 in
set_option maxHeartbeats 1000000 in
theorem rr_0_high (id fk : Int) (data text : ByteArray) (hsz : text.size ≤ 9999) (i0 : 999999999 < id) : RefIs ⟨0, id, fk, data, text⟩ false := by
  have HN := Lib.hid (fun W => refname_nine text hsz W)
  generalize nameB text = nb at HN
  unfold RefIs outArg
  intro w
  have H0 := Lib.hid (B_alloc (B_refl w) (.cells #[.int .i64 0, .int .i64 id, .int .i64 fk, .string data, .string text] 36))
  have HK := Lib.hid (Blk.new w 36 #[.int .i64 0, .int .i64 id, .int .i64 fk, .string data, .string text])
  clear hsz
  go_enter Try.func27, Try.ntmps27
  go_wp2_with (go_at_call 42; refine (HN.out _).mono ?_; rintro e wn ⟨rfl, bn⟩; have kn := HK.out.b bn; have BN := Lib.hid (B_trans H0.out bn); have k0 := kn.cell 0; have k4 := kn.cell 4; have kl := kn.lt; simp at k0 k4; clear kn bn)
  all_goals go_ret
  all_goals exact ⟨rfl, by first | exact H0.out | exact BN.out⟩
set_option maxRecDepth 100000 in
set_option maxHeartbeats 1000000 in
theorem rr_0_f0 (id fk : Int) (data text : ByteArray) (hsz : text.size ≤ 9999) (i0 : 0 < id) (i1 : id ≤ 999999999) (f0 : fk < 1) : RefIs ⟨0, id, fk, data, text⟩ false := by
  have HN := Lib.hid (fun W => refname_nine text hsz W)
  generalize nameB text = nb at HN
  unfold RefIs outArg
  intro w
  have H0 := Lib.hid (B_alloc (B_refl w) (.cells #[.int .i64 0, .int .i64 id, .int .i64 fk, .string data, .string text] 36))
  have HK := Lib.hid (Blk.new w 36 #[.int .i64 0, .int .i64 id, .int .i64 fk, .string data, .string text])
  clear hsz
  go_enter Try.func27, Try.ntmps27
  go_wp2_with (go_at_call 42; refine (HN.out _).mono ?_; rintro e wn ⟨rfl, bn⟩; have kn := HK.out.b bn; have BN := Lib.hid (B_trans H0.out bn); have k0 := kn.cell 0; have k4 := kn.cell 4; have kl := kn.lt; simp at k0 k4; clear kn bn)
  all_goals go_ret
  all_goals exact ⟨rfl, by first | exact H0.out | exact BN.out⟩
set_option maxRecDepth 100000 in
set_option maxHeartbeats 1000000 in
theorem rr_0_f8 (id fk : Int) (data text : ByteArray) (hsz : text.size ≤ 9999) (i0 : 0 < id) (i1 : id ≤ 999999999) (f0 : 8 < fk) : RefIs ⟨0, id, fk, data, text⟩ false := by
  have HN := Lib.hid (fun W => refname_nine text hsz W)
  generalize nameB text = nb at HN
  unfold RefIs outArg
  intro w
  have H0 := Lib.hid (B_alloc (B_refl w) (.cells #[.int .i64 0, .int .i64 id, .int .i64 fk, .string data, .string text] 36))
  have HK := Lib.hid (Blk.new w 36 #[.int .i64 0, .int .i64 id, .int .i64 fk, .string data, .string text])
  clear hsz
  go_enter Try.func27, Try.ntmps27
  go_wp2_with (go_at_call 42; refine (HN.out _).mono ?_; rintro e wn ⟨rfl, bn⟩; have kn := HK.out.b bn; have BN := Lib.hid (B_trans H0.out bn); have k0 := kn.cell 0; have k4 := kn.cell 4; have kl := kn.lt; simp at k0 k4; clear kn bn)
  all_goals go_ret
  all_goals exact ⟨rfl, by first | exact H0.out | exact BN.out⟩
set_option maxRecDepth 100000 in
set_option maxHeartbeats 1000000 in
theorem rr_0_yes (id fk : Int) (data text : ByteArray) (hsz : text.size ≤ 9999) (i0 : 0 < id) (i1 : id ≤ 999999999) (f0 : 1 ≤ fk) (f1 : fk ≤ 8) (te : text.toList.isEmpty = true) : RefIs ⟨0, id, fk, data, text⟩ true := by
  have HN := Lib.hid (fun W => refname_nine text hsz W)
  generalize nameB text = nb at HN
  unfold RefIs outArg
  intro w
  have H0 := Lib.hid (B_alloc (B_refl w) (.cells #[.int .i64 0, .int .i64 id, .int .i64 fk, .string data, .string text] 36))
  have HK := Lib.hid (Blk.new w 36 #[.int .i64 0, .int .i64 id, .int .i64 fk, .string data, .string text])
  clear hsz
  go_enter Try.func27, Try.ntmps27
  go_wp2_with (go_at_call 42; refine (HN.out _).mono ?_; rintro e wn ⟨rfl, bn⟩; have kn := HK.out.b bn; have BN := Lib.hid (B_trans H0.out bn); have k0 := kn.cell 0; have k4 := kn.cell 4; have kl := kn.lt; simp at k0 k4; clear kn bn)
  all_goals go_ret
  all_goals exact ⟨rfl, by first | exact H0.out | exact BN.out⟩
set_option maxRecDepth 100000 in
set_option maxHeartbeats 1000000 in
theorem rr_0_no (id fk : Int) (data text : ByteArray) (hsz : text.size ≤ 9999) (i0 : 0 < id) (i1 : id ≤ 999999999) (f0 : 1 ≤ fk) (f1 : fk ≤ 8) (te : text.toList.isEmpty = false) : RefIs ⟨0, id, fk, data, text⟩ false := by
  have HN := Lib.hid (fun W => refname_nine text hsz W)
  generalize nameB text = nb at HN
  unfold RefIs outArg
  intro w
  have H0 := Lib.hid (B_alloc (B_refl w) (.cells #[.int .i64 0, .int .i64 id, .int .i64 fk, .string data, .string text] 36))
  have HK := Lib.hid (Blk.new w 36 #[.int .i64 0, .int .i64 id, .int .i64 fk, .string data, .string text])
  clear hsz
  go_enter Try.func27, Try.ntmps27
  go_wp2_with (go_at_call 42; refine (HN.out _).mono ?_; rintro e wn ⟨rfl, bn⟩; have kn := HK.out.b bn; have BN := Lib.hid (B_trans H0.out bn); have k0 := kn.cell 0; have k4 := kn.cell 4; have kl := kn.lt; simp at k0 k4; clear kn bn)
  all_goals go_ret
  all_goals exact ⟨rfl, by first | exact H0.out | exact BN.out⟩
set_option maxRecDepth 100000 in
set_option maxHeartbeats 1000000 in
theorem rr_1_low (id fk : Int) (data text : ByteArray) (hsz : text.size ≤ 9999) (i0 : id ≤ 0) : RefIs ⟨1, id, fk, data, text⟩ false := by
  have HN := Lib.hid (fun W => refname_nine text hsz W)
  generalize nameB text = nb at HN
  unfold RefIs outArg
  intro w
  have H0 := Lib.hid (B_alloc (B_refl w) (.cells #[.int .i64 1, .int .i64 id, .int .i64 fk, .string data, .string text] 36))
  have HK := Lib.hid (Blk.new w 36 #[.int .i64 1, .int .i64 id, .int .i64 fk, .string data, .string text])
  clear hsz
  go_enter Try.func27, Try.ntmps27
  go_wp2_with (go_at_call 42; refine (HN.out _).mono ?_; rintro e wn ⟨rfl, bn⟩; have kn := HK.out.b bn; have BN := Lib.hid (B_trans H0.out bn); have k0 := kn.cell 0; have k4 := kn.cell 4; have kl := kn.lt; simp at k0 k4; clear kn bn)
  all_goals go_ret
  all_goals exact ⟨rfl, by first | exact H0.out | exact BN.out⟩
set_option maxRecDepth 100000 in
set_option maxHeartbeats 1000000 in
theorem rr_1_high (id fk : Int) (data text : ByteArray) (hsz : text.size ≤ 9999) (i0 : 999999999 < id) : RefIs ⟨1, id, fk, data, text⟩ false := by
  have HN := Lib.hid (fun W => refname_nine text hsz W)
  generalize nameB text = nb at HN
  unfold RefIs outArg
  intro w
  have H0 := Lib.hid (B_alloc (B_refl w) (.cells #[.int .i64 1, .int .i64 id, .int .i64 fk, .string data, .string text] 36))
  have HK := Lib.hid (Blk.new w 36 #[.int .i64 1, .int .i64 id, .int .i64 fk, .string data, .string text])
  clear hsz
  go_enter Try.func27, Try.ntmps27
  go_wp2_with (go_at_call 42; refine (HN.out _).mono ?_; rintro e wn ⟨rfl, bn⟩; have kn := HK.out.b bn; have BN := Lib.hid (B_trans H0.out bn); have k0 := kn.cell 0; have k4 := kn.cell 4; have kl := kn.lt; simp at k0 k4; clear kn bn)
  all_goals go_ret
  all_goals exact ⟨rfl, by first | exact H0.out | exact BN.out⟩
set_option maxRecDepth 100000 in
set_option maxHeartbeats 1000000 in
theorem rr_1_f0 (id fk : Int) (data text : ByteArray) (hsz : text.size ≤ 9999) (i0 : 0 < id) (i1 : id ≤ 999999999) (f0 : fk < 1) : RefIs ⟨1, id, fk, data, text⟩ false := by
  have HN := Lib.hid (fun W => refname_nine text hsz W)
  generalize nameB text = nb at HN
  unfold RefIs outArg
  intro w
  have H0 := Lib.hid (B_alloc (B_refl w) (.cells #[.int .i64 1, .int .i64 id, .int .i64 fk, .string data, .string text] 36))
  have HK := Lib.hid (Blk.new w 36 #[.int .i64 1, .int .i64 id, .int .i64 fk, .string data, .string text])
  clear hsz
  go_enter Try.func27, Try.ntmps27
  go_wp2_with (go_at_call 42; refine (HN.out _).mono ?_; rintro e wn ⟨rfl, bn⟩; have kn := HK.out.b bn; have BN := Lib.hid (B_trans H0.out bn); have k0 := kn.cell 0; have k4 := kn.cell 4; have kl := kn.lt; simp at k0 k4; clear kn bn)
  all_goals go_ret
  all_goals exact ⟨rfl, by first | exact H0.out | exact BN.out⟩
set_option maxRecDepth 100000 in
set_option maxHeartbeats 1000000 in
theorem rr_1_f8 (id fk : Int) (data text : ByteArray) (hsz : text.size ≤ 9999) (i0 : 0 < id) (i1 : id ≤ 999999999) (f0 : 8 < fk) : RefIs ⟨1, id, fk, data, text⟩ false := by
  have HN := Lib.hid (fun W => refname_nine text hsz W)
  generalize nameB text = nb at HN
  unfold RefIs outArg
  intro w
  have H0 := Lib.hid (B_alloc (B_refl w) (.cells #[.int .i64 1, .int .i64 id, .int .i64 fk, .string data, .string text] 36))
  have HK := Lib.hid (Blk.new w 36 #[.int .i64 1, .int .i64 id, .int .i64 fk, .string data, .string text])
  clear hsz
  go_enter Try.func27, Try.ntmps27
  go_wp2_with (go_at_call 42; refine (HN.out _).mono ?_; rintro e wn ⟨rfl, bn⟩; have kn := HK.out.b bn; have BN := Lib.hid (B_trans H0.out bn); have k0 := kn.cell 0; have k4 := kn.cell 4; have kl := kn.lt; simp at k0 k4; clear kn bn)
  all_goals go_ret
  all_goals exact ⟨rfl, by first | exact H0.out | exact BN.out⟩
set_option maxRecDepth 100000 in
set_option maxHeartbeats 1000000 in
theorem rr_1_yes (id fk : Int) (data text : ByteArray) (hsz : text.size ≤ 9999) (i0 : 0 < id) (i1 : id ≤ 999999999) (f0 : 1 ≤ fk) (f1 : fk ≤ 8) (te : text.toList.isEmpty = true) : RefIs ⟨1, id, fk, data, text⟩ true := by
  have HN := Lib.hid (fun W => refname_nine text hsz W)
  generalize nameB text = nb at HN
  unfold RefIs outArg
  intro w
  have H0 := Lib.hid (B_alloc (B_refl w) (.cells #[.int .i64 1, .int .i64 id, .int .i64 fk, .string data, .string text] 36))
  have HK := Lib.hid (Blk.new w 36 #[.int .i64 1, .int .i64 id, .int .i64 fk, .string data, .string text])
  clear hsz
  go_enter Try.func27, Try.ntmps27
  go_wp2_with (go_at_call 42; refine (HN.out _).mono ?_; rintro e wn ⟨rfl, bn⟩; have kn := HK.out.b bn; have BN := Lib.hid (B_trans H0.out bn); have k0 := kn.cell 0; have k4 := kn.cell 4; have kl := kn.lt; simp at k0 k4; clear kn bn)
  all_goals go_ret
  all_goals exact ⟨rfl, by first | exact H0.out | exact BN.out⟩
set_option maxRecDepth 100000 in
set_option maxHeartbeats 1000000 in
theorem rr_1_no (id fk : Int) (data text : ByteArray) (hsz : text.size ≤ 9999) (i0 : 0 < id) (i1 : id ≤ 999999999) (f0 : 1 ≤ fk) (f1 : fk ≤ 8) (te : text.toList.isEmpty = false) : RefIs ⟨1, id, fk, data, text⟩ false := by
  have HN := Lib.hid (fun W => refname_nine text hsz W)
  generalize nameB text = nb at HN
  unfold RefIs outArg
  intro w
  have H0 := Lib.hid (B_alloc (B_refl w) (.cells #[.int .i64 1, .int .i64 id, .int .i64 fk, .string data, .string text] 36))
  have HK := Lib.hid (Blk.new w 36 #[.int .i64 1, .int .i64 id, .int .i64 fk, .string data, .string text])
  clear hsz
  go_enter Try.func27, Try.ntmps27
  go_wp2_with (go_at_call 42; refine (HN.out _).mono ?_; rintro e wn ⟨rfl, bn⟩; have kn := HK.out.b bn; have BN := Lib.hid (B_trans H0.out bn); have k0 := kn.cell 0; have k4 := kn.cell 4; have kl := kn.lt; simp at k0 k4; clear kn bn)
  all_goals go_ret
  all_goals exact ⟨rfl, by first | exact H0.out | exact BN.out⟩
set_option maxRecDepth 100000 in
set_option maxHeartbeats 1000000 in
theorem rr_2_low (id fk : Int) (data text : ByteArray) (hsz : text.size ≤ 9999) (i0 : id ≤ 0) : RefIs ⟨2, id, fk, data, text⟩ false := by
  have HN := Lib.hid (fun W => refname_nine text hsz W)
  generalize nameB text = nb at HN
  unfold RefIs outArg
  intro w
  have H0 := Lib.hid (B_alloc (B_refl w) (.cells #[.int .i64 2, .int .i64 id, .int .i64 fk, .string data, .string text] 36))
  have HK := Lib.hid (Blk.new w 36 #[.int .i64 2, .int .i64 id, .int .i64 fk, .string data, .string text])
  clear hsz
  go_enter Try.func27, Try.ntmps27
  go_wp2_with (go_at_call 42; refine (HN.out _).mono ?_; rintro e wn ⟨rfl, bn⟩; have kn := HK.out.b bn; have BN := Lib.hid (B_trans H0.out bn); have k0 := kn.cell 0; have k4 := kn.cell 4; have kl := kn.lt; simp at k0 k4; clear kn bn)
  all_goals go_ret
  all_goals exact ⟨rfl, by first | exact H0.out | exact BN.out⟩
set_option maxRecDepth 100000 in
set_option maxHeartbeats 1000000 in
theorem rr_2_high (id fk : Int) (data text : ByteArray) (hsz : text.size ≤ 9999) (i0 : 999999999 < id) : RefIs ⟨2, id, fk, data, text⟩ false := by
  have HN := Lib.hid (fun W => refname_nine text hsz W)
  generalize nameB text = nb at HN
  unfold RefIs outArg
  intro w
  have H0 := Lib.hid (B_alloc (B_refl w) (.cells #[.int .i64 2, .int .i64 id, .int .i64 fk, .string data, .string text] 36))
  have HK := Lib.hid (Blk.new w 36 #[.int .i64 2, .int .i64 id, .int .i64 fk, .string data, .string text])
  clear hsz
  go_enter Try.func27, Try.ntmps27
  go_wp2_with (go_at_call 42; refine (HN.out _).mono ?_; rintro e wn ⟨rfl, bn⟩; have kn := HK.out.b bn; have BN := Lib.hid (B_trans H0.out bn); have k0 := kn.cell 0; have k4 := kn.cell 4; have kl := kn.lt; simp at k0 k4; clear kn bn)
  all_goals go_ret
  all_goals exact ⟨rfl, by first | exact H0.out | exact BN.out⟩
set_option maxRecDepth 100000 in
set_option maxHeartbeats 1000000 in
theorem rr_2_full (id fk : Int) (data text : ByteArray) (hsz : text.size ≤ 9999) (i0 : 0 < id) (i1 : id ≤ 999999999) (hb : (fk == 0 && data.toList.isEmpty) = false) : RefIs ⟨2, id, fk, data, text⟩ false := by
  have HN := Lib.hid (fun W => refname_nine text hsz W)
  generalize nameB text = nb at HN
  unfold RefIs outArg
  intro w
  have H0 := Lib.hid (B_alloc (B_refl w) (.cells #[.int .i64 2, .int .i64 id, .int .i64 fk, .string data, .string text] 36))
  have HK := Lib.hid (Blk.new w 36 #[.int .i64 2, .int .i64 id, .int .i64 fk, .string data, .string text])
  clear hsz
  go_enter Try.func27, Try.ntmps27
  go_wp2_with (go_at_call 42; refine (HN.out _).mono ?_; rintro e wn ⟨rfl, bn⟩; have kn := HK.out.b bn; have BN := Lib.hid (B_trans H0.out bn); have k0 := kn.cell 0; have k4 := kn.cell 4; have kl := kn.lt; simp at k0 k4; clear kn bn)
  all_goals go_ret
  all_goals exact ⟨rfl, by first | exact H0.out | exact BN.out⟩
set_option maxRecDepth 100000 in
set_option maxHeartbeats 1000000 in
theorem rr_2_true (id fk : Int) (data text : ByteArray) (hsz : text.size ≤ 9999) (i0 : 0 < id) (i1 : id ≤ 999999999) (hb : (fk == 0 && data.toList.isEmpty) = true) (hn : nameB text = true) : RefIs ⟨2, id, fk, data, text⟩ true := by
  have HN := Lib.hid (fun W => refname_nine text hsz W)
  rw [hn] at HN
  unfold RefIs outArg
  intro w
  have H0 := Lib.hid (B_alloc (B_refl w) (.cells #[.int .i64 2, .int .i64 id, .int .i64 fk, .string data, .string text] 36))
  have HK := Lib.hid (Blk.new w 36 #[.int .i64 2, .int .i64 id, .int .i64 fk, .string data, .string text])
  clear hsz hn
  go_enter Try.func27, Try.ntmps27
  go_wp2_with (go_at_call 42; refine (HN.out _).mono ?_; rintro e wn ⟨rfl, bn⟩; have kn := HK.out.b bn; have BN := Lib.hid (B_trans H0.out bn); have k0 := kn.cell 0; have k4 := kn.cell 4; have kl := kn.lt; simp at k0 k4; clear kn bn)
  all_goals go_ret
  all_goals exact ⟨rfl, by first | exact H0.out | exact BN.out⟩
set_option maxRecDepth 100000 in
set_option maxHeartbeats 1000000 in
theorem rr_2_false (id fk : Int) (data text : ByteArray) (hsz : text.size ≤ 9999) (i0 : 0 < id) (i1 : id ≤ 999999999) (hb : (fk == 0 && data.toList.isEmpty) = true) (hn : nameB text = false) : RefIs ⟨2, id, fk, data, text⟩ false := by
  have HN := Lib.hid (fun W => refname_nine text hsz W)
  rw [hn] at HN
  unfold RefIs outArg
  intro w
  have H0 := Lib.hid (B_alloc (B_refl w) (.cells #[.int .i64 2, .int .i64 id, .int .i64 fk, .string data, .string text] 36))
  have HK := Lib.hid (Blk.new w 36 #[.int .i64 2, .int .i64 id, .int .i64 fk, .string data, .string text])
  clear hsz hn
  go_enter Try.func27, Try.ntmps27
  go_wp2_with (go_at_call 42; refine (HN.out _).mono ?_; rintro e wn ⟨rfl, bn⟩; have kn := HK.out.b bn; have BN := Lib.hid (B_trans H0.out bn); have k0 := kn.cell 0; have k4 := kn.cell 4; have kl := kn.lt; simp at k0 k4; clear kn bn)
  all_goals go_ret
  all_goals exact ⟨rfl, by first | exact H0.out | exact BN.out⟩
set_option maxRecDepth 100000 in
set_option maxHeartbeats 1000000 in
theorem rr_3_low (id fk : Int) (data text : ByteArray) (hsz : text.size ≤ 9999) (i0 : id ≤ 0) : RefIs ⟨3, id, fk, data, text⟩ false := by
  have HN := Lib.hid (fun W => refname_nine text hsz W)
  generalize nameB text = nb at HN
  unfold RefIs outArg
  intro w
  have H0 := Lib.hid (B_alloc (B_refl w) (.cells #[.int .i64 3, .int .i64 id, .int .i64 fk, .string data, .string text] 36))
  have HK := Lib.hid (Blk.new w 36 #[.int .i64 3, .int .i64 id, .int .i64 fk, .string data, .string text])
  clear hsz
  go_enter Try.func27, Try.ntmps27
  go_wp2_with (go_at_call 42; refine (HN.out _).mono ?_; rintro e wn ⟨rfl, bn⟩; have kn := HK.out.b bn; have BN := Lib.hid (B_trans H0.out bn); have k0 := kn.cell 0; have k4 := kn.cell 4; have kl := kn.lt; simp at k0 k4; clear kn bn)
  all_goals go_ret
  all_goals exact ⟨rfl, by first | exact H0.out | exact BN.out⟩
set_option maxRecDepth 100000 in
set_option maxHeartbeats 1000000 in
theorem rr_3_high (id fk : Int) (data text : ByteArray) (hsz : text.size ≤ 9999) (i0 : 999999999 < id) : RefIs ⟨3, id, fk, data, text⟩ false := by
  have HN := Lib.hid (fun W => refname_nine text hsz W)
  generalize nameB text = nb at HN
  unfold RefIs outArg
  intro w
  have H0 := Lib.hid (B_alloc (B_refl w) (.cells #[.int .i64 3, .int .i64 id, .int .i64 fk, .string data, .string text] 36))
  have HK := Lib.hid (Blk.new w 36 #[.int .i64 3, .int .i64 id, .int .i64 fk, .string data, .string text])
  clear hsz
  go_enter Try.func27, Try.ntmps27
  go_wp2_with (go_at_call 42; refine (HN.out _).mono ?_; rintro e wn ⟨rfl, bn⟩; have kn := HK.out.b bn; have BN := Lib.hid (B_trans H0.out bn); have k0 := kn.cell 0; have k4 := kn.cell 4; have kl := kn.lt; simp at k0 k4; clear kn bn)
  all_goals go_ret
  all_goals exact ⟨rfl, by first | exact H0.out | exact BN.out⟩
set_option maxRecDepth 100000 in
set_option maxHeartbeats 1000000 in
theorem rr_3_full (id fk : Int) (data text : ByteArray) (hsz : text.size ≤ 9999) (i0 : 0 < id) (i1 : id ≤ 999999999) (hb : (fk == 0 && data.toList.isEmpty) = false) : RefIs ⟨3, id, fk, data, text⟩ false := by
  have HN := Lib.hid (fun W => refname_nine text hsz W)
  generalize nameB text = nb at HN
  unfold RefIs outArg
  intro w
  have H0 := Lib.hid (B_alloc (B_refl w) (.cells #[.int .i64 3, .int .i64 id, .int .i64 fk, .string data, .string text] 36))
  have HK := Lib.hid (Blk.new w 36 #[.int .i64 3, .int .i64 id, .int .i64 fk, .string data, .string text])
  clear hsz
  go_enter Try.func27, Try.ntmps27
  go_wp2_with (go_at_call 42; refine (HN.out _).mono ?_; rintro e wn ⟨rfl, bn⟩; have kn := HK.out.b bn; have BN := Lib.hid (B_trans H0.out bn); have k0 := kn.cell 0; have k4 := kn.cell 4; have kl := kn.lt; simp at k0 k4; clear kn bn)
  all_goals go_ret
  all_goals exact ⟨rfl, by first | exact H0.out | exact BN.out⟩
set_option maxRecDepth 100000 in
set_option maxHeartbeats 1000000 in
theorem rr_3_true (id fk : Int) (data text : ByteArray) (hsz : text.size ≤ 9999) (i0 : 0 < id) (i1 : id ≤ 999999999) (hb : (fk == 0 && data.toList.isEmpty) = true) (te : text.toList.isEmpty = true) : RefIs ⟨3, id, fk, data, text⟩ true := by
  have HN := Lib.hid (fun W => refname_nine text hsz W)
  generalize nameB text = nb at HN
  unfold RefIs outArg
  intro w
  have H0 := Lib.hid (B_alloc (B_refl w) (.cells #[.int .i64 3, .int .i64 id, .int .i64 fk, .string data, .string text] 36))
  have HK := Lib.hid (Blk.new w 36 #[.int .i64 3, .int .i64 id, .int .i64 fk, .string data, .string text])
  clear hsz
  go_enter Try.func27, Try.ntmps27
  go_wp2_with (go_at_call 42; refine (HN.out _).mono ?_; rintro e wn ⟨rfl, bn⟩; have kn := HK.out.b bn; have BN := Lib.hid (B_trans H0.out bn); have k0 := kn.cell 0; have k4 := kn.cell 4; have kl := kn.lt; simp at k0 k4; clear kn bn)
  all_goals go_ret
  all_goals exact ⟨rfl, by first | exact H0.out | exact BN.out⟩
set_option maxRecDepth 100000 in
set_option maxHeartbeats 1000000 in
theorem rr_3_false (id fk : Int) (data text : ByteArray) (hsz : text.size ≤ 9999) (i0 : 0 < id) (i1 : id ≤ 999999999) (hb : (fk == 0 && data.toList.isEmpty) = true) (te : text.toList.isEmpty = false) : RefIs ⟨3, id, fk, data, text⟩ false := by
  have HN := Lib.hid (fun W => refname_nine text hsz W)
  generalize nameB text = nb at HN
  unfold RefIs outArg
  intro w
  have H0 := Lib.hid (B_alloc (B_refl w) (.cells #[.int .i64 3, .int .i64 id, .int .i64 fk, .string data, .string text] 36))
  have HK := Lib.hid (Blk.new w 36 #[.int .i64 3, .int .i64 id, .int .i64 fk, .string data, .string text])
  clear hsz
  go_enter Try.func27, Try.ntmps27
  go_wp2_with (go_at_call 42; refine (HN.out _).mono ?_; rintro e wn ⟨rfl, bn⟩; have kn := HK.out.b bn; have BN := Lib.hid (B_trans H0.out bn); have k0 := kn.cell 0; have k4 := kn.cell 4; have kl := kn.lt; simp at k0 k4; clear kn bn)
  all_goals go_ret
  all_goals exact ⟨rfl, by first | exact H0.out | exact BN.out⟩
set_option maxRecDepth 100000 in
set_option maxHeartbeats 1000000 in
theorem rr_4_low (id fk : Int) (data text : ByteArray) (hsz : text.size ≤ 9999) (i0 : id ≤ 0) : RefIs ⟨4, id, fk, data, text⟩ false := by
  have HN := Lib.hid (fun W => refname_nine text hsz W)
  generalize nameB text = nb at HN
  unfold RefIs outArg
  intro w
  have H0 := Lib.hid (B_alloc (B_refl w) (.cells #[.int .i64 4, .int .i64 id, .int .i64 fk, .string data, .string text] 36))
  have HK := Lib.hid (Blk.new w 36 #[.int .i64 4, .int .i64 id, .int .i64 fk, .string data, .string text])
  clear hsz
  go_enter Try.func27, Try.ntmps27
  go_wp2_with (go_at_call 42; refine (HN.out _).mono ?_; rintro e wn ⟨rfl, bn⟩; have kn := HK.out.b bn; have BN := Lib.hid (B_trans H0.out bn); have k0 := kn.cell 0; have k4 := kn.cell 4; have kl := kn.lt; simp at k0 k4; clear kn bn)
  all_goals go_ret
  all_goals exact ⟨rfl, by first | exact H0.out | exact BN.out⟩
set_option maxRecDepth 100000 in
set_option maxHeartbeats 1000000 in
theorem rr_4_high (id fk : Int) (data text : ByteArray) (hsz : text.size ≤ 9999) (i0 : 999999999 < id) : RefIs ⟨4, id, fk, data, text⟩ false := by
  have HN := Lib.hid (fun W => refname_nine text hsz W)
  generalize nameB text = nb at HN
  unfold RefIs outArg
  intro w
  have H0 := Lib.hid (B_alloc (B_refl w) (.cells #[.int .i64 4, .int .i64 id, .int .i64 fk, .string data, .string text] 36))
  have HK := Lib.hid (Blk.new w 36 #[.int .i64 4, .int .i64 id, .int .i64 fk, .string data, .string text])
  clear hsz
  go_enter Try.func27, Try.ntmps27
  go_wp2_with (go_at_call 42; refine (HN.out _).mono ?_; rintro e wn ⟨rfl, bn⟩; have kn := HK.out.b bn; have BN := Lib.hid (B_trans H0.out bn); have k0 := kn.cell 0; have k4 := kn.cell 4; have kl := kn.lt; simp at k0 k4; clear kn bn)
  all_goals go_ret
  all_goals exact ⟨rfl, by first | exact H0.out | exact BN.out⟩
set_option maxRecDepth 100000 in
set_option maxHeartbeats 1000000 in
theorem rr_4_full (id fk : Int) (data text : ByteArray) (hsz : text.size ≤ 9999) (i0 : 0 < id) (i1 : id ≤ 999999999) (hb : (fk == 0 && data.toList.isEmpty) = false) : RefIs ⟨4, id, fk, data, text⟩ false := by
  have HN := Lib.hid (fun W => refname_nine text hsz W)
  generalize nameB text = nb at HN
  unfold RefIs outArg
  intro w
  have H0 := Lib.hid (B_alloc (B_refl w) (.cells #[.int .i64 4, .int .i64 id, .int .i64 fk, .string data, .string text] 36))
  have HK := Lib.hid (Blk.new w 36 #[.int .i64 4, .int .i64 id, .int .i64 fk, .string data, .string text])
  clear hsz
  go_enter Try.func27, Try.ntmps27
  go_wp2_with (go_at_call 42; refine (HN.out _).mono ?_; rintro e wn ⟨rfl, bn⟩; have kn := HK.out.b bn; have BN := Lib.hid (B_trans H0.out bn); have k0 := kn.cell 0; have k4 := kn.cell 4; have kl := kn.lt; simp at k0 k4; clear kn bn)
  all_goals go_ret
  all_goals exact ⟨rfl, by first | exact H0.out | exact BN.out⟩
set_option maxRecDepth 100000 in
set_option maxHeartbeats 1000000 in
theorem rr_4_true (id fk : Int) (data text : ByteArray) (hsz : text.size ≤ 9999) (i0 : 0 < id) (i1 : id ≤ 999999999) (hb : (fk == 0 && data.toList.isEmpty) = true) (te : text.toList.isEmpty = true) : RefIs ⟨4, id, fk, data, text⟩ true := by
  have HN := Lib.hid (fun W => refname_nine text hsz W)
  generalize nameB text = nb at HN
  unfold RefIs outArg
  intro w
  have H0 := Lib.hid (B_alloc (B_refl w) (.cells #[.int .i64 4, .int .i64 id, .int .i64 fk, .string data, .string text] 36))
  have HK := Lib.hid (Blk.new w 36 #[.int .i64 4, .int .i64 id, .int .i64 fk, .string data, .string text])
  clear hsz
  go_enter Try.func27, Try.ntmps27
  go_wp2_with (go_at_call 42; refine (HN.out _).mono ?_; rintro e wn ⟨rfl, bn⟩; have kn := HK.out.b bn; have BN := Lib.hid (B_trans H0.out bn); have k0 := kn.cell 0; have k4 := kn.cell 4; have kl := kn.lt; simp at k0 k4; clear kn bn)
  all_goals go_ret
  all_goals exact ⟨rfl, by first | exact H0.out | exact BN.out⟩
set_option maxRecDepth 100000 in
set_option maxHeartbeats 1000000 in
theorem rr_4_false (id fk : Int) (data text : ByteArray) (hsz : text.size ≤ 9999) (i0 : 0 < id) (i1 : id ≤ 999999999) (hb : (fk == 0 && data.toList.isEmpty) = true) (te : text.toList.isEmpty = false) : RefIs ⟨4, id, fk, data, text⟩ false := by
  have HN := Lib.hid (fun W => refname_nine text hsz W)
  generalize nameB text = nb at HN
  unfold RefIs outArg
  intro w
  have H0 := Lib.hid (B_alloc (B_refl w) (.cells #[.int .i64 4, .int .i64 id, .int .i64 fk, .string data, .string text] 36))
  have HK := Lib.hid (Blk.new w 36 #[.int .i64 4, .int .i64 id, .int .i64 fk, .string data, .string text])
  clear hsz
  go_enter Try.func27, Try.ntmps27
  go_wp2_with (go_at_call 42; refine (HN.out _).mono ?_; rintro e wn ⟨rfl, bn⟩; have kn := HK.out.b bn; have BN := Lib.hid (B_trans H0.out bn); have k0 := kn.cell 0; have k4 := kn.cell 4; have kl := kn.lt; simp at k0 k4; clear kn bn)
  all_goals go_ret
  all_goals exact ⟨rfl, by first | exact H0.out | exact BN.out⟩
set_option maxRecDepth 100000 in
set_option maxHeartbeats 1000000 in
theorem rr_5_id (id fk : Int) (data text : ByteArray) (hsz : text.size ≤ 9999) (i0 : (id != 0) = true) : RefIs ⟨5, id, fk, data, text⟩ false := by
  have HN := Lib.hid (fun W => refname_nine text hsz W)
  generalize nameB text = nb at HN
  unfold RefIs outArg
  intro w
  have H0 := Lib.hid (B_alloc (B_refl w) (.cells #[.int .i64 5, .int .i64 id, .int .i64 fk, .string data, .string text] 36))
  have HK := Lib.hid (Blk.new w 36 #[.int .i64 5, .int .i64 id, .int .i64 fk, .string data, .string text])
  clear hsz
  go_enter Try.func27, Try.ntmps27
  go_wp2_with (go_at_call 42; refine (HN.out _).mono ?_; rintro e wn ⟨rfl, bn⟩; have kn := HK.out.b bn; have BN := Lib.hid (B_trans H0.out bn); have k0 := kn.cell 0; have k4 := kn.cell 4; have kl := kn.lt; simp at k0 k4; clear kn bn)
  all_goals go_ret
  all_goals exact ⟨rfl, by first | exact H0.out | exact BN.out⟩
set_option maxRecDepth 100000 in
set_option maxHeartbeats 1000000 in
theorem rr_5_full (fk : Int) (data text : ByteArray) (hsz : text.size ≤ 9999) (hb : (fk == 0 && data.toList.isEmpty) = false) : RefIs ⟨5, 0, fk, data, text⟩ false := by
  have HN := Lib.hid (fun W => refname_nine text hsz W)
  generalize nameB text = nb at HN
  unfold RefIs outArg
  intro w
  have H0 := Lib.hid (B_alloc (B_refl w) (.cells #[.int .i64 5, .int .i64 0, .int .i64 fk, .string data, .string text] 36))
  have HK := Lib.hid (Blk.new w 36 #[.int .i64 5, .int .i64 0, .int .i64 fk, .string data, .string text])
  clear hsz
  go_enter Try.func27, Try.ntmps27
  go_wp2_with (go_at_call 42; refine (HN.out _).mono ?_; rintro e wn ⟨rfl, bn⟩; have kn := HK.out.b bn; have BN := Lib.hid (B_trans H0.out bn); have k0 := kn.cell 0; have k4 := kn.cell 4; have kl := kn.lt; simp at k0 k4; clear kn bn)
  all_goals go_ret
  all_goals exact ⟨rfl, by first | exact H0.out | exact BN.out⟩
set_option maxRecDepth 100000 in
set_option maxHeartbeats 1000000 in
theorem rr_5_true (fk : Int) (data text : ByteArray) (hsz : text.size ≤ 9999) (hb : (fk == 0 && data.toList.isEmpty) = true) (te : text.toList.isEmpty = true) : RefIs ⟨5, 0, fk, data, text⟩ false := by
  have HN := Lib.hid (fun W => refname_nine text hsz W)
  generalize nameB text = nb at HN
  unfold RefIs outArg
  intro w
  have H0 := Lib.hid (B_alloc (B_refl w) (.cells #[.int .i64 5, .int .i64 0, .int .i64 fk, .string data, .string text] 36))
  have HK := Lib.hid (Blk.new w 36 #[.int .i64 5, .int .i64 0, .int .i64 fk, .string data, .string text])
  clear hsz
  go_enter Try.func27, Try.ntmps27
  go_wp2_with (go_at_call 42; refine (HN.out _).mono ?_; rintro e wn ⟨rfl, bn⟩; have kn := HK.out.b bn; have BN := Lib.hid (B_trans H0.out bn); have k0 := kn.cell 0; have k4 := kn.cell 4; have kl := kn.lt; simp at k0 k4; clear kn bn)
  all_goals go_ret
  all_goals exact ⟨rfl, by first | exact H0.out | exact BN.out⟩
set_option maxRecDepth 100000 in
set_option maxHeartbeats 1000000 in
theorem rr_5_false (fk : Int) (data text : ByteArray) (hsz : text.size ≤ 9999) (hb : (fk == 0 && data.toList.isEmpty) = true) (te : text.toList.isEmpty = false) : RefIs ⟨5, 0, fk, data, text⟩ true := by
  have HN := Lib.hid (fun W => refname_nine text hsz W)
  generalize nameB text = nb at HN
  unfold RefIs outArg
  intro w
  have H0 := Lib.hid (B_alloc (B_refl w) (.cells #[.int .i64 5, .int .i64 0, .int .i64 fk, .string data, .string text] 36))
  have HK := Lib.hid (Blk.new w 36 #[.int .i64 5, .int .i64 0, .int .i64 fk, .string data, .string text])
  clear hsz
  go_enter Try.func27, Try.ntmps27
  go_wp2_with (go_at_call 42; refine (HN.out _).mono ?_; rintro e wn ⟨rfl, bn⟩; have kn := HK.out.b bn; have BN := Lib.hid (B_trans H0.out bn); have k0 := kn.cell 0; have k4 := kn.cell 4; have kl := kn.lt; simp at k0 k4; clear kn bn)
  all_goals go_ret
  all_goals exact ⟨rfl, by first | exact H0.out | exact BN.out⟩
set_option maxRecDepth 100000 in
set_option maxHeartbeats 1000000 in
theorem rr_6_id (id fk : Int) (data text : ByteArray) (hsz : text.size ≤ 9999) (i0 : (id != 0) = true) : RefIs ⟨6, id, fk, data, text⟩ false := by
  have HN := Lib.hid (fun W => refname_nine text hsz W)
  generalize nameB text = nb at HN
  unfold RefIs outArg
  intro w
  have H0 := Lib.hid (B_alloc (B_refl w) (.cells #[.int .i64 6, .int .i64 id, .int .i64 fk, .string data, .string text] 36))
  have HK := Lib.hid (Blk.new w 36 #[.int .i64 6, .int .i64 id, .int .i64 fk, .string data, .string text])
  clear hsz
  go_enter Try.func27, Try.ntmps27
  go_wp2_with (go_at_call 42; refine (HN.out _).mono ?_; rintro e wn ⟨rfl, bn⟩; have kn := HK.out.b bn; have BN := Lib.hid (B_trans H0.out bn); have k0 := kn.cell 0; have k4 := kn.cell 4; have kl := kn.lt; simp at k0 k4; clear kn bn)
  all_goals go_ret
  all_goals exact ⟨rfl, by first | exact H0.out | exact BN.out⟩
set_option maxRecDepth 100000 in
set_option maxHeartbeats 1000000 in
theorem rr_6_full (fk : Int) (data text : ByteArray) (hsz : text.size ≤ 9999) (hb : (fk == 0 && data.toList.isEmpty) = false) : RefIs ⟨6, 0, fk, data, text⟩ false := by
  have HN := Lib.hid (fun W => refname_nine text hsz W)
  generalize nameB text = nb at HN
  unfold RefIs outArg
  intro w
  have H0 := Lib.hid (B_alloc (B_refl w) (.cells #[.int .i64 6, .int .i64 0, .int .i64 fk, .string data, .string text] 36))
  have HK := Lib.hid (Blk.new w 36 #[.int .i64 6, .int .i64 0, .int .i64 fk, .string data, .string text])
  clear hsz
  go_enter Try.func27, Try.ntmps27
  go_wp2_with (go_at_call 42; refine (HN.out _).mono ?_; rintro e wn ⟨rfl, bn⟩; have kn := HK.out.b bn; have BN := Lib.hid (B_trans H0.out bn); have k0 := kn.cell 0; have k4 := kn.cell 4; have kl := kn.lt; simp at k0 k4; clear kn bn)
  all_goals go_ret
  all_goals exact ⟨rfl, by first | exact H0.out | exact BN.out⟩
set_option maxRecDepth 100000 in
set_option maxHeartbeats 1000000 in
theorem rr_6_true (fk : Int) (data text : ByteArray) (hsz : text.size ≤ 9999) (hb : (fk == 0 && data.toList.isEmpty) = true) (te : text.toList.isEmpty = true) : RefIs ⟨6, 0, fk, data, text⟩ false := by
  have HN := Lib.hid (fun W => refname_nine text hsz W)
  generalize nameB text = nb at HN
  unfold RefIs outArg
  intro w
  have H0 := Lib.hid (B_alloc (B_refl w) (.cells #[.int .i64 6, .int .i64 0, .int .i64 fk, .string data, .string text] 36))
  have HK := Lib.hid (Blk.new w 36 #[.int .i64 6, .int .i64 0, .int .i64 fk, .string data, .string text])
  clear hsz
  go_enter Try.func27, Try.ntmps27
  go_wp2_with (go_at_call 42; refine (HN.out _).mono ?_; rintro e wn ⟨rfl, bn⟩; have kn := HK.out.b bn; have BN := Lib.hid (B_trans H0.out bn); have k0 := kn.cell 0; have k4 := kn.cell 4; have kl := kn.lt; simp at k0 k4; clear kn bn)
  all_goals go_ret
  all_goals exact ⟨rfl, by first | exact H0.out | exact BN.out⟩
set_option maxRecDepth 100000 in
set_option maxHeartbeats 1000000 in
theorem rr_6_false (fk : Int) (data text : ByteArray) (hsz : text.size ≤ 9999) (hb : (fk == 0 && data.toList.isEmpty) = true) (te : text.toList.isEmpty = false) : RefIs ⟨6, 0, fk, data, text⟩ true := by
  have HN := Lib.hid (fun W => refname_nine text hsz W)
  generalize nameB text = nb at HN
  unfold RefIs outArg
  intro w
  have H0 := Lib.hid (B_alloc (B_refl w) (.cells #[.int .i64 6, .int .i64 0, .int .i64 fk, .string data, .string text] 36))
  have HK := Lib.hid (Blk.new w 36 #[.int .i64 6, .int .i64 0, .int .i64 fk, .string data, .string text])
  clear hsz
  go_enter Try.func27, Try.ntmps27
  go_wp2_with (go_at_call 42; refine (HN.out _).mono ?_; rintro e wn ⟨rfl, bn⟩; have kn := HK.out.b bn; have BN := Lib.hid (B_trans H0.out bn); have k0 := kn.cell 0; have k4 := kn.cell 4; have kl := kn.lt; simp at k0 k4; clear kn bn)
  all_goals go_ret
  all_goals exact ⟨rfl, by first | exact H0.out | exact BN.out⟩
set_option maxRecDepth 100000 in
set_option maxHeartbeats 1000000 in
theorem rr_neg (id fk k : Int) (data text : ByteArray) (hsz : text.size ≤ 9999) (hk : k < 0) : RefIs ⟨k, id, fk, data, text⟩ false := by
  have HN := Lib.hid (fun W => refname_nine text hsz W)
  generalize nameB text = nb at HN
  unfold RefIs outArg
  intro w
  have H0 := Lib.hid (B_alloc (B_refl w) (.cells #[.int .i64 k, .int .i64 id, .int .i64 fk, .string data, .string text] 36))
  have HK := Lib.hid (Blk.new w 36 #[.int .i64 k, .int .i64 id, .int .i64 fk, .string data, .string text])
  clear hsz
  go_enter Try.func27, Try.ntmps27
  go_wp2_with (go_at_call 42; refine (HN.out _).mono ?_; rintro e wn ⟨rfl, bn⟩; have kn := HK.out.b bn; have BN := Lib.hid (B_trans H0.out bn); have k0 := kn.cell 0; have k4 := kn.cell 4; have kl := kn.lt; simp at k0 k4; clear kn bn)
  all_goals go_ret
  all_goals exact ⟨rfl, by first | exact H0.out | exact BN.out⟩
set_option maxRecDepth 100000 in
set_option maxHeartbeats 1000000 in
theorem rr_pos (id fk k : Int) (data text : ByteArray) (hsz : text.size ≤ 9999) (hk : 6 < k) : RefIs ⟨k, id, fk, data, text⟩ false := by
  have HN := Lib.hid (fun W => refname_nine text hsz W)
  generalize nameB text = nb at HN
  unfold RefIs outArg
  intro w
  have H0 := Lib.hid (B_alloc (B_refl w) (.cells #[.int .i64 k, .int .i64 id, .int .i64 fk, .string data, .string text] 36))
  have HK := Lib.hid (Blk.new w 36 #[.int .i64 k, .int .i64 id, .int .i64 fk, .string data, .string text])
  clear hsz
  go_enter Try.func27, Try.ntmps27
  go_wp2_with (go_at_call 42; refine (HN.out _).mono ?_; rintro e wn ⟨rfl, bn⟩; have kn := HK.out.b bn; have BN := Lib.hid (B_trans H0.out bn); have k0 := kn.cell 0; have k4 := kn.cell 4; have kl := kn.lt; simp at k0 k4; clear kn bn)
  all_goals go_ret
  all_goals exact ⟨rfl, by first | exact H0.out | exact BN.out⟩
theorem fname_is {k : Int} (h : emptyV (fnameV k) = false) : 1 ≤ k ∧ k ≤ 8 := by
  by_cases hk : 1 ≤ k ∧ k ≤ 8
  · exact hk
  · have hf : fnameV k = ⟨#[]⟩ := by
      unfold fnameV
      rw [if_neg (by omega), if_neg (by omega), if_neg (by omega), if_neg (by omega), if_neg (by omega), if_neg (by omega), if_neg (by omega), if_neg (by omega)]
    rw [hf] at h
    exact absurd h (by decide +kernel)
theorem fname_full {fk : Int} (h : 1 ≤ fk ∧ fk ≤ 8) : emptyV (fnameV fk) = false := by
  obtain ⟨h1, h8⟩ := h
  have hc : fk = 1 ∨ fk = 2 ∨ fk = 3 ∨ fk = 4 ∨ fk = 5 ∨ fk = 6 ∨ fk = 7 ∨ fk = 8 := by omega
  rcases hc with rfl | rfl | rfl | rfl | rfl | rfl | rfl | rfl <;> decide +kernel
theorem fname_void {fk : Int} (h : ¬ (1 ≤ fk ∧ fk ≤ 8)) : emptyV (fnameV fk) = true := by
  cases hN : emptyV (fnameV fk) with
  | true => rfl
  | false => exact absurd (fname_is hN) h
theorem refright_any (o : OutV) (ht : o.text.size ≤ 9999) : RefIs o (rightV o) := by
  obtain ⟨k, id, fk, data, text⟩ := o
  simp only at ht
  have hn : id ≤ 0 ∨ 999999999 < id ∨ (0 < id ∧ id ≤ 999999999) := by omega
  have hb : (fk == 0 && data.toList.isEmpty) = false ∨ (fk == 0 && data.toList.isEmpty) = true := by cases (fk == 0 && data.toList.isEmpty) <;> simp
  have hte : text.toList.isEmpty = false ∨ text.toList.isEmpty = true := by cases text.toList.isEmpty <;> simp
  have hnb : nameB text = false ∨ nameB text = true := by cases nameB text <;> simp
  by_cases kn : k < 0
  · have e : rightV ⟨k, id, fk, data, text⟩ = false := by
      unfold rightV
      rw [if_neg (by simp only; omega), if_neg (by simp only; omega), if_neg (by simp only; omega), if_neg (by simp only; omega)]
    rw [e]
    exact rr_neg id fk k data text ht kn
  by_cases kp : 6 < k
  · have e : rightV ⟨k, id, fk, data, text⟩ = false := by
      unfold rightV
      rw [if_neg (by simp only; omega), if_neg (by simp only; omega), if_neg (by simp only; omega), if_neg (by simp only; omega)]
    rw [e]
    exact rr_pos id fk k data text ht kp
  have hk : k = 0 ∨ k = 1 ∨ k = 2 ∨ k = 3 ∨ k = 4 ∨ k = 5 ∨ k = 6 := by omega
  clear kn kp
  rcases hk with rfl | rfl | rfl | rfl | rfl | rfl | rfl
  · show RefIs _ (numberV id && (!emptyV (fnameV fk) && text.toList.isEmpty))
    rcases hn with h | h | ⟨h, h1⟩
    · rw [num_low h]; exact rr_0_low id fk data text ht h
    · rw [num_high h]; exact rr_0_high id fk data text ht h
    · rw [num_yes h h1]
      by_cases f1 : fk < 1
      · rw [fname_void (by omega)]; exact rr_0_f0 id fk data text ht h h1 f1
      · by_cases f8 : 8 < fk
        · rw [fname_void (by omega)]; exact rr_0_f8 id fk data text ht h h1 f8
        · rw [fname_full (by omega)]
          rcases hte with te | te
          · rw [te]; exact rr_0_no id fk data text ht h h1 (by omega) (by omega) te
          · rw [te]; exact rr_0_yes id fk data text ht h h1 (by omega) (by omega) te
  · show RefIs _ (numberV id && (!emptyV (fnameV fk) && text.toList.isEmpty))
    rcases hn with h | h | ⟨h, h1⟩
    · rw [num_low h]; exact rr_1_low id fk data text ht h
    · rw [num_high h]; exact rr_1_high id fk data text ht h
    · rw [num_yes h h1]
      by_cases f1 : fk < 1
      · rw [fname_void (by omega)]; exact rr_1_f0 id fk data text ht h h1 f1
      · by_cases f8 : 8 < fk
        · rw [fname_void (by omega)]; exact rr_1_f8 id fk data text ht h h1 f8
        · rw [fname_full (by omega)]
          rcases hte with te | te
          · rw [te]; exact rr_1_no id fk data text ht h h1 (by omega) (by omega) te
          · rw [te]; exact rr_1_yes id fk data text ht h h1 (by omega) (by omega) te
  · show RefIs _ (numberV id && ((fk == 0 && data.toList.isEmpty) && nameB text))
    rcases hn with h | h | ⟨h, h1⟩
    · rw [num_low h]; exact rr_2_low id fk data text ht h
    · rw [num_high h]; exact rr_2_high id fk data text ht h
    · rw [num_yes h h1]
      rcases hb with hb | hb
      · rw [hb]; exact rr_2_full id fk data text ht h h1 hb
      · rw [hb]
        rcases hnb with te | te
        · rw [te]; exact rr_2_false id fk data text ht h h1 hb te
        · rw [te]; exact rr_2_true id fk data text ht h h1 hb te
  · show RefIs _ (numberV id && ((fk == 0 && data.toList.isEmpty) && text.toList.isEmpty))
    rcases hn with h | h | ⟨h, h1⟩
    · rw [num_low h]; exact rr_3_low id fk data text ht h
    · rw [num_high h]; exact rr_3_high id fk data text ht h
    · rw [num_yes h h1]
      rcases hb with hb | hb
      · rw [hb]; exact rr_3_full id fk data text ht h h1 hb
      · rw [hb]
        rcases hte with te | te
        · rw [te]; exact rr_3_false id fk data text ht h h1 hb te
        · rw [te]; exact rr_3_true id fk data text ht h h1 hb te
  · show RefIs _ (numberV id && ((fk == 0 && data.toList.isEmpty) && text.toList.isEmpty))
    rcases hn with h | h | ⟨h, h1⟩
    · rw [num_low h]; exact rr_4_low id fk data text ht h
    · rw [num_high h]; exact rr_4_high id fk data text ht h
    · rw [num_yes h h1]
      rcases hb with hb | hb
      · rw [hb]; exact rr_4_full id fk data text ht h h1 hb
      · rw [hb]
        rcases hte with te | te
        · rw [te]; exact rr_4_false id fk data text ht h h1 hb te
        · rw [te]; exact rr_4_true id fk data text ht h h1 hb te
  · show RefIs _ (decide (id = 0) && ((fk == 0 && data.toList.isEmpty) && !text.toList.isEmpty))
    by_cases hz : id = 0
    · rw [decide_eq_true hz]
      subst hz
      rcases hb with hb | hb
      · rw [hb]; exact rr_5_full fk data text ht hb
      · rw [hb]
        rcases hte with te | te
        · rw [te]; exact rr_5_false fk data text ht hb te
        · rw [te]; exact rr_5_true fk data text ht hb te
    · rw [decide_eq_false hz]; exact rr_5_id id fk data text ht (bne_iff_ne.2 hz)
  · show RefIs _ (decide (id = 0) && ((fk == 0 && data.toList.isEmpty) && !text.toList.isEmpty))
    by_cases hz : id = 0
    · rw [decide_eq_true hz]
      subst hz
      rcases hb with hb | hb
      · rw [hb]; exact rr_6_full fk data text ht hb
      · rw [hb]
        rcases hte with te | te
        · rw [te]; exact rr_6_false fk data text ht hb te
        · rw [te]; exact rr_6_true fk data text ht hb te
    · rw [decide_eq_false hz]; exact rr_6_id id fk data text ht (bne_iff_ne.2 hz)
end Go.Proofs.Ytghjhcobmbobcaa.Wt
