/- Contracts of front's Next, and of a front that isn't there. -/
import Derived.Test.YtdmhlnjlbcapoaaFrD
namespace Go.Proofs.Ytdmhlnjlbcapoaa
open Go.RowKit

def nextNo (st : Int) (hs : List (Int × ByteArray)) : Bool := (st == 2) || (st == 4) || hs.isEmpty
theorem next_no (b : Nat) (v : Value) (st : Int) (hs : List (Int × ByteArray)) (w : World) (hf : Fr w b v st hs) (h : st = 2 ∨ st = 4 ∨ hs = []) :
    Calls Try.prog 15 #[.pointer (some ⟨b, 0, none⟩)] w fun e w' => e = .returned (.tuple #[.agg #[.int .i64 0, .string ByteArray.empty], .int .i64 0, .bool false]) ∧ B w w' := by
  rcases (show st = 2 ∨ ((st == 2) = false ∧ st = 4) ∨ ((st == 2) = false ∧ (st == 4) = false ∧ ((hs.length : Int) == 0) = true) by
    by_cases h2 : st = 2
    · exact .inl h2
    · by_cases h4 : st = 4
      · exact .inr (.inl ⟨by simp [h2], h4⟩)
      · rcases h with h | h | h
        · exact absurd h h2
        · exact absurd h h4
        · exact .inr (.inr ⟨by simp [h2], by simp [h4], by simp [h]⟩)) with rfl | ⟨h2, rfl⟩ | ⟨h2, h4, h0⟩
  all_goals
    clear h
    go_enter Try.func15, Try.ntmps15
    go_wp2_with (first | (go_at_call 12; refine (state_any b v _ hs _ (hf.b (by (repeat (first | assumption | exact B_refl _ | refine B_drewN ?_ _ | refine B_drew ?_ | refine B_alloc ?_ _ | refine B_setCell ?_ (by first | (simp; done) | (simp; omega)) _ | refine B_trans ?_ (by assumption)))))).mono ?_; rintro e w' ⟨rfl, rfl⟩) | (go_at_call 14; refine (held_any b v _ hs _ (hf.b (by (repeat (first | assumption | exact B_refl _ | refine B_drewN ?_ _ | refine B_drew ?_ | refine B_alloc ?_ _ | refine B_setCell ?_ (by first | (simp; done) | (simp; omega)) _ | refine B_trans ?_ (by assumption)))))).mono ?_; rintro e w' ⟨rfl, rfl⟩))
    refine bodyPost_ret (v := .tuple #[.agg #[.int .i64 0, .string ByteArray.empty], .int .i64 0, .bool false]) (by simp [results, Try.results15, go_sem]; rfl) rfl ⟨rfl, by (repeat (first | assumption | exact B_refl _ | refine B_drewN ?_ _ | refine B_drew ?_ | refine B_alloc ?_ _ | refine B_setCell ?_ (by first | (simp; done) | (simp; omega)) _ | refine B_trans ?_ (by assumption)))⟩
theorem next_nil (w : World) :
    Calls Try.prog 15 #[.pointer none] w fun e w' => e = .returned (.tuple #[.agg #[.int .i64 0, .string ByteArray.empty], .int .i64 0, .bool false]) ∧ B w w' := by
  go_enter Try.func15, Try.ntmps15
  go_wp2_with (first | (go_at_call 12; refine (state_nil _).mono ?_; rintro e w' ⟨rfl, rfl⟩) | (go_at_call 14; refine (held_nil _).mono ?_; rintro e w' ⟨rfl, rfl⟩))
  refine bodyPost_ret (v := .tuple #[.agg #[.int .i64 0, .string ByteArray.empty], .int .i64 0, .bool false]) (by simp [results, Try.results15, go_sem]; rfl) rfl ⟨rfl, by (repeat (first | assumption | exact B_refl _ | refine B_drewN ?_ _ | refine B_drew ?_ | refine B_alloc ?_ _ | refine B_setCell ?_ (by first | (simp; done) | (simp; omega)) _ | refine B_trans ?_ (by assumption)))⟩
/-- the front whose first frame has been cut off -/
theorem Fr.cut {w : World} {b g o c : Nat} {st : Int} {x : Int × ByteArray} {r : List (Int × ByteArray)} (h : Fr w b (.slice (some ⟨g, o, none⟩) (r.length + 1) c) st (x :: r)) :
    (c = 1 → Fr (w.setCell ⟨b, 1, none⟩ (.slice (some ⟨g, o, none⟩) r.length 0)) b (.slice (some ⟨g, o, none⟩) r.length 0) st r) ∧
    (c ≠ 1 → Fr (w.setCell ⟨b, 1, none⟩ (.slice (some ⟨g, o + 2, none⟩) r.length (c - 1))) b (.slice (some ⟨g, o + 2, none⟩) r.length (c - 1)) st r) := by
  have hne := h.2.ne_blk h.1 (by decide)
  have hd := h.2.drop (k := 1) (by simp)
  have he : (encF (x :: r)).drop (1 * 2) = encF r := rfl
  rw [he] at hd
  simp only [List.length_cons, Nat.add_sub_cancel] at hd
  constructor
  · rintro rfl
    simp only [if_true, Nat.sub_self] at hd
    exact ⟨h.1.set_ 1 _, hd.far (p := ⟨b, 1, none⟩) hne _⟩
  · intro hc
    rw [if_neg hc, Option.map_some, addr_add, Nat.one_mul] at hd
    exact ⟨h.1.set_ 1 _, hd.far (p := ⟨b, 1, none⟩) hne _⟩
theorem next_close {w w2 : World} {b : Nat} {v v3 v' u0 u1 : Value} {st0 st' : Int} {hs0 hs' : List (Int × ByteArray)} {o1 o2 : Obj} (hF : Fr w b v st0 hs0) (hv : v3.ownBlock = v.ownBlock)
    (hf' : Fr w2 b v' st' hs') (ho' : Only (FF b v3) (((w.setCell ⟨b, 1, none⟩ v3).alloc o1).alloc o2).drew w2) (hn' : Near (((w.setCell ⟨b, 1, none⟩ v3).alloc o1).alloc o2).drew v3 v') :
    FrStep w b v st' hs' ((w2.setCell ⟨w.heap.size, 0, none⟩ u0).setCell ⟨w.heap.size, 1, none⟩ u1) := by
  have hlt := hF.1.lt
  have hW : Only (FF b v) w (((w.setCell ⟨b, 1, none⟩ v3).alloc o1).alloc o2).drew :=
    ((((Only.refl _ w).setCell (p := ⟨b, 1, none⟩) (.inl (.inl rfl)) _).alloc _).alloc _).drew
  have hsz : (((w.setCell ⟨b, 1, none⟩ v3).alloc o1).alloc o2).drew.heap.size = w.heap.size + 2 := by simp
  have hne : v'.ownBlock ≠ some w.heap.size := by
    intro he
    rcases hn' with h | h | ⟨g, h, hg⟩
    · rw [h] at he; cases he
    · rw [h, hv] at he
      have := hF.2.lt he
      omega
    · rw [h] at he
      injection he with he
      omega
  have hb : b ≠ w.heap.size := by omega
  refine ⟨v', ⟨(hf'.1.far (p := ⟨w.heap.size, 0, none⟩) hb _).far (p := ⟨w.heap.size, 1, none⟩) hb _, (hf'.2.far (p := ⟨w.heap.size, 0, none⟩) hne _).far (p := ⟨w.heap.size, 1, none⟩) hne _⟩, ?_, ?_⟩
  · refine ((hW.trans_new ho' ?_).setCell (p := ⟨w.heap.size, 0, none⟩) (.inr (Nat.le_refl _)) _).setCell (p := ⟨w.heap.size, 1, none⟩) (.inr (Nat.le_refl _)) _
    rintro i hi (h | h)
    · exact .inl h
    · exact .inr (hv ▸ h)
  · rcases hn' with h | h | ⟨g, h, hg⟩
    · exact .inl h
    · exact .inr (.inl (h.trans hv))
    · exact .inr (.inr ⟨g, h, by omega⟩)
set_option maxHeartbeats 2000000 in
theorem next_yes (b : Nat) (v : Value) (st : Int) (x : Int × ByteArray) (r : List (Int × ByteArray)) (w : World) (hf : Fr w b v st (x :: r)) (h2 : (st == 2) = false) (h4 : (st == 4) = false) :
    Calls Try.prog 15 #[.pointer (some ⟨b, 0, none⟩)] w fun e w' => e = .returned (.tuple #[.agg #[.int .i64 x.1, .string x.2], .int .i64 (takeOf st r x).2.1, .bool true]) ∧ FrStep w b v (takeOf st r x).1 (takeOf st r x).2.2 w' := by
  obtain ⟨A, c, rfl, hc1, hc2⟩ := hf.2.slice
  obtain ⟨g, o, rfl, hg, hcell⟩ := hf.2.cells (by simp)
  have hf : Fr w b (.slice (some ⟨g, o, none⟩) (r.length + 1) c) st (x :: r) := hf
  have hlt := hf.1.lt
  have d0 := hcell 0 (.int .i64 x.1) rfl
  have d1 := hcell 1 (.string x.2) rfl
  have hn0 : (((x :: r).length : Int) == 0) = false := by simp; omega
  clear hcell
  have c1 := hf.1.cell 1
  have z1 := hf.1.frozen 1
  simp at c1
  simp only [Nat.add_zero] at d0
  by_cases hc : c = 1
  · have hF1 := hf.cut.1 hc
    have hx0 : ¬ FF b (.slice (some ⟨g, o, none⟩) r.length 0) w.heap.size := by rintro (h | h); omega; simp [Value.ownBlock] at h; omega
    have hx1 : ¬ FF b (.slice (some ⟨g, o, none⟩) r.length 0) (w.heap.size + 1) := by rintro (h | h); omega; simp [Value.ownBlock] at h; omega
    have HF1 := Lib.hid hF1
    have HX0 := Lib.hid hx0
    have HX1 := Lib.hid hx1
    have HF := Lib.hid hf
    clear hF1 hx0 hx1 hf
    go_enter Try.func15, Try.ntmps15
    go_wp2_with (first | (go_at_call 12; refine (state_any b _ _ (x :: r) _ (HF.out.b (by (repeat (first | assumption | exact B_refl _ | refine B_drewN ?_ _ | refine B_drew ?_ | refine B_alloc ?_ _ | refine B_setCell ?_ (by first | (simp; done) | (simp; omega)) _ | refine B_trans ?_ (by assumption)))))).mono ?_; rintro e w' ⟨rfl, rfl⟩) | (go_at_call 14; refine (held_any b _ _ (x :: r) _ (HF.out.b (by (repeat (first | assumption | exact B_refl _ | refine B_drewN ?_ _ | refine B_drew ?_ | refine B_alloc ?_ _ | refine B_setCell ?_ (by first | (simp; done) | (simp; omega)) _ | refine B_trans ?_ (by assumption)))))).mono ?_; rintro e w' ⟨rfl, rfl⟩))
    go_region_with (go_at_call 11; refine (take_any b (.slice (some ⟨g, o, none⟩) r.length 0) st r x.1 x.2 _ (by repeat (first | exact HF1.out | refine Fr.b ?_ (B_drew (B_alloc (B_refl _) _)) | refine Fr.b ?_ (B_alloc (B_refl _) _)))).mono ?_; rintro e w2 ⟨rfl, v', hf', ho', hn'⟩; have q0 : Blk w2 w.heap.size 29 #[.int .i64 0, .string ⟨#[]⟩] := Blk.only (by exact heap_at_old (by simp) (heap_at_new _ (by simp))) ho' HX0.out; have q1 : Blk w2 (w.heap.size + 1) 29 #[.int .i64 x.1, .string x.2] := Blk.only (by exact heap_at_new _ (by simp)) ho' HX1.out; have k0 := q0.cell 0; have k1 := q0.cell 1; have k2 := q1.cell 0; have k3 := q1.cell 1; have k4 := q0.frozen 0; have k5 := q0.frozen 1; clear q0 q1; simp at k0 k1 k2 k3)
    all_goals
      go_wp2
      refine bodyPost_ret (v := .tuple #[.agg #[.int .i64 x.1, .string x.2], .int .i64 (takeOf st r x).2.1, .bool true]) (by simp [results, Try.results15, go_sem, k0, k1]) rfl ⟨rfl, ?_⟩
      exact next_close (v3 := .slice (some ⟨g, o, none⟩) r.length 0) HF.out rfl hf' ho' hn'
  · have hF1 := hf.cut.2 hc
    have hx0 : ¬ FF b (.slice (some ⟨g, o + 2, none⟩) r.length (c - 1)) w.heap.size := by rintro (h | h); omega; simp [Value.ownBlock] at h; omega
    have hx1 : ¬ FF b (.slice (some ⟨g, o + 2, none⟩) r.length (c - 1)) (w.heap.size + 1) := by rintro (h | h); omega; simp [Value.ownBlock] at h; omega
    have HF1 := Lib.hid hF1
    have HX0 := Lib.hid hx0
    have HX1 := Lib.hid hx1
    have HF := Lib.hid hf
    clear hF1 hx0 hx1 hf
    go_enter Try.func15, Try.ntmps15
    go_wp2_with (first | (go_at_call 12; refine (state_any b _ _ (x :: r) _ (HF.out.b (by (repeat (first | assumption | exact B_refl _ | refine B_drewN ?_ _ | refine B_drew ?_ | refine B_alloc ?_ _ | refine B_setCell ?_ (by first | (simp; done) | (simp; omega)) _ | refine B_trans ?_ (by assumption)))))).mono ?_; rintro e w' ⟨rfl, rfl⟩) | (go_at_call 14; refine (held_any b _ _ (x :: r) _ (HF.out.b (by (repeat (first | assumption | exact B_refl _ | refine B_drewN ?_ _ | refine B_drew ?_ | refine B_alloc ?_ _ | refine B_setCell ?_ (by first | (simp; done) | (simp; omega)) _ | refine B_trans ?_ (by assumption)))))).mono ?_; rintro e w' ⟨rfl, rfl⟩))
    go_region_with (go_at_call 11; refine (take_any b (.slice (some ⟨g, o + 2, none⟩) r.length (c - 1)) st r x.1 x.2 _ (by repeat (first | exact HF1.out | refine Fr.b ?_ (B_drew (B_alloc (B_refl _) _)) | refine Fr.b ?_ (B_alloc (B_refl _) _)))).mono ?_; rintro e w2 ⟨rfl, v', hf', ho', hn'⟩; have q0 : Blk w2 w.heap.size 29 #[.int .i64 0, .string ⟨#[]⟩] := Blk.only (by exact heap_at_old (by simp) (heap_at_new _ (by simp))) ho' HX0.out; have q1 : Blk w2 (w.heap.size + 1) 29 #[.int .i64 x.1, .string x.2] := Blk.only (by exact heap_at_new _ (by simp)) ho' HX1.out; have k0 := q0.cell 0; have k1 := q0.cell 1; have k2 := q1.cell 0; have k3 := q1.cell 1; have k4 := q0.frozen 0; have k5 := q0.frozen 1; clear q0 q1; simp at k0 k1 k2 k3)
    all_goals
      go_wp2
      refine bodyPost_ret (v := .tuple #[.agg #[.int .i64 x.1, .string x.2], .int .i64 (takeOf st r x).2.1, .bool true]) (by simp [results, Try.results15, go_sem, k0, k1]) rfl ⟨rfl, ?_⟩
      exact next_close (v3 := .slice (some ⟨g, o + 2, none⟩) r.length (c - 1)) HF.out rfl hf' ho' hn'
end Go.Proofs.Ytdmhlnjlbcapoaa
