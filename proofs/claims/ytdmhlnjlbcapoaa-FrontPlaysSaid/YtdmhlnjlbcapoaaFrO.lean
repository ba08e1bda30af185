/- FrontPasses: the walk. -/
import Derived.Test.YtdmhlnjlbcapoaaFrN
namespace Go.Proofs.Ytdmhlnjlbcapoaa
open Go.RowKit
theorem LF.less {X Y : Nat → Prop} {w0 w : World} {b : Nat} {st : Int} {hs : List (Int × ByteArray)} (h : LF X w0 w b st hs) (hX : ∀ i, Y i → X i) : LF Y w0 w b st hs := by
  obtain ⟨v, h1, h2, h3, h4, h5, h6⟩ := h
  exact ⟨v, h1, h2, fun h => h3 (hX _ h), fun g hg => ⟨(h4 g hg).1, fun h => (h4 g hg).2 (hX _ h)⟩, fun i hi => h5 i (hX i hi), h6⟩
theorem Blk.kx {X : Nat → Prop} {w w' : World} {g : Nat} {t : TypeId} {cs : Array Value} (h : Blk w g t cs) (hk : KX X w w') (hg : X g) : Blk w' g t cs := (hk.2 g hg).trans h
theorem Sl.kx' {X : Nat → Prop} {w w' : World} {e : TypeId} {size n : Nat} {v : Value} {xs : List Value} (h : Sl w e size v n xs) (hk : KX X w w') (hX : ∀ g, v.ownBlock = some g → X g) : Sl w' e size v n xs := h.move fun g hg => hk.2 g (hX g hg)
/-- the script's slice, and two boxes of the round's own -/
abbrev X3 (v : Value) (n : Nat) : Nat → Prop := fun i => (v.ownBlock = some i ∨ i = n) ∨ i = n + 1
theorem LF.more2 {v : Value} {w0 w : World} {b : Nat} {st : Int} {hs : List (Int × ByteArray)} (h : LF (SX v) w0 w b st hs) (o1 o2 : Obj) : LF (X3 v w.heap.size) w0 ((w.alloc o1).alloc o2) b st hs := by
  have := (h.more o1).more o2
  simpa using this
set_option maxRecDepth 100000 in
set_option maxHeartbeats 8000000 in
theorem walk_FrontPasses (w : World) (A : Option Addr) (len cap : Nat) (_ : len ≤ cap) (hcap : cap ≤ maxLen) (y : len * 32 ≤ 140737488351232) (xs : List Value) (_ : xs.length = len * 3)
    (rd : Rds w A xs) (lf : ∀ (i j : Nat) (k : FK), i < len → [FK.int, FK.int, FK.str][j]? = some k → ∃ u, xs[i * 3 + j]? = some u ∧ leafOk k u) :
    Calls Try.prog 6 #[.slice A len cap] w fun e w' => e = .returned (.bool true) ∧ B w w' := by
  have RD := Lib.hid rd
  have LFS := Lib.hid lf
  clear rd lf
  go_enter Try.func6, Try.ntmps6
  go_wp2_with fail
  refine (lives_any _).mono ?_
  rintro e w1 ⟨rfl, hb1⟩
  go_wp2_with fail
  refine (LF.new (X := NoX) hb1 (fun _ h => h.elim)).mono ?_
  rintro e w2 ⟨rfl, h2, hb2⟩
  obtain ⟨b, hb⟩ : ∃ b, b = w1.heap.size := ⟨_, rfl⟩
  rw [← hb] at h2 ⊢
  clear hb
  go_wp2_with fail
  refine (early_any w2 A len cap hcap y xs (RD.out.b (B_trans hb1 hb2)) LFS.out).mono ?_
  rintro e w3 ⟨v, l, rfl, hl, hS, hO, hb3⟩
  have hL : LF (SX v) w w3 b 0 [] := h2.aside hb3 fun i hi => ⟨hO i hi, hS.lt hi⟩
  clear h2 hO hb1 hb2 hb3
  obtain ⟨A', c', rfl, _⟩ := hS.slice
  have HL0 := Lib.hid hL
  have HS0 := Lib.hid hS
  clear hL hS
  go_wp2_with fail
  go_loopw [4, 5] (fun op i wr => ∃ (k : Nat) (st : Int) (hs : List (Int × ByteArray)), k ≤ l.length ∧ i = .int .i64 k ∧ op = .bool (st == 3) ∧ LF (SX (.slice A' l.length c')) w wr b st hs ∧ Sl wr 45 3 (.slice A' l.length c') l.length (encS l)) (fun _ i _ => l.length - (intOf i).toNat)
  case atStart => exact ⟨0, 0, [], Nat.zero_le _, rfl, rfl, HL0.out, HS0.out⟩
  case round =>
    obtain ⟨k, st, hs, hk, rfl, rfl, hL, hS⟩ := hrel
    have HL := Lib.hid hL
    have HS := Lib.hid hS
    clear hL hS
    by_cases hlt : k < l.length
    · obtain ⟨⟨n0, n1, d⟩, hx⟩ : ∃ x, l[k]? = some x := ⟨_, List.getElem?_eq_getElem hlt⟩
      obtain ⟨e0, e1, e2⟩ := encS_at l k _ hx
      obtain ⟨g, o, hA, hg, hc⟩ := HS.out.rds.at_ e0
      have c0 := hc _ _ e0
      have c1 := hc _ _ e1
      have c2 := hc _ _ e2
      simp only [← Nat.add_assoc] at c1 c2
      clear hc e0 e1 e2 hx
      obtain ⟨r0, r1⟩ := kindOf_range n0
      have hkd := kind_any n0 n1 d
      generalize kindOf n0 = c at *
      have HKD := Lib.hid hkd
      clear hkd
      subst hA
      have HGE := Lib.hid (show w.heap.size ≤ wr.heap.size + 1 by have := HL.out.below.size; omega)
      have HNE := Lib.hid (show (Value.slice (some ⟨g, o, none⟩) l.length c').ownBlock ≠ some (wr.heap.size + 1) by
        intro h
        have := HS.out.lt h
        omega)
      rcases (show c = 0 ∨ c = 1 ∨ 2 ≤ c by omega) with rfl | rfl | hc2
      · obtain ⟨st', what, hs', he⟩ : ∃ a b c, takeOf st hs (n1, d) = (a, b, c) := ⟨_, _, _, rfl⟩
        have ht := take_passes st hs _ he
        have HE := Lib.hid he
        clear he
        rcases ht with ⟨rfl, rfl, h3, h5, hE⟩ | ⟨hw, rfl⟩ | ⟨hw, b3, b3'⟩
        · simp only at h3 h5 hE
          go_wp2_with (go_at_call 22; refine (HKD.out _).mono ?_; rintro e wk ⟨rfl, hbk⟩; have HBK := Lib.hid hbk; have q : Blk wk wr.heap.size 45 #[.int .i64 n0, .int .i64 n1, .string d] := Blk.b ((Blk.new _ _ _).alloc _) hbk; have q' : Blk wk (wr.heap.size + 1) 29 #[.int .i64 n1, .string d] := Blk.b (by exact heap_at_new _ (by simp)) hbk; have HQ := Lib.hid q; have HQ' := Lib.hid q'; have q0 := q.cell 0; have q1 := q.cell 1; have q2 := q.cell 2; have q3 := q'.cell 0; have q4 := q'.cell 1; simp at q0 q1 q2 q3 q4; clear q q' hbk)
          refine (LF.take ((HL.out.more2 _ _).onB HBK.out) n1 d _ _ _ HE.out).mono ?_
          rintro e w7 ⟨rfl, h7, k7⟩
          have s0 := HQ.out.kx k7 (.inl (.inr rfl))
          have s1 := HQ'.out.kx k7 (.inr rfl)
          have t0 := s0.cell 0
          have t1 := s0.cell 1
          have t2 := s0.cell 2
          have t3 := s1.cell 0
          have t4 := s1.cell 1
          have t5 := s1.frozen 0
          have t6 := s1.frozen 1
          have lt0 := s1.lt
          simp at t0 t1 t2 t3 t4
          have HQ2 := Lib.hid s0
          clear s0 s1
          have H7 := Lib.hid h7
          have K7 := Lib.hid k7
          clear h7 k7
          go_wp2_with (go_at_call 12; refine ((H7.out).state).mono ?_; rintro e wx ⟨rfl, rfl⟩)
          all_goals go_roundw
          all_goals first | (exact ⟨k + 1, _, _, by omega, by go_num, by first | rfl | exact congrArg Value.bool hE.symm | exact congrArg Value.bool b3'.symm, (H7.out).less (fun i hi => .inl (.inl hi)), ((HS.out.b (B_trans (B_alloc (B_alloc (B_refl _) _) _) HBK.out)).kx' K7.out (fun g hg => .inl (.inl hg)))⟩) | (simp [intOf]; omega)
        · rcases hw with rfl | rfl | rfl | rfl
          all_goals
            go_wp2_with (go_at_call 22; refine (HKD.out _).mono ?_; rintro e wk ⟨rfl, hbk⟩; have HBK := Lib.hid hbk; have q : Blk wk wr.heap.size 45 #[.int .i64 n0, .int .i64 n1, .string d] := Blk.b ((Blk.new _ _ _).alloc _) hbk; have q' : Blk wk (wr.heap.size + 1) 29 #[.int .i64 n1, .string d] := Blk.b (by exact heap_at_new _ (by simp)) hbk; have HQ := Lib.hid q; have HQ' := Lib.hid q'; have q0 := q.cell 0; have q1 := q.cell 1; have q2 := q.cell 2; have q3 := q'.cell 0; have q4 := q'.cell 1; simp at q0 q1 q2 q3 q4; clear q q' hbk)
            refine (LF.take ((HL.out.more2 _ _).onB HBK.out) n1 d _ _ _ HE.out).mono ?_
            rintro e w7 ⟨rfl, h7, k7⟩
            have s0 := HQ.out.kx k7 (.inl (.inr rfl))
            have s1 := HQ'.out.kx k7 (.inr rfl)
            have t0 := s0.cell 0
            have t1 := s0.cell 1
            have t2 := s0.cell 2
            have t3 := s1.cell 0
            have t4 := s1.cell 1
            have t5 := s1.frozen 0
            have t6 := s1.frozen 1
            have lt0 := s1.lt
            simp at t0 t1 t2 t3 t4
            have HQ2 := Lib.hid s0
            clear s0 s1
            have H7 := Lib.hid h7
            have K7 := Lib.hid k7
            clear h7 k7
            go_wp2_with (go_at_call 12; refine ((H7.out).state).mono ?_; rintro e wx ⟨rfl, rfl⟩)
            all_goals go_roundw
            all_goals first | (exact ⟨k + 1, _, _, by omega, by go_num, by first | rfl | exact congrArg Value.bool hE.symm | exact congrArg Value.bool b3'.symm, (H7.out).less (fun i hi => .inl (.inl hi)), ((HS.out.b (B_trans (B_alloc (B_alloc (B_refl _) _) _) HBK.out)).kx' K7.out (fun g hg => .inl (.inl hg)))⟩) | (simp [intOf]; omega)
        · rcases hw with rfl | rfl | rfl | rfl
          all_goals
            go_wp2_with (go_at_call 22; refine (HKD.out _).mono ?_; rintro e wk ⟨rfl, hbk⟩; have HBK := Lib.hid hbk; have q : Blk wk wr.heap.size 45 #[.int .i64 n0, .int .i64 n1, .string d] := Blk.b ((Blk.new _ _ _).alloc _) hbk; have q' : Blk wk (wr.heap.size + 1) 29 #[.int .i64 n1, .string d] := Blk.b (by exact heap_at_new _ (by simp)) hbk; have HQ := Lib.hid q; have HQ' := Lib.hid q'; have q0 := q.cell 0; have q1 := q.cell 1; have q2 := q.cell 2; have q3 := q'.cell 0; have q4 := q'.cell 1; simp at q0 q1 q2 q3 q4; clear q q' hbk)
            refine (LF.take ((HL.out.more2 _ _).onB HBK.out) n1 d _ _ _ HE.out).mono ?_
            rintro e w7 ⟨rfl, h7, k7⟩
            have s0 := HQ.out.kx k7 (.inl (.inr rfl))
            have s1 := HQ'.out.kx k7 (.inr rfl)
            have t0 := s0.cell 0
            have t1 := s0.cell 1
            have t2 := s0.cell 2
            have t3 := s1.cell 0
            have t4 := s1.cell 1
            have t5 := s1.frozen 0
            have t6 := s1.frozen 1
            have lt0 := s1.lt
            simp at t0 t1 t2 t3 t4
            have HQ2 := Lib.hid s0
            clear s0 s1
            have H7 := Lib.hid h7
            have K7 := Lib.hid k7
            clear h7 k7
            go_wp2_with (go_at_call 12; refine ((H7.out).state).mono ?_; rintro e wx ⟨rfl, rfl⟩)
            all_goals go_roundw
            all_goals first | (exact ⟨k + 1, _, _, by omega, by go_num, by first | rfl | exact congrArg Value.bool hE.symm | exact congrArg Value.bool b3'.symm, (H7.out).less (fun i hi => .inl (.inl hi)), ((HS.out.b (B_trans (B_alloc (B_alloc (B_refl _) _) _) HBK.out)).kx' K7.out (fun g hg => .inl (.inl hg)))⟩) | (simp [intOf]; omega)
      · rcases (show (st = 2 ∨ st = 4 ∨ hs = []) ∨ (st ≠ 2 ∧ st ≠ 4 ∧ ∃ x r, hs = x :: r) by
          by_cases a : st = 2
          · exact .inl (.inl a)
          · by_cases b : st = 4
            · exact .inl (.inr (.inl b))
            · cases hs with
              | nil => exact .inl (.inr (.inr rfl))
              | cons x r => exact .inr ⟨a, b, x, r, rfl⟩) with hno | ⟨n2, n4, x, r, rfl⟩
        · have HN := Lib.hid hno
          clear hno
          go_wp2_with (go_at_call 22; refine (HKD.out _).mono ?_; rintro e wk ⟨rfl, hbk⟩; have HBK := Lib.hid hbk; have q : Blk wk wr.heap.size 45 #[.int .i64 n0, .int .i64 n1, .string d] := Blk.b ((Blk.new _ _ _).alloc _) hbk; have q' : Blk wk (wr.heap.size + 1) 29 #[.int .i64 n1, .string d] := Blk.b (by exact heap_at_new _ (by simp)) hbk; have HQ := Lib.hid q; have HQ' := Lib.hid q'; have q0 := q.cell 0; have q1 := q.cell 1; have q2 := q.cell 2; have q3 := q'.cell 0; have q4 := q'.cell 1; simp at q0 q1 q2 q3 q4; clear q q' hbk)
          refine (LF.next_no ((HL.out.more2 _ _).onB HBK.out) HN.out).mono ?_
          rintro e w7 ⟨rfl, h7, k7⟩
          have s0 := HQ.out.kx k7 (.inl (.inr rfl))
          have s1 := HQ'.out.kx k7 (.inr rfl)
          have t0 := s0.cell 0
          have t1 := s0.cell 1
          have t2 := s0.cell 2
          have t3 := s1.cell 0
          have t4 := s1.cell 1
          have t5 := s1.frozen 0
          have t6 := s1.frozen 1
          have lt0 := s1.lt
          simp at t0 t1 t2 t3 t4
          have HQ2 := Lib.hid s0
          clear s0 s1
          have H7 := Lib.hid h7
          have K7 := Lib.hid k7
          clear h7 k7
          go_wp2_with (go_at_call 12; refine (((((H7.out.store (p := ⟨wr.heap.size + 1, 0, none⟩) (.inr rfl) HGE.out _).store (p := ⟨wr.heap.size + 1, 1, none⟩) (.inr rfl) HGE.out _).alloc _)).state).mono ?_; rintro e wx ⟨rfl, rfl⟩)
          all_goals go_roundw
          all_goals first | (exact ⟨k + 1, _, _, by omega, by go_num, by first | rfl | exact congrArg Value.bool hE.symm | exact congrArg Value.bool b3'.symm, ((((H7.out.store (p := ⟨wr.heap.size + 1, 0, none⟩) (.inr rfl) HGE.out _).store (p := ⟨wr.heap.size + 1, 1, none⟩) (.inr rfl) HGE.out _).alloc _)).less (fun i hi => .inl (.inl hi)), (((((HS.out.b (B_trans (B_alloc (B_alloc (B_refl _) _) _) HBK.out)).kx' K7.out (fun g hg => .inl (.inl hg))).far (p := ⟨wr.heap.size + 1, 0, none⟩) HNE.out _).far (p := ⟨wr.heap.size + 1, 1, none⟩) HNE.out _).alloc _)⟩) | (simp [intOf]; omega)
        · obtain ⟨st', what, hs', he⟩ : ∃ a b c, takeOf st r x = (a, b, c) := ⟨_, _, _, rfl⟩
          have ht := take_passes st r x he
          have HE := Lib.hid he
          have N2 := Lib.hid n2
          have N4 := Lib.hid n4
          clear he n2 n4
          rcases ht with ⟨rfl, rfl, h3, h5, hE⟩ | ⟨hw, rfl⟩ | ⟨hw, b3, b3'⟩
          · go_wp2_with (go_at_call 22; refine (HKD.out _).mono ?_; rintro e wk ⟨rfl, hbk⟩; have HBK := Lib.hid hbk; have q : Blk wk wr.heap.size 45 #[.int .i64 n0, .int .i64 n1, .string d] := Blk.b ((Blk.new _ _ _).alloc _) hbk; have q' : Blk wk (wr.heap.size + 1) 29 #[.int .i64 n1, .string d] := Blk.b (by exact heap_at_new _ (by simp)) hbk; have HQ := Lib.hid q; have HQ' := Lib.hid q'; have q0 := q.cell 0; have q1 := q.cell 1; have q2 := q.cell 2; have q3 := q'.cell 0; have q4 := q'.cell 1; simp at q0 q1 q2 q3 q4; clear q q' hbk)
            refine (LF.next_yes ((HL.out.more2 _ _).onB HBK.out) N2.out N4.out _ _ _ HE.out).mono ?_
            rintro e w7 ⟨rfl, h7, k7⟩
            have s0 := HQ.out.kx k7 (.inl (.inr rfl))
            have s1 := HQ'.out.kx k7 (.inr rfl)
            have t0 := s0.cell 0
            have t1 := s0.cell 1
            have t2 := s0.cell 2
            have t3 := s1.cell 0
            have t4 := s1.cell 1
            have t5 := s1.frozen 0
            have t6 := s1.frozen 1
            have lt0 := s1.lt
            simp at t0 t1 t2 t3 t4
            have HQ2 := Lib.hid s0
            clear s0 s1
            have H7 := Lib.hid h7
            have K7 := Lib.hid k7
            clear h7 k7
            go_wp2_with (go_at_call 12; refine (((((H7.out.store (p := ⟨wr.heap.size + 1, 0, none⟩) (.inr rfl) HGE.out _).store (p := ⟨wr.heap.size + 1, 1, none⟩) (.inr rfl) HGE.out _).alloc _)).state).mono ?_; rintro e wx ⟨rfl, rfl⟩)
            all_goals go_roundw
            all_goals first | (exact ⟨k + 1, _, _, by omega, by go_num, by first | rfl | exact congrArg Value.bool hE.symm | exact congrArg Value.bool b3'.symm, ((((H7.out.store (p := ⟨wr.heap.size + 1, 0, none⟩) (.inr rfl) HGE.out _).store (p := ⟨wr.heap.size + 1, 1, none⟩) (.inr rfl) HGE.out _).alloc _)).less (fun i hi => .inl (.inl hi)), (((((HS.out.b (B_trans (B_alloc (B_alloc (B_refl _) _) _) HBK.out)).kx' K7.out (fun g hg => .inl (.inl hg))).far (p := ⟨wr.heap.size + 1, 0, none⟩) HNE.out _).far (p := ⟨wr.heap.size + 1, 1, none⟩) HNE.out _).alloc _)⟩) | (simp [intOf]; omega)
          · rcases hw with rfl | rfl | rfl | rfl
            all_goals
              go_wp2_with (go_at_call 22; refine (HKD.out _).mono ?_; rintro e wk ⟨rfl, hbk⟩; have HBK := Lib.hid hbk; have q : Blk wk wr.heap.size 45 #[.int .i64 n0, .int .i64 n1, .string d] := Blk.b ((Blk.new _ _ _).alloc _) hbk; have q' : Blk wk (wr.heap.size + 1) 29 #[.int .i64 n1, .string d] := Blk.b (by exact heap_at_new _ (by simp)) hbk; have HQ := Lib.hid q; have HQ' := Lib.hid q'; have q0 := q.cell 0; have q1 := q.cell 1; have q2 := q.cell 2; have q3 := q'.cell 0; have q4 := q'.cell 1; simp at q0 q1 q2 q3 q4; clear q q' hbk)
              refine (LF.next_yes ((HL.out.more2 _ _).onB HBK.out) N2.out N4.out _ _ _ HE.out).mono ?_
              rintro e w7 ⟨rfl, h7, k7⟩
              have s0 := HQ.out.kx k7 (.inl (.inr rfl))
              have s1 := HQ'.out.kx k7 (.inr rfl)
              have t0 := s0.cell 0
              have t1 := s0.cell 1
              have t2 := s0.cell 2
              have t3 := s1.cell 0
              have t4 := s1.cell 1
              have t5 := s1.frozen 0
              have t6 := s1.frozen 1
              have lt0 := s1.lt
              simp at t0 t1 t2 t3 t4
              have HQ2 := Lib.hid s0
              clear s0 s1
              have H7 := Lib.hid h7
              have K7 := Lib.hid k7
              clear h7 k7
              go_wp2_with (go_at_call 12; refine (((((H7.out.store (p := ⟨wr.heap.size + 1, 0, none⟩) (.inr rfl) HGE.out _).store (p := ⟨wr.heap.size + 1, 1, none⟩) (.inr rfl) HGE.out _).alloc _)).state).mono ?_; rintro e wx ⟨rfl, rfl⟩)
              all_goals go_roundw
              all_goals first | (exact ⟨k + 1, _, _, by omega, by go_num, by first | rfl | exact congrArg Value.bool hE.symm | exact congrArg Value.bool b3'.symm, ((((H7.out.store (p := ⟨wr.heap.size + 1, 0, none⟩) (.inr rfl) HGE.out _).store (p := ⟨wr.heap.size + 1, 1, none⟩) (.inr rfl) HGE.out _).alloc _)).less (fun i hi => .inl (.inl hi)), (((((HS.out.b (B_trans (B_alloc (B_alloc (B_refl _) _) _) HBK.out)).kx' K7.out (fun g hg => .inl (.inl hg))).far (p := ⟨wr.heap.size + 1, 0, none⟩) HNE.out _).far (p := ⟨wr.heap.size + 1, 1, none⟩) HNE.out _).alloc _)⟩) | (simp [intOf]; omega)
          · rcases hw with rfl | rfl | rfl | rfl
            all_goals
              go_wp2_with (go_at_call 22; refine (HKD.out _).mono ?_; rintro e wk ⟨rfl, hbk⟩; have HBK := Lib.hid hbk; have q : Blk wk wr.heap.size 45 #[.int .i64 n0, .int .i64 n1, .string d] := Blk.b ((Blk.new _ _ _).alloc _) hbk; have q' : Blk wk (wr.heap.size + 1) 29 #[.int .i64 n1, .string d] := Blk.b (by exact heap_at_new _ (by simp)) hbk; have HQ := Lib.hid q; have HQ' := Lib.hid q'; have q0 := q.cell 0; have q1 := q.cell 1; have q2 := q.cell 2; have q3 := q'.cell 0; have q4 := q'.cell 1; simp at q0 q1 q2 q3 q4; clear q q' hbk)
              refine (LF.next_yes ((HL.out.more2 _ _).onB HBK.out) N2.out N4.out _ _ _ HE.out).mono ?_
              rintro e w7 ⟨rfl, h7, k7⟩
              have s0 := HQ.out.kx k7 (.inl (.inr rfl))
              have s1 := HQ'.out.kx k7 (.inr rfl)
              have t0 := s0.cell 0
              have t1 := s0.cell 1
              have t2 := s0.cell 2
              have t3 := s1.cell 0
              have t4 := s1.cell 1
              have t5 := s1.frozen 0
              have t6 := s1.frozen 1
              have lt0 := s1.lt
              simp at t0 t1 t2 t3 t4
              have HQ2 := Lib.hid s0
              clear s0 s1
              have H7 := Lib.hid h7
              have K7 := Lib.hid k7
              clear h7 k7
              go_wp2_with (go_at_call 12; refine (((((H7.out.store (p := ⟨wr.heap.size + 1, 0, none⟩) (.inr rfl) HGE.out _).store (p := ⟨wr.heap.size + 1, 1, none⟩) (.inr rfl) HGE.out _).alloc _)).state).mono ?_; rintro e wx ⟨rfl, rfl⟩)
              all_goals go_roundw
              all_goals first | (exact ⟨k + 1, _, _, by omega, by go_num, by first | rfl | exact congrArg Value.bool hE.symm | exact congrArg Value.bool b3'.symm, ((((H7.out.store (p := ⟨wr.heap.size + 1, 0, none⟩) (.inr rfl) HGE.out _).store (p := ⟨wr.heap.size + 1, 1, none⟩) (.inr rfl) HGE.out _).alloc _)).less (fun i hi => .inl (.inl hi)), (((((HS.out.b (B_trans (B_alloc (B_alloc (B_refl _) _) _) HBK.out)).kx' K7.out (fun g hg => .inl (.inl hg))).far (p := ⟨wr.heap.size + 1, 0, none⟩) HNE.out _).far (p := ⟨wr.heap.size + 1, 1, none⟩) HNE.out _).alloc _)⟩) | (simp [intOf]; omega)
      · have bc0 : (c == 0) = false := by simp; omega
        have bc1 : (c == 1) = false := by simp; omega
        have hcall := fun w' X (h : LF X w w' b st hs) => LF.call h (c - 2)
        obtain ⟨did, st', hs', he⟩ : ∃ a b d, callOf st hs (c - 2) = (a, b, d) := ⟨_, _, _, rfl⟩
        obtain ⟨p1, p2⟩ := call_passes st hs (c - 2) he
        rw [he] at hcall
        have HC := Lib.hid hcall
        clear hcall he
        have e2 : (c - 2 == 0) = (c == 2) := by
          by_cases h : c = 2
          · subst h; rfl
          · have : c - 2 ≠ 0 := by omega
            rw [beq_eq_false_iff_ne.2 this, beq_eq_false_iff_ne.2 h]
        rw [e2] at p1
        clear e2
        cases did
        · obtain rfl := p2 rfl
          clear p1 p2
          go_wp2_with (go_at_call 22; refine (HKD.out _).mono ?_; rintro e wk ⟨rfl, hbk⟩; have HBK := Lib.hid hbk; have q : Blk wk wr.heap.size 45 #[.int .i64 n0, .int .i64 n1, .string d] := Blk.b ((Blk.new _ _ _).alloc _) hbk; have q' : Blk wk (wr.heap.size + 1) 29 #[.int .i64 n1, .string d] := Blk.b (by exact heap_at_new _ (by simp)) hbk; have HQ := Lib.hid q; have HQ' := Lib.hid q'; have q0 := q.cell 0; have q1 := q.cell 1; have q2 := q.cell 2; have q3 := q'.cell 0; have q4 := q'.cell 1; simp at q0 q1 q2 q3 q4; clear q q' hbk)
          refine (HKD.out _).mono ?_
          rintro e wk2 ⟨rfl, hbk2⟩
          have HQ3 := Lib.hid (HQ.out.b hbk2)
          have HQ3' := Lib.hid (HQ'.out.b hbk2)
          clear HQ HQ'
          have HQ := HQ3
          have HQ' := HQ3'
          have HBK2 := Lib.hid hbk2
          clear hbk2
          go_wp2_with fail
          refine (HC.out _ _ (((HL.out.more2 _ _).onB HBK.out).onB HBK2.out)).mono ?_
          rintro e w7 ⟨rfl, h7, k7⟩
          have s0 := HQ.out.kx k7 (.inl (.inr rfl))
          have s1 := HQ'.out.kx k7 (.inr rfl)
          have t0 := s0.cell 0
          have t1 := s0.cell 1
          have t2 := s0.cell 2
          have t3 := s1.cell 0
          have t4 := s1.cell 1
          have t5 := s1.frozen 0
          have t6 := s1.frozen 1
          have lt0 := s1.lt
          simp at t0 t1 t2 t3 t4
          have HQ2 := Lib.hid s0
          clear s0 s1
          have H7 := Lib.hid h7
          have K7 := Lib.hid k7
          clear h7 k7
          go_wp2_with (go_at_call 12; refine ((H7.out).state).mono ?_; rintro e wx ⟨rfl, rfl⟩)
          all_goals go_roundw
          all_goals first | (exact ⟨k + 1, _, _, by omega, by go_num, by first | rfl | exact congrArg Value.bool hE.symm | exact congrArg Value.bool b3'.symm, (H7.out).less (fun i hi => .inl (.inl hi)), ((HS.out.b (B_trans (B_trans (B_alloc (B_alloc (B_refl _) _) _) HBK.out) HBK2.out)).kx' K7.out (fun g hg => .inl (.inl hg)))⟩) | (simp [intOf]; omega)
        · have hE := p1 rfl
          clear p1 p2
          go_wp2_with (go_at_call 22; refine (HKD.out _).mono ?_; rintro e wk ⟨rfl, hbk⟩; have HBK := Lib.hid hbk; have q : Blk wk wr.heap.size 45 #[.int .i64 n0, .int .i64 n1, .string d] := Blk.b ((Blk.new _ _ _).alloc _) hbk; have q' : Blk wk (wr.heap.size + 1) 29 #[.int .i64 n1, .string d] := Blk.b (by exact heap_at_new _ (by simp)) hbk; have HQ := Lib.hid q; have HQ' := Lib.hid q'; have q0 := q.cell 0; have q1 := q.cell 1; have q2 := q.cell 2; have q3 := q'.cell 0; have q4 := q'.cell 1; simp at q0 q1 q2 q3 q4; clear q q' hbk)
          refine (HKD.out _).mono ?_
          rintro e wk2 ⟨rfl, hbk2⟩
          have HQ3 := Lib.hid (HQ.out.b hbk2)
          have HQ3' := Lib.hid (HQ'.out.b hbk2)
          clear HQ HQ'
          have HQ := HQ3
          have HQ' := HQ3'
          have HBK2 := Lib.hid hbk2
          clear hbk2
          go_wp2_with fail
          refine (HC.out _ _ (((HL.out.more2 _ _).onB HBK.out).onB HBK2.out)).mono ?_
          rintro e w7 ⟨rfl, h7, k7⟩
          have s0 := HQ.out.kx k7 (.inl (.inr rfl))
          have s1 := HQ'.out.kx k7 (.inr rfl)
          have t0 := s0.cell 0
          have t1 := s0.cell 1
          have t2 := s0.cell 2
          have t3 := s1.cell 0
          have t4 := s1.cell 1
          have t5 := s1.frozen 0
          have t6 := s1.frozen 1
          have lt0 := s1.lt
          simp at t0 t1 t2 t3 t4
          have HQ2 := Lib.hid s0
          clear s0 s1
          have H7 := Lib.hid h7
          have K7 := Lib.hid k7
          clear h7 k7
          go_wp2_with fail
          refine (HKD.out _).mono ?_
          rintro e wk3 ⟨rfl, hbk3⟩
          have HBK3 := Lib.hid hbk3
          clear hbk3
          go_wp2_with fail
          go_wp2_with (go_at_call 12; refine (((H7.out.onB HBK3.out)).state).mono ?_; rintro e wx ⟨rfl, rfl⟩)
          all_goals go_roundw
          all_goals first | (exact ⟨k + 1, _, _, by omega, by go_num, by first | rfl | exact congrArg Value.bool hE.symm | exact congrArg Value.bool b3'.symm, ((H7.out.onB HBK3.out)).less (fun i hi => .inl (.inl hi)), (((HS.out.b (B_trans (B_trans (B_alloc (B_alloc (B_refl _) _) _) HBK.out) HBK2.out)).kx' K7.out (fun g hg => .inl (.inl hg))).b HBK3.out)⟩) | (simp [intOf]; omega)
    · go_wp2
      go_ret
      exact ⟨rfl, HL.out.below⟩
end Go.Proofs.Ytdmhlnjlbcapoaa
