/- FrontHeld: what the law's call comes to. -/
import Derived.Test.YtdmhlnjlbcapoaaFrL
namespace Go.Proofs.Ytdmhlnjlbcapoaa
open Go.RowKit
/-- the blocks of the script's own slice -/
abbrev SX (v : Value) : Nat → Prop := fun i => v.ownBlock = some i
theorem Sl.kx {w w' : World} {e : TypeId} {size n : Nat} {v : Value} {xs : List Value} (h : Sl w e size v n xs) (hk : KX (SX v) w w') : Sl w' e size v n xs := h.move fun g hg => hk.2 g hg
theorem KX.trans {X : Nat → Prop} {w w1 w2 : World} (h : KX X w w1) (h' : KX X w1 w2) : KX X w w2 := ⟨Nat.le_trans h.1 h'.1, fun i hi => (h'.2 i hi).trans (h.2 i hi)⟩
theorem KX.of_B {X : Nat → Prop} {w w1 : World} (hb : B w w1) (hl : ∀ i, X i → i < w.heap.size) : KX X w w1 := ⟨hb.size, fun i hi => hb.block i (hl i hi)⟩
theorem LF.lt {X : Nat → Prop} {w0 w : World} {b : Nat} {st : Int} {hs : List (Int × ByteArray)} (h : LF X w0 w b st hs) : ∀ i, X i → i < w.heap.size := by
  obtain ⟨_, _, _, _, _, h5, _⟩ := h
  exact h5
/-- the front made, then blocks that are there already, apart from it, set aside -/
theorem LF.aside {X : Nat → Prop} {w0 w w1 : World} {b : Nat} {st : Int} {hs : List (Int × ByteArray)} (h : LF NoX w0 w b st hs) (hb : B w w1) (hX : ∀ i, X i → w.heap.size ≤ i ∧ i < w1.heap.size) : LF X w0 w1 b st hs := by
  obtain ⟨v, h1, h2, h3, h4, h5, h6⟩ := h
  exact ⟨v, h1.b hb, h2, fun hx => by have := hX _ hx; have := h1.1.lt; omega, fun g hg => ⟨(h4 g hg).1, fun hx => by have := hX _ hx; have := h1.2.lt hg; omega⟩, fun i hi => (hX i hi).2, B_trans h6 hb⟩
set_option maxRecDepth 100000 in
set_option maxHeartbeats 8000000 in
theorem walk_FrontHeld (w : World) (A : Option Addr) (len cap : Nat) (_ : len ≤ cap) (hcap : cap ≤ maxLen) (y : len * 32 ≤ 140737488351232) (xs : List Value) (_ : xs.length = len * 3)
    (rd : Rds w A xs) (lf : ∀ (i j : Nat) (k : FK), i < len → [FK.int, FK.int, FK.str][j]? = some k → ∃ u, xs[i * 3 + j]? = some u ∧ leafOk k u) :
    Calls Try.prog 7 #[.slice A len cap] w fun e w' => e = .returned (.bool true) ∧ B w w' := by
  have RD := Lib.hid rd
  have LFS := Lib.hid lf
  clear rd lf
  go_enter Try.func7, Try.ntmps7
  go_wp2_with fail
  refine (lives_any _).mono ?_
  rintro e w1 ⟨rfl, hb1⟩
  go_wp2_with fail
  refine (LF.new (X := NoX) hb1 (fun _ h => h.elim)).mono ?_
  rintro e w2 ⟨rfl, h2, hb2⟩
  obtain ⟨b, hb⟩ : ∃ b, b = w1.heap.size := ⟨_, rfl⟩
  rw [← hb] at h2 ⊢
  clear hb
  go_wp2_with fail
  refine (early_any w2 A len cap hcap y xs (RD.out.b (B_trans hb1 hb2)) LFS.out).mono ?_
  rintro e w3 ⟨v, l, rfl, hl, hS, hO, hb3⟩
  have hL : LF (SX v) w w3 b 0 [] := h2.aside hb3 fun i hi => ⟨hO i hi, hS.lt hi⟩
  clear h2 hO hb1 hb2 hb3
  obtain ⟨A', c', rfl, _⟩ := hS.slice
  have HL0 := Lib.hid hL
  have HS0 := Lib.hid hS
  clear hL hS
  go_wp2_with fail
  go_loopw [4, 5] (fun cl i wr => ∃ (k : Nat) (st : Int) (hs : List (Int × ByteArray)), k ≤ l.length ∧ i = .int .i64 k ∧ cl = .bool (st == 6) ∧ LF (SX (.slice A' l.length c')) w wr b st hs ∧ Sl wr 45 3 (.slice A' l.length c') l.length (encS l) ∧ Keeps st hs) (fun _ i _ => l.length - (intOf i).toNat)
  case atStart => exact ⟨0, 0, [], Nat.zero_le _, rfl, rfl, HL0.out, HS0.out, by simp [Keeps]⟩
  case round =>
    obtain ⟨k, st, hs, hk, rfl, rfl, hL, hS, hK⟩ := hrel
    have HL := Lib.hid hL
    have HS := Lib.hid hS
    have HK := Lib.hid hK
    clear hL hS hK
    by_cases hlt : k < l.length
    · obtain ⟨⟨n0, n1, d⟩, hx⟩ : ∃ x, l[k]? = some x := ⟨_, List.getElem?_eq_getElem hlt⟩
      obtain ⟨e0, e1, e2⟩ := encS_at l k _ hx
      obtain ⟨g, o, hA, hg, hc⟩ := HS.out.rds.at_ e0
      have c0 := hc _ _ e0
      have c1 := hc _ _ e1
      have c2 := hc _ _ e2
      simp only [← Nat.add_assoc] at c1 c2
      clear hc e0 e1 e2 hx
      obtain ⟨r0, r1⟩ := kindOf_range n0
      have hkd := kind_any n0 n1 d
      generalize kindOf n0 = c at *
      have HKD := Lib.hid hkd
      clear hkd
      subst hA
      have hlen4 := HK.out.1
      have hlen5 : (hs.length : Int) ≤ 4 := by omega
      rcases (show c = 0 ∨ c = 1 ∨ 2 ≤ c by omega) with rfl | rfl | hc2
      · obtain ⟨st', what, hs', he⟩ : ∃ a b c, takeOf st hs (n1, d) = (a, b, c) := ⟨_, _, _, rfl⟩
        obtain ⟨t1, t2⟩ := take_is st hs _ he
        have HK' := Lib.hid (HK.out.take he)
        have HE := Lib.hid he
        clear he
        by_cases h6 : st = 6
        · subst h6
          obtain rfl := HK.out.2 rfl
          have h6' := HE.out
          rw [take6] at h6'
          simp only [Prod.mk.injEq] at h6'
          obtain ⟨rfl, rfl, rfl⟩ := h6'
          clear t1 t2
          go_wp2_with (first | (go_at_call 12; refine ((HL.out.alloc _).state).mono ?_; rintro e wx ⟨rfl, rfl⟩) | (go_at_call 14; refine ((HL.out.alloc _).held).mono ?_; rintro e wx ⟨rfl, rfl⟩) | (go_at_call 22; refine (HKD.out _).mono ?_; rintro e wk ⟨rfl, hbk⟩; have HBK := Lib.hid hbk; have q : Blk wk wr.heap.size 45 #[.int .i64 n0, .int .i64 n1, .string d] := Blk.b (Blk.new _ _ _) hbk; have q0 := q.cell 0; have q1 := q.cell 1; have q2 := q.cell 2; simp at q0 q1 q2; clear q hbk))
          refine (LF.take ((HL.out.alloc _).onB HBK.out) n1 d _ _ _ HE.out).mono ?_
          rintro e w7 ⟨rfl, h7, k7⟩
          have H7 := Lib.hid h7
          have K7 := Lib.hid k7
          clear h7 k7
          go_wp2_with (first | (go_at_call 12; refine H7.out.state.mono ?_; rintro e wx ⟨rfl, rfl⟩) | (go_at_call 14; refine H7.out.held.mono ?_; rintro e wx ⟨rfl, rfl⟩))
          all_goals
            go_roundw
            case rel => exact ⟨k + 1, _, _, by omega, by go_num, by first | rfl | exact congrArg Value.bool b6.symm, H7.out, (HS.out.b (B_trans (B_alloc (B_refl _) _) HBK.out)).kx K7.out, HK'.out⟩
            case measure => simp [intOf]; omega
        · have b6 : (st == 6) = false := by simp [h6]
          clear h6
          by_cases hw : what = 3
          · subst hw
            obtain ⟨rfl, h24, rfl, h4⟩ := t1 rfl
            clear t1 t2
            rcases h24 with rfl | rfl
            all_goals
              go_wp2_with (first | (go_at_call 12; refine ((HL.out.alloc _).state).mono ?_; rintro e wx ⟨rfl, rfl⟩) | (go_at_call 14; refine ((HL.out.alloc _).held).mono ?_; rintro e wx ⟨rfl, rfl⟩) | (go_at_call 22; refine (HKD.out _).mono ?_; rintro e wk ⟨rfl, hbk⟩; have HBK := Lib.hid hbk; have q : Blk wk wr.heap.size 45 #[.int .i64 n0, .int .i64 n1, .string d] := Blk.b (Blk.new _ _ _) hbk; have q0 := q.cell 0; have q1 := q.cell 1; have q2 := q.cell 2; simp at q0 q1 q2; clear q hbk))
              refine (LF.take ((HL.out.alloc _).onB HBK.out) n1 d _ _ _ HE.out).mono ?_
              rintro e w7 ⟨rfl, h7, k7⟩
              have H7 := Lib.hid h7
              have K7 := Lib.hid k7
              clear h7 k7
              go_wp2_with (first | (go_at_call 12; refine H7.out.state.mono ?_; rintro e wx ⟨rfl, rfl⟩) | (go_at_call 14; refine H7.out.held.mono ?_; rintro e wx ⟨rfl, rfl⟩))
              all_goals
                go_roundw
                case rel => exact ⟨k + 1, _, _, by omega, by go_num, by first | rfl | exact congrArg Value.bool b6.symm, H7.out, (HS.out.b (B_trans (B_alloc (B_refl _) _) HBK.out)).kx K7.out, HK'.out⟩
                case measure => simp [intOf]; omega
          · have b3 : (what == 3) = false := by simp [hw]
            obtain ⟨h0, _⟩ := t2 hw
            clear t1 t2 hw
            have e1 : ((hs.length : Int) == hs.length + 1) = false := by simp; omega
            have e2 : ((0 : Int) == hs.length + 1) = false := by simp; omega
            rcases h0 with rfl | rfl
            all_goals
              go_wp2_with (first | (go_at_call 12; refine ((HL.out.alloc _).state).mono ?_; rintro e wx ⟨rfl, rfl⟩) | (go_at_call 14; refine ((HL.out.alloc _).held).mono ?_; rintro e wx ⟨rfl, rfl⟩) | (go_at_call 22; refine (HKD.out _).mono ?_; rintro e wk ⟨rfl, hbk⟩; have HBK := Lib.hid hbk; have q : Blk wk wr.heap.size 45 #[.int .i64 n0, .int .i64 n1, .string d] := Blk.b (Blk.new _ _ _) hbk; have q0 := q.cell 0; have q1 := q.cell 1; have q2 := q.cell 2; simp at q0 q1 q2; clear q hbk))
              refine (LF.take ((HL.out.alloc _).onB HBK.out) n1 d _ _ _ HE.out).mono ?_
              rintro e w7 ⟨rfl, h7, k7⟩
              have H7 := Lib.hid h7
              have K7 := Lib.hid k7
              clear h7 k7
              go_wp2_with (first | (go_at_call 12; refine H7.out.state.mono ?_; rintro e wx ⟨rfl, rfl⟩) | (go_at_call 14; refine H7.out.held.mono ?_; rintro e wx ⟨rfl, rfl⟩))
              all_goals
                go_roundw
                case rel => exact ⟨k + 1, _, _, by omega, by go_num, by first | rfl | exact congrArg Value.bool b6.symm, H7.out, (HS.out.b (B_trans (B_alloc (B_refl _) _) HBK.out)).kx K7.out, HK'.out⟩
                case measure => simp [intOf]; omega
      · rcases (show st = 2 ∨ st = 4 ∨ (st ≠ 2 ∧ st ≠ 4 ∧ hs = []) ∨ (st ≠ 2 ∧ st ≠ 4 ∧ ∃ x r, hs = x :: r) by
          by_cases a : st = 2
          · exact .inl a
          · by_cases b : st = 4
            · exact .inr (.inl b)
            · cases hs with
              | nil => exact .inr (.inr (.inl ⟨a, b, rfl⟩))
              | cons x r => exact .inr (.inr (.inr ⟨a, b, x, r, rfl⟩))) with rfl | rfl | ⟨n2, n4, rfl⟩ | ⟨n2, n4, x, r, rfl⟩
        · have HK' := HK
          go_wp2_with (first | (go_at_call 12; refine ((HL.out.alloc _).state).mono ?_; rintro e wx ⟨rfl, rfl⟩) | (go_at_call 14; refine ((HL.out.alloc _).held).mono ?_; rintro e wx ⟨rfl, rfl⟩) | (go_at_call 22; refine (HKD.out _).mono ?_; rintro e wk ⟨rfl, hbk⟩; have HBK := Lib.hid hbk; have q : Blk wk wr.heap.size 45 #[.int .i64 n0, .int .i64 n1, .string d] := Blk.b (Blk.new _ _ _) hbk; have q0 := q.cell 0; have q1 := q.cell 1; have q2 := q.cell 2; simp at q0 q1 q2; clear q hbk))
          refine (LF.next_no ((HL.out.alloc _).onB HBK.out) (.inl rfl)).mono ?_
          rintro e w7 ⟨rfl, h7, k7⟩
          have H7 := Lib.hid h7
          have K7 := Lib.hid k7
          clear h7 k7
          go_wp2_with (first | (go_at_call 12; refine ((H7.out.alloc _).state).mono ?_; rintro e wx ⟨rfl, rfl⟩) | (go_at_call 14; refine ((H7.out.alloc _).held).mono ?_; rintro e wx ⟨rfl, rfl⟩))
          all_goals
            go_roundw
            case rel => exact ⟨k + 1, _, _, by omega, by go_num, by first | rfl | exact congrArg Value.bool b6.symm, H7.out.alloc _, ((HS.out.b (B_trans (B_alloc (B_refl _) _) HBK.out)).kx K7.out).alloc _, HK'.out⟩
            case measure => simp [intOf]; omega
        · have HK' := HK
          go_wp2_with (first | (go_at_call 12; refine ((HL.out.alloc _).state).mono ?_; rintro e wx ⟨rfl, rfl⟩) | (go_at_call 14; refine ((HL.out.alloc _).held).mono ?_; rintro e wx ⟨rfl, rfl⟩) | (go_at_call 22; refine (HKD.out _).mono ?_; rintro e wk ⟨rfl, hbk⟩; have HBK := Lib.hid hbk; have q : Blk wk wr.heap.size 45 #[.int .i64 n0, .int .i64 n1, .string d] := Blk.b (Blk.new _ _ _) hbk; have q0 := q.cell 0; have q1 := q.cell 1; have q2 := q.cell 2; simp at q0 q1 q2; clear q hbk))
          refine (LF.next_no ((HL.out.alloc _).onB HBK.out) (.inr (.inl rfl))).mono ?_
          rintro e w7 ⟨rfl, h7, k7⟩
          have H7 := Lib.hid h7
          have K7 := Lib.hid k7
          clear h7 k7
          go_wp2_with (first | (go_at_call 12; refine ((H7.out.alloc _).state).mono ?_; rintro e wx ⟨rfl, rfl⟩) | (go_at_call 14; refine ((H7.out.alloc _).held).mono ?_; rintro e wx ⟨rfl, rfl⟩))
          all_goals
            go_roundw
            case rel => exact ⟨k + 1, _, _, by omega, by go_num, by first | rfl | exact congrArg Value.bool b6.symm, H7.out.alloc _, ((HS.out.b (B_trans (B_alloc (B_refl _) _) HBK.out)).kx K7.out).alloc _, HK'.out⟩
            case measure => simp [intOf]; omega
        · have HK' := HK
          by_cases h6 : st = 6
          · subst h6
            go_wp2_with (first | (go_at_call 12; refine ((HL.out.alloc _).state).mono ?_; rintro e wx ⟨rfl, rfl⟩) | (go_at_call 14; refine ((HL.out.alloc _).held).mono ?_; rintro e wx ⟨rfl, rfl⟩) | (go_at_call 22; refine (HKD.out _).mono ?_; rintro e wk ⟨rfl, hbk⟩; have HBK := Lib.hid hbk; have q : Blk wk wr.heap.size 45 #[.int .i64 n0, .int .i64 n1, .string d] := Blk.b (Blk.new _ _ _) hbk; have q0 := q.cell 0; have q1 := q.cell 1; have q2 := q.cell 2; simp at q0 q1 q2; clear q hbk))
            refine (LF.next_no ((HL.out.alloc _).onB HBK.out) (.inr (.inr rfl))).mono ?_
            rintro e w7 ⟨rfl, h7, k7⟩
            have H7 := Lib.hid h7
            have K7 := Lib.hid k7
            clear h7 k7
            go_wp2_with (first | (go_at_call 12; refine ((H7.out.alloc _).state).mono ?_; rintro e wx ⟨rfl, rfl⟩) | (go_at_call 14; refine ((H7.out.alloc _).held).mono ?_; rintro e wx ⟨rfl, rfl⟩))
            all_goals
              go_roundw
              case rel => exact ⟨k + 1, _, _, by omega, by go_num, by first | rfl | exact congrArg Value.bool b6.symm, H7.out.alloc _, ((HS.out.b (B_trans (B_alloc (B_refl _) _) HBK.out)).kx K7.out).alloc _, HK'.out⟩
              case measure => simp [intOf]; omega
          · have b6 : (st == 6) = false := by simp [h6]
            clear n2 n4 h6
            go_wp2_with (first | (go_at_call 12; refine ((HL.out.alloc _).state).mono ?_; rintro e wx ⟨rfl, rfl⟩) | (go_at_call 14; refine ((HL.out.alloc _).held).mono ?_; rintro e wx ⟨rfl, rfl⟩) | (go_at_call 22; refine (HKD.out _).mono ?_; rintro e wk ⟨rfl, hbk⟩; have HBK := Lib.hid hbk; have q : Blk wk wr.heap.size 45 #[.int .i64 n0, .int .i64 n1, .string d] := Blk.b (Blk.new _ _ _) hbk; have q0 := q.cell 0; have q1 := q.cell 1; have q2 := q.cell 2; simp at q0 q1 q2; clear q hbk))
            refine (LF.next_no ((HL.out.alloc _).onB HBK.out) (.inr (.inr rfl))).mono ?_
            rintro e w7 ⟨rfl, h7, k7⟩
            have H7 := Lib.hid h7
            have K7 := Lib.hid k7
            clear h7 k7
            go_wp2_with (first | (go_at_call 12; refine ((H7.out.alloc _).state).mono ?_; rintro e wx ⟨rfl, rfl⟩) | (go_at_call 14; refine ((H7.out.alloc _).held).mono ?_; rintro e wx ⟨rfl, rfl⟩))
            all_goals
              go_roundw
              case rel => exact ⟨k + 1, _, _, by omega, by go_num, by first | rfl | exact congrArg Value.bool b6.symm, H7.out.alloc _, ((HS.out.b (B_trans (B_alloc (B_refl _) _) HBK.out)).kx K7.out).alloc _, HK'.out⟩
              case measure => simp [intOf]; omega
        · have b6 : (st == 6) = false := by
            simp only [beq_eq_false_iff_ne, ne_eq]
            intro h
            have := HK.out.2 h
            cases this
          have b2 : (st != 2) = true := by simp [n2]
          have b4 : (st != 4) = true := by simp [n4]
          have N2 := Lib.hid n2
          have N4 := Lib.hid n4
          clear n2 n4
          obtain ⟨st', what, hs', he⟩ : ∃ a b c, takeOf st r x = (a, b, c) := ⟨_, _, _, rfl⟩
          have HK' := Lib.hid (HK.out.tail.take he)
          have hl5 : (hs'.length : Int) ≤ 4 := by have := HK'.out.1; omega
          have HE := Lib.hid he
          clear he
          go_wp2_with (first | (go_at_call 12; refine ((HL.out.alloc _).state).mono ?_; rintro e wx ⟨rfl, rfl⟩) | (go_at_call 14; refine ((HL.out.alloc _).held).mono ?_; rintro e wx ⟨rfl, rfl⟩) | (go_at_call 22; refine (HKD.out _).mono ?_; rintro e wk ⟨rfl, hbk⟩; have HBK := Lib.hid hbk; have q : Blk wk wr.heap.size 45 #[.int .i64 n0, .int .i64 n1, .string d] := Blk.b (Blk.new _ _ _) hbk; have q0 := q.cell 0; have q1 := q.cell 1; have q2 := q.cell 2; simp at q0 q1 q2; clear q hbk))
          refine (LF.next_yes ((HL.out.alloc _).onB HBK.out) N2.out N4.out _ _ _ HE.out).mono ?_
          rintro e w7 ⟨rfl, h7, k7⟩
          have H7 := Lib.hid h7
          have K7 := Lib.hid k7
          clear h7 k7
          go_wp2_with (first | (go_at_call 12; refine ((H7.out.alloc _).state).mono ?_; rintro e wx ⟨rfl, rfl⟩) | (go_at_call 14; refine ((H7.out.alloc _).held).mono ?_; rintro e wx ⟨rfl, rfl⟩))
          all_goals
            go_roundw
            case rel => exact ⟨k + 1, _, _, by omega, by go_num, by first | rfl | exact congrArg Value.bool b6.symm, H7.out.alloc _, ((HS.out.b (B_trans (B_alloc (B_refl _) _) HBK.out)).kx K7.out).alloc _, HK'.out⟩
            case measure => simp [intOf]; omega
      · have HK' := Lib.hid (HK.out.call (c - 2))
        have bc0 : (c == 0) = false := by simp; omega
        have bc1 : (c == 1) = false := by simp; omega
        by_cases h6 : st = 6
        · subst h6
          obtain rfl := HK.out.2 rfl
          have h6' := call6 (c - 2)
          rw [h6'] at HK'
          go_wp2_with (first | (go_at_call 12; refine ((HL.out.alloc _).state).mono ?_; rintro e wx ⟨rfl, rfl⟩) | (go_at_call 14; refine ((HL.out.alloc _).held).mono ?_; rintro e wx ⟨rfl, rfl⟩) | (go_at_call 22; refine (HKD.out _).mono ?_; rintro e wk ⟨rfl, hbk⟩; have HBK := Lib.hid hbk; have q : Blk wk wr.heap.size 45 #[.int .i64 n0, .int .i64 n1, .string d] := Blk.b (Blk.new _ _ _) hbk; have q0 := q.cell 0; have q1 := q.cell 1; have q2 := q.cell 2; simp at q0 q1 q2; clear q hbk))
          refine (HKD.out _).mono ?_
          rintro e wk2 ⟨rfl, hbk2⟩
          have HBK2 := Lib.hid hbk2
          clear hbk2
          go_wp2_with fail
          refine (LF.call (((HL.out.alloc _).onB HBK.out).onB HBK2.out) _).mono ?_
          rw [h6']
          rintro e w7 ⟨rfl, h7, k7⟩
          have H7 := Lib.hid h7
          have K7 := Lib.hid k7
          clear h7 k7
          go_wp2_with (first | (go_at_call 12; refine H7.out.state.mono ?_; rintro e wx ⟨rfl, rfl⟩) | (go_at_call 14; refine H7.out.held.mono ?_; rintro e wx ⟨rfl, rfl⟩))
          all_goals
            go_roundw
            case rel => exact ⟨k + 1, _, _, by omega, by go_num, by first | rfl | exact congrArg Value.bool b6.symm, H7.out, (HS.out.b (B_trans (B_trans (B_alloc (B_refl _) _) HBK.out) HBK2.out)).kx K7.out, HK'.out⟩
            case measure => simp [intOf]; omega
        · have b6 : (st == 6) = false := by simp [h6]
          clear h6
          have hcall := fun w' (h : LF (SX (.slice (some ⟨g, o, none⟩) l.length c')) w w' b st hs) => LF.call h (c - 2)
          have hl5 := HK'.out.1
          generalize callOf st hs (c - 2) = r at *
          obtain ⟨did, st', hs'⟩ := r
          have hl6 : (hs'.length : Int) ≤ 4 := by simp at hl5; omega
          have HC := Lib.hid hcall
          clear hcall hl5
          go_wp2_with (first | (go_at_call 12; refine ((HL.out.alloc _).state).mono ?_; rintro e wx ⟨rfl, rfl⟩) | (go_at_call 14; refine ((HL.out.alloc _).held).mono ?_; rintro e wx ⟨rfl, rfl⟩) | (go_at_call 22; refine (HKD.out _).mono ?_; rintro e wk ⟨rfl, hbk⟩; have HBK := Lib.hid hbk; have q : Blk wk wr.heap.size 45 #[.int .i64 n0, .int .i64 n1, .string d] := Blk.b (Blk.new _ _ _) hbk; have q0 := q.cell 0; have q1 := q.cell 1; have q2 := q.cell 2; simp at q0 q1 q2; clear q hbk))
          refine (HKD.out _).mono ?_
          rintro e wk2 ⟨rfl, hbk2⟩
          have HBK2 := Lib.hid hbk2
          clear hbk2
          go_wp2_with fail
          refine (HC.out _ (((HL.out.alloc _).onB HBK.out).onB HBK2.out)).mono ?_
          rintro e w7 ⟨rfl, h7, k7⟩
          have H7 := Lib.hid h7
          have K7 := Lib.hid k7
          clear h7 k7
          go_wp2_with (first | (go_at_call 12; refine H7.out.state.mono ?_; rintro e wx ⟨rfl, rfl⟩) | (go_at_call 14; refine H7.out.held.mono ?_; rintro e wx ⟨rfl, rfl⟩))
          all_goals
            go_roundw
            case rel => exact ⟨k + 1, _, _, by omega, by go_num, by first | rfl | exact congrArg Value.bool b6.symm, H7.out, (HS.out.b (B_trans (B_trans (B_alloc (B_refl _) _) HBK.out) HBK2.out)).kx K7.out, HK'.out⟩
            case measure => simp [intOf]; omega
    · go_wp2
      go_ret
      exact ⟨rfl, HL.out.below⟩
end Go.Proofs.Ytdmhlnjlbcapoaa
