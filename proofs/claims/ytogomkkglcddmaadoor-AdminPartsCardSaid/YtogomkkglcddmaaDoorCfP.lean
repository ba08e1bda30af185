/- Configs, plainly: text and back; two configs compared; the document's example. -/
import Derived.Test.YtogomkkglcddmaaDoorCfE
import Derived.Laws.StructEq
namespace Go.Proofs.YtogomkkglcddmaaDoor.Cf
open Go.RowKit Go.Proofs.YtogomkkglcddmaaDoor Go.Proofs.YtogomkkglcddmaaDoor.Nm

section
variable {P : Program} {d : Nat} {xs ys : Array Value} {f : Field} {fs : List Field} {a b : Value} {r s : Bool} {w : World}
theorem eqf_one (hn : (f.name == "_") = false) (ha : (part f.type xs f.offset).run P w = .ok a w) (hb : (part f.type ys f.offset).run P w = .ok b w) (he : (Op.equalIn d f.type a b).run P w = .ok r w) (hr : (Op.eqFields d xs ys fs).run P w = .ok s w) : (Op.eqFields d xs ys (f :: fs)).run P w = .ok (r && s) w := by
  have hn' : f.name ≠ "_" := by simpa using hn
  rw [Op.eqFields]
  simp only [if_pos hn', Sem.run_bind, ha, hb, he, Result.andThen_ok]
  cases r
  · simp
  · simpa using hr
theorem eqf_none : (Op.eqFields d xs ys []).run P w = .ok true w := by
  simp [Op.eqFields]
theorem eqA_struct {t : TypeId} {fs : Array Field} (hu : P.underlying t = some (.struct fs)) (hp : P.stoodInHeld t = false) (h : (Op.eqFields d xs ys fs.toList).run P w = .ok r w) : (Op.equalIn (d + 1) t (.agg xs) (.agg ys)).run P w = .ok r w := by
  have hf : P.fieldsOf t = fs := by simp [Program.fieldsOf, hu]
  rw [run_equalIn_struct (P := P) w d t xs ys (by rw [hf]; exact hu) hp, hf]
  exact h
end
theorem fifteen {α : Type} {l : List α} (h : l.length = 15) : ∃ a0 a1 a2 a3 a4 a5 a6 a7 a8 a9 a10 a11 a12 a13 a14, l = [a0, a1, a2, a3, a4, a5, a6, a7, a8, a9, a10, a11, a12, a13, a14] := by
  match l, h with
  | [a0, a1, a2, a3, a4, a5, a6, a7, a8, a9, a10, a11, a12, a13, a14], _ => exact ⟨a0, a1, a2, a3, a4, a5, a6, a7, a8, a9, a10, a11, a12, a13, a14, rfl⟩
set_option maxRecDepth 100000 in
theorem eqCfg (d : Nat) (w : World) {c e : List Int} (hc : c.length = 15) (he : e.length = 15) :
    (Op.equalIn (d + 2) 40 (.agg (cfgA c)) (.agg (cfgA e))).run Tryd.prog w = .ok (decide (c = e)) w := by
  obtain ⟨a0, a1, a2, a3, a4, a5, a6, a7, a8, a9, a10, a11, a12, a13, a14, rfl⟩ := fifteen hc
  obtain ⟨b0, b1, b2, b3, b4, b5, b6, b7, b8, b9, b10, b11, b12, b13, b14, rfl⟩ := fifteen he
  simp only [cfgA, encI, List.map_cons, List.map_nil]
  refine eqA_struct (r := decide _) Tryd.underlying40 (by kernel_rfl) ?_
  have hb : decide ([a0, a1, a2, a3, a4, a5, a6, a7, a8, a9, a10, a11, a12, a13, a14] = [b0, b1, b2, b3, b4, b5, b6, b7, b8, b9, b10, b11, b12, b13, b14]) = (a0 == b0 && (a1 == b1 && (a2 == b2 && (a3 == b3 && (a4 == b4 && (a5 == b5 && (a6 == b6 && (a7 == b7 && (a8 == b8 && (a9 == b9 && (a10 == b10 && (a11 == b11 && (a12 == b12 && (a13 == b13 && (a14 == b14 && true))))))))))))))) := by
    rw [Bool.eq_iff_iff]
    simp
  rw [hb]
  refine eqf_one (by rfl) (by go_simp; rfl) (by go_simp; rfl) (by go_simp) ?_
  refine eqf_one (by rfl) (by go_simp; rfl) (by go_simp; rfl) (by go_simp) ?_
  refine eqf_one (by rfl) (by go_simp; rfl) (by go_simp; rfl) (by go_simp) ?_
  refine eqf_one (by rfl) (by go_simp; rfl) (by go_simp; rfl) (by go_simp) ?_
  refine eqf_one (by rfl) (by go_simp; rfl) (by go_simp; rfl) (by go_simp) ?_
  refine eqf_one (by rfl) (by go_simp; rfl) (by go_simp; rfl) (by go_simp) ?_
  refine eqf_one (by rfl) (by go_simp; rfl) (by go_simp; rfl) (by go_simp) ?_
  refine eqf_one (by rfl) (by go_simp; rfl) (by go_simp; rfl) (by go_simp) ?_
  refine eqf_one (by rfl) (by go_simp; rfl) (by go_simp; rfl) (by go_simp) ?_
  refine eqf_one (by rfl) (by go_simp; rfl) (by go_simp; rfl) (by go_simp) ?_
  refine eqf_one (by rfl) (by go_simp; rfl) (by go_simp; rfl) (by go_simp) ?_
  refine eqf_one (by rfl) (by go_simp; rfl) (by go_simp; rfl) (by go_simp) ?_
  refine eqf_one (by rfl) (by go_simp; rfl) (by go_simp; rfl) (by go_simp) ?_
  refine eqf_one (by rfl) (by go_simp; rfl) (by go_simp; rfl) (by go_simp) ?_
  refine eqf_one (by rfl) (by go_simp; rfl) (by go_simp; rfl) (by go_simp) ?_
  exact eqf_none

theorem digs_list (c : List Int) : (digs c).map (·.data.toList) = c.map Lib.itoa := by
  unfold digs
  rw [List.map_map]
  exact List.map_congr_left fun x _ => bs_list _
theorem itoa_clean (x : Int) : (32 : UInt8) ∉ Lib.itoa x := by
  unfold Lib.itoa
  split
  · intro h
    rcases List.mem_cons.1 h with h | h
    · cases h
    · exact (isD_ne (decDigits_all _ _ h)).2.2.1 rfl
  · intro h
    exact (isD_ne (decDigits_all _ _ h)).2.2.1 rfl
theorem cut_text {c : List Int} (h : c ≠ []) : cutV 32 (textV c) = digs c := by
  refine (cutV_one ⟨?_, ?_, ?_⟩).symm
  · rw [digs_list]; simpa using h
  · rw [digs_list]
    intro x hx
    obtain ⟨y, _, rfl⟩ := List.mem_map.1 hx
    exact itoa_clean y
  · unfold textV joinV
    rw [bs_list]
theorem numV_digs {x : Int} (h1 : -999999999 ≤ x) (h2 : x ≤ 999999999) : numV (bs (Lib.itoa x)) = some x := by
  unfold numV
  rw [bs_list]
  exact numOf_itoa (itoa_short h1 h2)
theorem numsV_digs : ∀ {c : List Int}, (∀ x ∈ c, -999999999 ≤ x ∧ x ≤ 999999999) → numsV (digs c) = some c
  | [], _ => rfl
  | x :: r, h => by
    have h1 := h x (by simp)
    have h2 := numsV_digs (c := r) fun y hy => h y (by simp [hy])
    show (match numV (bs (Lib.itoa x)), numsV (digs r) with
      | some a, some b => some (a :: b)
      | _, _ => none) = _
    rw [numV_digs h1.1 h1.2, h2]
theorem numsV_text : ∀ {l : List ByteArray} {c : List Int}, numsV l = some c → digs c = l ∧ ∀ x ∈ c, -999999999 ≤ x ∧ x ≤ 999999999
  | [], c, h => by
    unfold numsV at h
    cases h
    exact ⟨rfl, by simp⟩
  | s :: r, c, h => by
    unfold numsV at h
    cases h1 : numV s with
    | none => rw [h1] at h; cases h
    | some a =>
      cases h2 : numsV r with
      | none => rw [h1, h2] at h; cases h
      | some b =>
        rw [h1, h2] at h
        cases h
        obtain ⟨e1, e2⟩ := numsV_text h2
        refine ⟨?_, fun x hx => ?_⟩
        · show bs (Lib.itoa a) :: digs b = s :: r
          rw [e1, (numOf_some h1).1, of_bs]
        · rcases List.mem_cons.1 hx with rfl | hx
          · exact numOf_bound h1
          · exact e2 x hx
theorem numsV_len : ∀ {l : List ByteArray} {c : List Int}, numsV l = some c → c.length = l.length := fun {l c} h => by
  have := (numsV_text h).1
  rw [← this]
  unfold digs
  rw [List.length_map]
theorem join_text (s : ByteArray) : joinV (cutV 32 s) = s := by
  unfold joinV
  rw [(cutV_pieces 32 s).2.2, of_bs]
/-- What is read is written as just that text, and may be. -/
theorem read_back {s : ByteArray} (h : (readV s).2 = 0) : textV (readV s).1 = s ∧ (checkV (readV s).1).2 = 0 ∧ (readV s).1.length = 15 ∧ ∀ x ∈ (readV s).1, -999999999 ≤ x ∧ x ≤ 999999999 := by
  unfold readV readL at h ⊢
  split at h
  · rename_i h15
    rw [if_pos h15]
    cases hn : numsV (cutV 32 s) with
    | none => rw [hn] at h; cases h
    | some c =>
      rw [hn] at h
      simp only at h ⊢
      split at h
      · rename_i h0
        rw [if_pos h0]
        obtain ⟨e1, e2⟩ := numsV_text hn
        refine ⟨?_, h0, (numsV_len hn).trans h15, e2⟩
        show joinV (digs c) = s
        rw [e1, join_text]
      · rename_i h0
        exact absurd h h0
  · cases h
theorem readV_len (s : ByteArray) : (readV s).1.length = 15 := by
  unfold readV readL
  split
  · rename_i h15
    cases hn : numsV (cutV 32 s) with
    | none => rfl
    | some c =>
      simp only
      split
      · exact (numsV_len hn).trans h15
      · rfl
  · rfl
theorem readV_wf (s : ByteArray) : ∀ x ∈ (readV s).1, (Lit.int .i64 x).wf = true := by
  have hz : ∀ x ∈ zeros, (Lit.int .i64 x).wf = true := fun x hx => by
    rw [List.eq_of_mem_replicate hx]; rfl
  unfold readV readL
  split
  · cases hn : numsV (cutV 32 s) with
    | none => exact hz
    | some c =>
      simp only
      split
      · intro x hx
        have := (numsV_text hn).2 x hx
        exact wf_of (by omega)
      · exact hz
  · exact hz
theorem checkF_ok {c : List Int} : ∀ {n k : Nat}, (checkF c k n).2 = 0 → ∀ j, k ≤ j → j < k + n → ¬ badAt c j
  | 0, k, _, j, h1, h2 => by omega
  | n + 1, k, h, j, h1, h2 => by
    have e : checkF c k (n + 1) = if badAt c k then ((k : Int), 10) else checkF c (k + 1) n := rfl
    rw [e] at h
    by_cases hb : badAt c k
    · rw [if_pos hb] at h; cases h
    · rw [if_neg hb] at h
      rcases Nat.lt_or_ge k j with hk | hk
      · exact checkF_ok h j hk (by omega)
      · obtain rfl : j = k := by omega
        exact hb
/-- A config that may be is of small numbers. -/
theorem check_small {c : List Int} (hc : c.length = 15) (h : (checkV c).2 = 0) : ∀ x ∈ c, -999999999 ≤ x ∧ x ≤ 999999999 := by
  have hb := checkF_ok (n := 15) (k := 0) h
  obtain ⟨a0, a1, a2, a3, a4, a5, a6, a7, a8, a9, a10, a11, a12, a13, a14, rfl⟩ := fifteen hc
  have q := fun j hj => hb j (Nat.zero_le j) hj
  have q0 := q 0 (by decide); have q1 := q 1 (by decide); have q2 := q 2 (by decide); have q3 := q 3 (by decide); have q4 := q 4 (by decide)
  have q5 := q 5 (by decide); have q6 := q 6 (by decide); have q7 := q 7 (by decide); have q8 := q 8 (by decide); have q9 := q 9 (by decide)
  have q10 := q 10 (by decide); have q11 := q 11 (by decide); have q12 := q 12 (by decide); have q13 := q 13 (by decide); have q14 := q 14 (by decide)
  clear q hb h hc
  simp only [badAt, fld, hiOf, loOf, hiL, loL, List.getD_eq_getElem?_getD, List.getElem?_cons_zero, List.getElem?_cons_succ, Option.getD_some] at q0 q1 q2 q3 q4 q5 q6 q7 q8 q9 q10 q11 q12 q13 q14
  intro x hx
  simp only [List.mem_cons, List.not_mem_nil, or_false] at hx
  omega
theorem text_back {c : List Int} (hc : c.length = 15) (h : (checkV c).2 = 0) : readV (textV c) = (c, 0) := by
  unfold readV readL
  rw [cut_text (by intro e; rw [e] at hc; cases hc), if_pos (by unfold digs; rw [List.length_map]; exact hc), numsV_digs (check_small hc h)]
  simp only
  rw [if_pos h]
/-- What is read of a config's text is that config. -/
theorem text_same {c : List Int} (hc : c.length = 15) (h : (readV (textV c)).2 = 0) : (readV (textV c)).1 = c := by
  have h1 := (read_back h).1
  have h2 := (read_back h).2.2.1
  have e := congrArg (cutV 32) h1
  rw [cut_text (by intro e; rw [e] at h2; cases h2), cut_text (by intro e; rw [e] at hc; cases hc)] at e
  have e2 := congrArg (List.map (·.data.toList)) e
  rw [digs_list, digs_list] at e2
  exact List.map_inj_right (fun a b => itoa_inj) |>.1 e2
end Go.Proofs.YtogomkkglcddmaaDoor.Cf
