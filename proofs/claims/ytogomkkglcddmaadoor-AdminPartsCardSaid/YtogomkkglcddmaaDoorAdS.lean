/- A host's line: the states' names, admin.number, admin.Row, hostlerref19.Row. -/
import Derived.Test.YtogomkkglcddmaaDoorAdR
import Derived.Test.YtogomkkglcddmaaDoorAdM
import Derived.Test.YtogomkkglcddmaaDoorAdI
namespace Go.Proofs.YtogomkkglcddmaaDoor.Ad
open Go.RowKit Go.Proofs.YtogomkkglcddmaaDoor Go.Proofs.YtogomkkglcddmaaDoor.Nm Go.Proofs.YtogomkkglcddmaaDoor.Cf
attribute [local go_sem ↓ high] exec_cat
attribute [local go_sem] strOf_str
theorem adnumber_any (s : ByteArray) (hs : s.size ≤ 99999) (w : World) (hv : Vars w) :
    Calls Tryd.prog 62 #[.string s] w (NumPost s w) := by
  have HV := Lib.hid hv
  have HA := Lib.hid (atoi_any s hs w hv)
  have hB0 := Lib.hid (Below.refl w.heap.size w)
  clear hv
  go_enter Tryd.func62, Tryd.ntmps62
  go_wp2_with fail
  refine HA.out.mono ?_
  rintro e w1 ⟨he, b1⟩
  have B1 := Lib.hid b1
  have HV1 := Lib.hid (HV.out.below b1)
  clear b1 HA
  have HN : Hid (∀ v, Lib.atoiAll s.data.toList = .ok v → numV s = if Lib.itoa v = s.data.toList ∧ (tailOf s.data.toList).length ≤ 9 then some v else none) := Lib.hid fun v h => by
    unfold numV numOf
    rw [h]
  have HN2 : Hid ((∀ x, Lib.atoiAll s.data.toList ≠ .ok x) → numV s = none) := Lib.hid fun hx => by
    cases hq : numV s with
    | none => rfl
    | some v => exact absurd (numOf_some hq).2.2 (hx v)
  rcases he with ⟨v, hat, rfl⟩ | ⟨hat, n, N, rfl⟩
  · have hwf := wf_of (Lib.atoiAll_bounds hat)
    have hn := HN.out v hat
    have HI := Lib.hid (itoa_any v hwf w1 HV1.out)
    clear HN HN2
    go_wp2_with fail
    refine HI.out.mono ?_
    rintro e w2 ⟨rfl, b2⟩
    have B2 := Lib.hid (B1.out.trans (b2.mono B1.out.size))
    clear b2 HI
    by_cases h1 : Lib.itoa v = s.data.toList
    · have t1 : ((bs (Lib.itoa v)).toList == s.toList) = true := by rw [str_eq, bs_list]; exact decide_eq_true h1
      have HT := Lib.hid (Tryd.strings_TrimPrefix s ⟨#[45]⟩ w2)
      have htl : Lib.trimPrefix s.data.toList [45] = tailOf s.data.toList := tail_trim _
      go_wp2_with fail
      refine HT.out.mono ?_
      rintro e w3 ⟨rfl, rfl⟩
      rw [htl]
      have hsz : (⟨(tailOf s.data.toList).toArray⟩ : ByteArray).size = (tailOf s.data.toList).length := bs_size _
      generalize (⟨(tailOf s.data.toList).toArray⟩ : ByteArray) = tl at hsz ⊢
      by_cases h2 : (tailOf s.data.toList).length ≤ 9
      · rw [if_pos ⟨h1, h2⟩] at hn
        have t2 : decide (((tailOf s.data.toList).length : Int) ≤ 9) = true := decide_eq_true (by omega)
        go_wp2_with fail
        go_ret2
        exact numYes hn B2.out
      · rw [if_neg (fun e => h2 e.2)] at hn
        have t2 : decide (((tailOf s.data.toList).length : Int) ≤ 9) = false := decide_eq_false (by omega)
        go_wp2_with fail
        go_ret2
        exact numNo hn _ B2.out
    · have t1 : ((bs (Lib.itoa v)).toList == s.toList) = false := by rw [str_eq, bs_list]; exact decide_eq_false h1
      rw [if_neg (fun e => h1 e.1)] at hn
      go_wp2_with fail
      go_ret2
      exact numNo hn _ B2.out
  · have hn := HN2.out hat
    clear HN HN2 hat
    go_wp2_with fail
    go_ret2
    exact numNo hn _ B1.out


set_option maxRecDepth 100000 in
theorem snames_any (w : World) :
    Calls Tryd.prog 73 #[] w fun e w' => ∃ g cc, e = .returned (.slice (some ⟨g, 0, none⟩) 4 cc) ∧ 4 ≤ cc ∧ w.heap.size ≤ g ∧ Blk w' g 9 (encS statesL).toArray ∧ Below w.heap.size w w' := by
  have HB := Lib.hid (fun o => (Below.refl w.heap.size w).alloc (Nat.le_refl _) o)
  have HN := Lib.hid (fun cs => Blk.new w 9 cs)
  go_enter Tryd.func73, Tryd.ntmps73
  go_wp2_with fail
  go_ret
  exact ⟨_, _, rfl, Nat.le_refl _, Nat.le_refl _, HN.out _, HB.out _⟩
theorem state_cell {k : Nat} (hk : k < 4) : (encS statesL).toArray[k]? = some (.string (statesL.getD k e0)) := by
  match k, hk with
  | 0, _ | 1, _ | 2, _ | 3, _ => rfl
def sName (n : Int) : ByteArray := if inS n then statesL.getD n.toNat ⟨#[]⟩ else ⟨#[]⟩
theorem sName_at {k : Nat} (hk : k < 4) : sName (k : Int) = statesL.getD k e0 := by
  unfold sName
  rw [inS_of hk]
  rfl
theorem sName_out {n : Int} (h : inS n = false) : sName n = ⟨#[]⟩ := by
  unfold sName
  rw [h]
  rfl
set_option maxRecDepth 100000 in
theorem sname_any (n : Int) (w : World) :
    Calls Tryd.prog 59 #[.int .i64 n] w fun e w' => e = .returned (.string (sName n)) ∧ Below w.heap.size w w' := by
  cases hin : inS n with
  | false =>
    rw [sName_out hin]
    rcases inS_no hin with h | ⟨h, h2⟩
    · go_enter Tryd.func59, Tryd.ntmps59
      go_wp2_with fail
      go_ret
      exact ⟨rfl, Below.refl _ _⟩
    · go_enter Tryd.func59, Tryd.ntmps59
      go_wp2_with fail
      go_ret
      exact ⟨rfl, Below.refl _ _⟩
  | true =>
    obtain ⟨k, hk, rfl⟩ := inS_yes hin
    rw [sName_at hk]
    have HC := Lib.hid (state_cell hk)
    generalize statesL.getD k e0 = y at *
    have h0 : 0 ≤ (k : Int) := by omega
    have h4 : (k : Int) < 4 := by omega
    clear hin
    go_enter Tryd.func59, Tryd.ntmps59
    go_wp2_with fail
    refine (snames_any _).mono ?_
    rintro e w1 ⟨g, cc, rfl, hcc, hg, hb, b1⟩
    have c0 : w1.cell? ⟨g, k, none⟩ = some (.string y) := (hb.cell k).trans HC.out
    clear hb
    go_wp2_with fail
    go_ret
    exact ⟨rfl, b1⟩
set_option maxRecDepth 100000 in
theorem refsname_any (n : Int) (w : World) :
    Calls Tryd.prog 60 #[.int .i64 n] w fun e w' => e = .returned (.string (sName n)) ∧ Below w.heap.size w w' := by
  cases hin : inS n with
  | false =>
    rw [sName_out hin]
    rcases inS_no hin with h | ⟨h, h2⟩
    · go_enter Tryd.func60, Tryd.ntmps60
      go_wp2_with fail
      go_ret
      exact ⟨rfl, Below.refl _ _⟩
    · have h3 : 3 < n := by omega
      go_enter Tryd.func60, Tryd.ntmps60
      go_wp2_with fail
      go_ret
      exact ⟨rfl, Below.refl _ _⟩
  | true =>
    obtain ⟨k, hk, rfl⟩ := inS_yes hin
    rw [sName_at hk]
    have hB := Lib.hid (fun o => (Below.refl w.heap.size w).alloc (Nat.le_refl _) o)
    clear hin
    match k, hk with
    | 0, _ | 1, _ | 2, _ | 3, _ =>
      go_enter Tryd.func60, Tryd.ntmps60
      go_wp2_with fail
      go_ret
      exact ⟨rfl, hB.out _⟩
theorem word_s (n : Int) : (inS n = false ∧ sName n = ⟨#[]⟩ ∧ wordOf n = ⟨#[63]⟩) ∨ (inS n = true ∧ sName n = wordOf n ∧ (wordOf n).toList.isEmpty = false) := by
  cases hin : inS n with
  | false => exact .inl ⟨rfl, sName_out hin, wordOf_out hin⟩
  | true =>
    obtain ⟨k, hk, rfl⟩ := inS_yes hin
    refine .inr ⟨rfl, by rw [sName_at hk, wordOf_at hk], ?_⟩
    rw [wordOf_at hk, ByteArray.toList_eq, List.isEmpty_eq_false_iff]
    intro e
    have hf := (word_facts ⟨k, hk⟩).2.2.1
    exact hf (by rw [show (statesL.getD k e0).size = (statesL.getD k e0).data.toList.length from (Array.length_toList).symm, e]; rfl)
theorem row_list (name : ByteArray) (st : Int) (a b c : Int) : (name :: wordOf st :: digs [a, b, c]) = [name, wordOf st, bs (Lib.itoa a), bs (Lib.itoa b), bs (Lib.itoa c)] := rfl
theorem row_len {name wd : ByteArray} {a b c : Int} (hn : name.size ≤ 1000) (hw : wd.size ≤ 11) (ha : (Lit.int .i64 a).wf = true) (hb : (Lit.int .i64 b).wf = true) (hc : (Lit.int .i64 c).wf = true) :
    (Lib.join (([name, wd, bs (Lib.itoa a), bs (Lib.itoa b), bs (Lib.itoa c)]).map (·.data.toList)) [32]).length ≤ 5005 := by
  have := join_le (sep := [32]) (by simp) (B := 1000) (L := ([name, wd, bs (Lib.itoa a), bs (Lib.itoa b), bs (Lib.itoa c)]).map (·.data.toList)) (fun x hx => by
    obtain ⟨y, hy, rfl⟩ := List.mem_map.1 hx
    have h1 := itoa_len ha
    have h2 := itoa_len hb
    have h3 := itoa_len hc
    have hs : y.data.toList.length = y.size := by simp
    rw [hs]
    simp only [List.mem_cons, List.not_mem_nil, or_false] at hy
    rcases hy with rfl | rfl | rfl | rfl | rfl
    · exact hn
    · omega
    · rw [bs_size]; omega
    · rw [bs_size]; omega
    · rw [bs_size]; omega)
  simpa using this
set_option maxRecDepth 100000 in
set_option maxHeartbeats 2000000 in
theorem row_any (name : ByteArray) (st a b c : Int) (hn : name.size ≤ 1000) (ha : (Lit.int .i64 a).wf = true) (hb : (Lit.int .i64 b).wf = true) (hc : (Lit.int .i64 c).wf = true) (w : World) (hv : VarsB w) :
    Calls Tryd.prog 36 #[.string name, .int .i64 st, .int .i64 a, .int .i64 b, .int .i64 c] w fun e w' => e = .returned (.string (rowV name st [a, b, c])) ∧ Below w.heap.size w w' := by
  have HV := Lib.hid hv
  have hwc := (wordOf_clean st).2
  have HL := Lib.hid (row_len hn hwc ha hb hc)
  have HS := Lib.hid (fun W => sname_any st W)
  have HA := Lib.hid (fun W h => itoaB_any a ha W h)
  have HB := Lib.hid (fun W h => itoaB_any b hb W h)
  have HC := Lib.hid (fun W h => itoaB_any c hc W h)
  have hr : rowV name st [a, b, c] = joinV [name, wordOf st, bs (Lib.itoa a), bs (Lib.itoa b), bs (Lib.itoa c)] := rfl
  rw [hr]
  have hws := word_s st
  generalize wordOf st = wd at *
  generalize bs (Lib.itoa a) = da at *
  generalize bs (Lib.itoa b) = db at *
  generalize bs (Lib.itoa c) = dc at *
  have HJ := Lib.hid (fun A cc W h hc => join_any A cc [name, wd, da, db, dc] W h hc (by simp) (by simp) (by have := HL.out; omega))
  have HN := Lib.hid (fun W => StrsAt.new W [name, wd, da, db, dc])
  clear hr hv hwc
  rcases hws with ⟨_, h2, h3⟩ | ⟨_, h2, h3⟩
  all_goals
    rw [h2] at HS
    clear h2
    go_enter Tryd.func36, Tryd.ntmps36
    go_wp2_with fail
    refine (HS.out _).mono ?_
    rintro e w1 ⟨rfl, b1⟩
    have B1 := Lib.hid b1
    clear b1
    go_wp2_with fail
    refine (HA.out _ (HV.out.below B1.out)).mono ?_
    rintro e w2 ⟨rfl, b2⟩
    have B2 := Lib.hid (B1.out.trans (b2.mono B1.out.size))
    clear b2
    go_wp2_with fail
    refine (HB.out _ (HV.out.below B2.out)).mono ?_
    rintro e w3 ⟨rfl, b3⟩
    have B3 := Lib.hid (B2.out.trans (b3.mono B2.out.size))
    clear b3
    go_wp2_with fail
    refine (HC.out _ (HV.out.below B3.out)).mono ?_
    rintro e w4 ⟨rfl, b4⟩
    have B4 := Lib.hid (B3.out.trans (b4.mono B3.out.size))
    clear b4
    try subst h3
    go_wp2_with fail
    refine (HJ.out _ _ _ (by exact HN.out _) (by simp)).mono ?_
    rintro e w5 ⟨rfl, b5⟩
    have B5 := Lib.hid ((B4.out.alloc B4.out.size _).trans (b5.mono (by have := B4.out.size; simp; omega)))
    clear b5
    go_wp2_with fail
    go_ret
    exact ⟨rfl, B5.out⟩
theorem row_cat (n wd da db dc : ByteArray) : ((((((((n ++ ⟨#[32]⟩) ++ wd) ++ ⟨#[32]⟩) ++ da) ++ ⟨#[32]⟩) ++ db) ++ ⟨#[32]⟩) ++ dc : ByteArray) = joinV [n, wd, da, db, dc] := by
  rw [← of_bs ((((((((n ++ ⟨#[32]⟩) ++ wd) ++ ⟨#[32]⟩) ++ da) ++ ⟨#[32]⟩) ++ db) ++ ⟨#[32]⟩) ++ dc)]
  unfold joinV
  simp [Sp.join_two, Lib.join_one, ByteArray.data_append]
theorem cat_le {x y : ByteArray} {p q : Nat} (h1 : x.size ≤ p) (h2 : y.size ≤ q) (h : p + q ≤ 1000000) : catOk x y ∧ (x ++ y).size ≤ p + q := by
  unfold catOk
  rw [ByteArray.size_append]
  omega
/-- The second text a constant. -/
theorem exec_cat_k (a : Act) (dst : Option Tmp) (x : Operand) (k : ByteArray) (ty : TypeId) (pos : String) (aft : Array _) (g : Option _) (w : World) (hx : a.eval x = .string (strOf (a.eval x))) (hs : catOk (strOf (a.eval x)) k) :
    (execOp a.eval { dst := dst, op := .binOp .add 9 x (.const (.string k)) 9, type := ty, pos := pos, after := aft, guard := g }).run Tryd.prog w = .ok (.value (.string (strOf (a.eval x) ++ k))) w :=
  exec_cat a.eval dst x (.const (.string k)) ty pos aft g w hx rfl hs
attribute [local go_sem ↓ high] exec_cat_k
set_option maxRecDepth 100000 in
set_option maxHeartbeats 4000000 in
theorem refrow_any (name : ByteArray) (st a b c : Int) (hn : name.size ≤ 1000) (ha : (Lit.int .i64 a).wf = true) (hb : (Lit.int .i64 b).wf = true) (hc : (Lit.int .i64 c).wf = true) (w : World) :
    Calls Tryd.prog 37 #[.string name, .int .i64 st, .agg #[.int .i64 a, .int .i64 b, .int .i64 c]] w fun e w' => e = .returned (.string (rowV name st [a, b, c])) ∧ Below w.heap.size w w' := by
  have hwc := (wordOf_clean st).2
  have HS := Lib.hid (fun W => refsname_any st W)
  have HDA := Lib.hid (fun W => digits_any a ha W)
  have HDB := Lib.hid (fun W => digits_any b hb W)
  have HDC := Lib.hid (fun W => digits_any c hc W)
  unfold DigPost at HDA HDB HDC
  have sa : (bs (Lib.itoa a)).size ≤ 100 := by rw [bs_size]; exact itoa_len ha
  have sb : (bs (Lib.itoa b)).size ≤ 100 := by rw [bs_size]; exact itoa_len hb
  have sc : (bs (Lib.itoa c)).size ≤ 100 := by rw [bs_size]; exact itoa_len hc
  have hr : rowV name st [a, b, c] = joinV [name, wordOf st, bs (Lib.itoa a), bs (Lib.itoa b), bs (Lib.itoa c)] := rfl
  rw [hr, ← row_cat]
  have hws := word_s st
  generalize wordOf st = wd at *
  generalize bs (Lib.itoa a) = da at *
  generalize bs (Lib.itoa b) = db at *
  generalize bs (Lib.itoa c) = dc at *
  have s32 : (⟨#[32]⟩ : ByteArray).size ≤ 1 := Nat.le_refl _
  obtain ⟨z1, y1⟩ := cat_le hn s32 (by omega)
  obtain ⟨z2, y2⟩ := cat_le y1 hwc (by omega)
  obtain ⟨z3, y3⟩ := cat_le y2 s32 (by omega)
  obtain ⟨z4, y4⟩ := cat_le y3 sa (by omega)
  obtain ⟨z5, y5⟩ := cat_le y4 s32 (by omega)
  obtain ⟨z6, y6⟩ := cat_le y5 sb (by omega)
  obtain ⟨z7, y7⟩ := cat_le y6 s32 (by omega)
  obtain ⟨z8, y8⟩ := cat_le y7 sc (by omega)
  have HK := Lib.hid (Blk.new w 61 #[.int .i64 a, .int .i64 b, .int .i64 c])
  have HB0 := Lib.hid ((Below.refl w.heap.size w).alloc (Nat.le_refl _) (.cells #[.int .i64 a, .int .i64 b, .int .i64 c] 61))
  clear hr ha hb hc
  rcases hws with ⟨_, h2, h3⟩ | ⟨_, h2, h3⟩
  all_goals
    rw [h2] at HS
    try subst h3
    clear h2 y1 y2 y3 y4 y5 y6 y7 y8 hwc sa sb sc s32
    go_enter Tryd.func37, Tryd.ntmps37
    go_wp2_with fail
    refine (HS.out _).mono ?_
    rintro e w1 ⟨rfl, b1⟩
    have hk := Blk.b (by exact HK.out) b1
    have HK1 := Lib.hid hk
    have B1 := Lib.hid (HB0.out.trans (b1.mono HB0.out.size))
    have c0 := hk.cell 0
    have c1 := hk.cell 1
    have c2 := hk.cell 2
    simp at c0 c1 c2
    clear b1 hk HK
    go_wp2_with fail
    have HKS := Lib.hid (fun (W : World) (hb : B w1 W) => (⟨⟨((HK1.out.b hb).cell 0).trans rfl, ((HK1.out.b hb).cell 1).trans rfl, ((HK1.out.b hb).cell 2).trans rfl⟩, hb⟩ : (W.cell? ⟨w.heap.size, 0, none⟩ = some (.int .i64 a) ∧ W.cell? ⟨w.heap.size, 1, none⟩ = some (.int .i64 b) ∧ W.cell? ⟨w.heap.size, 2, none⟩ = some (.int .i64 c)) ∧ B w1 W))
    have hb0 : B w1 w1 := B_refl w1
    have M0 : True := trivial
    have M1 : True := trivial
    have M2 : True := trivial
    go_region_held3 (fun W => (W.cell? ⟨w.heap.size, 0, none⟩ = some (.int .i64 a) ∧ W.cell? ⟨w.heap.size, 1, none⟩ = some (.int .i64 b) ∧ W.cell? ⟨w.heap.size, 2, none⟩ = some (.int .i64 c)) ∧ B w1 W) ((refine HKS.out _ ?_; (repeat (first | assumption | exact B_refl _ | refine B_drewN ?_ _ | refine B_drew ?_ | refine B_alloc ?_ _ | refine B_setCell ?_ (by first | (simp; done) | (simp; omega)) _ | refine B_trans ?_ (by assumption))))) (first | ((have N0 := M0; clear M0 N0); go_at_call 53; refine (HDA.out _).mono ?_; rintro e wa ⟨rfl, ba⟩; have bba : B w1 wa := B_trans (by (repeat (first | assumption | exact B_refl _ | refine B_drewN ?_ _ | refine B_drew ?_ | refine B_alloc ?_ _ | refine B_setCell ?_ (by first | (simp; done) | (simp; omega)) _ | refine B_trans ?_ (by assumption)))) ba; clear ba) | ((have N1 := M1; clear M1 N1); go_at_call 53; refine (HDB.out _).mono ?_; rintro e wb ⟨rfl, bb⟩; have bbb : B w1 wb := B_trans (by (repeat (first | assumption | exact B_refl _ | refine B_drewN ?_ _ | refine B_drew ?_ | refine B_alloc ?_ _ | refine B_setCell ?_ (by first | (simp; done) | (simp; omega)) _ | refine B_trans ?_ (by assumption)))) bb; clear bb) | ((have N2 := M2; clear M2 N2); go_at_call 53; refine (HDC.out _).mono ?_; rintro e wc ⟨rfl, bc⟩; have bbc : B w1 wc := B_trans (by (repeat (first | assumption | exact B_refl _ | refine B_drewN ?_ _ | refine B_drew ?_ | refine B_alloc ?_ _ | refine B_setCell ?_ (by first | (simp; done) | (simp; omega)) _ | refine B_trans ?_ (by assumption)))) bc; clear bc))
    all_goals go_wp2_with fail
    all_goals go_ret
    all_goals exact ⟨rfl, B1.out.trans (bbc.mono B1.out.size)⟩
end Go.Proofs.YtogomkkglcddmaaDoor.Ad
