/- Memory words of this claim: slices that may begin inside their block, frames told by a set of blocks, append. -/
import Derived.Test.YtghjhcobmbobcaaLib
import Derived.ArgAppend
import Derived.Deep.RegionLaw
import Derived.Laws.OwnMore
namespace Go.Proofs.Ytghjhcobmbobcaa
open Go.RowKit

/-- only blocks of F have changed, and new ones have come -/
structure Only (F : Nat → Prop) (w w' : World) : Prop where
  os : w'.os = w.os
  tape : w'.tape = w.tape
  output : w'.output = w.output
  size : w.heap.size ≤ w'.heap.size
  block : ∀ i, i < w.heap.size → ¬ F i → w'.heap[i]? = w.heap[i]?
section
variable {F G : Nat → Prop} {w w1 w2 : World}
theorem Only.refl (F : Nat → Prop) (w : World) : Only F w w := ⟨rfl, rfl, rfl, Nat.le_refl _, fun _ _ _ => rfl⟩
theorem Only.trans (h : Only F w w1) (h' : Only F w1 w2) : Only F w w2 :=
  ⟨h'.os.trans h.os, h'.tape.trans h.tape, h'.output.trans h.output, Nat.le_trans h.size h'.size, fun i hi hf => (h'.block i (Nat.lt_of_lt_of_le hi h.size) hf).trans (h.block i hi hf)⟩
/-- what lies behind may also touch blocks that came meanwhile -/
theorem Only.trans_new (h : Only F w w1) (h' : Only G w1 w2) (hg : ∀ i, i < w.heap.size → G i → F i) : Only F w w2 :=
  ⟨h'.os.trans h.os, h'.tape.trans h.tape, h'.output.trans h.output, Nat.le_trans h.size h'.size, fun i hi hf => (h'.block i (Nat.lt_of_lt_of_le hi h.size) (fun x => hf (hg i hi x))).trans (h.block i hi hf)⟩
theorem Only.mono (h : Only F w w1) (hg : ∀ i, i < w.heap.size → F i → G i) : Only G w w1 :=
  ⟨h.os, h.tape, h.output, h.size, fun i hi hf => h.block i hi (fun x => hf (hg i hi x))⟩
theorem Only.drew (h : Only F w w1) : Only F w w1.drew := ⟨h.os, h.tape, h.output, h.size, h.block⟩
theorem Only.drewN (h : Only F w w1) (n : Nat) : Only F w (w1.drewN n) := ⟨h.os, h.tape, h.output, h.size, h.block⟩
theorem Only.of_B (h : B w w1) : Only F w w1 := ⟨h.os, h.tape, h.output, h.size, fun i hi _ => h.block i hi⟩
theorem Only.to_B (h : Only F w w1) (hf : ∀ i, i < w.heap.size → ¬ F i) : B w w1 := ⟨h.os, h.tape, h.output, h.size, fun i hi => h.block i hi (hf i hi)⟩
theorem Only.of_grown {row : Option Nat} (h : w.grownBy w1 row) (hf : ∀ i, i < w.heap.size → row = some i → F i) : Only F w w1 :=
  ⟨h.os, h.tape, h.output, h.size, fun i hi hn => h.block i hi (fun e => hn (hf i hi e.symm))⟩
theorem Only.alloc (h : Only F w w1) (o : Obj) : Only F w (w1.alloc o) :=
  ⟨h.os, h.tape, h.output, Nat.le_trans h.size (by simp), fun i hi hf => (heap_at_old (Nat.lt_of_lt_of_le hi h.size) rfl).trans (h.block i hi hf)⟩
theorem Only.setCell (h : Only F w w1) {p : Addr} (hp : F p.block ∨ w.heap.size ≤ p.block) (u : Value) : Only F w (w1.setCell p u) :=
  ⟨h.os, h.tape, h.output, by simpa [World.setCell] using h.size, fun i hi hf => (heap_setCell_other w1 p i u (by
    rintro rfl
    rcases hp with hp | hp
    · exact hf hp
    · omega)).trans (h.block i hi hf)⟩
theorem Only.setCells {g : Nat} (hp : F g ∨ w.heap.size ≤ g) : ∀ (vs : List Value) (o : Nat) (w1 : World), Only F w w1 → Only F w (w1.setCells g o vs)
  | [], _, _, h => h
  | v :: r, o, _, h => Only.setCells hp r (o + 1) _ (h.setCell (p := ⟨g, o, none⟩) hp v)
theorem Only.cell (h : Only F w w1) {a : Addr} (hl : a.block < w.heap.size) (hf : ¬ F a.block) : w1.cell? a = w.cell? a := World.cell?_of_block (h.block _ hl hf)
theorem Only.frozen (h : Only F w w1) {a : Addr} (hl : a.block < w.heap.size) (hf : ¬ F a.block) : w1.frozen? a = w.frozen? a := World.frozen?_of_block (h.block _ hl hf)
end

/-- block g is just these cells, none frozen -/
def Blk (w : World) (g : Nat) (t : TypeId) (cs : Array Value) : Prop := w.heap[g]? = some (.cells cs t (0, 0))
section
variable {w w' : World} {g : Nat} {t : TypeId} {cs : Array Value}
theorem Blk.lt (h : Blk w g t cs) : g < w.heap.size := by
  rcases Nat.lt_or_ge g w.heap.size with hlt | hge
  · exact hlt
  · unfold Blk at h; rw [Array.getElem?_eq_none hge] at h; cases h
theorem Blk.cell (h : Blk w g t cs) (i : Nat) : w.cell? ⟨g, i, none⟩ = cs[i]? := cell_of_row w g i cs t (0, 0) h
theorem Blk.frozen (h : Blk w g t cs) (i : Nat) : w.frozen? ⟨g, i, none⟩ = false := frozen_of_row w g i cs t h
theorem Blk.new (w : World) (t : TypeId) (cs : Array Value) : Blk (w.alloc (.cells cs t)) w.heap.size t cs := heap_alloc_new w _
theorem Blk.alloc (h : Blk w g t cs) (o : Obj) : Blk (w.alloc o) g t cs := heap_at_old h.lt h
theorem Blk.drew (h : Blk w g t cs) : Blk w.drew g t cs := h
theorem Blk.drewN (h : Blk w g t cs) (n : Nat) : Blk (w.drewN n) g t cs := h
theorem Blk.set_ (h : Blk w g t cs) (i : Nat) (u : Value) : Blk (w.setCell ⟨g, i, none⟩ u) g t (cs.setIfInBounds i u) := by
  unfold Blk at h ⊢
  simp [World.setCell, Array.getElem?_modify, h]
theorem Blk.far (h : Blk w g t cs) {p : Addr} (hp : g ≠ p.block) (u : Value) : Blk (w.setCell p u) g t cs := (heap_setCell_other w p g u hp).trans h
theorem Blk.only {F : Nat → Prop} (h : Blk w g t cs) (hb : Only F w w') (hg : ¬ F g) : Blk w' g t cs := (hb.block g h.lt hg).trans h
theorem Blk.b (h : Blk w g t cs) (hb : B w w') : Blk w' g t cs := (hb.block g h.lt).trans h
theorem Blk.ne_ {g' : Nat} {t' : TypeId} {cs' : Array Value} (h : Blk w g t cs) (h' : Blk w g' t' cs') (hne : t ≠ t') : g ≠ g' := by
  rintro rfl
  unfold Blk at h h'
  rw [h] at h'
  injection h' with h'
  injection h' with _ ht
  exact hne ht
end

/-- the slice value v, of n elements (of type e, size cells each), reads as the cells xs; its block is all of that type, and nothing of it is frozen -/
def Sl (w : World) (e : TypeId) (size : Nat) (v : Value) (n : Nat) (xs : List Value) : Prop :=
  xs.length = n * size ∧
  ((v = .slice none 0 0 ∧ n = 0) ∨
   ∃ g o c cur, v = .slice (some ⟨g, o, none⟩) n c ∧ w.heap[g]? = some (.cells cur e (0, 0)) ∧ n ≤ c ∧ c ≤ maxLen ∧ o + c * size ≤ cur.size ∧ (cur.toList.drop o).take (n * size) = xs)
section
variable {w w' : World} {e : TypeId} {size n : Nat} {v : Value} {xs : List Value}
theorem Sl.nil (w : World) (e : TypeId) (size : Nat) : Sl w e size (.slice none 0 0) 0 [] := ⟨by simp, .inl ⟨rfl, rfl⟩⟩
theorem Sl.of_own {base : Nat} (h : w.ownsRow base e size v n xs) : Sl w e size v n xs := by
  refine ⟨h.1, ?_⟩
  rcases h.2 with h2 | ⟨g, cap, cur, rfl, _, hg, hn, hm, hs, ht⟩
  · exact .inl h2
  · exact .inr ⟨g, 0, cap, cur, rfl, hg, hn, hm, by omega, by simpa using ht⟩
theorem Sl.slice (h : Sl w e size v n xs) : ∃ A c, v = .slice A n c ∧ n ≤ c ∧ c ≤ maxLen := by
  rcases h.2 with ⟨rfl, rfl⟩ | ⟨g, o, c, cur, rfl, _, hn, hm, _, _⟩
  · exact ⟨none, 0, rfl, Nat.le_refl _, Nat.zero_le _⟩
  · exact ⟨_, c, rfl, hn, hm⟩
theorem Sl.lt (h : Sl w e size v n xs) {g : Nat} (hg : v.ownBlock = some g) : g < w.heap.size := by
  rcases h.2 with ⟨rfl, rfl⟩ | ⟨g', o, c, cur, rfl, hh, _⟩
  · simp [Value.ownBlock] at hg
  · have : g' = g := by simpa [Value.ownBlock] using hg
    subst this
    exact (Array.getElem?_eq_some_iff.1 hh).1
theorem Sl.typed (h : Sl w e size v n xs) {g : Nat} (hg : v.ownBlock = some g) : ∃ cs, Blk w g e cs := by
  rcases h.2 with ⟨rfl, rfl⟩ | ⟨g', o, c, cur, rfl, hh, _⟩
  · simp [Value.ownBlock] at hg
  · have : g' = g := by simpa [Value.ownBlock] using hg
    subst this
    exact ⟨cur, hh⟩
theorem Sl.ne_blk (h : Sl w e size v n xs) {g : Nat} {t : TypeId} {cs : Array Value} (hb : Blk w g t cs) (hne : e ≠ t) : v.ownBlock ≠ some g := fun he => by
  obtain ⟨cs', h'⟩ := h.typed he
  exact Blk.ne_ h' hb hne rfl
theorem Sl.move (h : Sl w e size v n xs) (hm : ∀ g, v.ownBlock = some g → w'.heap[g]? = w.heap[g]?) : Sl w' e size v n xs := by
  refine ⟨h.1, ?_⟩
  rcases h.2 with h2 | ⟨g, o, c, cur, rfl, hg, r⟩
  · exact .inl h2
  · exact .inr ⟨g, o, c, cur, rfl, (hm g (by simp [Value.ownBlock])).trans hg, r⟩
theorem Sl.only {F : Nat → Prop} (h : Sl w e size v n xs) (hb : Only F w w') (hf : ∀ g, v.ownBlock = some g → ¬ F g) : Sl w' e size v n xs :=
  h.move fun g hg => hb.block g (h.lt hg) (hf g hg)
theorem Sl.b (h : Sl w e size v n xs) (hb : B w w') : Sl w' e size v n xs := h.move fun g hg => hb.block g (h.lt hg)
theorem Sl.alloc (h : Sl w e size v n xs) (o : Obj) : Sl (w.alloc o) e size v n xs := h.b (B_alloc (B_refl _) o)
theorem Sl.drew (h : Sl w e size v n xs) : Sl w.drew e size v n xs := h
theorem Sl.drewN (h : Sl w e size v n xs) (k : Nat) : Sl (w.drewN k) e size v n xs := h
theorem Sl.far (h : Sl w e size v n xs) {p : Addr} (hp : v.ownBlock ≠ some p.block) (u : Value) : Sl (w.setCell p u) e size v n xs :=
  h.move fun g hg => heap_setCell_other w p g u (fun he => hp (by rw [hg, he]))
theorem addr_add (g o j : Nat) : (⟨g, o, none⟩ : Addr).add j = ⟨g, o + j, none⟩ := by unfold Addr.add; split <;> simp_all
theorem Sl.cells {A : Option Addr} {c : Nat} (h : Sl w e size (.slice A n c) n xs) (hn : 0 < n) : ∃ g o, A = some ⟨g, o, none⟩ ∧ g < w.heap.size ∧ ∀ j u, xs[j]? = some u → w.cell? ⟨g, o + j, none⟩ = some u := by
  rcases h.2 with ⟨_, h0⟩ | ⟨g, o, c', cur, he, hg, hnc, hm, hs, ht⟩
  · omega
  · injection he with ha _ hc
    subst ha
    refine ⟨g, o, rfl, (Array.getElem?_eq_some_iff.1 hg).1, fun j u hu => ?_⟩
    rw [cell_of_row w g _ cur e (0, 0) hg]
    rw [← ht, List.getElem?_take] at hu
    split at hu
    · rw [List.getElem?_drop] at hu
      rw [← Array.getElem?_toList]
      exact hu
    · cases hu
theorem Sl.drop {A : Option Addr} {c k : Nat} (h : Sl w e size (.slice A n c) n xs) (hk : k ≤ n) : Sl w e size (.slice (if c = k then A else A.map (·.add (k * size))) (n - k) (c - k)) (n - k) (xs.drop (k * size)) := by
  obtain ⟨h1, h2⟩ := h
  refine ⟨by rw [List.length_drop, h1, Nat.sub_mul], ?_⟩
  rcases h2 with ⟨he, h0⟩ | ⟨g, o, c', cur, he, hg, hnc, hm, hs, ht⟩
  · injection he with ha hb hc
    subst ha; subst hc
    have hk0 : k = 0 := by omega
    subst hk0
    exact .inl ⟨by simp [h0], by omega⟩
  · injection he with ha _ hc
    subst ha; subst hc
    by_cases hck : c = k
    · subst hck
      refine .inr ⟨g, o, 0, cur, ?_, hg, by omega, Nat.zero_le _, by rw [Nat.zero_mul]; have := Nat.zero_le (c * size); omega, ?_⟩
      · simp
      · have : n = c := by omega
        subst this
        simp [← h1]
    · refine .inr ⟨g, o + k * size, c - k, cur, ?_, hg, by omega, by omega, ?_, ?_⟩
      · rw [if_neg hck, Option.map_some, addr_add]
      · have : k * size + (c - k) * size = c * size := by rw [← Nat.add_mul]; congr 1; omega
        omega
      · rw [← ht, List.drop_take, List.drop_drop, Nat.sub_mul]
end

theorem news1 {w : World} {g : Nat} {a : Value} (h : w.cell? ⟨g, 0, none⟩ = some a) : ∀ (j : Nat) (u : Value), [a][j]? = some u → w.cell? ((⟨g, 0, none⟩ : Addr).add j) = some u
  | 0, u, hu => by simp at hu; subst hu; simpa [Addr.add] using h
  | j + 1, u, hu => by simp at hu
theorem news2 {w : World} {g : Nat} {a b : Value} (h : w.cell? ⟨g, 0, none⟩ = some a) (h' : w.cell? ⟨g, 1, none⟩ = some b) : ∀ (j : Nat) (u : Value), [a, b][j]? = some u → w.cell? ((⟨g, 0, none⟩ : Addr).add j) = some u
  | 0, u, hu => by simp at hu; subst hu; simpa [Addr.add] using h
  | 1, u, hu => by simp at hu; subst hu; simpa [Addr.add] using h'
  | j + 2, u, hu => by simp at hu
/-- where a value's row lies, against another's: the same block, or a new one -/
def Lies (w : World) (v v' : Value) : Prop := v'.ownBlock = v.ownBlock ∨ ∃ g, v'.ownBlock = some g ∧ w.heap.size ≤ g

theorem own_later {w : World} {v v' : Value} {n : Nat} (h : Lies w v v') (hv : ∀ g, v.ownBlock = some g → n ≤ g) (hn : n ≤ w.heap.size) : ∀ g, v'.ownBlock = some g → n ≤ g := fun g hg => by
  rcases h with h | ⟨k, h, hk⟩
  · exact hv g (h ▸ hg)
  · rw [h] at hg; injection hg with hg; omega
theorem B_only {w w1 w2 : World} {v : Value} (h : B w w1) (ho : Only (fun g => v.ownBlock = some g) w1 w2) (hv : ∀ g, v.ownBlock = some g → w.heap.size ≤ g) : B w w2 :=
  ((Only.of_B (F := fun _ => False) h).trans_new ho fun i hi he => by have := hv i he; omega).to_B fun _ _ h => h
section
variable {P : Program} (w : World)
theorem setCells_at {g : Nat} {e : TypeId} : ∀ (vs : List Value) (o : Nat) (w : World) (cur : Array Value), w.heap[g]? = some (.cells cur e (0, 0)) → o + vs.length ≤ cur.size →
    ∃ cur', (w.setCells g o vs).heap[g]? = some (.cells cur' e (0, 0)) ∧ cur'.size = cur.size ∧ cur'.toList = cur.toList.take o ++ vs ++ cur.toList.drop (o + vs.length)
  | [], o, w, cur, h, _ => ⟨cur, h, rfl, by simp⟩
  | v :: r, o, w, cur, h, hl => by
    have h1 : (w.setCell ⟨g, o, none⟩ v).heap[g]? = some (.cells (cur.setIfInBounds o v) e (0, 0)) := heap_setCell_same w g o cur e v h
    obtain ⟨cur', h2, h3, h4⟩ := setCells_at r (o + 1) (w.setCell ⟨g, o, none⟩ v) (cur.setIfInBounds o v) h1 (by simp at hl ⊢; omega)
    refine ⟨cur', h2, by rw [h3]; simp, ?_⟩
    rw [h4]
    have ho : o < cur.toList.length := by simp at hl ⊢; omega
    simp only [Array.toList_setIfInBounds, List.length_cons]
    rw [List.take_set, List.take_succ_eq_append_getElem ho, List.drop_set_of_lt (by omega)]
    have hm : (cur.toList.take o).length = o := by rw [List.length_take]; omega
    rw [List.set_append_right _ _ (by omega), hm, Nat.sub_self]
    simp [Nat.add_assoc, Nat.add_comm 1]
/-- append, onto whatever slice: in place, or into a new block -/
theorem run_append_sl (t ty e : TypeId) (i : TypeInfo) (z : Value) (size bytes : Nat) (ht : P.underlying t = some (.slice e)) (hi : P.info? e = some i) (hz : i.zero = some z)
    (hsize : i.size = size) (hby : i.bytes = bytes) (hzs : z.cells.size = size) (hsz : 0 < size)
    (v : Value) (n : Nat) (xs : List Value) (hs : Sl w e size v n xs)
    (a : Addr) (m c : Nat) (news : List Value) (hl : news.length = m * size) (hnews : ∀ j u, news[j]? = some u → w.cell? (a.add j) = some u) (h1 : ∀ u ∈ news, u.oneCell' = true)
    (h63 : n + m ≤ maxLen) (hbytes : (n + m) * bytes ≤ 140737488355328) :
    ∃ A' c' w', (Builtin.append_ #[t, t] ty #[v, .slice (some a) m c]).run P w = .ok (.slice A' (n + m) c') w' ∧ Sl w' e size (.slice A' (n + m) c') (n + m) (xs ++ news) ∧ Only (fun g => v.ownBlock = some g) w w' ∧ Lies w v (.slice A' (n + m) c') := by
  suffices hh : ∃ v' w', (Builtin.append_ #[t, t] ty #[v, .slice (some a) m c]).run P w = .ok v' w' ∧ Sl w' e size v' (n + m) (xs ++ news) ∧ Only (fun g => v.ownBlock = some g) w w' ∧ Lies w v v' by
    obtain ⟨v', w', h2, h3, h4, h5⟩ := hh
    obtain ⟨A', c', rfl, _⟩ := h3.slice
    exact ⟨A', c', w', h2, h3, h4, h5⟩
  subst hsize
  rcases hs.2 with ⟨rfl, rfl⟩ | ⟨g, o, cap, cur, rfl, hg, hnc, hcm, hcs, htake⟩
  · have hx : xs = [] := List.eq_nil_of_length_eq_zero (by simpa using hs.1)
    subst hx
    obtain ⟨v', w', hr, h2, h3, h4⟩ := run_append_own (P := P) w w.heap.size t ty e i z i.size bytes ht hi hz rfl hby hzs hsz (.slice none 0 0) 0 [] (World.ownsRow_nil w _ e i.size) a m c news hl hnews h1 h63 hbytes (Nat.le_refl _)
    refine ⟨v', w', hr, Sl.of_own h2, Only.of_grown h3 (fun i _ h => h), ?_⟩
    cases hv : v'.ownBlock with
    | none => exact .inl (by rw [hv]; rfl)
    | some k => exact .inr ⟨k, hv, (h2.lt k hv).1⟩
  · by_cases hroom : n + m ≤ cap
    · have hfit : o + n * i.size + news.length ≤ cur.size := by
        have : (n + m) * i.size ≤ cap * i.size := Nat.mul_le_mul_right _ hroom
        rw [Nat.add_mul] at this
        omega
      have hcell : ∀ j, j < news.length → (w.cell? ⟨g, o + n * i.size + j, none⟩).isSome = true := fun j hj => by
        rw [cell_of_row w g _ cur e (0, 0) hg, Array.getElem?_eq_getElem (by omega)]; rfl
      have hr := run_append_room_cells (P := P) w t ty e i ht hi g o n cap a m c news hl hnews h1 hroom hcell (fun j _ => frozen_of_row w g _ cur e hg)
      obtain ⟨cur', h2, h3, h4⟩ := setCells_at news (o + n * i.size) w cur hg hfit
      refine ⟨_, _, hr, ⟨by rw [List.length_append, hs.1, hl, Nat.add_mul], .inr ⟨g, o, cap, cur', rfl, h2, hroom, hcm, by omega, ?_⟩⟩, ?_, .inl rfl⟩
      · rw [h4, List.append_assoc, List.drop_append_of_le_length (by rw [List.length_take, Array.length_toList]; omega), List.drop_take]
        have e1 : (List.take (o + n * i.size - o) (List.drop o cur.toList)) = xs := by rw [← htake]; congr 1; omega
        rw [e1, ← List.append_assoc]
        exact (List.take_append_of_le_length (by rw [List.length_append, hs.1, hl, Nat.add_mul]; omega)).trans (List.take_of_length_le (by rw [List.length_append, hs.1, hl, Nat.add_mul]; omega))
      · exact Only.setCells (F := fun k => Value.ownBlock (.slice (some ⟨g, o, none⟩) n cap) = some k) (.inl rfl) news _ w (Only.refl _ w)
    · have holds : ∀ j u, xs[j]? = some u → w.cell? ((⟨g, o, none⟩ : Addr).add j) = some u := fun j u hu => by
        rw [addr_add, cell_of_row w g _ cur e (0, 0) hg]
        rw [← htake, List.getElem?_take] at hu
        split at hu
        · rw [List.getElem?_drop] at hu
          rw [← Array.getElem?_toList]
          exact hu
        · cases hu
      obtain ⟨v', w', hr, h2, h3⟩ := run_append_arg_grows (P := P) w t ty e i z i.size bytes ht hi hz rfl hby hzs hsz ⟨g, o, none⟩ n cap xs hs.1 holds a m c news hl hnews (by omega) h63 hbytes
      refine ⟨v', w', hr, Sl.of_own h2, Only.of_grown h3 (fun i _ h => by cases h), ?_⟩
      cases hv : v'.ownBlock with
      | none =>
        exfalso
        rcases h2.2 with ⟨_, h0⟩ | ⟨g', cap', cur', rfl, _⟩
        · omega
        · simp [Value.ownBlock] at hv
      | some k => exact .inr ⟨k, hv, (h2.lt k hv).1⟩

theorem wp_append_sl {o : Oper} {a : Act} {K : Act → World → Prop} {Q : Exit → Act → World → Prop} (s x : Operand) (t : TypeId)
    (ho : o.op = .call { callee := .builtin .append, args := #[s, x], argTypes := #[t, t] })
    (e : TypeId) (i : TypeInfo) (z : Value) (size bytes : Nat) (ht : P.underlying t = some (.slice e)) (hi : P.info? e = some i) (hz : i.zero = some z)
    (hsize : i.size = size) (hby : i.bytes = bytes) (hzs : z.cells.size = size) (hsz : 0 < size)
    (v : Value) (n : Nat) (xs : List Value) (hs : a.eval s = v) (hsl : Sl w e size v n xs)
    (ad : Addr) (m c : Nat) (news : List Value) (hx : a.eval x = .slice (some ad) m c) (hl : news.length = m * size) (hnews : ∀ j u, news[j]? = some u → w.cell? (ad.add j) = some u) (h1 : ∀ u ∈ news, u.oneCell' = true)
    (h63 : n + m ≤ maxLen) (hbytes : (n + m) * bytes ≤ 140737488355328)
    (h : ∀ A' c' w', Sl w' e size (.slice A' (n + m) c') (n + m) (xs ++ news) → Only (fun g => v.ownBlock = some g) w w' → Lies w v (.slice A' (n + m) c') → K (a.put o.dst (.slice A' (n + m) c')) w') : o.wp P a w K Q := by
  obtain ⟨A', c', w', hr, h2, h3, h4⟩ := run_append_sl (P := P) w t o.type e i z size bytes ht hi hz hsize hby hzs hsz v n xs hsl ad m c news hl hnews h1 h63 hbytes
  unfold Oper.wp execOp
  simp only [ho, resolve, invoke, builtin, Sem.run_bind, Sem.run_pure, Result.andThen_ok, List.map_toArray, List.map_cons, List.map_nil, hs, hx, hr]
  exact h A' c' w' h2 h3 h4
theorem wpList_append_sl {ops : Array Oper} {rest : List Oper} {o : Oper} {a : Act} {Q : Exit → Act → World → Prop} (hgd : o.guard = none) (s x : Operand) (t : TypeId)
    (ho : o.op = .call { callee := .builtin .append, args := #[s, x], argTypes := #[t, t] })
    (e : TypeId) (i : TypeInfo) (z : Value) (size bytes : Nat) (ht : P.underlying t = some (.slice e)) (hi : P.info? e = some i) (hz : i.zero = some z)
    (hsize : i.size = size) (hby : i.bytes = bytes) (hzs : z.cells.size = size) (hsz : 0 < size)
    (v : Value) (n : Nat) (xs : List Value) (hs : a.eval s = v) (hsl : Sl w e size v n xs)
    (ad : Addr) (m c : Nat) (news : List Value) (hx : a.eval x = .slice (some ad) m c) (hl : news.length = m * size) (hnews : ∀ j u, news[j]? = some u → w.cell? (ad.add j) = some u) (h1 : ∀ u ∈ news, u.oneCell' = true)
    (h63 : n + m ≤ maxLen) (hbytes : (n + m) * bytes ≤ 140737488355328)
    (h : ∀ A' c' w', Sl w' e size (.slice A' (n + m) c') (n + m) (xs ++ news) → Only (fun g => v.ownBlock = some g) w w' → Lies w v (.slice A' (n + m) c') → wpList P ops Q rest (a.put o.dst (.slice A' (n + m) c')) w') : wpList P ops Q (o :: rest) a w :=
  wpList_plain hgd fun _ hK => wp_append_sl w s x t ho e i z size bytes ht hi hz hsize hby hzs hsz v n xs hs hsl ad m c news hx hl hnews h1 h63 hbytes fun A' c' w' h2 h3 h4 => hK _ _ (h A' c' w' h2 h3 h4)
theorem step_append_sl {ops : Array Oper} {o : Oper} {a : Act} {K : Act → World → Prop} {Q : Exit → Act → World → Prop} {E : Prop} (hgd : o.guard = none) (s x : Operand) (t : TypeId)
    (ho : o.op = .call { callee := .builtin .append, args := #[s, x], argTypes := #[t, t] })
    (e : TypeId) (i : TypeInfo) (z : Value) (size bytes : Nat) (ht : P.underlying t = some (.slice e)) (hi : P.info? e = some i) (hz : i.zero = some z)
    (hsize : i.size = size) (hby : i.bytes = bytes) (hzs : z.cells.size = size) (hsz : 0 < size)
    (v : Value) (n : Nat) (xs : List Value) (hs : a.eval s = v) (hsl : Sl w e size v n xs)
    (ad : Addr) (m c : Nat) (news : List Value) (hx : a.eval x = .slice (some ad) m c) (hl : news.length = m * size) (hnews : ∀ j u, news[j]? = some u → w.cell? (ad.add j) = some u) (h1 : ∀ u ∈ news, u.oneCell' = true)
    (h63 : n + m ≤ maxLen) (hbytes : (n + m) * bytes ≤ 140737488355328)
    (h : ∀ A' c' w', Sl w' e size (.slice A' (n + m) c') (n + m) (xs ++ news) → Only (fun g => v.ownBlock = some g) w w' → Lies w v (.slice A' (n + m) c') → K (a.put o.dst (.slice A' (n + m) c')) w') :
    if Region.wanted o (yielded ops a.tmps) = true then Oper.wp P o a w K Q else E := by
  have hw : Region.wanted o (yielded ops a.tmps) = true := by simp [Region.wanted, hgd]
  rw [if_pos hw]
  exact wp_append_sl w s x t ho e i z size bytes ht hi hz hsize hby hzs hsz v n xs hs hsl ad m c news hx hl hnews h1 h63 hbytes h
end
end Go.Proofs.Ytghjhcobmbobcaa
