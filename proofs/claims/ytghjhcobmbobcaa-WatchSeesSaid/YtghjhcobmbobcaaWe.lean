/- The document's example (hostlerlaw22's lives). -/
import Derived.Test.YtghjhcobmbobcaaWd
namespace Go.Proofs.Ytghjhcobmbobcaa.Wt
open Go.RowKit Go.Proofs.Ytghjhcobmbobcaa.Mp Go.Proofs.Ytghjhcobmbobcaa
def exOuts : List OutV := [⟨2, 1, 0, ⟨#[]⟩, ⟨#[97]⟩⟩, ⟨1, 1, 2, ⟨#[]⟩, ⟨#[]⟩⟩]
theorem ex_audit : auditFrom rightV 0 st0 exOuts = (1, 8) := by decide +kernel
def exW (w : World) : World := w.alloc (.cells #[.int .i64 2, .int .i64 1, .int .i64 0, .string ⟨#[]⟩, .string ⟨#[97]⟩, .int .i64 1, .int .i64 1, .int .i64 2, .string ⟨#[]⟩, .string ⟨#[]⟩] 36)
theorem ex_at (w : World) : OutsAt (exW w) (some ⟨w.heap.size, 0, none⟩) exOuts := fun k o ho => by
  have hc : ∀ (j : Nat) (v : Value), (#[.int .i64 2, .int .i64 1, .int .i64 0, .string ⟨#[]⟩, .string ⟨#[97]⟩, .int .i64 1, .int .i64 1, .int .i64 2, .string ⟨#[]⟩, .string ⟨#[]⟩] : Array Value)[j]? = some v → (exW w).cell? ⟨w.heap.size, j, none⟩ = some v := fun j v hv => by
    unfold exW
    simp only [World.cell?]; rw [heap_alloc_new]
    exact hv
  match k, ho with
  | 0, ho => cases ho; exact ⟨_, rfl, hc 0 _ rfl, hc 1 _ rfl, hc 2 _ rfl, hc 3 _ rfl, hc 4 _ rfl⟩
  | 1, ho => cases ho; exact ⟨_, rfl, hc 5 _ rfl, hc 6 _ rfl, hc 7 _ rfl, hc 8 _ rfl, hc 9 _ rfl⟩
  | k + 2, ho => cases ho
theorem lives_any (w : World) : Calls Try.prog 8 #[] w fun e w' => e = .returned (.bool true) ∧ Below w.heap.size w w' := by
  have H0 := Lib.hid (ex_at w)
  have HB : Hid (Below w.heap.size w (exW w)) := Lib.hid ((Below.refl _ _).alloc (Nat.le_refl _) _)
  go_enter Try.func8, Try.ntmps8
  go_wp2_with fail
  refine (audit_any (some ⟨w.heap.size, 0, none⟩) 2 exOuts (Nat.le_refl 2) (by decide) (by decide) (exW w) H0.out).mono ?_
  rw [ex_audit]
  rintro e w1 ⟨rfl, hb1⟩
  have HB1 : Hid (Below w.heap.size w w1) := Lib.hid (HB.out.trans (hb1.mono HB.out.size))
  clear hb1 HB
  go_wp2_with fail
  refine (audit_any none 0 [] (Nat.le_refl 0) (by decide) (by simp) w1 (fun k o ho => by cases ho)).mono ?_
  rw [show auditFrom rightV 0 st0 [] = (-1, 0) from rfl]
  rintro e w2 ⟨rfl, hb2⟩
  have HB2 : Hid (Below w.heap.size w w2) := Lib.hid (HB1.out.trans (hb2.mono HB1.out.size))
  clear hb2
  go_wp2_with fail
  go_ret
  exact ⟨rfl, HB2.out⟩
end Go.Proofs.Ytghjhcobmbobcaa.Wt
