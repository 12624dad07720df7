/-
  The walks of layer 18: the law's own example. By an AI agent.
-/
import Derived.Test.YthohninbelhddaaAwP
namespace Go.Proofs.Ythohninbelhddaa
open Go.RowKit

attribute [local go_sem] guard44

/-- The view that 'of' has made, as the other functions read it. -/
def C.ov (n : Nat) (A : Option Addr) (c : Nat) (rs : List (Option Addr × Nat × List C.Gl)) : C.VR := ⟨4, n, A, c, rs, 0, 0, false⟩

set_option maxRecDepth 100000 in
set_option maxHeartbeats 4000000 in
theorem awake_any (w : World) : Calls Try.prog 12 #[] w fun e w' => e = .returned (.bool true) ∧ Below w.heap.size w w' := by
  have OA : Hid (∀ w', Calls Try.prog 23 #[.string { data := #[97, 98, 99] }] w' fun e w'' => C.OfOut C.sA w' w'' e) := Lib.hid (fun w' => of_any C.sA (by decide) w')
  have OB : Hid (∀ w', Calls Try.prog 23 #[.string { data := #[98, 99, 100] }] w' fun e w'' => C.OfOut C.sB w' w'' e) := Lib.hid (fun w' => of_any C.sB (by decide) w')
  have LEN : Hid (∀ (s : ByteArray) (rs : List (Option Addr × Nat × List C.Gl)), rs.map (·.2.2) = C.ofl s 3 → rs.length = 3) := Lib.hid (fun s rs h => by have := congrArg List.length h; simpa [C.ofl] using this)
  have FI : Hid (∀ (w' : World) (A1 A2 : Option Addr) (c1 c2 : Nat) (r1 r2 : List (Option Addr × Nat × List C.Gl)), C.Rv w' w'.heap.size A1 r1 → C.Rv w' w'.heap.size A2 r2 → r1.map (·.2.2) = C.ofl C.sA 3 → r2.map (·.2.2) = C.ofl C.sB 3 →
      Calls Try.prog 13 #[.agg #[.int .i64 4, .int .i64 3, .slice A1 3 c1, .int .i64 0, .int .i64 0, .bool false], .agg #[.int .i64 4, .int .i64 3, .slice A2 3 c2, .int .i64 0, .int .i64 0, .bool false]] w' fun e w'' => e = .returned (.tuple #[.agg #[.int .i64 2, .int .i64 0, .int .i64 0, .int .i64 1, .int .i64 3, .slice none 0 0], .bool true]) ∧ Below w'.heap.size w' w'') := Lib.hid (fun w' A1 A2 c1 c2 r1 r2 h1 h2 e1 e2 => by
    have l1 := LEN.out _ _ e1
    have l2 := LEN.out _ _ e2
    have h := find_any w'.heap.size (C.ov 3 A1 c1 r1) (C.ov 3 A2 c2 r2) w' h1 h2 (Nat.le_refl _) (by show r1.length ≤ 1000; omega)
    simp only [C.ov, C.VR.val, C.VR.gl, l1, l2, e1, e2] at h
    refine h.mono ?_
    rintro e w'' ⟨⟨o, rfl, -, hb⟩, hbl⟩
    have ho := C.aw_best (hb (by decide))
    subst ho
    exact ⟨rfl, hbl⟩)
  have GA : Hid (∀ (w' : World) (A1 A2 : Option Addr) (c1 c2 : Nat) (r1 r2 : List (Option Addr × Nat × List C.Gl)), C.Rv w' w'.heap.size A1 r1 → C.Rv w' w'.heap.size A2 r2 → r1.map (·.2.2) = C.ofl C.sA 3 → r2.map (·.2.2) = C.ofl C.sB 3 →
      Calls Try.prog 16 #[.agg #[.int .i64 4, .int .i64 3, .slice A1 3 c1, .int .i64 0, .int .i64 0, .bool false], .agg #[.int .i64 4, .int .i64 3, .slice A2 3 c2, .int .i64 0, .int .i64 0, .bool false], .int .i64 0, .int .i64 3, .int .i64 1] w' fun e w'' => e = .returned (.int .i64 2) ∧ Below w'.heap.size w' w'') := Lib.hid (fun w' A1 A2 c1 c2 r1 r2 h1 h2 e1 e2 => by
    have l1 := LEN.out _ _ e1
    have l2 := LEN.out _ _ e2
    have h := Gain_any w'.heap.size (C.ov 3 A1 c1 r1) (C.ov 3 A2 c2 r2) 0 3 1 w' h1 h2 (Nat.le_refl _) (by show r1.length ≤ 1000; omega)
    have hg : C.gn (C.ov 3 A1 c1 r1) (C.ov 3 A2 c2 r2) 0 3 1 = 2 := by
      simp only [C.gn, C.ov, C.VR.gl, l1, l2, e1, e2, C.aw_two]
      rw [if_pos ⟨by decide, by unfold V.poss; simp⟩]
    rw [hg] at h
    simp only [C.ov, C.VR.val, l1, l2] at h
    exact h)
  go_enter Try.func12, Try.ntmps12
  go_wp2_with fail
  refine (OA.out _).mono ?_
  rintro e w1 ⟨A1, c1, r1, rfl, v1, e1, b1⟩
  have l1 : r1.length = 3 := LEN.out _ _ e1
  rw [l1, show (C.sA.size : Int) = 3 from rfl]
  have e1 : Hid (r1.map (·.2.2) = C.ofl C.sA 3) := Lib.hid e1
  clear l1
  go_wp2_with fail
  refine (OB.out _).mono ?_
  rintro e w2 ⟨A2, c2, r2, rfl, v2, e2, b2⟩
  have l2 : r2.length = 3 := LEN.out _ _ e2
  rw [l2, show (C.sB.size : Int) = 3 from rfl]
  have e2 : Hid (r2.map (·.2.2) = C.ofl C.sB 3) := Lib.hid e2
  clear l2
  have hb2 := b1.trans (b2.mono b1.size)
  go_wp2_with fail
  refine (FI.out _ _ _ _ _ _ _ ((v1.below b2 (Nat.le_refl _)).more b2.size) v2 e1.out e2.out).mono ?_
  rintro e w3 ⟨rfl, b3⟩
  have hb3 := hb2.trans (b3.mono hb2.size)
  clear v1 v2 e1 e2
  have SC : Hid (∀ w', Calls Try.prog 15 #[.agg #[.int .i64 2, .int .i64 0, .int .i64 0, .int .i64 1, .int .i64 3, .slice none 0 0], .agg #[.int .i64 2, .int .i64 0, .int .i64 0, .int .i64 1, .int .i64 3, .slice none 0 0]] w' fun e w'' => e = .returned (.bool true) ∧ Below w'.heap.size w' w'') := Lib.hid (fun w' => samechange_any 2 0 0 1 3 2 0 0 1 3 w')
  have hb4 : Below w.heap.size w (w3.alloc (.cells #[.int .i64 2, .int .i64 0, .int .i64 0, .int .i64 1, .int .i64 3, .slice none 0 0] 29)) := hb3.alloc hb3.size _
  go_wp2_with fail
  refine (SC.out _).mono ?_
  rintro e w5 ⟨rfl, b5⟩
  have hb5 := hb4.trans (b5.mono hb4.size)
  go_wp2_with fail
  refine (OA.out _).mono ?_
  rintro e w6 ⟨A6, c6, r6, rfl, v6, e6, b6⟩
  have l6 : r6.length = 3 := LEN.out _ _ e6
  rw [l6, show (C.sA.size : Int) = 3 from rfl]
  have e6 : Hid (r6.map (·.2.2) = C.ofl C.sA 3) := Lib.hid e6
  clear l6
  have hb6 := hb5.trans (b6.mono hb5.size)
  go_wp2_with fail
  refine (OB.out _).mono ?_
  rintro e w7 ⟨A7, c7, r7, rfl, v7, e7, b7⟩
  have l7 : r7.length = 3 := LEN.out _ _ e7
  rw [l7, show (C.sB.size : Int) = 3 from rfl]
  have e7 : Hid (r7.map (·.2.2) = C.ofl C.sB 3) := Lib.hid e7
  clear l7
  have hb7 := hb6.trans (b7.mono hb6.size)
  go_wp2_with fail
  refine (GA.out _ _ _ _ _ _ _ ((v6.below b7 (Nat.le_refl _)).more b7.size) v7 e6.out e7.out).mono ?_
  rintro e w8 ⟨rfl, b8⟩
  have hb8 := hb7.trans (b8.mono hb7.size)
  go_wp2_with fail
  go_ret
  exact ⟨rfl, hb8⟩
end Go.Proofs.Ythohninbelhddaa
