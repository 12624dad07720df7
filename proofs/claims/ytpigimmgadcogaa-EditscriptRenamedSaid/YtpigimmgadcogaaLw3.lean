/-
  The statements of layer 16: EditscriptContext. By an AI agent.
-/
import Derived.Test.YtpigimmgadcogaaJn
namespace Go.Proofs.Ytpigimmgadcogaa
open Go.RowKit

namespace E
def shEs (n : Nat) (x : Es Int) : Es Int := ⟨Ed.shift n x.ed, x.sl⟩
/-- The first k edits are shifted. -/
def shl (n : Nat) : Nat → List (Es Int) → List (Es Int)
  | 0, l => l
  | _ + 1, [] => []
  | k + 1, x :: l => shEs n x :: shl n k l
theorem shl_len (n : Nat) : ∀ (k : Nat) (l : List (Es Int)), (shl n k l).length = l.length
  | 0, _ => rfl
  | _ + 1, [] => rfl
  | k + 1, x :: l => by simp [shl, shl_len n k l]
theorem shl_get (n : Nat) : ∀ (k : Nat) (l : List (Es Int)) (h : k < l.length), (shl n k l)[k]? = some l[k]
  | 0, l, h => by simp [shl, h]
  | k + 1, [], h => by simp at h
  | k + 1, x :: l, h => by simpa [shl] using shl_get n k l (by simpa using h)
theorem shl_step (n : Nat) : ∀ (k : Nat) (l : List (Es Int)) (h : k < l.length), ((shl n k l).flatMap ec).set (k * 3) (.int .i64 (l[k].ed.at_ + n)) = (shl n (k + 1) l).flatMap ec
  | 0, [], h => by simp at h
  | 0, x :: l, h => by simp [shl, ec, shEs, Ed.shift]
  | k + 1, [], h => by simp at h
  | k + 1, x :: l, h => by
    have ih := shl_step n k l (by simpa using h)
    have e : (shl n (k + 1) (x :: l)).flatMap ec = ec (shEs n x) ++ (shl n k l).flatMap ec := rfl
    have e2 : (shl n (k + 1 + 1) (x :: l)).flatMap ec = ec (shEs n x) ++ (shl n (k + 1) l).flatMap ec := rfl
    rw [e, e2, List.set_append_right _ _ (by simp [ec]; omega), show (k + 1) * 3 - (ec (shEs n x)).length = k * 3 by simp [ec]; omega]
    rw [← ih]
    rfl
theorem shl_all (n : Nat) : ∀ l : List (Es Int), shl n l.length l = l.map (shEs n)
  | [] => rfl
  | x :: l => by simp [shl, shl_all n l]
theorem app_in {α : Type} [DecidableEq α] {a : List α} : ∀ {l : List (Ed α)} {e : Nat} {r : List α}, app a e l = .ok r → ∀ x ∈ l, 0 ≤ x.at_ ∧ 0 ≤ x.del ∧ x.at_ + x.del ≤ a.length
  | [], _, _, _, x, hx => by cases hx
  | y :: l, e, r, h, x, hx => by
    obtain ⟨h1, h2, h3, h4, r', h5, _⟩ := app_ok h
    rcases List.mem_cons.1 hx with rfl | hx
    · exact ⟨h1, h2, h3⟩
    · exact app_in h5 x hx
end E

set_option maxRecDepth 10000 in
set_option maxHeartbeats 8000000 in
theorem context_any (A1 : Option Addr) (c1 : Nat) (a : List Int) (A2 : Option Addr) (c2 : Nat) (b : List Int) (A3 : Option Addr) (c3 : Nat) (c : List Int) (w : World)
    (ha : Reads w w.heap.size 1 A1 a.length (E.ns a)) (_ : ∀ z ∈ a, (Lit.int .i64 z).wf = true) (ya : a.length ≤ 17592186043904)
    (hb : Reads w w.heap.size 1 A2 b.length (E.ns b)) (_ : ∀ z ∈ b, (Lit.int .i64 z).wf = true) (yb : b.length ≤ 17592186043904)
    (hc : Reads w w.heap.size 1 A3 c.length (E.ns c)) (_ : ∀ z ∈ c, (Lit.int .i64 z).wf = true) (yc : c.length ≤ 17592186043904) :
    Calls Try.prog 6 #[.slice A1 a.length c1, .slice A2 b.length c2, .slice A3 c.length c3] w fun e w' => e = .returned (.bool true) ∧ Below w.heap.size w w' := by
  have SM := Lib.hid (small3_any A1 A2 A3 c1 c2 c3 a.length b.length c.length w (by simp only [maxLen]; omega) (by simp only [maxLen]; omega) (by simp only [maxLen]; omega))
  have hb0 : Below w.heap.size w (w.alloc (.cells #[.slice A1 a.length c1, .slice A2 b.length c2, .slice A3 c.length c3] 22)) := (Below.refl _ _).alloc (Nat.le_refl _) _
  cases hs : E.small [a.length, b.length, c.length]
  · rw [hs] at SM
    clear hs ha hb hc
    go_enter Try.func6, Try.ntmps6
    go_wp2_with fail
    refine SM.out.mono ?_
    rintro e w1 ⟨rfl, rfl⟩
    go_wp2_with fail
    refine (awake_any _).mono ?_
    rintro e w2 ⟨rfl, b2⟩
    go_wp2_with fail
    go_ret
    exact ⟨rfl, hb0.trans (b2.mono hb0.size)⟩
  · obtain ⟨n1, n2, n3⟩ := E.small3 hs
    rw [hs] at SM
    have S : Hid (∀ (A A' : Option Addr) (k k' B : Nat) (x y : List Int) (w' : World), B ≤ w'.heap.size → x.length ≤ 1000 → y.length ≤ 1000 → Reads w' B 1 A x.length (E.ns x) → Reads w' B 1 A' y.length (E.ns y) → Calls Try.prog 17 #[.slice A x.length k, .slice A' y.length k'] w' fun e W' => E.Out w' W' e (E.script x y)) :=
      Lib.hid (fun A A' k k' B x y w' hB hx hy hrx hry => script_any A A' k k' B x y w' hrx hry hB hx hy)
    have D : Hid (∀ (A A' : Option Addr) (k k' B : Nat) (x y : List Int) (w' : World), B ≤ w'.heap.size → x.length ≤ 1000 → y.length ≤ 1000 → Reads w' B 1 A x.length (E.ns x) → Reads w' B 1 A' y.length (E.ns y) → Calls Try.prog 13 #[.slice A x.length k, .slice A' y.length k'] w' fun e w'' => e = .returned (.int .i64 (E.dist x y)) ∧ Below w'.heap.size w' w'') :=
      Lib.hid (fun A A' k k' B x y w' hB hx hy hrx hry => dist_any A A' k k' B x y w' hrx hry hB hx hy)
    have H1 := Lib.hid ha
    have H2 := Lib.hid hb
    have H3 := Lib.hid hc
    have HDC := Lib.hid (E.dist_context c a b)
    have HSF := Lib.hid (E.script_front c a b)
    have HIN := Lib.hid (E.app_in (E.app_script a b))
    have hss := E.script_small (a := a) (b := b) (by omega) (by omega)
    have hss2 := E.script_small (a := c ++ a) (b := c ++ b) (by simp; omega) (by simp; omega)
    clear hs ha hb hc
    go_enter Try.func6, Try.ntmps6
    go_wp2_with fail
    refine SM.out.mono ?_
    rintro e w1 ⟨rfl, rfl⟩
    generalize w.alloc _ = w1 at *
    go_wp2_with fail
    refine (S.out _ _ _ _ w.heap.size a b _ hb0.size (by omega) (by omega) (H1.out.below hb0 (Nat.le_refl _)) (H2.out.below hb0 (Nat.le_refl _))).mono ?_
    rintro e w2 ⟨A4, c4, es, rfl, r4, e4, b2⟩
    have hb2 := hb0.trans (b2.mono hb0.size)
    have hel : es.length ≤ 2000 := by have := congrArg List.length e4; simp at this; omega
    have E4 := Lib.hid e4
    have R4 := Lib.hid r4
    clear e4 r4
    go_wp2_with fail
    refine (plain_any A4 c4 w2.heap.size es w2 R4.out.row R4.out.sl (Nat.le_refl _) (by omega)).mono ?_
    rintro e w3 ⟨v, rfl, hown, b3⟩
    obtain ⟨A5, c5, rfl, -⟩ := own_reads hown
    have OW := Lib.hid hown
    clear hown
    go_wp2
    go_loopw [22] (fun i wr => ∃ k : Nat, k ≤ es.length ∧ i = .int .i64 k ∧ wr.ownsRow w2.heap.size 37 3 (.slice A5 es.length c5) es.length ((E.shl c.length k es).flatMap E.ec) ∧ Below w2.heap.size w2 wr) (fun i _ => es.length - (intOf i).toNat)
    case atStart => exact ⟨0, Nat.zero_le _, rfl, OW.out, b3⟩
    case round =>
      clear b3 OW
      obtain ⟨k, hk, rfl, hown, hbr⟩ := hrel
      by_cases hlt : k < es.length
      · obtain ⟨g, cap, hv, hg, _⟩ := hown.form (by omega)
        cases hv
        have x0 := hown.cellAt (k * 3) (by omega)
        have hget := flat_get E.ec 3 (E.shl c.length k es) E.ec_len k 0 (by decide)
        rw [Nat.add_zero] at hget
        rw [hget, E.shl_get c.length k es hlt] at x0
        have x1 : wr.cell? ⟨g, k * 3, none⟩ = some (.int .i64 es[k].ed.at_) := x0
        have f1 := hown.frozenAt (k * 3)
        have hst := (hown.stored (k * 3) (.int .i64 (es[k].ed.at_ + c.length))).1
        rw [E.shl_step c.length k es hlt] at hst
        have hbs : Below w2.heap.size w2 (wr.setCell ⟨g, k * 3, none⟩ (.int .i64 (es[k].ed.at_ + c.length))) := hbr.setCell hg _
        have hin := HIN.out es[k].ed (by rw [← E4.out]; exact List.mem_map.2 ⟨_, List.getElem_mem hlt, rfl⟩)
        have u1 : IntKind.i64.wrap (es[k].ed.at_ + (c.length : Int)) = es[k].ed.at_ + (c.length : Int) := by simp [IntKind.wrap, IntKind.bits, IntKind.signed]; omega
        have q0 : (0 : Int) ≤ (k : Int) := by omega
        have q1 : (k : Int) < (es.length : Int) := by omega
        have HST := Lib.hid hst
        have HBS := Lib.hid hbs
        clear x0 hget hst hbs hin hown
        generalize es[k].ed.at_ = z at *
        go_wp2
        go_roundw
        case rel => exact ⟨k + 1, hlt, by go_num, HST.out, HBS.out⟩
        case measure => simp [intOf] <;> omega
      · obtain rfl : k = es.length := by omega
        rw [E.shl_all] at hown
        have hbw := hb2.trans (hbr.mono hb2.size)
        have RS : E.Rd wr wr.heap.size A5 (es.map (E.shEs c.length)) := by
          obtain ⟨A', c', hv, hr⟩ := own_reads hown
          cases hv
          refine ⟨by simpa using hr, fun x hx => ?_⟩
          obtain ⟨y, hy, rfl⟩ := List.mem_map.1 hx
          obtain ⟨A', c', h1, h2, h3⟩ := R4.out.ins y hy
          exact ⟨A', c', h1, (h2.below hbr (Nat.le_refl _)).more hbr.size, h3⟩
        have RS := Lib.hid RS
        have ES : Hid ((es.map (E.shEs c.length)).map (·.ed) = (E.script a b).map (E.Ed.shift c.length)) := Lib.hid (by rw [← E4.out, List.map_map, List.map_map]; rfl)
        have hlm : Hid ((es.map (E.shEs c.length)).length = es.length) := Lib.hid (by simp)
        clear hown hbr HIN R4 E4
        generalize es.map (E.shEs c.length) = es2 at *
        generalize hne : es.length = ne at *
        clear hne
        have a1 := H1.out.below hbw (Nat.le_refl _)
        have a2 := H2.out.below hbw (Nat.le_refl _)
        have a3 := H3.out.below hbw (Nat.le_refl _)
        have J1 := Lib.hid (join3_any A3 A1 A3 c3 c1 c3 w.heap.size c a c wr a3 a1 a3 hbw.size n3 n1 n3)
        clear a1 a2 a3
        go_wp2_with fail
        refine J1.out.mono ?_
        rintro e w6 ⟨A6, c6, rfl, r6, b6⟩
        have hb6 := hbw.trans (b6.mono hbw.size)
        have r6 := Lib.hid r6
        have J2 := Lib.hid (join3_any A3 A2 A3 c3 c2 c3 w.heap.size c b c w6 (H3.out.below hb6 (Nat.le_refl _)) (H2.out.below hb6 (Nat.le_refl _)) (H3.out.below hb6 (Nat.le_refl _)) hb6.size n3 n2 n3)
        generalize hl6 : (c ++ (a ++ c)).length = l6 at *
        go_wp2_with fail
        refine J2.out.mono ?_
        rintro e w7 ⟨A7, c7, rfl, r7, b7⟩
        have hb7 := hb6.trans (b7.mono hb6.size)
        subst hl6
        have DD := D.out A6 A7 c6 c7 w7.heap.size (c ++ (a ++ c)) (c ++ (b ++ c)) w7 (Nat.le_refl _) (by simp; omega) (by simp; omega) ((r6.out.below b7 (Nat.le_refl _)).more b7.size) r7
        rw [HDC.out] at DD
        have DD := Lib.hid DD
        clear r7 r6
        generalize hl6 : (c ++ (a ++ c)).length = l6 at *
        generalize hl7 : (c ++ (b ++ c)).length = l7 at *
        go_wp2_with fail
        refine DD.out.mono ?_
        rintro e w8 ⟨rfl, b8⟩
        have hb8 := hb7.trans (b8.mono hb7.size)
        go_wp2_with fail
        refine (D.out A1 A2 c1 c2 w.heap.size a b w8 hb8.size (by omega) (by omega) (H1.out.below hb8 (Nat.le_refl _)) (H2.out.below hb8 (Nat.le_refl _))).mono ?_
        rintro e w9 ⟨rfl, b9⟩
        have hb9 := hb8.trans (b9.mono hb8.size)
        have J3 := Lib.hid (join2_any A3 A1 c3 c1 w.heap.size c a w9 (H3.out.below hb9 (Nat.le_refl _)) (H1.out.below hb9 (Nat.le_refl _)) hb9.size n3 n1)
        go_wp2_with fail
        refine J3.out.mono ?_
        rintro e w10 ⟨A10, c10, rfl, r10, b10⟩
        have hb10 := hb9.trans (b10.mono hb9.size)
        have r10 := Lib.hid r10
        have J4 := Lib.hid (join2_any A3 A2 c3 c2 w.heap.size c b w10 (H3.out.below hb10 (Nat.le_refl _)) (H2.out.below hb10 (Nat.le_refl _)) hb10.size n3 n2)
        generalize hl10 : (c ++ a).length = l10 at *
        go_wp2_with fail
        refine J4.out.mono ?_
        rintro e w11 ⟨A11, c11, rfl, r11, b11⟩
        have hb11 := hb10.trans (b11.mono hb10.size)
        subst hl10
        have SS := Lib.hid (S.out A10 A11 c10 c11 w11.heap.size (c ++ a) (c ++ b) w11 (Nat.le_refl _) (by simp; omega) (by simp; omega) ((r10.out.below b11 (Nat.le_refl _)).more b11.size) r11)
        clear r11 r10
        generalize hl10 : (c ++ a).length = l10 at *
        generalize hl11 : (c ++ b).length = l11 at *
        go_wp2_with fail
        refine SS.out.mono ?_
        rintro e w12 ⟨A12, c12, es3, rfl, r12, e12, b12⟩
        have hb12 := hb11.trans (b12.mono hb11.size)
        have hel3 : es3.length ≤ 2000 := by have := congrArg List.length e12; simp at this; omega
        have r12 := Lib.hid r12
        have e12 := Lib.hid e12
        go_wp2_with fail
        refine (plain_out A12 c12 w12.heap.size es3 w12 r12.out (Nat.le_refl _) (by omega)).mono ?_
        rintro e w13 ⟨A13, c13, es4, rfl, r13, e13, b13⟩
        have hb13 := hb12.trans (b13.mono hb12.size)
        have hbwr : Below wr.heap.size wr w13 := ((((((b6.trans (b7.mono b6.size)).trans (b8.mono (b6.trans (b7.mono b6.size)).size)).trans (b9.mono ((b6.trans (b7.mono b6.size)).trans (b8.mono (b6.trans (b7.mono b6.size)).size)).size))).trans (b10.mono (by have := b6.size; have := b7.size; have := b8.size; have := b9.size; omega))).trans (b11.mono (by have := b6.size; have := b7.size; have := b8.size; have := b9.size; have := b10.size; omega))).trans ((b12.mono (by have := b6.size; have := b7.size; have := b8.size; have := b9.size; have := b10.size; have := b11.size; omega)).trans (b13.mono (by have := b6.size; have := b7.size; have := b8.size; have := b9.size; have := b10.size; have := b11.size; have := b12.size; omega)))
        have hel4 : es4.length ≤ 2000 := by have := congrArg List.length e13; simp at this; omega
        have SA := same_any A13 A5 c13 c5 w13.heap.size es4 es2 w13 r13 ((RS.out.below hbwr (Nat.le_refl _)).more hbwr.size) (by omega) (by have := hlm.out; omega)
        rw [decide_eq_true (by rw [e13, e12.out, HSF.out, ES.out]), hlm.out] at SA
        have SA := Lib.hid SA
        clear r13 e13 hel4 hel3
        go_wp2_with fail
        refine SA.out.mono ?_
        rintro e w14 ⟨rfl, n14, rfl⟩
        have hb14 := below_drewN hb13 n14
        generalize w13.drewN n14 = w14 at *
        go_wp2_with fail
        refine (awake_any _).mono ?_
        rintro e w15 ⟨rfl, b15⟩
        go_wp2_with fail
        go_ret
        exact ⟨rfl, hb14.trans (b15.mono hb14.size)⟩
end Go.Proofs.Ytpigimmgadcogaa
