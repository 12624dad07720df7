/-
  The walks of layer 16: the reference's Apply. By an AI agent.
-/
import Derived.Deep.RegionLaw
import Derived.Test.YtpigimmgadcogaaWt
namespace Go.Proofs.Ytpigimmgadcogaa
open Go.RowKit

set_option maxRecDepth 10000 in
set_option maxHeartbeats 8000000 in
theorem refapply_any (A1 A2 : Option Addr) (c1 c2 B : Nat) (a : List Int) (xs : List (E.Es Int)) (w : World) (ha : Reads w B 1 A1 a.length (E.ns a)) (hc : a.length ≤ c1) (hr : E.Rd w B A2 xs) (hB : B ≤ w.heap.size) (hna : a.length ≤ 1000) (hl : xs.length ≤ 2000) :
    Calls Try.prog 26 #[.slice A1 a.length c1, .slice A2 xs.length c2] w fun e W' => ∃ v, e = .returned (.tuple #[v, .int .i64 (E.code (E.app a 0 (xs.map (·.ed))))]) ∧ W'.ownsRow w.heap.size 3 1 v (E.got (E.app a 0 (xs.map (·.ed)))).length (E.ns (E.got (E.app a 0 (xs.map (·.ed))))) ∧ Below w.heap.size w W' := by
  have HA := Lib.hid ha
  have HR := Lib.hid hr
  clear ha hr
  have own0 := World.ownsRow_lit (base := w.heap.size) (e := 3) (size := 1) w #[] 0 (Nat.le_refl _) (by decide) rfl
  have hb0 : Below w.heap.size w (w.alloc (.cells #[] 3)) := (Below.refl _ _).alloc (Nat.le_refl _) _
  have OWN0 := Lib.hid own0
  clear own0
  obtain ⟨i0, hi0, hz0, hz1, hz2⟩ := info_parts Try.info3
  go_enter Try.func26, Try.ntmps26
  go_wp2
  go_loopw [6, 7, 8] (fun v en i wr => ∃ (k e : Nat) (out : List Int), k ≤ xs.length ∧ e ≤ a.length ∧ out.length ≤ e + k * 1000000 ∧ en = .int .i64 e ∧ i = .int .i64 k ∧ Hid (E.app a 0 (xs.map (·.ed)) = E.pre out (E.app a e ((xs.map (·.ed)).drop k))) ∧ wr.ownsRow w.heap.size 3 1 v out.length (E.ns out) ∧ Below w.heap.size w wr) (fun _ _ i _ => xs.length - (intOf i).toNat)
  case atStart => exact ⟨0, 0, [], Nat.zero_le _, Nat.zero_le _, Nat.zero_le _, rfl, rfl, Lib.hid (by rw [List.drop_zero]; generalize E.app a 0 (xs.map (·.ed)) = r; cases r <;> rfl), by simpa [E.ns] using OWN0.out, hb0⟩
  case round =>
    clear hb0 OWN0
    obtain ⟨k, en, out, hk, he, ho, rfl, rfl, hrel, hown, hb⟩ := hrel
    by_cases hlt : k < xs.length
    · obtain ⟨b, off, rfl, hlo, hcc⟩ := E.edD (HR.out.row.below hb hB) (by omega)
      obtain ⟨x0, x1, x2⟩ := hcc k hlt
      obtain ⟨Ai, ci, hsl, ri, li⟩ := HR.out.ins xs[k] (List.getElem_mem hlt)
      have riw := Lib.hid ri
      have hbl : b < wr.heap.size := by have := hb.size; omega
      have q1 : (k : Int) < (xs.length : Int) := by omega
      have hd : Hid ((xs.map (·.ed)).drop k = xs[k].ed :: (xs.map (·.ed)).drop (k + 1)) := Lib.hid (by rw [E.drop_cons (by simpa using hlt)]; simp)
      clear hcc
      generalize xs[k] = x at *
      obtain ⟨⟨xa, xd, xi⟩, xs'⟩ := x
      dsimp only at *
      subst hsl
      by_cases hbad : xa < 0 ∨ xd < 0 ∨ (a.length : Int) < xa ∨ (a.length : Int) - xa < xd
      · have HE : Hid (E.app a 0 (xs.map (·.ed)) = .error true) := Lib.hid (by rw [hrel.out, hd.out, E.app_1 hbad]; rfl)
        clear hrel hd
        by_cases h1 : xa < 0
        · clear hbad
          go_wp2
          refine bodyPost_ret (v := .tuple #[.slice none 0 0, .int .i64 2]) (by simp [results, Try.results26, go_sem, *]) rfl ?_
          exact ⟨.slice none 0 0, by rw [HE.out]; rfl, by rw [HE.out]; exact World.ownsRow_nil _ _ _ _, hb.alloc hb.size _⟩
        · by_cases h2 : xd < 0
          · clear hbad
            go_wp2
            refine bodyPost_ret (v := .tuple #[.slice none 0 0, .int .i64 2]) (by simp [results, Try.results26, go_sem, *]) rfl ?_
            exact ⟨.slice none 0 0, by rw [HE.out]; rfl, by rw [HE.out]; exact World.ownsRow_nil _ _ _ _, hb.alloc hb.size _⟩
          · by_cases h3 : (a.length : Int) < xa
            · clear hbad
              go_wp2
              refine bodyPost_ret (v := .tuple #[.slice none 0 0, .int .i64 2]) (by simp [results, Try.results26, go_sem, *]) rfl ?_
              exact ⟨.slice none 0 0, by rw [HE.out]; rfl, by rw [HE.out]; exact World.ownsRow_nil _ _ _ _, hb.alloc hb.size _⟩
            · have h4 : (a.length : Int) - xa < xd := by omega
              have u1 : IntKind.i64.wrap ((a.length : Int) - xa) = (a.length : Int) - xa := by simp [IntKind.wrap, IntKind.bits, IntKind.signed]; omega
              clear hbad
              go_wp2
              refine bodyPost_ret (v := .tuple #[.slice none 0 0, .int .i64 2]) (by simp [results, Try.results26, go_sem, *]) rfl ?_
              exact ⟨.slice none 0 0, by rw [HE.out]; rfl, by rw [HE.out]; exact World.ownsRow_nil _ _ _ _, hb.alloc hb.size _⟩
      · by_cases hord : xa < (en : Int)
        · have HE : Hid (E.app a 0 (xs.map (·.ed)) = .error false) := Lib.hid (by rw [hrel.out, hd.out, E.app_2 hbad hord]; rfl)
          have h1 : ¬ xa < 0 := by omega
          have h2 : ¬ xd < 0 := by omega
          have h3 : ¬ (a.length : Int) < xa := by omega
          have h4 : ¬ (a.length : Int) - xa < xd := by omega
          have u1 : IntKind.i64.wrap ((a.length : Int) - xa) = (a.length : Int) - xa := by simp [IntKind.wrap, IntKind.bits, IntKind.signed]; omega
          clear hbad hrel hd
          go_wp2
          refine bodyPost_ret (v := .tuple #[.slice none 0 0, .int .i64 10]) (by simp [results, Try.results26, go_sem, *]) rfl ?_
          exact ⟨.slice none 0 0, by rw [HE.out]; rfl, by rw [HE.out]; exact World.ownsRow_nil _ _ _ _, hb.alloc hb.size _⟩
        · obtain ⟨p, rfl⟩ : ∃ p : Nat, xa = p := ⟨xa.toNat, by omega⟩
          obtain ⟨d, rfl⟩ : ∃ d : Nat, xd = d := ⟨xd.toNat, by omega⟩
          have hpd : p + d ≤ a.length := by omega
          have hep : en ≤ p := by omega
          have t1 : decide ((p : Int) < 0) = false := decide_eq_false (by omega)
          have t2 : decide ((d : Int) < 0) = false := decide_eq_false (by omega)
          have t3 : decide ((a.length : Int) < (p : Int)) = false := decide_eq_false (by omega)
          have t4 : decide ((a.length : Int) - (p : Int) < (d : Int)) = false := decide_eq_false (by omega)
          have t5 : decide ((p : Int) < (en : Int)) = false := decide_eq_false (by omega)
          have s1 : ¬ ((a.length : Int) - (p : Int) < (d : Int)) := by omega
          have s2 : ¬ (a.length < p) := by omega
          have s3 : ¬ (p < en) := by omega
          have u1 : IntKind.i64.wrap ((a.length : Int) - (p : Int)) = (a.length : Int) - (p : Int) := by simp [IntKind.wrap, IntKind.bits, IntKind.signed]; omega
          have u2 : IntKind.i64.wrap ((p : Int) + (d : Int)) = (p : Int) + (d : Int) := by simp [IntKind.wrap, IntKind.bits, IntKind.signed]; omega
          clear hbad hord
          have hpc : p ≤ c1 := by omega
          by_cases hce : c1 = en
          · subst hce
            obtain rfl : c1 = p := by omega
            go_wp2
            go_region_law (first
              | (refine step_append_any _ rfl (.tmp 50) (.tmp 55) 22 rfl w.heap.size 3 i0 _ 1 8 Try.underlying22 hi0 hz0 hz1 hz2 rfl (by decide) u6 _ _ rfl (hown.alloc (.cells #[.int .i64 c1, .int .i64 d, .slice Ai xi.length ci] 37)) B _ 0 _ [] rfl ⟨rfl, fun hp => absurd hp (by decide)⟩ (fun _ h => by cases h) (by simp only [maxLen]; omega) (by omega) (by have := hb.size; simp; omega) ?_; intro v1 W1 hown1 hgrow1 hnew1; have hb1 : Below w.heap.size w W1 := (show Below w.heap.size w (wr.alloc (.cells #[.int .i64 c1, .int .i64 d, .slice Ai xi.length ci] 37)).drew from below_drewN (hb.alloc hb.size (.cells #[.int .i64 c1, .int .i64 d, .slice Ai xi.length ci] 37)) 1).grown hgrow1 (by have := hb.size; simp; omega) (own_below hown (Nat.le_refl _)); have hlt1 : wr.heap.size < W1.heap.size := (by have := hgrow1.size; simp at this; omega); obtain ⟨y0, y1, y2⟩ := ap_cells (show W1.heap[wr.heap.size]? = (wr.alloc (.cells #[.int .i64 c1, .int .i64 d, .slice Ai xi.length ci] 37)).heap[wr.heap.size]? from hgrow1.block wr.heap.size (by simp) (ap_ne0 hown)))
              | (refine step_append_any _ rfl (.tmp 56) (.tmp 58) 22 rfl w.heap.size 3 i0 _ 1 8 Try.underlying22 hi0 hz0 hz1 hz2 rfl (by decide) v1 _ _ rfl hown1 B Ai xi.length ci (E.ns xi) rfl (riw.out.below hb1 hB) (ns_one _) (by simp only [maxLen]; omega) (by omega) hb1.size ?_; intro v2 W2 hown2 hgrow2 hnew2; have hb2 : Below w.heap.size w W2 := hb1.grown hgrow2 hb1.size (own_below hown1 (Nat.le_refl _)); obtain ⟨z0, z1, z2⟩ := ap_cells (show W2.heap[wr.heap.size]? = (wr.alloc (.cells #[.int .i64 c1, .int .i64 d, .slice Ai xi.length ci] 37)).heap[wr.heap.size]? from (hgrow2.block wr.heap.size hlt1 (ap_ne (o := (.cells #[.int .i64 c1, .int .i64 d, .slice Ai xi.length ci] 37)) hown hnew1)).trans (hgrow1.block wr.heap.size (by simp) (ap_ne0 hown)))))
            all_goals
              have hown3 : W2.ownsRow w.heap.size 3 1 v2 (out ++ ((a.drop c1).take (c1 - c1) ++ xi)).length (E.ns (out ++ ((a.drop c1).take (c1 - c1) ++ xi))) := by
                have e1 : out.length + 0 + xi.length = (out ++ ((a.drop c1).take (c1 - c1) ++ xi)).length := by simp
                have e2 : E.ns out ++ [] ++ E.ns xi = E.ns (out ++ ((a.drop c1).take (c1 - c1) ++ xi)) := by simp [E.ns]
                rw [← e1, ← e2]; exact hown2
              have hrel2 : Hid (E.app a 0 (xs.map (·.ed)) = E.pre (out ++ ((a.drop c1).take (c1 - c1) ++ xi)) (E.app a (c1 + d) ((xs.map (·.ed)).drop (k + 1)))) := Lib.hid (by rw [hrel.out, hd.out, E.app_3 rfl rfl hpd hep, E.pre_pre])
              have hlen : (out ++ ((a.drop c1).take (c1 - c1) ++ xi)).length ≤ (c1 + d) + (k + 1) * 1000000 := by simp; omega
              go_wp2
              go_roundw
              case rel => exact ⟨k + 1, c1 + d, _, hlt, hpd, hlen, by go_num, by go_num, hrel2, hown3, hb2⟩
              case measure => simp [intOf] <;> omega
          · go_wp2
            go_region_law (first
              | (refine step_append_any _ rfl (.tmp 50) (.tmp 55) 22 rfl w.heap.size 3 i0 _ 1 8 Try.underlying22 hi0 hz0 hz1 hz2 rfl (by decide) u6 _ _ rfl (hown.alloc (.cells #[.int .i64 p, .int .i64 d, .slice Ai xi.length ci] 37)) B _ (p - en) _ (E.ns ((a.drop en).take (p - en))) rfl (by first | exact sub_reads ((HA.out.below hb hB).alloc (Nat.le_trans hB hb.size) _) hep (by omega) | simpa using sub_reads ((HA.out.below hb hB).alloc (Nat.le_trans hB hb.size) _) hep (by omega)) (ns_one _) (by simp only [maxLen]; omega) (by omega) (by have := hb.size; simp; omega) ?_; intro v1 W1 hown1 hgrow1 hnew1; have hb1 : Below w.heap.size w W1 := (show Below w.heap.size w (wr.alloc (.cells #[.int .i64 p, .int .i64 d, .slice Ai xi.length ci] 37)).drew from below_drewN (hb.alloc hb.size (.cells #[.int .i64 p, .int .i64 d, .slice Ai xi.length ci] 37)) 1).grown hgrow1 (by have := hb.size; simp; omega) (own_below hown (Nat.le_refl _)); have hlt1 : wr.heap.size < W1.heap.size := (by have := hgrow1.size; simp at this; omega); obtain ⟨y0, y1, y2⟩ := ap_cells (show W1.heap[wr.heap.size]? = (wr.alloc (.cells #[.int .i64 p, .int .i64 d, .slice Ai xi.length ci] 37)).heap[wr.heap.size]? from hgrow1.block wr.heap.size (by simp) (ap_ne0 hown)))
              | (refine step_append_any _ rfl (.tmp 56) (.tmp 58) 22 rfl w.heap.size 3 i0 _ 1 8 Try.underlying22 hi0 hz0 hz1 hz2 rfl (by decide) v1 _ _ rfl hown1 B Ai xi.length ci (E.ns xi) rfl (riw.out.below hb1 hB) (ns_one _) (by simp only [maxLen]; omega) (by omega) hb1.size ?_; intro v2 W2 hown2 hgrow2 hnew2; have hb2 : Below w.heap.size w W2 := hb1.grown hgrow2 hb1.size (own_below hown1 (Nat.le_refl _)); obtain ⟨z0, z1, z2⟩ := ap_cells (show W2.heap[wr.heap.size]? = (wr.alloc (.cells #[.int .i64 p, .int .i64 d, .slice Ai xi.length ci] 37)).heap[wr.heap.size]? from (hgrow2.block wr.heap.size hlt1 (ap_ne (o := (.cells #[.int .i64 p, .int .i64 d, .slice Ai xi.length ci] 37)) hown hnew1)).trans (hgrow1.block wr.heap.size (by simp) (ap_ne0 hown)))))
            all_goals
              have hown3 : W2.ownsRow w.heap.size 3 1 v2 (out ++ ((a.drop en).take (p - en) ++ xi)).length (E.ns (out ++ ((a.drop en).take (p - en) ++ xi))) := by
                have e1 : out.length + (p - en) + xi.length = (out ++ ((a.drop en).take (p - en) ++ xi)).length := by simp; omega
                have e2 : E.ns out ++ E.ns ((a.drop en).take (p - en)) ++ E.ns xi = E.ns (out ++ ((a.drop en).take (p - en) ++ xi)) := by simp [E.ns]
                rw [← e1, ← e2]; exact hown2
              have hrel2 : Hid (E.app a 0 (xs.map (·.ed)) = E.pre (out ++ ((a.drop en).take (p - en) ++ xi)) (E.app a (p + d) ((xs.map (·.ed)).drop (k + 1)))) := Lib.hid (by rw [hrel.out, hd.out, E.app_3 rfl rfl hpd hep, E.pre_pre])
              have hlen : (out ++ ((a.drop en).take (p - en) ++ xi)).length ≤ (p + d) + (k + 1) * 1000000 := by simp; omega
              go_wp2
              go_roundw
              case rel => exact ⟨k + 1, p + d, _, hlt, hpd, hlen, by go_num, by go_num, hrel2, hown3, hb2⟩
              case measure => simp [intOf] <;> omega
    · obtain rfl : k = xs.length := by omega
      have HE : Hid (E.app a 0 (xs.map (·.ed)) = .ok (out ++ a.drop en)) := Lib.hid (by rw [hrel.out, List.drop_of_length_le (by simp)]; rfl)
      clear hrel
      by_cases hce : c1 = en
      · subst hce
        go_wp2_with (at_builtin; refine wpList_append_any _ rfl (.tmp 65) (.tmp 68) _ rfl w.heap.size 3 i0 _ 1 8 Try.underlying22 hi0 hz0 hz1 hz2 rfl (by decide) u6 _ _ rfl hown B _ 0 _ [] rfl ⟨rfl, fun hp => absurd hp (by decide)⟩ (fun _ h => by cases h) (by simp only [maxLen]; omega) (by omega) hb.size ?_; intro v1 W1 hown1 hgrow1 hnew1; have hb1 : Below w.heap.size w W1 := hb.grown hgrow1 hb.size (own_below hown (Nat.le_refl _)))
        refine bodyPost_ret (v := .tuple #[v1, .int .i64 0]) (by simp [results, Try.results26, go_sem, *]) rfl ?_
        rw [List.drop_of_length_le hc, List.append_nil] at HE
        rw [Nat.add_zero, List.append_nil] at hown1
        exact ⟨v1, by rw [HE.out]; rfl, by rw [HE.out]; exact hown1, hb1⟩
      · go_wp2_with (at_builtin; refine wpList_append_any _ rfl (.tmp 65) (.tmp 68) _ rfl w.heap.size 3 i0 _ 1 8 Try.underlying22 hi0 hz0 hz1 hz2 rfl (by decide) u6 _ _ rfl hown B _ (a.length - en) _ (E.ns ((a.drop en).take (a.length - en))) rfl (by first | exact sub_reads (HA.out.below hb hB) he (Nat.le_refl _) | simpa using sub_reads (HA.out.below hb hB) he (Nat.le_refl _)) (ns_one _) (by simp only [maxLen]; omega) (by omega) hb.size ?_; intro v1 W1 hown1 hgrow1 hnew1; have hb1 : Below w.heap.size w W1 := hb.grown hgrow1 hb.size (own_below hown (Nat.le_refl _)))
        rw [List.take_of_length_le (by simp)] at hown1
        refine bodyPost_ret (v := .tuple #[v1, .int .i64 0]) (by simp [results, Try.results26, go_sem, *]) rfl ?_
        have e1 : out.length + (a.length - en) = (out ++ a.drop en).length := by simp
        have e2 : E.ns out ++ E.ns (a.drop en) = E.ns (out ++ a.drop en) := by simp [E.ns]
        rw [e1, e2] at hown1
        exact ⟨v1, by rw [HE.out]; rfl, by rw [HE.out]; exact hown1, hb1⟩
end Go.Proofs.Ytpigimmgadcogaa
