/-
  The walks of layer 44: all, the reference's Utterances. By an AI agent.
-/
import Derived.Test.YtfjkelngdljikaaCh1
namespace Go.Proofs.Ytfjkelngdljikaa
set_option linter.unusedVariables false
open Go.RowKit

/-- Lengths that a machine holds. -/
def Q.Len (l : List Q.Um) : Prop := ∀ m ∈ l, m.u.words.length ≤ maxLen ∧ m.u.chs.length ≤ maxLen
set_option maxRecDepth 100000 in
set_option maxHeartbeats 1500000 in
theorem all_any (A : Option Addr) (c B : Nat) (l : List Q.Um) (w : World) (hr : Reads w B 5 A l.length (Q.ucs l)) (hB : B ≤ w.heap.size) (hl : l.length ≤ maxLen) (hm : Q.Len l) :
    Calls Try.prog 34 #[.slice A l.length c] w fun e w' => e = .returned (.int .i64 (Q.prs (l.map (·.u)))) ∧ Below w.heap.size w w' := by
  have HR := Lib.hid hr
  have HM := Lib.hid hm
  unfold maxLen at hl
  clear hr hm
  go_enter Try.func34, Try.ntmps34
  go_wp2_with fail
  go_loopw [8] (fun v wr => ∃ k : Nat, k ≤ l.length ∧ v = .int .i64 k ∧ Hid (Q.prs ((l.map (·.u)).take k) = 0) ∧ Hid (Below w.heap.size w wr)) (fun v _ => l.length - (intOf v).toNat)
  case atStart => exact ⟨0, Nat.zero_le _, rfl, Lib.hid rfl, Lib.hid (Below.refl _ _)⟩
  case round =>
    obtain ⟨k, hk, rfl, hz, hbl⟩ := hrel
    by_cases hlt : k < l.length
    · obtain ⟨b, off, rfl, hbB, hcl⟩ := Q.reads_at (HR.out.below hbl.out hB) (by omega)
      obtain ⟨c0, c1, c2, c3, c4⟩ := hcl k hlt
      obtain ⟨hw, hc⟩ := HM.out l[k] (List.getElem_mem hlt)
      have q1 : (0 : Int) ≤ (k : Int) := by omega
      have q2 : (k : Int) < (l.length : Int) := by omega
      have PR := Lib.hid (fun W => proper_any l[k] W hw hc)
      have hkm : k < (l.map (·.u)).length := by simpa using hlt
      have HT := Q.prs_take hkm hz.out
      have HBD := fun h => Q.prs_bad hkm hz.out h
      rw [List.getElem_map] at HT HBD
      replace HT := Lib.hid HT
      replace HBD := Lib.hid HBD
      have BA : Hid (Below w.heap.size w (wr.alloc (.cells #[.slice l[k].aw l[k].u.words.length l[k].cw, .slice l[k].ac l[k].u.chs.length l[k].cc, .int .i64 l[k].u.cl, .int .i64 l[k].u.af, .int .i64 l[k].u.up] 25))) := Lib.hid (hbl.out.alloc hbl.out.size _)
      simp only [Q.Um.cells] at PR
      clear hcl
      generalize Q.pr l[k].u = p at *
      generalize l[k].aw = z0 at *
      generalize l[k].u.words.length = z1 at *
      generalize l[k].cw = z2 at *
      generalize l[k].ac = z3 at *
      generalize l[k].u.chs.length = z4 at *
      generalize l[k].cc = z5 at *
      generalize l[k].u.cl = z6 at *
      generalize l[k].u.af = z7 at *
      generalize l[k].u.up = z8 at *
      clear hkm
      unfold maxLen at hw hc
      by_cases h0 : p = 0
      · subst h0
        have PR' := Lib.hid (PR.out (wr.alloc (.cells #[.slice z0 z1 z2, .slice z3 z4 z5, .int .i64 z6, .int .i64 z7, .int .i64 z8] 25)))
        clear PR HBD
        go_wp2_with fail
        refine PR'.out.mono ?_
        rintro e w1 ⟨rfl, b1⟩
        have B1 := Lib.hid (BA.out.trans (b1.mono BA.out.size))
        clear PR' b1
        go_wp2_with fail
        exact ⟨⟨k + 1, hlt, by go_num, HT, B1⟩, by simp [intOf]; omega⟩
      · have hb : (p != 0) = true := bne_iff_ne.2 h0
        have HE := Lib.hid (HBD.out h0)
        have PR' := Lib.hid (PR.out (wr.alloc (.cells #[.slice z0 z1 z2, .slice z3 z4 z5, .int .i64 z6, .int .i64 z7, .int .i64 z8] 25)))
        clear PR HBD h0 HT
        go_wp2_with fail
        refine PR'.out.mono ?_
        rintro e w1 ⟨rfl, b1⟩
        have B1 := Lib.hid (BA.out.trans (b1.mono BA.out.size))
        clear PR' b1
        go_wp2_with fail
        go_ret
        exact ⟨ret_int HE.out.symm, B1.out⟩
    · obtain rfl : k = l.length := by omega
      have q2 : decide (l.length < l.length) = false := decide_eq_false (by omega)
      have HE : Hid (Q.prs (l.map (·.u)) = 0) := Lib.hid (by have := hz.out; rwa [List.take_of_length_le (by simp)] at this)
      clear hz
      go_wp2_with fail
      go_ret
      exact ⟨ret_int HE.out.symm, hbl.out⟩
set_option maxRecDepth 100000 in
set_option maxHeartbeats 1500000 in
theorem refuts_any (A : Option Addr) (c B : Nat) (l : List Q.Um) (w : World) (hr : Reads w B 5 A l.length (Q.ucs l)) (hB : B ≤ w.heap.size) (hl : l.length ≤ maxLen) (hm : Q.Len l) :
    Calls Try.prog 37 #[.slice A l.length c] w fun e w' => e = .returned (.int .i64 (Q.prs (l.map (·.u)))) ∧ Below w.heap.size w w' := by
  have HR := Lib.hid hr
  have HM := Lib.hid hm
  unfold maxLen at hl
  clear hr hm
  go_enter Try.func37, Try.ntmps37
  go_wp2_with fail
  go_loopw [3] (fun v wr => ∃ k : Nat, k ≤ l.length ∧ v = .int .i64 k ∧ Hid (Q.prs ((l.map (·.u)).take k) = 0) ∧ Hid (Below w.heap.size w wr)) (fun v _ => l.length - (intOf v).toNat)
  case atStart => exact ⟨0, Nat.zero_le _, rfl, Lib.hid rfl, Lib.hid (Below.refl _ _)⟩
  case round =>
    obtain ⟨k, hk, rfl, hz, hbl⟩ := hrel
    by_cases hlt : k < l.length
    · obtain ⟨b, off, rfl, hbB, hcl⟩ := Q.reads_at (HR.out.below hbl.out hB) (by omega)
      obtain ⟨c0, c1, c2, c3, c4⟩ := hcl k hlt
      obtain ⟨hw, hc⟩ := HM.out l[k] (List.getElem_mem hlt)
      have q1 : (0 : Int) ≤ (k : Int) := by omega
      have q2 : (k : Int) < (l.length : Int) := by omega
      have PR := refut_any l[k] wr hw hc
      have hkm : k < (l.map (·.u)).length := by simpa using hlt
      have HT := Q.prs_take hkm hz.out
      have HBD := fun h => Q.prs_bad hkm hz.out h
      rw [List.getElem_map] at HT HBD
      replace HT := Lib.hid HT
      replace HBD := Lib.hid HBD
      simp only [Q.Um.cells] at PR
      replace PR := Lib.hid PR
      clear hcl
      generalize Q.pr l[k].u = p at *
      generalize l[k].aw = z0 at *
      generalize l[k].u.words.length = z1 at *
      generalize l[k].cw = z2 at *
      generalize l[k].ac = z3 at *
      generalize l[k].u.chs.length = z4 at *
      generalize l[k].cc = z5 at *
      generalize l[k].u.cl = z6 at *
      generalize l[k].u.af = z7 at *
      generalize l[k].u.up = z8 at *
      clear hkm
      unfold maxLen at hw hc
      by_cases h0 : p = 0
      · subst h0
        clear HBD
        go_wp2_with fail
        refine PR.out.mono ?_
        rintro e w1 ⟨rfl, b1⟩
        have B1 := Lib.hid (hbl.out.trans (b1.mono hbl.out.size))
        clear PR b1
        go_wp2_with fail
        exact ⟨⟨k + 1, hlt, by go_num, HT, B1⟩, by simp [intOf]; omega⟩
      · have hb : (p != 0) = true := bne_iff_ne.2 h0
        have HE := Lib.hid (HBD.out h0)
        clear HBD h0 HT
        go_wp2_with fail
        refine PR.out.mono ?_
        rintro e w1 ⟨rfl, b1⟩
        have B1 := Lib.hid (hbl.out.trans (b1.mono hbl.out.size))
        clear PR b1
        go_wp2_with fail
        go_ret
        exact ⟨ret_int HE.out.symm, B1.out⟩
    · obtain rfl : k = l.length := by omega
      have q2 : decide (l.length < l.length) = false := decide_eq_false (by omega)
      have HE : Hid (Q.prs (l.map (·.u)) = 0) := Lib.hid (by have := hz.out; rwa [List.take_of_length_le (by simp)] at this)
      clear hz
      go_wp2_with fail
      go_ret
      exact ⟨ret_int HE.out.symm, hbl.out⟩
end Go.Proofs.Ytfjkelngdljikaa
