/-
  The walks of layer 22: the indentation. By an AI agent.
-/
import Derived.Lib.Strings
import Derived.Test.YthfpiomooomhoaaLaws1
namespace Go.Proofs.Ythfpiomooomhoaa
open Go.RowKit

theorem hasPrefix_any (s p : ByteArray) (w : World) : Calls Try.prog 43 #[.string s, .string p] w fun e w' => e = .returned (.bool (Lib.hasPrefix s.data.toList p.data.toList)) ∧ w' = w := by
  by_cases h1 : p.size ≤ s.size
  · have hh : Hid (Lib.hasPrefix s.data.toList p.data.toList = ((s.extract 0 p.size).toList == p.toList)) := Lib.hid (by rw [← Lib.hasPrefix_raw]; simp [h1])
    go_enter Try.func43, Try.ntmps43
    go_wp2
    go_ret
    exact ⟨ret_bool hh.out.symm, rfl⟩
  · have hh : Hid (Lib.hasPrefix s.data.toList p.data.toList = false) := Lib.hid (by rw [← Lib.hasPrefix_raw]; simp [h1])
    go_enter Try.func43, Try.ntmps43
    go_wp2
    go_ret
    exact ⟨ret_bool hh.out.symm, rfl⟩

theorem trimPrefix1_any (s p : ByteArray) (w : World) : Calls Try.prog 41 #[.string s, .string p] w fun e w' => e = .returned (.string ⟨(Lib.trimPrefix s.data.toList p.data.toList).toArray⟩) ∧ w' = w := by
  by_cases h1 : p.size ≤ s.size
  · cases h2 : ((s.extract 0 p.size).toList == p.toList)
    · have hh : Lib.hasPrefix s.data.toList p.data.toList = false := by rw [← Lib.hasPrefix_raw, h2]; simp
      have hf := Lib.hid (Lib.trimPrefix_miss s p (by rw [h2]; simp))
      have HP := hasPrefix_any s p w
      rw [hh] at HP
      clear hh h2
      go_enter Try.func41, Try.ntmps41
      go_wp2_with (go_at_call 43; refine HP.mono ?_; clear HP; rintro e w' ⟨rfl, rfl⟩)
      go_ret
      exact ⟨by rw [hf.out]; rfl, rfl⟩
    · have hh : Lib.hasPrefix s.data.toList p.data.toList = true := by rw [← Lib.hasPrefix_raw, h2]; simp [h1]
      have hf := Lib.hid (Lib.trimPrefix_hit s p h1 h2)
      have HP := hasPrefix_any s p w
      rw [hh] at HP
      clear hh h2
      go_enter Try.func41, Try.ntmps41
      go_wp2_with (go_at_call 43; refine HP.mono ?_; clear HP; rintro e w' ⟨rfl, rfl⟩)
      go_ret
      exact ⟨by rw [hf.out]; rfl, rfl⟩
  · have hh : Lib.hasPrefix s.data.toList p.data.toList = false := by rw [← Lib.hasPrefix_raw]; simp [h1]
    have hf := Lib.hid (Lib.trimPrefix_miss s p (by simp [h1]))
    have HP := hasPrefix_any s p w
    rw [hh] at HP
    clear hh
    go_enter Try.func41, Try.ntmps41
    go_wp2_with (go_at_call 43; refine HP.mono ?_; clear HP; rintro e w' ⟨rfl, rfl⟩)
    go_ret
    exact ⟨by rw [hf.out]; rfl, rfl⟩

theorem trimPrefix_any (s p : ByteArray) (w : World) : Calls Try.prog 36 #[.string s, .string p] w fun e w' => e = .returned (.string ⟨(Lib.trimPrefix s.data.toList p.data.toList).toArray⟩) ∧ w' = w := by
  have HP := trimPrefix1_any s p w
  go_enter Try.func36, Try.ntmps36
  go_wp2_with (go_at_call 41; refine HP.mono ?_; clear HP; rintro e w' ⟨rfl, rfl⟩)
  go_ret
  exact ⟨rfl, rfl⟩

theorem S.trim_kind (t : ByteArray) : (Lib.trimPrefix t.data.toList [32] = []) ↔ S.kind t = 0 := by
  unfold S.kind Lib.trimPrefix Lib.hasPrefix
  cases h : t.data.toList with
  | nil => simp
  | cons c l =>
    by_cases hc : c = 32
    · subst hc
      by_cases hl : l = []
      · subst hl; simp
      · simp [hl]
        split <;> simp
    · have : ¬ ((32 : UInt8) = c) := fun e => hc e.symm
      simp [hc, this]
      split <;> simp

/-- Indent's closure: is the glyph not blank? -/
theorem notblank_any (t : ByteArray) (wd : Bool) (st : Int) (w : World) (ht : t.size ≤ maxLen) :
    Calls Try.prog 35 #[.agg #[.string t, .bool wd, .int .i64 st]] w fun e w' => e = .returned (.bool (S.kind t != 0)) ∧ Below w.heap.size w w' := by
  have hb : Below w.heap.size w (w.alloc (.cells #[.string t, .bool wd, .int .i64 st] 32)) := (Below.refl _ _).alloc (Nat.le_refl _) _
  have HB := Lib.hid hb
  have TP : Hid (∀ w, Calls Try.prog 36 #[.string t, .string { data := #[32] }] w fun e w' => e = .returned (.string ⟨(Lib.trimPrefix t.data.toList [32]).toArray⟩) ∧ w' = w) := Lib.hid (fun w => trimPrefix_any t { data := #[32] } w)
  have hk := S.trim_kind t
  have hl : (⟨(Lib.trimPrefix t.data.toList [32]).toArray⟩ : ByteArray).toList = Lib.trimPrefix t.data.toList [32] := by rw [ByteArray.toList_eq]
  rw [← hl] at hk
  clear hb hl
  generalize (⟨(Lib.trimPrefix t.data.toList [32]).toArray⟩ : ByteArray) = r at *
  by_cases h0 : S.kind t = 0
  · have e0 : r.toList = [] := hk.2 h0
    have e1 : r.toList.isEmpty = true := by rw [e0]; rfl
    have H0 := Lib.hid h0
    clear hk h0
    go_enter Try.func35, Try.ntmps35
    go_wp2_with fail
    refine (TP.out _).mono ?_
    rintro e w' ⟨rfl, rfl⟩
    go_wp2_with fail
    go_ret
    exact ⟨ret_bool (by rw [H0.out]; rfl), HB.out⟩
  · have e0 : ¬ r.toList = [] := fun h => h0 (hk.1 h)
    have e1 : r.toList.isEmpty = false := by cases h : r.toList with | nil => exact absurd h e0 | cons a l => rfl
    have H0 := Lib.hid h0
    clear hk h0
    go_enter Try.func35, Try.ntmps35
    go_wp2_with fail
    refine (TP.out _).mono ?_
    rintro e w' ⟨rfl, rfl⟩
    go_wp2_with fail
    go_ret
    exact ⟨ret_bool (by rw [bne_iff_ne.2 H0.out]), HB.out⟩
/-- Where the first glyph that is not blank stands. -/
def S.indent (gs : List S.G) : Nat := gs.findIdx fun g => S.kind g.t != 0

theorem S.indent_at {gs : List S.G} {k : Nat} (hk : k < gs.length) (h : ∀ j, j < k → S.kd gs j = 0) (h1 : S.kd gs k ≠ 0) : S.indent gs = k := by
  unfold S.indent
  have e : ∀ j (hj : j < gs.length), S.kd gs j = S.kind gs[j].t := fun j hj => by simp [S.kd, List.getD, hj]
  rw [List.findIdx_eq hk]
  refine ⟨by rw [← e k hk]; simpa using h1, fun j hj => ?_⟩
  have := h j hj
  rw [e j (by omega)] at this
  simp [this]

theorem S.indent_none {gs : List S.G} (h : ∀ j, j < gs.length → S.kd gs j = 0) : S.indent gs = gs.length := by
  unfold S.indent
  rw [List.findIdx_eq_length]
  intro g hg
  obtain ⟨j, hj, rfl⟩ := List.getElem_of_mem hg
  have := h j hj
  simp [S.kd, List.getD, hj] at this
  simp [this]

theorem S.indent_le (gs : List S.G) : S.indent gs ≤ gs.length := List.findIdx_le_length

/-- What IndexFunc returns. -/
def S.idx (gs : List S.G) : Int := if S.indent gs < gs.length then (S.indent gs : Int) else -1

theorem indexfunc_any (A : Option Addr) (c B : Nat) (gs : List S.G) (w : World) (hrow : Row w B A gs) (hB : B ≤ w.heap.size) :
    Calls Try.prog 34 #[.slice A gs.length c, .func (.func 35) #[] #[]] w fun e w' => e = .returned (.int .i64 (S.idx gs)) ∧ Below w.heap.size w w' := by
  have HROW := Lib.hid hrow
  have hm := hrow.2.1
  unfold maxLen at hm
  clear hrow
  go_enter Try.func34, Try.ntmps34
  go_wp2
  go_loopw [8] (fun i wr => ∃ k : Nat, k ≤ gs.length ∧ i = .int .i64 k ∧ Hid (∀ j, j < k → S.kd gs j = 0) ∧ Below w.heap.size w wr) (fun i _ => gs.length - (intOf i).toNat)
  case atStart => exact ⟨0, Nat.zero_le _, rfl, Lib.hid (fun j h => absurd h (by omega)), Below.refl _ _⟩
  case round =>
    obtain ⟨k, hk, rfl, hprev, hb⟩ := hrel
    by_cases hlt : k < gs.length
    · obtain ⟨b, off, rfl, hlo, hc⟩ := (HROW.out.1.below hb hB).glyphD (by omega)
      obtain ⟨c0, c1, c2⟩ := hc k hlt
      have sg := sizeD HROW.out.2.2 hlt
      have NB := notblank_any (gs.getD k default).t (gs.getD k default).wd (gs.getD k default).st wr sg
      by_cases h0 : S.kind (gs.getD k default).t = 0
      · rw [bne_eq_false_iff_eq.2 h0] at NB
        have hprev2 : Hid (∀ j, j < k + 1 → S.kd gs j = 0) := Lib.hid (fun j hj => by
          by_cases e : j = k
          · subst e; exact h0
          · exact hprev.out j (by omega))
        clear h0 hc sg hprev
        generalize gs.getD k default = g at *
        go_wp2_with (go_at_call 35; refine NB.mono ?_; clear NB; rintro e w' ⟨rfl, h2⟩)
        go_roundw
        case rel => exact ⟨k + 1, hlt, by go_num, hprev2, hb.trans (h2.mono hb.size)⟩
        case measure => simp [intOf] <;> omega
      · rw [bne_iff_ne.2 h0] at NB
        have hI : Hid (S.indent gs = k) := Lib.hid (S.indent_at hlt hprev.out h0)
        clear h0 hc sg hprev
        generalize gs.getD k default = g at *
        go_wp2_with (go_at_call 35; refine NB.mono ?_; clear NB; rintro e w' ⟨rfl, h2⟩)
        go_ret
        exact ⟨ret_int (by rw [S.idx, hI.out, if_pos hlt]), hb.trans (h2.mono hb.size)⟩
    · obtain rfl : k = gs.length := by omega
      have hI : Hid (S.indent gs = gs.length) := Lib.hid (S.indent_none hprev.out)
      go_wp2
      go_ret
      exact ⟨ret_int (by rw [S.idx, hI.out, if_neg (by omega)]), hb⟩

theorem indent_any (A : Option Addr) (c B : Nat) (gs : List S.G) (w : World) (hrow : Row w B A gs) (hB : B ≤ w.heap.size) :
    Calls Try.prog 21 #[.slice A gs.length c] w fun e w' => e = .returned (.int .i64 (S.indent gs)) ∧ Below w.heap.size w w' := by
  have IF := indexfunc_any A c B gs w hrow hB
  have hm := hrow.2.1
  unfold maxLen at hm
  clear hrow
  by_cases h : S.indent gs < gs.length
  · rw [S.idx, if_pos h] at IF
    generalize S.indent gs = n at *
    go_enter Try.func21, Try.ntmps21
    go_wp2_with (go_at_call 34; refine IF.mono ?_; clear IF; rintro e w' ⟨rfl, h2⟩)
    go_ret
    exact ⟨rfl, h2⟩
  · rw [S.idx, if_neg h] at IF
    have hn : S.indent gs = gs.length := by have := S.indent_le gs; omega
    rw [hn]
    clear h hn
    go_enter Try.func21, Try.ntmps21
    go_wp2_with (go_at_call 34; refine IF.mono ?_; clear IF; rintro e w' ⟨rfl, h2⟩)
    go_ret
    exact ⟨rfl, h2⟩

theorem refindent_any (A : Option Addr) (c B : Nat) (gs : List S.G) (w : World) (hrow : Row w B A gs) (hB : B ≤ w.heap.size) :
    Calls Try.prog 22 #[.slice A gs.length c] w fun e w' => e = .returned (.int .i64 (S.indent gs)) ∧ Below w.heap.size w w' := by
  have HROW := Lib.hid hrow
  have hm := hrow.2.1
  unfold maxLen at hm
  clear hrow
  go_enter Try.func22, Try.ntmps22
  go_wp2
  go_loopw [3] (fun i wr => ∃ k : Nat, k ≤ gs.length ∧ i = .int .i64 k ∧ Hid (∀ j, j < k → S.kd gs j = 0) ∧ Below w.heap.size w wr) (fun i _ => gs.length - (intOf i).toNat)
  case atStart => exact ⟨0, Nat.zero_le _, rfl, Lib.hid (fun j h => absurd h (by omega)), Below.refl _ _⟩
  case round =>
    obtain ⟨k, hk, rfl, hprev, hb⟩ := hrel
    by_cases hlt : k < gs.length
    · obtain ⟨b, off, rfl, hlo, hc⟩ := (HROW.out.1.below hb hB).glyphD (by omega)
      obtain ⟨c0, c1, c2⟩ := hc k hlt
      have sg := sizeD HROW.out.2.2 hlt
      have NB := refkind_any (gs.getD k default).t (gs.getD k default).wd (gs.getD k default).st wr sg
      by_cases h0 : S.kind (gs.getD k default).t = 0
      · have h0' : (((S.kind (gs.getD k default).t : Nat) : Int) == 0) = true := beq_iff_eq.2 (by omega)
        have hprev2 : Hid (∀ j, j < k + 1 → S.kd gs j = 0) := Lib.hid (fun j hj => by
          by_cases e : j = k
          · subst e; exact h0
          · exact hprev.out j (by omega))
        clear h0 hc sg hprev
        generalize gs.getD k default = g at *
        go_wp2_with (go_at_call 33; refine NB.mono ?_; clear NB; rintro e w' ⟨rfl, h2⟩)
        go_roundw
        case rel => exact ⟨k + 1, hlt, by go_num, hprev2, hb.trans (h2.mono hb.size)⟩
        case measure => simp [intOf] <;> omega
      · have h0' : (((S.kind (gs.getD k default).t : Nat) : Int) == 0) = false := beq_eq_false_iff_ne.2 (by omega)
        have hI : Hid (S.indent gs = k) := Lib.hid (S.indent_at hlt hprev.out h0)
        clear h0 hc sg hprev
        generalize gs.getD k default = g at *
        go_wp2_with (go_at_call 33; refine NB.mono ?_; clear NB; rintro e w' ⟨rfl, h2⟩)
        go_ret
        exact ⟨ret_int (by rw [hI.out]), hb.trans (h2.mono hb.size)⟩
    · obtain rfl : k = gs.length := by omega
      have hI : Hid (S.indent gs = gs.length) := Lib.hid (S.indent_none hprev.out)
      go_wp2
      go_ret
      exact ⟨ret_int (by rw [hI.out]), hb⟩
end Go.Proofs.Ythfpiomooomhoaa
