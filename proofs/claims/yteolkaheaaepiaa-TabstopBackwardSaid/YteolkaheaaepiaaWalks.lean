/-
  The walks of layer 9: what fine, Next, Previous, limited, Same return. By an AI agent.
-/
import Derived.Test.YteolkaheaaepiaaRows
import Derived.Test.YteolkaheaaepiaaPlain
import Derived.Test.YteolkaheaaepiaaAppend
namespace Go.Proofs.Yteolkaheaaepiaa
open Go.RowKit

theorem fine_any (A : Option Addr) (c n : Nat) (w : World) (hm : n ≤ 9223372036854775807) :
    Calls Try.prog 10 #[.slice A n c] w fun e w' => e = .returned (.bool (decide (n ≤ 140))) ∧ w = w' := by
  by_cases h : n ≤ 140
  · have d : decide (n ≤ 140) = true := by simpa using h
    have D := Lib.hid d
    clear d
    go_enter Try.func10, Try.ntmps10
    go_wp2
    go_ret
    exact ⟨ret_bool (by rw [D.out]; simp; omega), rfl⟩
  · have d : decide (n ≤ 140) = false := by simpa using h
    have D := Lib.hid d
    clear d
    go_enter Try.func10, Try.ntmps10
    go_wp2
    go_ret
    exact ⟨ret_bool (by rw [D.out]; simp; omega), rfl⟩

theorem limited_any (x : Int) (w : World) : Calls Try.prog 24 #[.int .i64 x] w fun e w' => e = .returned (.int .i64 (T.lim x)) ∧ w = w' := by
  by_cases h1 : x < 0
  · have H : Hid (0 = (T.lim x : Int)) := Lib.hid (by unfold T.lim; omega)
    go_enter Try.func24, Try.ntmps24
    go_wp2
    go_ret
    exact ⟨ret_int H.out, rfl⟩
  by_cases h2 : 1000 < x
  · have H : Hid (1000 = (T.lim x : Int)) := Lib.hid (by unfold T.lim; omega)
    go_enter Try.func24, Try.ntmps24
    go_wp2
    go_ret
    exact ⟨ret_int H.out, rfl⟩
  · have H : Hid (x = (T.lim x : Int)) := Lib.hid (by unfold T.lim; omega)
    go_enter Try.func24, Try.ntmps24
    go_wp2
    go_ret
    exact ⟨ret_int H.out, rfl⟩

/-- The cells of a slice of bools, one at a time. -/
theorem Reads.bool {w : World} {B : Nat} {A : Option Addr} {ls : List Bool} (h : Reads w B 1 A ls.length (ls.map Value.bool)) {k : Nat} (hk : k < ls.length) : ∃ ad, A = some ad ∧ ad.block < B ∧ w.cell? (ad.add k) = some (.bool ls[k]) := by
  obtain ⟨ad, e, hb, hc⟩ := h.2 (by omega)
  exact ⟨ad, e, hb, hc k _ (by rw [List.getElem?_map, List.getElem?_eq_getElem hk]; rfl)⟩

theorem next_any (A : Option Addr) (cap B : Nat) (ls : List Bool) (c : Int) (w : World) (hr : Reads w B 1 A ls.length (ls.map Value.bool)) (hl : ls.length ≤ 1000) :
    Calls Try.prog 12 #[.slice A ls.length cap, .int .i64 c] w fun e w' => e = .returned (.int .i64 (T.nxt ls c)) ∧ w = w' := by
  have HR := Lib.hid hr
  clear hr
  go_enter Try.func12, Try.ntmps12
  go_wp2
  go_loop [5, 8] (fun _ i => ∃ k : Nat, k ≤ ls.length ∧ i = .int .i64 k ∧ Hid (∀ j : Nat, j < k → c < (j : Int) → ls[j]? = some false)) (fun _ i => ls.length - (intOf i).toNat)
  case atStart => exact ⟨0, Nat.zero_le _, rfl, Lib.hid (fun j h => absurd h (by omega))⟩
  case round =>
    obtain ⟨k, hk, rfl, hp⟩ := hrel
    by_cases hlt : k < ls.length
    · obtain ⟨ad, rfl, _, hc⟩ := HR.out.bool hlt
      have hk? : ls[k]? = some ls[k] := List.getElem?_eq_getElem hlt
      have HK := Lib.hid hk?
      clear hk?
      generalize ls[k] = b at *
      by_cases hck : c < (k : Int)
      · cases b with
        | true =>
          have H := Lib.hid (T.nxt_hit hlt hck HK.out hp.out)
          go_wp2
          go_ret
          exact ⟨ret_int (by rw [H.out]), rfl⟩
        | false =>
          go_wp2
          go_round
          case rel => exact ⟨k + 1, hlt, by go_num, Lib.hid (fun j hj hcj => by
            by_cases e : j = k
            · subst e; exact HK.out
            · exact hp.out j (by omega) hcj)⟩
          case measure => simp [intOf] <;> omega
      · go_wp2
        go_round
        case rel => exact ⟨k + 1, hlt, by go_num, Lib.hid (fun j hj hcj => by
          by_cases e : j = k
          · subst e; exact absurd hcj hck
          · exact hp.out j (by omega) hcj)⟩
        case measure => simp [intOf] <;> omega
    · have hkk : k = ls.length := by omega
      subst hkk
      have H := Lib.hid (T.nxt_miss hp.out)
      by_cases h0 : ls.length = 0
      · have h1 : ls.length ≤ 0 := by omega
        go_wp2
        go_ret
        exact ⟨ret_int (by rw [H.out]; omega), rfl⟩
      · have h1 : 1 ≤ ls.length := by omega
        go_wp2
        all_goals go_ret
        all_goals exact ⟨ret_int (by rw [H.out]; omega), rfl⟩

theorem refnext_any (A : Option Addr) (cap B : Nat) (ls : List Bool) (c : Int) (w : World) (hr : Reads w B 1 A ls.length (ls.map Value.bool)) (hl : ls.length ≤ 1000) :
    Calls Try.prog 13 #[.slice A ls.length cap, .int .i64 c] w fun e w' => e = .returned (.int .i64 (T.nxt ls c)) ∧ w = w' := by
  have HR := Lib.hid hr
  clear hr
  go_enter Try.func13, Try.ntmps13
  go_wp2
  go_loop [5] (fun i => ∃ k : Nat, k ≤ ls.length ∧ i = .int .i64 k ∧ Hid (∀ j : Nat, j < k → c < (j : Int) → ls[j]? = some false)) (fun i => ls.length - (intOf i).toNat)
  case atStart => exact ⟨0, Nat.zero_le _, rfl, Lib.hid (fun j h => absurd h (by omega))⟩
  case round =>
    obtain ⟨k, hk, rfl, hp⟩ := hrel
    by_cases hlt : k < ls.length
    · obtain ⟨ad, rfl, _, hc⟩ := HR.out.bool hlt
      have hk? : ls[k]? = some ls[k] := List.getElem?_eq_getElem hlt
      have HK := Lib.hid hk?
      clear hk?
      generalize ls[k] = b at *
      by_cases hck : c < (k : Int)
      · cases b with
        | true =>
          have H := Lib.hid (T.nxt_hit hlt hck HK.out hp.out)
          go_wp2
          go_ret
          exact ⟨ret_int (by rw [H.out]), rfl⟩
        | false =>
          go_wp2
          go_round
          case rel => exact ⟨k + 1, hlt, by go_num, Lib.hid (fun j hj hcj => by
            by_cases e : j = k
            · subst e; exact HK.out
            · exact hp.out j (by omega) hcj)⟩
          case measure => simp [intOf] <;> omega
      · go_wp2
        go_round
        case rel => exact ⟨k + 1, hlt, by go_num, Lib.hid (fun j hj hcj => by
          by_cases e : j = k
          · subst e; exact absurd hcj hck
          · exact hp.out j (by omega) hcj)⟩
        case measure => simp [intOf] <;> omega
    · have hkk : k = ls.length := by omega
      subst hkk
      have H := Lib.hid (T.nxt_miss hp.out)
      by_cases h0 : ls.length = 0
      · have h1 : ((ls.length : Int) == 0) = true := by simp [h0]
        clear h0
        go_wp2
        go_ret
        exact ⟨ret_int (by rw [H.out]; simp at h1; simp [h1]), rfl⟩
      · have h1 : ((ls.length : Int) == 0) = false := by rw [beq_eq_false_iff_ne]; omega
        have h2 : 1 ≤ ls.length := by omega
        clear h0
        go_wp2
        all_goals go_ret
        all_goals exact ⟨ret_int (by rw [H.out]; omega), rfl⟩

/-- How many columns Previous looks at. -/
def T.upto (n : Nat) (c : Int) : Nat := min n c.toNat

theorem previous_any (A : Option Addr) (cap B : Nat) (ls : List Bool) (c : Int) (w : World) (hr : Reads w B 1 A ls.length (ls.map Value.bool)) (hl : ls.length ≤ 1000) :
    Calls Try.prog 14 #[.slice A ls.length cap, .int .i64 c] w fun e w' => e = .returned (.int .i64 (T.pv ls (T.upto ls.length c))) ∧ w = w' := by
  have HR := Lib.hid hr
  clear hr
  obtain ⟨M, hM, hM1, hM2, hM3⟩ : ∃ M : Nat, T.upto ls.length c = M ∧ M ≤ ls.length ∧ (M : Int) ≤ max c 0 ∧ (ls.length ≤ M ∨ max c 0 ≤ (M : Int)) := ⟨_, rfl, by unfold T.upto; omega, by unfold T.upto; omega, by unfold T.upto; omega⟩
  rw [hM]
  clear hM
  go_enter Try.func14, Try.ntmps14
  go_wp2
  all_goals
    go_loop [5, 6, 12] (fun o _ i => ∃ k : Nat, k ≤ M ∧ i = .int .i64 k ∧ o = .int .i64 (T.pv ls k)) (fun _ _ i => M - (intOf i).toNat)
    case atStart => exact ⟨0, Nat.zero_le _, rfl, rfl⟩
    case round =>
      obtain ⟨k, hk, rfl, rfl⟩ := hrel
      by_cases hlt : k < M
      · have hlt2 : k < ls.length := by omega
        obtain ⟨ad, rfl, _, hc⟩ := HR.out.bool hlt2
        have hs : T.pv ls (k + 1) = if ls[k] then k else T.pv ls k := by simp [T.pv, List.getD_eq_getElem?_getD, List.getElem?_eq_getElem hlt2]
        have HS := Lib.hid hs
        clear hs
        generalize ls[k] = b at *
        cases b with
        | true =>
          go_wp2
          all_goals
            go_round
            case rel => exact ⟨k + 1, hlt, by go_num, by (rw [HS.out]) <;> rfl⟩
            case measure => simp [intOf] <;> omega
        | false =>
          go_wp2
          all_goals
            go_round
            case rel => exact ⟨k + 1, hlt, by go_num, by (rw [HS.out]) <;> rfl⟩
            case measure => simp [intOf] <;> omega
      · obtain rfl : k = M := by omega
        go_wp2
        go_ret
        exact ⟨rfl, rfl⟩

theorem refprevious_any (A : Option Addr) (cap B : Nat) (ls : List Bool) (c : Int) (w : World) (hr : Reads w B 1 A ls.length (ls.map Value.bool)) (hl : ls.length ≤ 1000) :
    Calls Try.prog 15 #[.slice A ls.length cap, .int .i64 c] w fun e w' => e = .returned (.int .i64 (T.pv ls (T.upto ls.length c))) ∧ w = w' := by
  have HR := Lib.hid hr
  clear hr
  go_enter Try.func15, Try.ntmps15
  go_wp2
  go_loop [5, 6] (fun o i => ∃ k : Nat, k ≤ ls.length ∧ i = .int .i64 k ∧ o = .int .i64 (T.pv ls (T.upto k c))) (fun _ i => ls.length - (intOf i).toNat)
  case atStart => exact ⟨0, Nat.zero_le _, rfl, by simp [T.upto, T.pv]⟩
  case round =>
    obtain ⟨k, hk, rfl, rfl⟩ := hrel
    by_cases hlt : k < ls.length
    · obtain ⟨ad, rfl, _, hc⟩ := HR.out.bool hlt
      by_cases hck : (k : Int) < c
      · have hs : T.pv ls (T.upto (k + 1) c) = if ls[k] then k else T.pv ls (T.upto k c) := by
          have e1 : T.upto (k + 1) c = k + 1 := by unfold T.upto; omega
          have e2 : T.upto k c = k := by unfold T.upto; omega
          rw [e1, e2]
          simp [T.pv, List.getD_eq_getElem?_getD, List.getElem?_eq_getElem hlt]
        have HS := Lib.hid hs
        clear hs
        generalize ls[k] = b at *
        cases b with
        | true =>
          go_wp2
          go_round
          case rel => exact ⟨k + 1, hlt, by go_num, by (rw [HS.out]) <;> rfl⟩
          case measure => simp [intOf] <;> omega
        | false =>
          go_wp2
          go_round
          case rel => exact ⟨k + 1, hlt, by go_num, by (rw [HS.out]) <;> rfl⟩
          case measure => simp [intOf] <;> omega
      · have HS : Hid (T.upto (k + 1) c = T.upto k c) := Lib.hid (by unfold T.upto; omega)
        go_wp2
        go_round
        case rel => exact ⟨k + 1, hlt, by go_num, by rw [HS.out]⟩
        case measure => simp [intOf] <;> omega
    · obtain rfl : k = ls.length := by omega
      go_wp2
      go_ret
      exact ⟨rfl, rfl⟩

theorem same_any (A : Option Addr) (cap B : Nat) (la : List Bool) (A2 : Option Addr) (cap2 B2 : Nat) (lb : List Bool) (w : World) (hr : Reads w B 1 A la.length (la.map Value.bool)) (hr2 : Reads w B2 1 A2 lb.length (lb.map Value.bool))
    (hl : la.length ≤ 1000) (hl2 : lb.length ≤ 1000) :
    Calls Try.prog 17 #[.slice A la.length cap, .slice A2 lb.length cap2] w fun e w' => e = .returned (.bool (decide (la = lb))) ∧ ∃ n, w' = w.drewN n := by
  have HR := Lib.hid hr
  have HR2 := Lib.hid hr2
  clear hr hr2
  by_cases hne : la.length = lb.length
  · have hn : ((la.length : Int) != lb.length) = false := by simp [hne]
    have HN := Lib.hid hne
    clear hne
    go_enter Try.func17, Try.ntmps17
    go_wp2
    go_loopw [5] (fun i wr => ∃ k : Nat, k ≤ la.length ∧ i = .int .i64 k ∧ Hid (∀ j : Nat, j < k → la[j]? = lb[j]?) ∧ ∃ m, wr = w.drewN m) (fun i _ => la.length - (intOf i).toNat)
    case atStart => exact ⟨0, Nat.zero_le _, rfl, Lib.hid (fun j h => absurd h (by omega)), 0, rfl⟩
    case round =>
      obtain ⟨k, hk, rfl, hp, m, rfl⟩ := hrel
      by_cases hlt : k < la.length
      · obtain ⟨ad, rfl, _, hc⟩ := HR.out.bool hlt
        have hk2 : k < lb.length := by have := HN.out; omega
        obtain ⟨ad2, rfl, _, hc2⟩ := HR2.out.bool hk2
        have hki : (k : Int) < la.length := by omega
        have hki2 : (k : Int) < lb.length := by omega
        have HK : Hid (la[k]? = some la[k] ∧ lb[k]? = some lb[k]) := Lib.hid ⟨List.getElem?_eq_getElem hlt, List.getElem?_eq_getElem hk2⟩
        generalize la[k] = x at *
        generalize lb[k] = y at *
        cases x <;> cases y
        all_goals
          go_wp2
          go_quiet (fail)
          go_wp2
        · go_roundw
          case rel => exact ⟨k + 1, hlt, by go_num, Lib.hid (fun j hj => by
            by_cases e : j = k
            · subst e; rw [HK.out.1, HK.out.2]
            · exact hp.out j (by omega)), _, rfl⟩
          case measure => simp [intOf] <;> omega
        · go_ret
          exact ⟨ret_bool (by have := HK.out; symm; simp; rintro rfl; rw [this.1] at this; simp at this), by first | exact ⟨_, rfl⟩ | exact ⟨_, World.drewN_drewN _ _ _⟩⟩
        · go_ret
          exact ⟨ret_bool (by have := HK.out; symm; simp; rintro rfl; rw [this.1] at this; simp at this), by first | exact ⟨_, rfl⟩ | exact ⟨_, World.drewN_drewN _ _ _⟩⟩
        · go_roundw
          case rel => exact ⟨k + 1, hlt, by go_num, Lib.hid (fun j hj => by
            by_cases e : j = k
            · subst e; rw [HK.out.1, HK.out.2]
            · exact hp.out j (by omega)), _, rfl⟩
          case measure => simp [intOf] <;> omega
      · obtain rfl : k = la.length := by omega
        go_wp2
        go_ret
        refine ⟨ret_bool ?_, m, rfl⟩
        have : la = lb := by
          apply List.ext_getElem?
          intro j
          by_cases hj : j < la.length
          · exact hp.out j hj
          · have := HN.out
            rw [List.getElem?_eq_none (by omega), List.getElem?_eq_none (by omega)]
        simp [this]
  · have hn : ((la.length : Int) != lb.length) = true := by rw [bne_iff_ne]; omega
    have HN := Lib.hid hne
    clear hne
    go_enter Try.func17, Try.ntmps17
    go_wp2
    go_ret
    exact ⟨ret_bool (by symm; simp; rintro rfl; exact HN.out rfl), 0, rfl⟩
end Go.Proofs.Yteolkaheaaepiaa
