/-
  copy into a row of the call's own, the source nil, empty or not. By an AI agent.
-/
import Derived.Laws.CopyOwn
import Derived.Test.YteolkaheaaepiaaAppend
namespace Go.Proofs.Yteolkaheaaepiaa
open Go.RowKit

theorem wpList_copy_any {P : Program} {w : World} {ops : Array Oper} {rest : List Oper} {o : Oper} {a : Act} {Q : Exit → Act → World → Prop} (hgd : o.guard = none) (d s : Operand) (dT sT : TypeId)
    (ho : o.op = .call { callee := .builtin .copy, args := #[d, s], argTypes := #[dT, sT] }) (elem : TypeId) (hu : P.underlying dT = some (.slice elem)) (hsz : (P.info? elem).map (·.size) = some 1)
    (base : Nat) (v : Value) (n : Nat) (xs : List Value) (hd : a.eval d = v) (hown : w.ownsRow base elem 1 v n xs)
    (B : Nat) (A : Option Addr) (m c : Nat) (ys : List Value) (hs : a.eval s = .slice A m c) (hr : Reads w B 1 A m ys) (h1 : ∀ u ∈ ys, u.oneCell' = true)
    (h : ∀ w', w'.ownsRow base elem 1 v n (ys.take n ++ xs.drop m) → Below base w w' → wpList P ops Q rest (a.put o.dst (goInt (Nat.min m n : Nat))) w') :
    wpList P ops Q (o :: rest) a w := by
  have hm : ys.length = m := by simpa using hr.1
  have hn : xs.length = n := by simpa using hown.1
  by_cases h0 : Nat.min m n = 0
  · have e : ys.take n ++ xs.drop m = xs := by
      rcases Nat.eq_zero_or_pos m with hz | hz
      · subst hz
        have : ys = [] := List.eq_nil_of_length_eq_zero hm
        simp [this]
      · have : n = 0 := by have : Nat.min m n = min m n := rfl; omega
        subst this
        have : xs = [] := List.eq_nil_of_length_eq_zero hn
        simp [this]
    rw [h0] at h
    rcases hown.2 with ⟨rfl, _⟩ | ⟨g, cap, cur, rfl, _⟩
    · refine wpList_copy_nothing hgd d s dT sT ho elem hu hsz none A n 0 m c ?_ hs h0 (h w (by rw [e]; exact hown) (Below.refl _ _))
      rename_i hv0
      have hn0 : n = 0 := by assumption
      rw [hd, hn0]
    · exact wpList_copy_nothing hgd d s dT sT ho elem hu hsz _ A n cap m c hd hs h0 (h w (by rw [e]; exact hown) (Below.refl _ _))
  · rcases hown.2 with ⟨_, hz⟩ | ⟨g, cap, cur, rfl, hbg, hg, hnc, hcm, hcs, htake⟩
    · exact absurd (by have : Nat.min m n = min m n := rfl; omega) h0
    · have hmin : Nat.min m n = min m n := rfl
      simp only [Nat.mul_one] at hcs htake
      have hcl : (ys.take n).length = Nat.min m n := by rw [List.length_take, hm, hmin]; omega
      obtain ⟨ad, rfl, _, hc⟩ := hr.2 (by omega)
      refine wpList_copy_splice hgd d s dT sT ho elem hu hsz _ _ n cap m c hd hs g 0 cur.toList elem (by simpa using hg) (ys.take n) hcl
        (fun _ => ⟨rfl, ad, rfl, fun j u hj => hc j u ?_⟩) (by rw [hcl, Array.length_toList, hcs, hmin]; omega) (fun u hu' => h1 u (List.mem_of_mem_take hu')) base w (Below.refl _ _) hbg ?_
      · rw [List.getElem?_take] at hj
        split at hj
        · exact hj
        · cases hj
      · intro w' hg' hb'
        rw [hcl]
        refine h w' ⟨?_, .inr ⟨g, cap, (splice cur.toList 0 (ys.take n)).toArray, rfl, hbg, hg'.out, hnc, hcm, ?_, ?_⟩⟩ hb'
        · simp only [List.length_append, List.length_take, List.length_drop, hm, hn, Nat.mul_one]; omega
        · simp only [List.size_toArray, Nat.mul_one]
          rw [length_splice _ _ _ (by rw [hcl, Array.length_toList, hcs, hmin]; omega), Array.length_toList, hcs]
        · simp only [Nat.mul_one, splice, List.take_zero, List.nil_append, Nat.zero_add, hcl]
          rw [List.take_append, hcl, List.take_of_length_le (by rw [hcl, hmin]; omega)]
          congr 1
          rw [← htake, List.drop_take]
          by_cases hle : m ≤ n
          · have : Nat.min m n = m := by omega
            rw [this, List.take_drop, List.drop_take]
          · have : Nat.min m n = n := by omega
            rw [this]
            have e1 : n - m = 0 := by omega
            simp [e1]
end Go.Proofs.Yteolkaheaaepiaa
