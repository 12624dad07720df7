/-
  Match with numbers that do not wrap. By an AI agent.
-/
import Derived.Test.YtoemhphgnpedmaaMw
import Derived.Test.YtoemhphgnpedmaaDf
import Derived.Test.YtoemhphgnpedmaaAwk
import Derived.Test.YtoemhphgnpedmaaOpenI
namespace Go.Proofs.Ytoemhphgnpedmaa
open Go.RowKit

theorem I.idW_eq (nx od : List I.Rg) (N : Nat → Nat) (un : Int) (hu : 0 ≤ un ∧ un ≤ 2199023255552) {i : Nat} (hi : i ≤ 1000) : I.idW nx od N un i = I.ident nx od N un i := by
  unfold I.idW I.ident
  have := I.cntF_le nx od N i
  rw [show wrap64 (un + (I.cntF nx od N i : Nat)) = un + (I.cntF nx od N i : Nat) from by unfold wrap64; omega]
theorem I.outsW_eq (nx od : List I.Rg) (N : Nat → Nat) (un : Int) (hu : 0 ≤ un ∧ un ≤ 2199023255552) (hn : nx.length ≤ 1000) : I.outsW nx od N un = I.outs nx od N un := by
  unfold I.outsW I.outs
  apply List.map_congr_left
  intro i hi
  rw [List.mem_range] at hi
  unfold I.outW I.outR
  rw [I.idW_eq _ _ _ _ hu (by omega)]
theorem I.getD_mem {l : List I.Rg} {k : Nat} (h : k < l.length) : l.getD k default ∈ l := by
  have : l.getD k default = l[k] := by simp [List.getD, h]
  rw [this]
  exact List.getElem_mem h
theorem I.has_of {l : List I.Rg} {k : Nat} (h : k < l.length) : I.has l (l.getD k default).id = true := by
  unfold I.has
  rw [List.any_eq_true]
  exact ⟨_, I.getD_mem h, by simp⟩
/-- A number that is not new is that of an old region. -/
theorem I.has_ident {nx od : List I.Rg} {N : Nat → Nat} {un : Int} {i : Nat} (h : I.ident nx od N un i < un) : I.has od (I.ident nx od N un i) = true := by
  unfold I.ident at h ⊢
  cases hf : I.fresh nx od N i with
  | true => rw [hf] at h; simp only [if_true] at h; omega
  | false =>
    simp only [Bool.false_eq_true, if_false]
    exact I.has_of (I.not_fresh hf).2.1
/-- Match as the laws use it. -/
def I.MOut (nx od : List I.Rg) (un : Int) (w w' : World) (e : Ending) : Prop := ∃ N Ar c, e = .returned (.tuple #[.slice Ar nx.length c, .int .i64 (un + (I.cntF nx od N nx.length : Nat))]) ∧ w'.ownsRow w.heap.size 27 8 (.slice Ar nx.length c) nx.length (I.rcs (I.outs nx od N un)) ∧ A.Best (I.dim nx od) (I.cst nx od) N ∧ Below w.heap.size w w'
theorem matchun_any (B : Nat) (Ao An : Option Addr) (co cn : Nat) (od nx : List I.Rg) (un : Int) (w : World) (hro : Reads w B 8 Ao od.length (I.rcs od)) (hrn : Reads w B 8 An nx.length (I.rcs nx)) (hB : B ≤ w.heap.size) (hco : od.length ≤ co) (hcn : nx.length ≤ cn) (hlo : od.length ≤ 40) (hln : nx.length ≤ 40) (hu : 0 ≤ un ∧ un ≤ 2199023255552) :
    Calls Try.prog 16 #[.slice Ao od.length co, .slice An nx.length cn, .int .i64 un] w fun e w' => I.MOut nx od un w w' e := by
  refine (match_any B Ao An co cn od nx un w hro hrn hB hco hcn hlo hln (by omega)).mono ?_
  rintro e w' ⟨N, v, rfl, h1, h2, h3⟩
  obtain ⟨A, c, rfl, _⟩ := own_reads h1
  have := I.cntF_le nx od N nx.length
  rw [I.outsW_eq _ _ _ _ hu (by omega)] at h1
  exact ⟨N, A, c, by rw [show wrap64 (un + (I.cntF nx od N nx.length : Nat)) = un + (I.cntF nx od N nx.length : Nat) from by unfold wrap64; omega], h1, h2, h3⟩
end Go.Proofs.Ytoemhphgnpedmaa
