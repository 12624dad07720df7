/-
  The walks of layer 17: plain. By an AI agent.
-/
import Derived.Test.YteakiielcmgkeaaTr
import Derived.Laws.RangeAny
import Derived.WalkSmall
namespace Go.Proofs.Yteakiielcmgkeaa
open Go.RowKit

/-- The glyphs of the first k bytes of an ASCII text. -/
def R.pl (s : ByteArray) (k : Nat) : List R.G := (List.range k).map fun i => ⟨Utf8.encode ((Utf8.decode s i).1 : Int), false, 0⟩
theorem R.pl_len (s : ByteArray) (k : Nat) : (R.pl s k).length = k := by simp [R.pl]
theorem R.pl_succ (s : ByteArray) (k : Nat) : R.gcs (R.pl s (k + 1)) = R.gcs (R.pl s k) ++ [.string (Utf8.encode ((Utf8.decode s k).1 : Int)), .bool false, .int .i64 0] := by
  simp [R.pl, List.range_succ, R.gcs, R.G.cells]
theorem own_cells {w : World} {base e size n : Nat} {v : Value} {xs : List Value} (h : w.ownsRow base e size v n xs) {g : Nat} (hg : v.ownBlock = some g) : ∃ cur, w.heap[g]? = some (.cells cur e (0, 0)) := by
  rcases h.2 with ⟨rfl, _⟩ | ⟨g', cap, cur, rfl, _, hc, _⟩
  · simp [Value.ownBlock] at hg
  · simp [Value.ownBlock] at hg
    subst hg
    exact ⟨cur, hc⟩
theorem own_iterAt {w : World} {base : Nat} {e : TypeId} {size : Nat} {v : Value} {n : Nat} {xs : List Value} (h : w.ownsRow base e size v n xs) {k : Nat} {s0 : ByteArray} {p0 : Nat} (hk : w.heap[k]? = some (.stringIter s0 p0)) (s : ByteArray) (p : Nat) : (w.iterAt k s p).ownsRow base e size v n xs := by
  obtain ⟨h1, h2⟩ := h
  refine ⟨h1, ?_⟩
  rcases h2 with h2 | ⟨g, cap, cur, a, b, c, d⟩
  · exact .inl h2
  · have hne : g ≠ k := fun e => by subst e; rw [hk] at c; cases c
    exact .inr ⟨g, cap, cur, a, b, by rw [Lib.iterAt_other _ _ _ _ _ hne]; exact c, d⟩
theorem reads_gl3 (W : World) (tx : ByteArray) : Reads (W.alloc (.cells #[.string tx, .bool false, .int .i64 0] 33)) (W.alloc (.cells #[.string tx, .bool false, .int .i64 0] 33)).heap.size 3 (some ⟨W.heap.size, 0, none⟩) 1 [.string tx, .bool false, .int .i64 0] :=
  ⟨rfl, fun _ => (reads_new W [.string tx, .bool false, .int .i64 0] 33).2 (by simp)⟩
set_option maxRecDepth 100000 in
set_option maxHeartbeats 4000000 in
theorem plain_any (s : ByteArray) (w : World) (hs : s.size ≤ 1000) (ha : ∀ i, i < s.size → (Utf8.decode s i).2 = 1) :
    Calls Try.prog 25 #[.string s] w fun e w' => R.Out (R.pl s s.size) w w' e := by
  obtain ⟨i0, hi0, hz0, hz1, hz2⟩ := info_parts infoG
  have own0 := World.ownsRow_lit (base := w.heap.size) (e := 33) (size := 3) w #[] 0 (Nat.le_refl _) (by decide) rfl
  have hb0 : Below w.heap.size w (w.alloc (.cells #[] 33)) := (Below.refl _ _).alloc (Nat.le_refl _) _
  have OWN0 := Lib.hid (own0.alloc (.stringIter s 0))
  have HB0 := Lib.hid (hb0.alloc hb0.size (.stringIter s 0))
  have HIT := Lib.hid (World.iter_heap (w.alloc (.cells #[] 33)) s 0)
  have HA := Lib.hid ha
  clear own0 hb0 ha
  go_enter Try.func25, Try.ntmps25
  go_wp2
  obtain ⟨g, hg⟩ : ∃ g, w.heap.size + 1 = g := ⟨_, rfl⟩
  have hgw : w.heap.size ≤ g := by omega
  have HIT2 : Hid (((w.alloc (.cells #[] 33)).iter s 0).heap[g]? = some (.stringIter s 0)) := Lib.hid (by have h := HIT.out; rw [World.size_alloc, hg] at h; exact h)
  rw [hg]
  clear hg HIT
  go_loopw [3] (fun v wr => ∃ k : Nat, k ≤ s.size ∧ Hid (wr.heap[g]? = some (.stringIter s k)) ∧ Hid (wr.ownsRow w.heap.size 33 3 v k (R.gcs (R.pl s k))) ∧ Hid (Below w.heap.size w wr)) (fun _ wr => s.size - wr.iterPos g)
  case atStart => exact ⟨0, Nat.zero_le _, HIT2, OWN0, HB0⟩
  case round =>
    clear HIT2 OWN0 HB0
    obtain ⟨k, hk, hit, hown, hbl⟩ := hrel
    have HP := Lib.hid (iterPos_of hit.out)
    by_cases hlt : k < s.size
    · have hnx : ∀ ty, (Instr.next (.pointer (some ⟨g, 0, none⟩)) true ty).run Try.prog wr = _ := fun ty => Lib.run_next_any_at wr g s k ty hit.out hlt
      rw [HA.out k hlt] at hnx
      have hit2 := Lib.hid (Lib.iterAt_heap wr g s k (k + 1) hit.out)
      have hbw2 := Lib.hid (Lib.below_iterAt hbl.out (k := g) hgw s (k + 1))
      have hown2 := Lib.hid (own_iterAt hown.out hit.out s (k + 1))
      have HS := Lib.hid (R.pl_succ s k)
      obtain ⟨W1, hW1⟩ : ∃ W1, W1 = wr.iterAt g s (k + 1) := ⟨_, rfl⟩
      rw [← hW1] at hnx hit2 hbw2 hown2
      have hgl : g < W1.heap.size := (Array.getElem?_eq_some_iff.1 hit2.out).1
      obtain ⟨tx, htx⟩ : ∃ t, Utf8.encode ((Utf8.decode s k).1 : Int) = t := ⟨_, rfl⟩
      rw [htx] at HS
      obtain ⟨vx, hvx⟩ : ∃ v, u3 = v := ⟨_, rfl⟩
      rw [hvx] at hown2 ⊢
      clear hW1 hit hown hbl hvx
      go_wp2_with (at_builtin; go_loud (refine wpList_append_any _ rfl (.tmp 12) (.tmp 16) 22 rfl w.heap.size 33 i0 _ 3 32 Try.underlying22 hi0 hz0 hz1 hz2 rfl (by decide) vx k _ rfl (hown2.out.alloc _) _ (some ⟨W1.heap.size, 0, none⟩) 1 1 [.string tx, .bool false, .int .i64 0] rfl (reads_gl3 W1 tx) (by simp [Value.oneCell']) (by simp only [maxLen]; omega) (by omega) (Nat.le_trans hbw2.out.size (by simp)) ?_; intro v3 W3 hown3 hg3 hn3))
      have hne : some g ≠ vx.ownBlock := fun e => by
        obtain ⟨cur, h1⟩ := own_cells hown2.out e.symm
        rw [hit2.out] at h1; cases h1
      have hit3 : W3.heap[g]? = some (.stringIter s (k + 1)) := by
        rw [hg3.block g (by simp; omega) hne, Below.heap_alloc _ _ _ hgl]; exact hit2.out
      have hbw3 := (hbw2.out.alloc hbw2.out.size (.cells #[.string tx, .bool false, .int .i64 0] 33)).grown hg3 (Nat.le_trans hbw2.out.size (by simp)) (fun b e => (hown2.out.lt b e).1)
      refine ⟨⟨k + 1, by omega, Lib.hid hit3, Lib.hid (by rw [HS.out]; exact hown3), Lib.hid hbw3⟩, ?_⟩
      rw [iterPos_of hit3, HP.out]; omega
    · obtain rfl : k = s.size := by omega
      have hnx : ∀ ty, (Instr.next (.pointer (some ⟨g, 0, none⟩)) true ty).run Try.prog wr = _ := fun ty => Lib.run_next_end_at wr g s s.size ty hit.out (by omega)
      obtain ⟨vx, hvx⟩ : ∃ v, u3 = v := ⟨_, rfl⟩
      rw [hvx] at hown ⊢
      clear hvx HP hit
      go_wp2_with fail
      go_ret
      exact ⟨vx, rfl, by rw [R.pl_len]; exact hown.out, hbl.out⟩
end Go.Proofs.Yteakiielcmgkeaa
