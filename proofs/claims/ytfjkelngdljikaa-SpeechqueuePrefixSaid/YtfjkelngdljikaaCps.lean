/-
  The walks of layer 44: copies. By an AI agent.
-/
import Derived.Test.YtfjkelngdljikaaCp
namespace Go.Proofs.Ytfjkelngdljikaa
set_option linter.unusedVariables false
set_option linter.unusedSimpArgs false
open Go.RowKit Go.Joins

theorem Q.ucs_snoc (l : List Q.Um) (x : Q.Um) : Q.ucs (l ++ [x]) = Q.ucs l ++ x.cells := by simp [Q.ucs]
/-- What holds while the utterances are copied. -/
structure Q.SInv (N M n : Nat) (w W : World) (ys : List Q.Um) (Z : List Value) : Prop where
  om : W.ownsRow N 25 5 (.slice (some ⟨M, 0, none⟩) n n) n (Q.ucs ys ++ Z)
  og : ∀ y ∈ ys, Q.UOwn W N y
  be : Below N w W
  hs : N ≤ W.heap.size
namespace Q
variable {N M n : Nat} {w W W' : World} {ys : List Um} {Z : List Value}
theorem SInv.below (h : SInv N M n w W ys Z) (hb : Below W.heap.size W W') : SInv N M n w W' ys Z where
  om := own_under h.om hb
  og := fun y hy => (h.og y hy).under hb
  be := h.be.trans (hb.mono h.hs)
  hs := Nat.le_trans h.hs hb.size
theorem SInv.put (h : SInv N M n w W ys Z) (hM : N ≤ M) {y : Um} (hy : UOwn W N y) (hZ : 5 ≤ Z.length) : SInv N M n w (W.setCells M (ys.length * 5) y.cells) (ys ++ [y]) (Z.drop 5) := by
  obtain ⟨h1, h2⟩ := own_setCells y.cells (ys.length * 5) W _ h.om
  have hb : (Value.slice (some ⟨M, 0, none⟩) n n).ownBlock = some M := rfl
  have e : putAt (ucs ys ++ Z) (ys.length * 5) y.cells = ucs (ys ++ [y]) ++ Z.drop 5 := by
    have key : ∀ Z1 Z2 : List Value, Z1.length = 5 → putAt (ucs ys ++ (Z1 ++ Z2)) (ys.length * 5) y.cells = ucs (ys ++ [y]) ++ (Z1 ++ Z2).drop 5 := fun Z1 Z2 hz1 => by
      have := putAt_mid y.cells (ucs ys) Z1 Z2 (by rw [hz1, Um.cells_len])
      rw [ucs_len] at this
      rw [this, ucs_snoc, List.append_assoc, ← hz1, List.drop_left]
    have := key (Z.take 5) (Z.drop 5) (by rw [List.length_take]; omega)
    rwa [List.take_append_drop] at this
  rw [e] at h1
  refine ⟨h1, fun z hz => ?_, h.be.trans (below_of_only h2 (by omega) h.hs), Nat.le_trans h.hs h2.size⟩
  rcases List.mem_append.1 hz with hz | hz
  · exact (h.og z hz).cells h.om h2
  · simp only [List.mem_singleton] at hz
    subst hz
    exact hy.cells h.om h2
/-- Utterances that the call made. -/
structure UsOwn (W : World) (base : Nat) (A : Option Addr) (c : Nat) (l : List Um) : Prop where
  row : W.ownsRow base 25 5 (.slice A l.length c) l.length (ucs l)
  el : ∀ m ∈ l, UOwn W base m
theorem UsOwn.usin {base : Nat} {A : Option Addr} {c : Nat} {l : List Um} (h : UsOwn W base A c l) : UsIn W W.heap.size A l ∧ l.length ≤ c := by
  obtain ⟨A1, c1, e1, r1, h1⟩ := own_reads_cap h.row
  injection e1 with e1 _ e2
  subst e1 e2
  exact ⟨⟨r1, fun m hm => (h.el m hm).uin⟩, h1⟩
theorem UsOwn.under {base : Nat} {A : Option Addr} {c : Nat} {l : List Um} (h : UsOwn W base A c l) (hb : Below W.heap.size W W') : UsOwn W' base A c l :=
  ⟨own_under h.row hb, fun m hm => (h.el m hm).under hb⟩
theorem UsOwn.lower {base base' : Nat} {A : Option Addr} {c : Nat} {l : List Um} (h : UsOwn W base A c l) (hb : base' ≤ base) : UsOwn W base' A c l :=
  ⟨own_lower h.row hb, fun m hm => (h.el m hm).lower hb⟩
/-- Copies that the call made. -/
def SMade (l : List Ut) (w w' : World) (e : Ending) : Prop := ∃ A c ms, e = .returned (.slice A ms.length c) ∧ ms.map (·.u) = l ∧ UsOwn w' w.heap.size A c ms ∧ Below w.heap.size w w'
end Q
set_option maxRecDepth 100000 in
set_option maxHeartbeats 1000000 in
theorem copies_any (A : Option Addr) (cap B : Nat) (l : List Q.Um) (w : World) (h : Q.UsIn w B A l) (hB : B ≤ w.heap.size) (hl : l.length ≤ 1000) (hok : ∀ m ∈ l, m.u.Cp) :
    Calls Try.prog 51 #[.slice A l.length cap] w fun e w' => Q.SMade (l.map (·.u)) w w' e := by
  obtain ⟨iU, hiU, hU0, hU1, hU2⟩ := info_parts infoU
  have OK := Lib.hid hok
  have IX := Lib.hid h
  obtain ⟨Z, hZ⟩ : ∃ Z, (madeCells (Value.agg #[.slice none 0 0, .slice none 0 0, .int .i64 0, .int .i64 0, .int .i64 0]).cells (l.length * 5)).toList = Z := ⟨_, rfl⟩
  have hZl : Z.length = l.length * 5 := by rw [← hZ, Array.length_toList, size_madeCells]
  obtain ⟨N, hN⟩ : ∃ N, w.heap.size = N := ⟨_, rfl⟩
  have START : Hid (∀ w2 : World, w2.ownsRow N 25 5 (.slice (some ⟨w.heap.size, 0, none⟩) l.length l.length) l.length (madeCells (Value.agg #[.slice none 0 0, .slice none 0 0, .int .i64 0, .int .i64 0, .int .i64 0]).cells (l.length * 5)).toList → w.grownBy w2 none → Q.SInv N N l.length w w2 [] Z ∧ N < w2.heap.size) := Lib.hid (fun w2 hown2 hg2 => by
    rw [hN, hZ] at hown2
    have bg : Below w.heap.size w w2 := ⟨hg2.os, hg2.tape, hg2.output, hg2.size, fun i hi => hg2.block i hi (by simp)⟩
    rw [hN] at bg
    refine ⟨⟨by simpa [Q.ucs] using hown2, fun y hy => by (cases hy), bg, by have := bg.size; omega⟩, ?_⟩
    obtain ⟨cur, hh⟩ := own_type hown2 rfl
    exact (Array.getElem?_eq_some_iff.1 hh).1)
  have HN := Lib.hid hN
  rw [hN] at hB
  clear h hok hZ hN
  go_enter Try.func51, Try.ntmps51
  go_wp2_with (refine wpList_make_full _ rfl (.tmp 7) (.tmp 7) 26 rfl N 25 iU (.agg #[.slice none 0 0, .slice none 0 0, .int .i64 0, .int .i64 0, .int .i64 0]) 5 Try.underlying26 hiU hU0 hU1 .i64 .i64 _ _ l.length rfl rfl rfl rfl (by rw [hU2]; omega) (by unfold maxLen; omega) (by have := HN.out; simp; omega) ?_; intro w2 hown2 hg2; (have ST := START.out w2 hown2 hg2); (have INV := Lib.hid ST.1); (have hMs := ST.2); (clear hown2 hg2 ST START))
  rw [HN.out]
  go_loopw [11] (fun v wr => ∃ (k : Nat) (ys : List Q.Um), k ≤ l.length ∧ v = .int .i64 k ∧ ys.length = k ∧ Hid (ys.map (·.u) = (l.map (·.u)).take k) ∧ Hid (Q.SInv N N l.length w wr ys (Z.drop (k * 5))) ∧ N < wr.heap.size) (fun v _ => l.length - (intOf v).toNat)
  case atStart => exact ⟨0, [], Nat.zero_le _, rfl, rfl, Lib.hid rfl, by simpa using INV, hMs⟩
  case round =>
    clear INV hMs
    obtain ⟨k, ys, hk, rfl, hyl0, hys, inv, hMr⟩ := hrel
    have HYL := Lib.hid hyl0
    clear hyl0
    by_cases hlt : k < l.length
    · have HIN := IX.out.below inv.out.be hB
      obtain ⟨b4, o4, rfl, hb4, h4⟩ := Q.reads_at HIN.row (by omega)
      obtain ⟨z0, z1, z2, z3, z4⟩ := h4 k hlt
      have UI := HIN.el l[k] (List.getElem_mem hlt)
      have UC := OK.out l[k] (List.getElem_mem hlt)
      have q1 : (0 : Int) ≤ (k : Int) := by omega
      have q2 : (k : Int) < (l.length : Int) := by omega
      have HYS : Hid (∀ y : Q.Um, y.u = l[k].u → (ys ++ [y]).map (·.u) = (l.map (·.u)).take (k + 1)) := Lib.hid (fun y hy => by
        rw [List.take_succ_eq_append_getElem (by simpa using hlt), List.map_append, hys.out, List.getElem_map, ← hy]; rfl)
      have hsr := inv.out.hs
      have CL := fun (W : World) (h : Below wr.heap.size wr W) => copied_own l[k] B W (UI.below h (Nat.le_trans hB hsr)) (Nat.le_trans (Nat.le_trans hB hsr) h.size) UC
      obtain ⟨x, hx⟩ : ∃ x, l[k] = x := ⟨_, rfl⟩
      rw [hx] at z0 z1 z2 z3 z4 HYS CL
      obtain ⟨⟨p0, p1, p2, p3, p4⟩, a0, c0, a1, c1⟩ := x
      simp only [Q.Um.cells] at z0 z1 z2 z3 z4 CL
      have BA : Hid (Below wr.heap.size wr (wr.alloc (.cells #[.slice a0 p0.length c0, .slice a1 p1.length c1, .int .i64 p2, .int .i64 p3, .int .i64 p4] 25))) := Lib.hid (below_box wr _)
      have CL1 := Lib.hid (CL _ BA.out)
      clear h4 hx CL hys UI UC HIN
      go_wp2_with fail
      refine CL1.out.mono ?_
      rintro e w6 ⟨m6, rfl, eu, own6, b6⟩
      have inv6 := inv.out.below (BA.out.trans (b6.mono BA.out.size))
      have own6' := own6.lower (base' := N) (by rw [World.size_alloc]; omega)
      have hZk : 5 ≤ (Z.drop (k * 5)).length := by rw [List.length_drop, hZl]; omega
      have TH := own_there (m := 5) (o := k * 5) inv6.om (by rw [List.length_append, Q.ucs_len, HYL.out]; omega)
      have inv8 := inv6.put (Nat.le_refl _) own6' hZk
      have HI : (Try.prog.info? 25).map (·.size) = some (5 : Nat) := by kernel_rfl
      rw [HYL.out, List.drop_drop] at inv8
      have HM9 : N < (w6.setCells N (k * 5) m6.cells).heap.size := by
        obtain ⟨cur, hh⟩ := own_type inv8.om rfl
        exact (Array.getElem?_eq_some_iff.1 hh).1
      have HY := Lib.hid (HYS.out m6 eu)
      replace inv8 := Lib.hid inv8
      replace TH := Lib.hid TH
      replace HI := Lib.hid HI
      have H1 : m6.cells.toArray.all (·.oneCell') = true := by simp [Q.Um.cells, Value.oneCell']
      replace H1 := Lib.hid H1
      clear CL1 own6 b6 inv inv6 own6' BA HYS eu
      obtain ⟨W8, hW8⟩ : ∃ W, w6.setCells N (k * 5) m6.cells.toArray.toList = W := ⟨_, rfl⟩
      have inv9 := inv8.out
      rw [show m6.cells = m6.cells.toArray.toList from by simp, hW8] at inv9 HM9
      replace inv9 := Lib.hid inv9
      clear inv8
      go_wp2_with (refine wpList_store_mid rfl 25 (.tmp 20) (.tmp 19) rfl N (k * 5) m6.cells.toArray ?hx ?hy TH.out HI.out H1.out ?_; (case hx => rfl); (case hy => rfl); (rw [hW8]); (clear hW8))
      exact ⟨⟨k + 1, ys ++ [m6], hlt, by go_num, by rw [List.length_append, HYL.out]; rfl, HY, by rw [Nat.add_mul]; exact inv9, HM9⟩, by simp [intOf]; omega⟩
    · obtain rfl : k = l.length := by omega
      have q2 : decide (l.length < l.length) = false := decide_eq_false (by omega)
      go_wp2_with fail
      have hym : ys.map (·.u) = l.map (·.u) := by rw [hys.out, List.take_of_length_le (by simp)]
      have hz0 : Z.drop (l.length * 5) = [] := List.drop_of_length_le (by omega)
      obtain ⟨om, og, be, hs⟩ := inv.out
      rw [hz0, List.append_nil] at om
      go_ret
      exact ⟨some ⟨N, 0, none⟩, l.length, ys, by rw [HYL.out]; rfl, hym, ⟨by rw [HYL.out, HN.out]; exact om, fun y hy => by rw [HN.out]; exact og y hy⟩, by rw [HN.out]; exact be⟩
end Go.Proofs.Ytfjkelngdljikaa
