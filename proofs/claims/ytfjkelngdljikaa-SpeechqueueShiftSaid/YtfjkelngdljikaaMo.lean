/-
  The closure of the law Shift: utterances moved by a time. By an AI agent.
-/
import Derived.Test.YtfjkelngdljikaaLw
namespace Go.Proofs.Ytfjkelngdljikaa
set_option linter.unusedVariables false
set_option linter.unusedSimpArgs false
open Go.RowKit Go.Joins Go.Deep

namespace Q
def Ut.mv (u : Ut) (d : Int) : Ut := ⟨u.words, u.chs, u.cl, u.af + d, u.up⟩
def Um.mv (m : Um) (d : Int) : Um := ⟨m.u.mv d, m.aw, m.cw, m.ac, m.cc⟩
theorem Um.mv_in {W : World} {B : Nat} {m : Um} (h : UIn W B m) (d : Int) : UIn W B (m.mv d) := ⟨h.w, h.c, h.hw, h.hc⟩
theorem ucs_append (a b : List Um) : ucs (a ++ b) = ucs a ++ ucs b := by simp [ucs]
/-- Of a row so far: what is moved, what is not. -/
def mvd (l : List Um) (d : Int) (k : Nat) : List Um := (l.take k).map (·.mv d) ++ l.drop k
theorem mvd_len (l : List Um) (d : Int) (k : Nat) : (mvd l d k).length = l.length := by
  simp only [mvd, List.length_append, List.length_map, List.length_take, List.length_drop]; omega
theorem mvd_zero (l : List Um) (d : Int) : mvd l d 0 = l := rfl
theorem mvd_all (l : List Um) (d : Int) : mvd l d l.length = l.map (·.mv d) := by simp [mvd]
theorem mvd_in {W : World} {B : Nat} {l : List Um} (h : ∀ m ∈ l, UIn W B m) (d : Int) (k : Nat) : ∀ m ∈ mvd l d k, UIn W B m := by
  intro m hm
  rcases List.mem_append.1 hm with hm | hm
  · obtain ⟨x, hx, rfl⟩ := List.mem_map.1 hm
    exact Um.mv_in (h x (List.mem_of_mem_take hx)) d
  · exact h m (List.mem_of_mem_drop hm)
theorem mvd_at (l : List Um) (d : Int) {k : Nat} (hk : k < l.length) : mvd l d k = (l.take k).map (·.mv d) ++ l[k] :: l.drop (k + 1) := by
  rw [mvd, List.drop_eq_getElem_cons hk]
theorem mvd_succ (l : List Um) (d : Int) {k : Nat} (hk : k < l.length) : mvd l d (k + 1) = (l.take k).map (·.mv d) ++ l[k].mv d :: l.drop (k + 1) := by
  rw [mvd, List.take_succ_eq_append_getElem hk, List.map_append, List.append_assoc]; rfl
theorem ucs_get (l : List Um) (d : Int) {k : Nat} (hk : k < l.length) : (ucs (mvd l d k))[k * 5 + 3]? = some (.int .i64 l[k].u.af) := by
  have e : (ucs ((l.take k).map (·.mv d))).length = k * 5 := by rw [ucs_len, List.length_map, List.length_take]; omega
  rw [mvd_at l d hk, ucs_append, List.getElem?_append_right (by rw [e]; omega), e]
  rw [show k * 5 + 3 - k * 5 = 3 by omega]
  rfl
theorem ucs_put (l : List Um) (d : Int) {k : Nat} (hk : k < l.length) : (ucs (mvd l d k)).set (k * 5 + 3) (.int .i64 (l[k].u.af + d)) = ucs (mvd l d (k + 1)) := by
  have e : (ucs ((l.take k).map (·.mv d))).length = k * 5 := by rw [ucs_len, List.length_map, List.length_take]; omega
  rw [mvd_at l d hk, mvd_succ l d hk, ucs_append, ucs_append, List.set_append_right _ _ (by rw [e]; omega), e]
  rw [show k * 5 + 3 - k * 5 = 3 by omega]
  rfl
end Q
set_option maxRecDepth 100000 in
set_option maxHeartbeats 2000000 in
theorem move_any (l : List Q.Um) (A : Option Addr) (c Bb : Nat) (d : Int) (w : World) (h : Q.UsIn w w.heap.size A l) (hl : l.length ≤ 1000) (hd : 0 ≤ d ∧ d ≤ 4294967295) (ha : ∀ m ∈ l, 0 ≤ m.u.af ∧ m.u.af ≤ 2199023255552)
    (hb : w.cell? ⟨Bb, 0, none⟩ = some (.int .u32 d)) (hbl : Bb < w.heap.size) :
    Calls Try.prog 32 #[.slice A l.length c, .pointer (some ⟨Bb, 0, none⟩)] w fun e w' => ∃ A' c', e = .returned (.slice A' l.length c') ∧ l.length ≤ c' ∧ w'.ownsRow w.heap.size 25 5 (.slice A' l.length c') l.length (Q.ucs (l.map (·.mv d))) ∧ Below w.heap.size w w' := by
  obtain ⟨iU, hiU, hU0, hU1, hU2⟩ := info_parts infoU
  have H := Lib.hid h
  have HA := Lib.hid ha
  have HL := Lib.hid hl
  have HBL := Lib.hid hbl
  have hdw : IntKind.i64.wrap d = d := by simp [IntKind.wrap, IntKind.bits, IntKind.signed]; omega
  have OWN0 := World.ownsRow_lit (base := w.heap.size) (e := 25) (size := 5) w #[] 0 (Nat.le_refl _) (by decide) rfl
  have bx := below_box w (.cells #[] 25)
  have HR := Lib.hid (h.row.below bx (Nat.le_refl _))
  have BX := Lib.hid bx
  replace OWN0 := Lib.hid OWN0
  clear h ha hl hbl bx
  have l63 : 0 + l.length ≤ maxLen := by have := HL.out; simp only [maxLen]; omega
  have l47 : (0 + l.length) * 72 ≤ 140737488355328 := by have := HL.out; omega
  have L63 := Lib.hid l63
  have L47 := Lib.hid l47
  clear l63 l47
  go_enter Try.func32, Try.ntmps32
  go_wp2_with (at_builtin; go_loud (refine wpList_append_any _ rfl (.tmp 6) (.tmp 7) _ rfl w.heap.size 25 iU _ 5 72 Try.underlying26 hiU hU0 hU1 hU2 rfl (by omega) (.slice (some ⟨w.heap.size, 0, none⟩) 0 0) 0 [] rfl OWN0.out w.heap.size A l.length _ _ rfl HR.out (Q.ucs_one _) L63.out L47.out BX.out.size ?_; intro v5 w5 hown5 hg5 hat5; (simp only [Nat.zero_add, List.nil_append] at hown5); (have g5 := Q.below_turn BX.out.size hg5 (fun r e => (OWN0.out.lt r e).1)); (obtain ⟨A5, c5, rfl, hrd5, hc5⟩ := own_reads_cap hown5); (have B5 := Lib.hid (BX.out.trans g5)); (have OWN5 := Lib.hid hown5); (clear hown5 hg5 hat5 g5 hrd5)))
  go_loopw [11] (fun v wr => ∃ k : Nat, k ≤ l.length ∧ v = .int .i64 k ∧ Hid (wr.ownsRow w.heap.size 25 5 (.slice A5 l.length c5) l.length (Q.ucs (Q.mvd l d k))) ∧ Hid (Below w.heap.size w wr)) (fun v _ => l.length - (intOf v).toNat)
  case atStart => exact ⟨0, Nat.zero_le _, rfl, OWN5, B5⟩
  case round =>
    clear OWN5 B5 OWN0
    obtain ⟨k, hk, rfl, hown, hB⟩ := hrel
    by_cases hlt : k < l.length
    · obtain ⟨g, cap, e⟩ := ownsRow_succ (k := l.length - 1) (by rw [show l.length - 1 + 1 = l.length by omega]; exact hown.out)
      obtain rfl : A5 = some ⟨g, 0, none⟩ := by injection e
      clear e
      have y0 := (hown.out.cellAt (k * 5 + 3) (by omega)).trans (Q.ucs_get l d hlt)
      have fz := hown.out.frozenAt (k * 5 + 3)
      have hg0 := (hown.out.lt g rfl).1
      have OW1 := (hown.out.stored (k * 5 + 3) (.int .i64 (l[k].u.af + d))).1
      rw [Q.ucs_put l d hlt] at OW1
      have OW := Lib.hid OW1
      have BB := Lib.hid (hB.out.setCell (p := ⟨g, k * 5 + 3, none⟩) hg0 (.int .i64 (l[k].u.af + d)))
      have db := (hB.out.cell (p := ⟨Bb, 0, none⟩) HBL.out).trans hb
      have hq := HA.out _ (List.getElem_mem hlt)
      have hl8 := HL.out
      have hk1 : k + 1 ≤ 1000 := by omega
      have q0 : decide ((k : Int) < (l.length : Int)) = true := decide_eq_true (by omega)
      have q1 : (0 : Int) ≤ (k : Int) := by omega
      have q2 : (k : Int) < (l.length : Int) := by omega
      have q3 : IntKind.i64.wrap (l[k].u.af + d) = l[k].u.af + d := by generalize l[k].u.af = y at *; simp [IntKind.wrap, IntKind.bits, IntKind.signed]; omega
      obtain ⟨y, hy⟩ : ∃ y, l[k].u.af = y := ⟨_, rfl⟩
      rw [hy] at y0 q3 OW BB
      clear OW1 hq hy hown hB hg0
      go_wp2_with fail
      go_region
      all_goals
        go_wp2
        go_roundw
        case rel => exact ⟨k + 1, by omega, by go_num, Lib.hid OW.out.drew, Lib.hid BB.out.drew⟩
        case measure => simp [intOf] <;> omega
    · have hk' : k = l.length := by omega
      subst hk'
      have q0 : decide ((l.length : Int) < (l.length : Int)) = false := decide_eq_false (by omega)
      go_wp2_with fail
      go_ret
      obtain ⟨A6, c6, e6, hr, hc⟩ := own_reads_cap hown.out
      obtain ⟨rfl, rfl⟩ : A5 = A6 ∧ c5 = c6 := by injection e6 with e1 _ e3; exact ⟨e1, e3⟩
      have ho := hown.out
      rw [Q.mvd_all] at ho
      exact ⟨A5, c5, rfl, hc, ho, hB.out⟩
namespace Q
theorem us_mv {W : World} {base : Nat} {A : Option Addr} {c : Nat} {l : List Um} {d : Int} (h : W.ownsRow base 25 5 (.slice A l.length c) l.length (ucs (l.map (·.mv d)))) (he : ∀ m ∈ l, UIn W W.heap.size m) : UsIn W W.heap.size A (l.map (·.mv d)) := by
  obtain ⟨A6, c6, e6, hr, hc⟩ := own_reads_cap h
  obtain ⟨rfl, rfl⟩ : A = A6 ∧ c = c6 := by injection e6 with e1 _ e3; exact ⟨e1, e3⟩
  refine ⟨?_, ?_⟩
  · rw [List.length_map]; exact hr
  · intro m hm
    obtain ⟨x, hx, rfl⟩ := List.mem_map.1 hm
    exact Um.mv_in (he x hx) d
/-- A queue moved by a time. -/
def Qa.mv (a : Qa) (d : Int) : Qa := ⟨a.clock + d, a.rate, a.sp, if a.sp = true then a.cur.mv d else a.cur, if a.sp = true then a.be + d else a.be, if a.sp = true then a.en + d else a.en, a.items.map (·.mv d)⟩
def Sa.mv (s : Sa) (d : Int) : Sa := ⟨s.u.mv d, s.be + d, s.en + d, s.co⟩
theorem ofQ_mv (a : Qa) (d : Int) : ofQ (a.mv d) = ⟨(ofQ a).sp.map fun y => (y.1.mv d, y.2.1 + d, y.2.2 + d), (ofQ a).items.map (·.mv d)⟩ := by
  cases hs : a.sp <;> simp [ofQ, Qa.mv, hs]
theorem toQ_mv (t r d : Int) (x : St Ut) : toQ (t + d) r ⟨x.sp.map fun y => (y.1.mv d, y.2.1 + d, y.2.2 + d), x.items.map (·.mv d)⟩ = (toQ t r x).mv d := by
  obtain ⟨sp, it⟩ := x
  cases sp <;> simp [toQ, Qa.mv]
theorem mv_adv (a : Qa) (d t : Int) : (a.mv d).adv (t + d) = ((a.adv t).1.mv d, (a.adv t).2.map (·.mv d)) := by
  have h := adv_shift (·.af) (dur a.rate) (fun u : Ut => u.mv d) (·.af) (dur a.rate) d (fun _ => rfl) (fun _ => rfl) a.clock t (ofQ a)
  unfold Qa.adv
  rw [ofQ_mv, show (a.mv d).clock = a.clock + d from rfl, show (a.mv d).rate = a.rate from rfl, h]
  simp only [toQ_mv, List.map_map]
  rfl
theorem pr_mv {u : Ut} {d : Int} (h : pr u = 0) (h1 : 0 ≤ d) (h2 : u.af + d ≤ 1099511627776) : pr (u.mv d) = 0 := by
  have ha := pr_af h
  unfold pr at h ⊢
  split at h
  · cases h
  · rename_i hw
    rw [if_neg (by exact hw), if_neg (by simp only [Ut.mv]; omega)]
theorem mv_sml {a : Qa} (h : a.Sml) (d : Int) : (a.mv d).Sml :=
  ⟨by simpa [Qa.mv] using h.1, by unfold Qa.mv; dsimp only; split <;> exact h.2.1, fun u hu => by
    obtain ⟨x, hx, rfl⟩ := List.mem_map.1 hu
    exact h.2.2 x hx⟩
theorem mv_chk {a : Qa} {d : Int} (hc : chk a = 0) (hd : 0 ≤ d) (h1 : a.clock + d ≤ 1099511627776) (h2 : a.en + d ≤ 2199023255552) (h3 : ∀ u ∈ a.items, u.af + d ≤ 1099511627776) : chk (a.mv d) = 0 := by
  have hp := chk_proper hc
  refine Proper.chk ⟨⟨by have := hp.ck; simp only [Qa.mv]; omega, h1⟩, hp.rt, fun hs => ?_, fun hs => ?_, prs_of fun u hu => ?_⟩
  · have hs' : a.sp = true := hs
    have hh := hp.sp hs'
    simp only [Qa.mv, hs', if_true]
    exact ⟨pr_mv hh.1 hd (by omega), by simp only [Ut.mv]; omega, by omega, by omega, by omega⟩
  · have hs' : a.sp = false := hs
    obtain ⟨hh, hs2⟩ := hp.st hs'
    simp only [Qa.mv, hs', Bool.false_eq_true, if_false]
    refine ⟨hh, right_soon fun u r hu => ?_⟩
    cases hi : a.items with
    | nil => rw [hi] at hu; cases hu
    | cons x l =>
      rw [hi] at hu hs2
      have := soon_right hs2 x l rfl
      simp only [List.map_cons, List.cons.injEq] at hu
      obtain ⟨rfl, _⟩ := hu
      simp only [Ut.mv]; omega
  · obtain ⟨x, hx, rfl⟩ := List.mem_map.1 hu
    exact pr_mv (prs_mem hp.its hx) hd (h3 x hx)
theorem runI_bounds (time : Int) (af du : Ut → Int) (hd : ∀ u, 0 ≤ du u) : ∀ (l : List Ut) (now : Int), ∀ y ∈ (runI af du time now l).2, now ≤ y.2.1 ∧ y.2.1 ≤ time ∧ now ≤ y.2.2 ∧ y.2.2 ≤ time := by
  intro l
  induction l with
  | nil => intro now y h; cases h
  | cons u l ih =>
    intro now y h
    have hu := hd u
    by_cases h1 : time < max now (af u)
    · rw [runI_wait af du h1] at h; cases h
    · by_cases h2 : time < max now (af u) + du u
      · rw [runI_speak af du (by omega) h2] at h; cases h
      · rw [runI_done af du (by omega) (by omega)] at h
        rcases List.mem_cons.1 h with rfl | h
        · simp only; omega
        · have := ih _ y h; omega
theorem adv_bounds {a : Qa} (hc : chk a = 0) (t : Int) : ∀ s ∈ (a.adv t).2, 0 ≤ s.be ∧ s.be ≤ t ∧ 0 ≤ s.en ∧ s.en ≤ t := by
  have hp := chk_proper hc
  intro s hs
  unfold Qa.adv at hs
  obtain ⟨y, hy, rfl⟩ := List.mem_map.1 hs
  have hck := hp.ck
  cases hsp : a.sp with
  | true =>
    have ho : ofQ a = ⟨some (a.cur, a.be, a.en), a.items⟩ := by simp [ofQ, hsp]
    have hh := hp.sp hsp
    have hq := pr_af hh.1
    rw [ho] at hy
    by_cases ht : t < a.en
    · simp only [Q.adv, ht, if_true] at hy; cases hy
    · simp only [Q.adv, ht, if_false] at hy
      rcases List.mem_cons.1 hy with rfl | hy
      · simp only [toSa]; omega
      · have := runI_bounds t _ _ (dur_nonneg a.rate) _ _ y hy
        simp only [toSa]; omega
  | false =>
    have ho : ofQ a = ⟨none, a.items⟩ := by simp [ofQ, hsp]
    rw [ho] at hy
    have := runI_bounds t _ _ (dur_nonneg a.rate) _ _ y hy
    simp only [toSa]; omega
end Q
end Go.Proofs.Ytfjkelngdljikaa
