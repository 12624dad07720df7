/-
  The walks of layer 16: Apply. By an AI agent.
-/
import Derived.Test.YtpigimmgadcogaaLw1
namespace Go.Proofs.Ytpigimmgadcogaa
open Go.RowKit

namespace E
variable {α : Type}
/-- Apply's two results. -/
def got : Except Bool (List α) → List α
  | .ok r => r
  | .error _ => []
def code : Except Bool (List α) → Int
  | .ok _ => 0
  | .error true => 2
  | .error false => 10
def pre (l : List α) : Except Bool (List α) → Except Bool (List α)
  | .ok r => .ok (l ++ r)
  | .error u => .error u
theorem app_1 {a : List α} {e : Nat} {x : Ed α} {l : List (Ed α)} (h : x.at_ < 0 ∨ x.del < 0 ∨ (a.length : Int) < x.at_ ∨ (a.length : Int) - x.at_ < x.del) : app a e (x :: l) = .error true := by rw [app, if_pos h]
theorem app_2 {a : List α} {e : Nat} {x : Ed α} {l : List (Ed α)} (h : ¬ (x.at_ < 0 ∨ x.del < 0 ∨ (a.length : Int) < x.at_ ∨ (a.length : Int) - x.at_ < x.del)) (h2 : x.at_ < e) : app a e (x :: l) = .error false := by rw [app, if_neg h, if_pos h2]
theorem app_3 {a : List α} {e : Nat} {x : Ed α} {l : List (Ed α)} {p d : Nat} (hp : x.at_ = p) (hd : x.del = d) (h : p + d ≤ a.length) (h2 : e ≤ p) : app a e (x :: l) = pre ((a.drop e).take (p - e) ++ x.ins) (app a (p + d) l) := by
  rw [app_cons (by omega) (by omega) (by omega) (by omega), hp, hd, show ((p : Int) + (d : Int)).toNat = p + d by omega, show ((p : Int) - (e : Int)).toNat = p - e by omega]
  cases app a (p + d) l <;> simp [pre]
theorem pre_pre (l m : List α) (r : Except Bool (List α)) : pre l (pre m r) = pre (l ++ m) r := by cases r <;> simp [pre]
theorem drop_cons {l : List α} {k : Nat} (h : k < l.length) : l.drop k = l[k] :: l.drop (k + 1) := List.drop_eq_getElem_cons h
theorem ns_drop_take (a : List Int) (i n : Nat) : ns ((a.drop i).take n) = ((ns a).drop i).take n := by simp [ns, List.map_take, List.map_drop]
end E

/-- A part of a slice. -/
theorem Reads.sub {w : World} {B n b o : Nat} {xs : List Value} (h : Reads w B 1 (some ⟨b, o, none⟩) n xs) {lo hi : Nat} (h1 : lo ≤ hi) (h2 : hi ≤ n) : Reads w B 1 (some ⟨b, o + lo, none⟩) (hi - lo) ((xs.drop lo).take (hi - lo)) := by
  have hl := h.1
  refine ⟨by simp; omega, fun hp => ?_⟩
  obtain ⟨b', o', e, hb, hc⟩ := h.flat (by omega) (by decide)
  cases e
  refine ⟨_, rfl, hb, fun j u hu => ?_⟩
  have hj : j < hi - lo := by have := (List.getElem?_eq_some_iff.1 hu).1; simp at this; omega
  rw [List.getElem?_take_of_lt hj, List.getElem?_drop] at hu
  have := hc (lo + j) u hu
  rwa [show ((⟨b, o + lo, none⟩ : Addr).add j) = ⟨b, o + (lo + j), none⟩ from by unfold Addr.add; split <;> simp_all <;> omega]

/-- What Go's slicing leaves: if no room is left the address is as it was. -/
theorem sub_reads {w : World} {B : Nat} {A : Option Addr} {a : List Int} (h : Reads w B 1 A a.length (E.ns a)) {lo hi : Nat} (h1 : lo ≤ hi) (h2 : hi ≤ a.length) : Reads w B 1 (A.map fun x => x.add lo) (hi - lo) (E.ns ((a.drop lo).take (hi - lo))) := by
  refine ⟨by simp [E.ns]; omega, fun hp => ?_⟩
  obtain ⟨b, o, rfl, -, -⟩ := h.flat (by omega) (by decide)
  have := h.sub h1 h2
  rw [E.ns_drop_take]
  have e : ((⟨b, o, none⟩ : Addr).add lo) = ⟨b, o + lo, none⟩ := by unfold Addr.add; split <;> simp_all
  simpa [e] using this.2 hp
theorem sub_none {w : World} {B : Nat} {A : Option Addr} {a : List Int} {lo hi : Nat} (h1 : hi = lo) : Reads w B 1 A (hi - lo) (E.ns ((a.drop lo).take (hi - lo))) := by
  subst h1
  exact ⟨by simp [E.ns], fun hp => by omega⟩
theorem ap_cells {wr W1 : World} {x0 x1 x2 : Value} {T : TypeId} (h : W1.heap[wr.heap.size]? = (wr.alloc (.cells #[x0, x1, x2] T)).heap[wr.heap.size]?) :
    W1.cell? ⟨wr.heap.size, 0, none⟩ = some x0 ∧ W1.cell? ⟨wr.heap.size, 1, none⟩ = some x1 ∧ W1.cell? ⟨wr.heap.size, 2, none⟩ = some x2 := by
  refine ⟨?_, ?_, ?_⟩ <;> refine (World.cell?_of_block (a := ⟨wr.heap.size, _, none⟩) h).trans ?_ <;> simp
theorem ap_ne {wr : World} {v v1 : Value} {base : Nat} {e : TypeId} {n : Nat} {xs : List Value} {o : Obj} (hown : wr.ownsRow base e 1 v n xs) (h : v1.ownBlock = v.ownBlock ∨ v1.ownBlock = some (wr.alloc o).heap.size) : some wr.heap.size ≠ v1.ownBlock := by
  intro e1
  rcases h with h | h
  · rw [h] at e1; have := (hown.lt _ e1.symm).2; omega
  · rw [h] at e1; simp at e1
theorem ap_ne0 {wr : World} {v : Value} {base : Nat} {e : TypeId} {n : Nat} {xs : List Value} (hown : wr.ownsRow base e 1 v n xs) : some wr.heap.size ≠ v.ownBlock := by
  intro e1
  have := (hown.lt _ e1.symm).2; omega
theorem ns_one (l : List Int) : ∀ u ∈ E.ns l, u.oneCell' = true := by
  intro u hu
  simp only [E.ns, List.mem_map] at hu
  obtain ⟨z, _, rfl⟩ := hu
  rfl

set_option maxRecDepth 10000 in
set_option maxHeartbeats 8000000 in
theorem apply_any (A1 A2 : Option Addr) (c1 c2 B : Nat) (a : List Int) (xs : List (E.Es Int)) (w : World) (ha : Reads w B 1 A1 a.length (E.ns a)) (hc : a.length ≤ c1) (hr : E.Rd w B A2 xs) (hB : B ≤ w.heap.size) (hna : a.length ≤ 1000) (hl : xs.length ≤ 2000) :
    Calls Try.prog 24 #[.slice A1 a.length c1, .slice A2 xs.length c2] w fun e W' => ∃ v, e = .returned (.tuple #[v, .int .i64 (E.code (E.app a 0 (xs.map (·.ed))))]) ∧ W'.ownsRow w.heap.size 3 1 v (E.got (E.app a 0 (xs.map (·.ed)))).length (E.ns (E.got (E.app a 0 (xs.map (·.ed))))) ∧ Below w.heap.size w W' := by
  have HA := Lib.hid ha
  have HR := Lib.hid hr
  clear ha hr
  obtain ⟨i0, hi0, hz0, hz1, hz2⟩ := info_parts Try.info3
  go_enter Try.func24, Try.ntmps24
  go_wp2
  go_loopw [6, 7, 12] (fun v en i wr => ∃ (k e : Nat) (out : List Int), k ≤ xs.length ∧ e ≤ a.length ∧ out.length ≤ e + k * 1000000 ∧ en = .int .i64 e ∧ i = .int .i64 k ∧ Hid (E.app a 0 (xs.map (·.ed)) = E.pre out (E.app a e ((xs.map (·.ed)).drop k))) ∧ wr.ownsRow w.heap.size 3 1 v out.length (E.ns out) ∧ Below w.heap.size w wr) (fun _ _ i _ => xs.length - (intOf i).toNat)
  case atStart => exact ⟨0, 0, [], Nat.zero_le _, Nat.zero_le _, Nat.zero_le _, rfl, rfl, Lib.hid (by rw [List.drop_zero]; generalize E.app a 0 (xs.map (·.ed)) = r; cases r <;> rfl), World.ownsRow_nil _ _ _ _, Below.refl _ _⟩
  case round =>
    obtain ⟨k, en, out, hk, he, ho, rfl, rfl, hrel, hown, hb⟩ := hrel
    by_cases hlt : k < xs.length
    · obtain ⟨b, off, rfl, hlo, hcc⟩ := E.edD (HR.out.row.below hb hB) (by omega)
      obtain ⟨x0, x1, x2⟩ := hcc k hlt
      obtain ⟨Ai, ci, hsl, ri, li⟩ := HR.out.ins xs[k] (List.getElem_mem hlt)
      have riw := Lib.hid ri
      have hbl : b < wr.heap.size := by have := hb.size; omega
      have q1 : (k : Int) < (xs.length : Int) := by omega
      have hd : Hid ((xs.map (·.ed)).drop k = xs[k].ed :: (xs.map (·.ed)).drop (k + 1)) := Lib.hid (by rw [E.drop_cons (by simpa using hlt)]; simp)
      clear hcc
      generalize xs[k] = x at *
      obtain ⟨⟨xa, xd, xi⟩, xs'⟩ := x
      dsimp only at *
      subst hsl
      by_cases hbad : xa < 0 ∨ xd < 0 ∨ (a.length : Int) < xa ∨ (a.length : Int) - xa < xd
      · have HE : Hid (E.app a 0 (xs.map (·.ed)) = .error true) := Lib.hid (by rw [hrel.out, hd.out, E.app_1 hbad]; rfl)
        clear hrel hd
        by_cases h1 : xa < 0
        · clear hbad
          go_wp2
          refine bodyPost_ret (v := .tuple #[.slice none 0 0, .int .i64 2]) (by simp [results, Try.results24, go_sem, *]) rfl ?_
          exact ⟨.slice none 0 0, by rw [HE.out]; rfl, by rw [HE.out]; exact World.ownsRow_nil _ _ _ _, hb.alloc hb.size _⟩
        · by_cases h2 : xd < 0
          · clear hbad
            go_wp2
            refine bodyPost_ret (v := .tuple #[.slice none 0 0, .int .i64 2]) (by simp [results, Try.results24, go_sem, *]) rfl ?_
            exact ⟨.slice none 0 0, by rw [HE.out]; rfl, by rw [HE.out]; exact World.ownsRow_nil _ _ _ _, hb.alloc hb.size _⟩
          · by_cases h3 : (a.length : Int) < xa
            · clear hbad
              go_wp2
              refine bodyPost_ret (v := .tuple #[.slice none 0 0, .int .i64 2]) (by simp [results, Try.results24, go_sem, *]) rfl ?_
              exact ⟨.slice none 0 0, by rw [HE.out]; rfl, by rw [HE.out]; exact World.ownsRow_nil _ _ _ _, hb.alloc hb.size _⟩
            · have h4 : (a.length : Int) - xa < xd := by omega
              have u1 : IntKind.i64.wrap ((a.length : Int) - xa) = (a.length : Int) - xa := by simp [IntKind.wrap, IntKind.bits, IntKind.signed]; omega
              clear hbad
              go_wp2
              refine bodyPost_ret (v := .tuple #[.slice none 0 0, .int .i64 2]) (by simp [results, Try.results24, go_sem, *]) rfl ?_
              exact ⟨.slice none 0 0, by rw [HE.out]; rfl, by rw [HE.out]; exact World.ownsRow_nil _ _ _ _, hb.alloc hb.size _⟩
      · by_cases hord : xa < (en : Int)
        · have HE : Hid (E.app a 0 (xs.map (·.ed)) = .error false) := Lib.hid (by rw [hrel.out, hd.out, E.app_2 hbad hord]; rfl)
          have h1 : ¬ xa < 0 := by omega
          have h2 : ¬ xd < 0 := by omega
          have h3 : ¬ (a.length : Int) < xa := by omega
          have h4 : ¬ (a.length : Int) - xa < xd := by omega
          have u1 : IntKind.i64.wrap ((a.length : Int) - xa) = (a.length : Int) - xa := by simp [IntKind.wrap, IntKind.bits, IntKind.signed]; omega
          clear hbad hrel hd
          go_wp2
          refine bodyPost_ret (v := .tuple #[.slice none 0 0, .int .i64 10]) (by simp [results, Try.results24, go_sem, *]) rfl ?_
          exact ⟨.slice none 0 0, by rw [HE.out]; rfl, by rw [HE.out]; exact World.ownsRow_nil _ _ _ _, hb.alloc hb.size _⟩
        · obtain ⟨p, rfl⟩ : ∃ p : Nat, xa = p := ⟨xa.toNat, by omega⟩
          obtain ⟨d, rfl⟩ : ∃ d : Nat, xd = d := ⟨xd.toNat, by omega⟩
          have hpd : p + d ≤ a.length := by omega
          have hep : en ≤ p := by omega
          have t1 : decide ((p : Int) < 0) = false := decide_eq_false (by omega)
          have t2 : decide ((d : Int) < 0) = false := decide_eq_false (by omega)
          have t3 : decide ((a.length : Int) < (p : Int)) = false := decide_eq_false (by omega)
          have t4 : decide ((a.length : Int) - (p : Int) < (d : Int)) = false := decide_eq_false (by omega)
          have t5 : decide ((p : Int) < (en : Int)) = false := decide_eq_false (by omega)
          have s1 : ¬ ((a.length : Int) - (p : Int) < (d : Int)) := by omega
          have s2 : ¬ (a.length < p) := by omega
          have s3 : ¬ (p < en) := by omega
          have u1 : IntKind.i64.wrap ((a.length : Int) - (p : Int)) = (a.length : Int) - (p : Int) := by simp [IntKind.wrap, IntKind.bits, IntKind.signed]; omega
          have u2 : IntKind.i64.wrap ((p : Int) + (d : Int)) = (p : Int) + (d : Int) := by simp [IntKind.wrap, IntKind.bits, IntKind.signed]; omega
          clear hbad hord
          by_cases hce : c1 = en
          · subst hce
            go_wp2_with (at_builtin; first
              | (refine wpList_append_any _ rfl (.tmp 45) (.tmp 50) _ rfl w.heap.size 3 i0 _ 1 8 Try.underlying22 hi0 hz0 hz1 hz2 rfl (by decide) u6 _ _ rfl (hown.alloc (.cells #[.int .i64 p, .int .i64 d, .slice Ai xi.length ci] 43)) B _ (p - c1) _ (E.ns ((a.drop c1).take (p - c1))) rfl (sub_none (by omega)) (ns_one _) (by simp only [maxLen]; omega) (by omega) (by have := hb.size; simp; omega) ?_; intro v1 W1 hown1 hgrow1 hnew1; have hb1 : Below w.heap.size w W1 := (hb.alloc hb.size (.cells #[.int .i64 p, .int .i64 d, .slice Ai xi.length ci] 43)).grown hgrow1 (by have := hb.size; simp; omega) (own_below hown (Nat.le_refl _)); have hlt1 : wr.heap.size < W1.heap.size := (by have := hgrow1.size; simp at this; omega); obtain ⟨y0, y1, y2⟩ := ap_cells (hgrow1.block wr.heap.size (by simp) (ap_ne0 hown)))
              | (refine wpList_append_any _ rfl (.tmp 52) (.tmp 54) _ rfl w.heap.size 3 i0 _ 1 8 Try.underlying22 hi0 hz0 hz1 hz2 rfl (by decide) v1 _ _ rfl hown1 B Ai xi.length ci (E.ns xi) rfl (riw.out.below hb1 hB) (ns_one _) (by simp only [maxLen]; omega) (by omega) hb1.size ?_; intro v2 W2 hown2 hgrow2 hnew2; have hb2 : Below w.heap.size w W2 := hb1.grown hgrow2 hb1.size (own_below hown1 (Nat.le_refl _)); obtain ⟨z0, z1, z2⟩ := ap_cells ((hgrow2.block wr.heap.size hlt1 (ap_ne hown hnew1)).trans (hgrow1.block wr.heap.size (by simp) (ap_ne0 hown)))))
            have hown3 : W2.ownsRow w.heap.size 3 1 v2 (out ++ ((a.drop c1).take (p - c1) ++ xi)).length (E.ns (out ++ ((a.drop c1).take (p - c1) ++ xi))) := by
              have e1 : out.length + (p - c1) + xi.length = (out ++ ((a.drop c1).take (p - c1) ++ xi)).length := by simp; omega
              have e2 : E.ns out ++ E.ns ((a.drop c1).take (p - c1)) ++ E.ns xi = E.ns (out ++ ((a.drop c1).take (p - c1) ++ xi)) := by simp [E.ns]
              rw [← e1, ← e2]; exact hown2
            have hrel2 : Hid (E.app a 0 (xs.map (·.ed)) = E.pre (out ++ ((a.drop c1).take (p - c1) ++ xi)) (E.app a (p + d) ((xs.map (·.ed)).drop (k + 1)))) := Lib.hid (by rw [hrel.out, hd.out, E.app_3 rfl rfl hpd hep, E.pre_pre])
            have hlen : (out ++ ((a.drop c1).take (p - c1) ++ xi)).length ≤ (p + d) + (k + 1) * 1000000 := by simp; omega
            go_roundw
            case rel => exact ⟨k + 1, p + d, _, hlt, hpd, hlen, by go_num, by go_num, hrel2, hown3, hb2⟩
            case measure => simp [intOf] <;> omega
          · go_wp2_with (at_builtin; first
              | (refine wpList_append_any _ rfl (.tmp 45) (.tmp 50) _ rfl w.heap.size 3 i0 _ 1 8 Try.underlying22 hi0 hz0 hz1 hz2 rfl (by decide) u6 _ _ rfl (hown.alloc (.cells #[.int .i64 p, .int .i64 d, .slice Ai xi.length ci] 43)) B _ (p - en) _ (E.ns ((a.drop en).take (p - en))) rfl (by first | exact sub_reads ((HA.out.below hb hB).alloc (Nat.le_trans hB hb.size) _) hep (by omega) | simpa using sub_reads ((HA.out.below hb hB).alloc (Nat.le_trans hB hb.size) _) hep (by omega)) (ns_one _) (by simp only [maxLen]; omega) (by omega) (by have := hb.size; simp; omega) ?_; intro v1 W1 hown1 hgrow1 hnew1; have hb1 : Below w.heap.size w W1 := (hb.alloc hb.size (.cells #[.int .i64 p, .int .i64 d, .slice Ai xi.length ci] 43)).grown hgrow1 (by have := hb.size; simp; omega) (own_below hown (Nat.le_refl _)); have hlt1 : wr.heap.size < W1.heap.size := (by have := hgrow1.size; simp at this; omega); obtain ⟨y0, y1, y2⟩ := ap_cells (hgrow1.block wr.heap.size (by simp) (ap_ne0 hown)))
              | (refine wpList_append_any _ rfl (.tmp 52) (.tmp 54) _ rfl w.heap.size 3 i0 _ 1 8 Try.underlying22 hi0 hz0 hz1 hz2 rfl (by decide) v1 _ _ rfl hown1 B Ai xi.length ci (E.ns xi) rfl (riw.out.below hb1 hB) (ns_one _) (by simp only [maxLen]; omega) (by omega) hb1.size ?_; intro v2 W2 hown2 hgrow2 hnew2; have hb2 : Below w.heap.size w W2 := hb1.grown hgrow2 hb1.size (own_below hown1 (Nat.le_refl _)); obtain ⟨z0, z1, z2⟩ := ap_cells ((hgrow2.block wr.heap.size hlt1 (ap_ne hown hnew1)).trans (hgrow1.block wr.heap.size (by simp) (ap_ne0 hown)))))
            have hown3 : W2.ownsRow w.heap.size 3 1 v2 (out ++ ((a.drop en).take (p - en) ++ xi)).length (E.ns (out ++ ((a.drop en).take (p - en) ++ xi))) := by
              have e1 : out.length + (p - en) + xi.length = (out ++ ((a.drop en).take (p - en) ++ xi)).length := by simp; omega
              have e2 : E.ns out ++ E.ns ((a.drop en).take (p - en)) ++ E.ns xi = E.ns (out ++ ((a.drop en).take (p - en) ++ xi)) := by simp [E.ns]
              rw [← e1, ← e2]; exact hown2
            have hrel2 : Hid (E.app a 0 (xs.map (·.ed)) = E.pre (out ++ ((a.drop en).take (p - en) ++ xi)) (E.app a (p + d) ((xs.map (·.ed)).drop (k + 1)))) := Lib.hid (by rw [hrel.out, hd.out, E.app_3 rfl rfl hpd hep, E.pre_pre])
            have hlen : (out ++ ((a.drop en).take (p - en) ++ xi)).length ≤ (p + d) + (k + 1) * 1000000 := by simp; omega
            go_roundw
            case rel => exact ⟨k + 1, p + d, _, hlt, hpd, hlen, by go_num, by go_num, hrel2, hown3, hb2⟩
            case measure => simp [intOf] <;> omega
    · obtain rfl : k = xs.length := by omega
      have HE : Hid (E.app a 0 (xs.map (·.ed)) = .ok (out ++ a.drop en)) := Lib.hid (by rw [hrel.out, List.drop_of_length_le (by simp)]; rfl)
      clear hrel
      by_cases hce : c1 = en
      · subst hce
        go_wp2_with (at_builtin; refine wpList_append_any _ rfl (.tmp 62) (.tmp 65) _ rfl w.heap.size 3 i0 _ 1 8 Try.underlying22 hi0 hz0 hz1 hz2 rfl (by decide) u6 _ _ rfl hown B _ 0 _ [] rfl ⟨rfl, fun hp => absurd hp (by decide)⟩ (fun _ h => by cases h) (by simp only [maxLen]; omega) (by omega) hb.size ?_; intro v1 W1 hown1 hgrow1 hnew1; have hb1 : Below w.heap.size w W1 := hb.grown hgrow1 hb.size (own_below hown (Nat.le_refl _)))
        refine bodyPost_ret (v := .tuple #[v1, .int .i64 0]) (by simp [results, Try.results24, go_sem, *]) rfl ?_
        rw [List.drop_of_length_le hc, List.append_nil] at HE
        rw [Nat.add_zero, List.append_nil] at hown1
        exact ⟨v1, by rw [HE.out]; rfl, by rw [HE.out]; exact hown1, hb1⟩
      · go_wp2_with (at_builtin; refine wpList_append_any _ rfl (.tmp 62) (.tmp 65) _ rfl w.heap.size 3 i0 _ 1 8 Try.underlying22 hi0 hz0 hz1 hz2 rfl (by decide) u6 _ _ rfl hown B _ (a.length - en) _ (E.ns ((a.drop en).take (a.length - en))) rfl (by first | exact sub_reads (HA.out.below hb hB) he (Nat.le_refl _) | simpa using sub_reads (HA.out.below hb hB) he (Nat.le_refl _)) (ns_one _) (by simp only [maxLen]; omega) (by omega) hb.size ?_; intro v1 W1 hown1 hgrow1 hnew1; have hb1 : Below w.heap.size w W1 := hb.grown hgrow1 hb.size (own_below hown (Nat.le_refl _)))
        rw [List.take_of_length_le (by simp)] at hown1
        refine bodyPost_ret (v := .tuple #[v1, .int .i64 0]) (by simp [results, Try.results24, go_sem, *]) rfl ?_
        have e1 : out.length + (a.length - en) = (out ++ a.drop en).length := by simp
        have e2 : E.ns out ++ E.ns (a.drop en) = E.ns (out ++ a.drop en) := by simp [E.ns]
        rw [e1, e2] at hown1
        exact ⟨v1, by rw [HE.out]; rfl, by rw [HE.out]; exact hown1, hb1⟩
end Go.Proofs.Ytpigimmgadcogaa
