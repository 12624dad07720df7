/-
  The walks of layer 29: passing columns on (moves, which calls itself). By an AI agent.
-/
import Derived.Deep.RegionHeld3
import Derived.Test.YtoemhphgnpedmaaSol
namespace Go.Proofs.Ytoemhphgnpedmaa
open Go.RowKit

theorem A.undone_mono {n : Nat} {vis cur : Nat → Bool} (h : ∀ j, vis j = true → cur j = true) : A.undone n cur ≤ A.undone n vis := by
  unfold A.undone
  have key : ∀ l : List Nat, (l.filter fun j => !cur j).length ≤ (l.filter fun j => !vis j).length := by
    intro l
    induction l with
    | nil => simp
    | cons x l ih =>
      cases hv : vis x with
      | true => simp [List.filter_cons, hv, h x hv]; exact ih
      | false => cases hc : cur x <;> simp [List.filter_cons, hv, hc] <;> omega
  exact key _
/-- Two blocks at most have turned. -/
structure C.Two (a w : World) (b vb : Nat) : Prop where
  os : w.os = a.os
  tape : w.tape = a.tape
  output : w.output = a.output
  size : a.heap.size ≤ w.heap.size
  block : ∀ i, i < a.heap.size → i ≠ b → i ≠ vb → w.heap[i]? = a.heap[i]?
section
variable {a w w' : World} {b vb : Nat}
theorem C.Two.refl (a : World) (b vb : Nat) : C.Two a a b vb := ⟨rfl, rfl, rfl, Nat.le_refl _, fun _ _ _ _ => rfl⟩
theorem C.Two.drewN (h : C.Two a w b vb) (n : Nat) : C.Two a (w.drewN n) b vb := ⟨h.os, h.tape, h.output, h.size, h.block⟩
theorem C.Two.drew (h : C.Two a w b vb) : C.Two a w.drew b vb := ⟨h.os, h.tape, h.output, h.size, h.block⟩
theorem C.Two.setCell (h : C.Two a w b vb) {p : Addr} (hp : p.block = b ∨ p.block = vb) (x : Value) : C.Two a (w.setCell p x) b vb :=
  ⟨h.os, h.tape, h.output, by simpa [World.setCell] using h.size, fun i hi h1 h2 => (Below.heap_setCell w p x i (by rintro rfl; rcases hp with hp | hp; exact h1 hp; exact h2 hp)).trans (h.block i hi h1 h2)⟩
theorem C.Two.trans (h : C.Two a w b vb) (k : C.Two w w' b vb) : C.Two a w' b vb :=
  ⟨k.os.trans h.os, k.tape.trans h.tape, k.output.trans h.output, Nat.le_trans h.size k.size, fun i hi h1 h2 => (k.block i (Nat.lt_of_lt_of_le hi h.size) h1 h2).trans (h.block i hi h1 h2)⟩
theorem C.Two.below {B : Nat} (h : C.Two a w b vb) (h1 : B ≤ b) (h2 : B ≤ vb) (h3 : B ≤ a.heap.size) : Below B a w := ⟨h.os, h.tape, h.output, h.size, fun i hi => h.block i (by omega) (by omega) (by omega)⟩
end

/-- What lies in memory while columns are passed on. -/
structure C.MJ (w wr : World) (b vb : Nat) (u v : Nat → Int) (p q : Nat → Nat) (cur : Nat → Bool) : Prop where
  st : C.St wr b u v p q
  vs : C.Br wr vb cur
  tw : C.Two w wr b vb
  ne : b ≠ vb
section
variable {w wr : World} {b vb : Nat} {u v : Nat → Int} {p q : Nat → Nat} {cur : Nat → Bool} {i : Nat}
theorem C.MJ.drewN (h : C.MJ w wr b vb u v p q cur) (n : Nat) : C.MJ w (wr.drewN n) b vb u v p q cur := ⟨h.st, h.vs, h.tw.drewN n, h.ne⟩
theorem C.MJ.drew (h : C.MJ w wr b vb u v p q cur) : C.MJ w wr.drew b vb u v p q cur := ⟨h.st, h.vs, h.tw.drew, h.ne⟩
theorem C.MJ.set_vs (h : C.MJ w wr b vb u v p q cur) (hi : i ≤ 40) (x : Bool) : C.MJ w (wr.setCell ⟨vb, i, none⟩ (.bool x)) b vb u v p q (A.upd cur i x) :=
  ⟨h.st.other (by show b ≠ vb; exact h.ne) _, h.vs.set hi x, h.tw.setCell (.inr rfl) _, h.ne⟩
theorem C.MJ.set_p (h : C.MJ w wr b vb u v p q cur) (hi : i ≤ 40) (x : Nat) : C.MJ w (wr.setCell ⟨b, 82 + i, none⟩ (.int .i64 x)) b vb u v (A.upd p i x) q cur :=
  ⟨h.st.set_p hi x, h.vs.other (by show vb ≠ b; exact h.ne.symm) _, h.tw.setCell (.inl rfl) _, h.ne⟩
theorem C.MJ.set_q (h : C.MJ w wr b vb u v p q cur) (hi : i ≤ 40) (x : Nat) : C.MJ w (wr.setCell ⟨b, 123 + i, none⟩ (.int .i64 x)) b vb u v p (A.upd q i x) cur :=
  ⟨h.st.set_q hi x, h.vs.other (by show vb ≠ b; exact h.ne.symm) _, h.tw.setCell (.inl rfl) _, h.ne⟩
end
/-- What moves leaves. -/
def C.MovOut (n : Nat) (tg : Nat → Nat → Prop) (b vb : Nat) (u v : Nat → Int) (fx fr : Nat) (p q : Nat → Nat) (vis : Nat → Bool) (r : Nat) (w w' : World) (e : Ending) : Prop :=
  ∃ vis', (e = .returned (.bool true) ∧ ∃ cs, A.Aug n tg p fx fr vis r cs ∧ C.MJ w w' b vb u v (A.putP p r cs p) (A.putC p r cs q) vis') ∨ (e = .returned (.bool false) ∧ A.Shut n tg p fx fr vis vis' r ∧ C.MJ w w' b vb u v p q vis')
theorem C.MJ.after {w w1 w2 : World} {b vb : Nat} {u v : Nat → Int} {p q p' q' : Nat → Nat} {cur cur' : Nat → Bool} (h : C.MJ w w1 b vb u v p q cur) (k : C.MJ w1 w2 b vb u v p' q' cur') : C.MJ w w2 b vb u v p' q' cur' := ⟨k.st, k.vs, h.tw.trans k.tw, h.ne⟩

set_option maxRecDepth 100000 in
set_option maxHeartbeats 16000000 in
theorem moves_any (B b vb : Nat) (Ad : Option Addr) (cp : Nat) (rs : List (Option Addr × Nat × List Int)) (c : Nat → Nat → Int) (hc : C.cst (C.mt rs) = c) (hq : C.Sq (C.mt rs)) (u v : Nat → Int) (fx fr : Nat) (hBb : B ≤ b) (hBv : B ≤ vb) (hne : b ≠ vb)
    (hbu : ∀ r, 1 ≤ r → r ≤ rs.length → 0 ≤ u r ∧ u r ≤ 50000000) (hbv : ∀ j, 1 ≤ j → j ≤ rs.length → -50000000 ≤ v j ∧ v j ≤ 0) (hfr : 1 ≤ fr ∧ fr ≤ rs.length) (hfx : fx ≤ 40) :
    ∀ (g : Nat) (p q : Nat → Nat) (vis : Nat → Bool) (r : Nat) (w : World), A.undone rs.length vis ≤ g → C.Mx w B Ad rs → B ≤ w.heap.size → C.St w b u v p q → C.Br w vb vis → vis fr = false → (∀ j, 1 ≤ j → j ≤ rs.length → j ≠ fr → 1 ≤ p j ∧ p j ≤ rs.length) → (1 ≤ r ∧ r ≤ rs.length) →
      Calls Try.prog 47 #[.pointer (some ⟨b, 0, none⟩), .slice Ad rs.length cp, .int .i64 r, .int .i64 fx, .int .i64 fr, .pointer (some ⟨vb, 0, none⟩)] w fun e w' => C.MovOut rs.length (fun r j => u r + v j = c r j) b vb u v fx fr p q vis r w w' e := by
  intro g
  induction g with
  | zero =>
    intro p q vis r w hg _ _ _ _ hvf _ _
    exfalso
    have := A.undone_lt (n := rs.length) (dn := vis) (a := fr) hfr.2 hvf
    omega
  | succ g ih =>
    intro p q vis r w hg hmx hBw hst hbr hvf hpr hr
    have hl : (C.mt rs).length = rs.length := by simp [C.mt]
    have hn40 : rs.length ≤ 40 := by have := hq.1; omega
    have IH := Lib.hid ih
    have HPR := Lib.hid hpr
    have HG := Lib.hid hg
    have HMX := Lib.hid hmx
    have SLK : Hid (∀ (w' : World) (m : Nat), C.Two w w' b vb → C.St w' b u v p q → 1 ≤ m → m ≤ rs.length →
        Calls Try.prog 46 #[.pointer (some ⟨b, 0, none⟩), .slice Ad rs.length cp, .int .i64 r, .int .i64 m] w' fun e w'' => e = .returned (.int .i64 (c r m - u r - v m)) ∧ ∃ n, w'' = w'.drewN n) := Lib.hid (fun w' m ht hst' h1 h2 => by
      rw [← hc]
      have a1 := hbu r hr.1 hr.2
      have a2 := hbv m h1 h2
      exact slack_any B b Ad cp rs u v p q r m w' (hmx.below (ht.below hBb hBv hBw) (Nat.le_refl _)) hst' hq hr.1 hr.2 h1 h2 (by omega) (by omega) (by omega) (by omega))
    have LK0 := Lib.hid (A.look_start (n := rs.length) (tg := fun r j => u r + v j = c r j) (p := p) (fx := fx) r hvf)
    have MJ0 : Hid (C.MJ w w b vb u v p q vis) := Lib.hid ⟨hst, hbr, C.Two.refl _ _ _, hne⟩
    obtain ⟨hr1, hr2⟩ := hr
    obtain ⟨hf1, hf2⟩ := hfr
    have qr1 : (0 : Int) ≤ (r : Int) := by omega
    have qr2 : (r : Int) < 41 := by omega
    clear ih hpr hg hmx hst hbr hbu hbv hc hq hl hvf
    go_enter Try.func47, Try.ntmps47
    go_wp2
    go_loopw [13] (fun v13 wr => ∃ (m : Nat) (cur : Nat → Bool), v13 = .int .i64 m ∧ 1 ≤ m ∧ m ≤ rs.length + 1 ∧ Hid (A.Look rs.length (fun r j => u r + v j = c r j) p fx fr vis cur r m) ∧ Hid (C.MJ w wr b vb u v p q cur)) (fun v13 _ => rs.length + 1 - (intOf v13).toNat)
    case atStart => exact ⟨1, vis, rfl, by omega, by omega, LK0, MJ0⟩
    case round =>
      clear LK0 MJ0
      obtain ⟨m, cur, rfl, hm1, hm2, hlk, hmj⟩ := hrel
      by_cases hml : m ≤ rs.length
      · have hm40 : m ≤ 40 := by omega
        have qm1 : (0 : Int) ≤ (m : Int) := by omega
        have qm2 : (m : Int) < 41 := by omega
        have qm3 : (m : Int) ≤ (rs.length : Int) := by omega
        have xd := hmj.out.vs.at_ (i := m) hm40
        cases hcm : cur m
        · rw [hcm] at xd
          have sl := Lib.hid (SLK.out wr m hmj.out.tw hmj.out.st hm1 hml)
          have xp := hmj.out.st.p_ (i := m) hm40
          have fd := hmj.out.vs.fz m
          obtain ⟨x, hx⟩ : ∃ x, c r m - u r - v m = x := ⟨_, rfl⟩
          rw [hx] at sl
          by_cases hx0 : x = 0
          · have htg : u r + v m = c r m := by omega
            have HTG := Lib.hid htg
            have hx1 : (x != 0) = false := by simp [hx0]
            have HX0 := Lib.hid hx0
            clear hx htg hx0
            by_cases hmf : m = fr
            · have hmf1 : ((m : Int) != (fr : Int)) = false := by simp [hmf]
              have hmf2 : ((m : Int) == (fr : Int)) = true := by simp [hmf]
              have AUG : Hid (A.Aug rs.length (fun r j => u r + v j = c r j) p fx fr vis r [fr]) := Lib.hid (A.aug_of_cur (cur := cur) (.last hf1 hf2 (hmf ▸ hcm) (by have := HTG.out; rw [hmf] at this; exact this)) hlk.out.sub)
              have MP : Hid (A.upd p m r = A.putP p r [fr] p) := Lib.hid (by rw [hmf]; rfl)
              have MC : Hid (A.upd q r m = A.putC p r [fr] q) := Lib.hid (by rw [hmf]; rfl)
              clear hmf hcm hlk
              go_wp2_with fail
              refine sl.out.mono ?_
              rintro e' w1 ⟨rfl, nd, rfl⟩
              have MJ2 := Lib.hid ((hmj.out.drewN nd).set_vs hm40 true)
              clear hmj
              go_wp2_with fail
              generalize World.setCell _ _ _ = W at *
              clear xp xd fd
              have xp := MJ2.out.st.p_ (i := m) hm40
              have xq := MJ2.out.st.q_ (i := r) (by omega)
              have fp := MJ2.out.st.fz (82 + m)
              have fq := MJ2.out.st.fz (123 + r)
              have hne1 : 82 + m ≠ 123 + r := by omega
              have M1 := Lib.hid ((MJ2.out.set_p hm40 r).set_q (i := r) (by omega) m).drew
              have M2 := Lib.hid ((MJ2.out.set_q (i := r) (by omega) m).set_p hm40 r).drew
              clear MJ2
              generalize p m = pm at *
              generalize q r = qr at *
              go_region_held3 (fun w' => True) (trivial) (fail)
              all_goals
                go_wp2_with fail
                go_ret
                first
                | exact ⟨_, .inl ⟨rfl, [fr], AUG.out, (by have h := M1.out; rw [MP.out, MC.out] at h; exact h)⟩⟩
                | exact ⟨_, .inl ⟨rfl, [fr], AUG.out, (by have h := M2.out; rw [MP.out, MC.out] at h; exact h)⟩⟩
            · have hmf1 : ((m : Int) != (fr : Int)) = true := bne_iff_ne.2 (by omega)
              have hmf2 : ((m : Int) == (fr : Int)) = false := beq_eq_false_iff_ne.2 (by omega)
              by_cases hpf : p m ≤ fx
              · have hpf1 : decide (p m ≤ fx) = true := decide_eq_true hpf
                have HLK := Lib.hid (A.look_skip hlk.out (.inr (.inr ⟨hmf, hpf⟩)))
                clear hlk hmf hcm hpf
                generalize p m = pm at *
                go_wp2_with fail
                refine sl.out.mono ?_
                rintro e' w1 ⟨rfl, nd, rfl⟩
                have MJ9 := Lib.hid (hmj.out.drewN nd)
                clear hmj
                go_wp2
                go_roundw
                case rel => exact ⟨m + 1, cur, by go_num, by omega, by omega, HLK, MJ9⟩
                case measure => simp [intOf] <;> omega
              · have hpf1 : decide (p m ≤ fx) = false := decide_eq_false hpf
                have hpr := HPR.out m hm1 hml hmf
                have UN := A.undone_lt (n := rs.length) (dn := cur) (a := m) hml hcm
                have UNC : A.undone rs.length cur ≤ A.undone rs.length vis := A.undone_mono hlk.out.sub
                have hgc : A.undone rs.length (A.upd cur m true) ≤ g := by have := HG.out; omega
                have HGC := Lib.hid hgc
                have hcf : A.upd cur m true fr = false := by rw [A.upd_ne _ _ (Ne.symm hmf)]; exact hlk.out.nf
                have HCF := Lib.hid hcf
                have HMF := Lib.hid hmf
                have HPF := Lib.hid hpf
                have HCM := Lib.hid hcm
                have HPM := Lib.hid hpr
                clear UN UNC hgc hcf hmf hpf hcm hpr
                go_wp2_with fail
                refine sl.out.mono ?_
                rintro e' w1 ⟨rfl, nd, rfl⟩
                have MJ2 := Lib.hid ((hmj.out.drewN nd).set_vs hm40 true)
                clear hmj
                have RC := Lib.hid (IH.out p q (A.upd cur m true) (p m) _ HGC.out (HMX.out.below (MJ2.out.tw.below hBb hBv hBw) (Nat.le_refl _)) (Nat.le_trans hBw MJ2.out.tw.size) MJ2.out.st MJ2.out.vs HCF.out HPR.out HPM.out)
                have xp0 := MJ2.out.st.p_ (i := m) hm40
                go_wp2_with fail
                refine RC.out.mono ?_
                rintro e' w2 ⟨vis', hres⟩
                rcases hres with ⟨rfl, cs, hau, hj2⟩ | ⟨rfl, hsh, hj2⟩
                · have AUG : Hid (A.Aug rs.length (fun r j => u r + v j = c r j) p fx fr vis r (m :: cs)) := Lib.hid (A.aug_of_cur (cur := cur) (.step hm1 hml HCM.out HTG.out HMF.out (by have := HPF.out; omega) hau) hlk.out.sub)
                  have MJ3 := Lib.hid (MJ2.out.after hj2)
                  have MP : Hid (A.upd (A.putP p (p m) cs p) m r = A.putP p r (m :: cs) p) := Lib.hid rfl
                  have MC : Hid (A.upd (A.putC p (p m) cs q) r m = A.putC p r (m :: cs) q) := Lib.hid rfl
                  clear hau hj2 hlk MJ2 RC xp0 xp xd fd sl
                  go_wp2_with fail
                  have xp := MJ3.out.st.p_ (i := m) hm40
                  have xq := MJ3.out.st.q_ (i := r) (by omega)
                  have fp := MJ3.out.st.fz (82 + m)
                  have fq := MJ3.out.st.fz (123 + r)
                  have hne1 : 82 + m ≠ 123 + r := by omega
                  have M1 := Lib.hid ((MJ3.out.set_p hm40 r).set_q (i := r) (by omega) m).drew
                  have M2 := Lib.hid ((MJ3.out.set_q (i := r) (by omega) m).set_p hm40 r).drew
                  clear MJ3
                  go_region_held3 (fun w' => True) (trivial) (fail)
                  all_goals
                    go_wp2_with fail
                    go_ret
                    first
                    | exact ⟨_, .inl ⟨rfl, (m :: cs), AUG.out, (by have h := M1.out; rw [MP.out, MC.out] at h; exact h)⟩⟩
                    | exact ⟨_, .inl ⟨rfl, (m :: cs), AUG.out, (by have h := M2.out; rw [MP.out, MC.out] at h; exact h)⟩⟩
                · have HLK := Lib.hid (A.look_fail hlk.out hm1 hml HMF.out (by have := HPF.out; omega) hsh)
                  have MJ9 := Lib.hid (MJ2.out.after hj2)
                  clear hsh hj2 hlk MJ2 RC xp0 xp xd fd sl
                  go_wp2
                  go_roundw
                  case rel => exact ⟨m + 1, vis', by go_num, by omega, by omega, HLK, MJ9⟩
                  case measure => simp [intOf] <;> omega
          · have hx1 : (x != 0) = true := bne_iff_ne.2 hx0
            have HLK := Lib.hid (A.look_skip hlk.out (.inr (.inl (by omega))))
            clear hlk hx hx0 hcm
            go_wp2_with fail
            refine sl.out.mono ?_
            rintro e' w1 ⟨rfl, nd, rfl⟩
            have MJ9 := Lib.hid (hmj.out.drewN nd)
            clear hmj
            go_wp2
            go_roundw
            case rel => exact ⟨m + 1, cur, by go_num, by omega, by omega, HLK, MJ9⟩
            case measure => simp [intOf] <;> omega
        · rw [hcm] at xd
          have HLK := Lib.hid (A.look_skip hlk.out (.inl hcm))
          have MJ9 := hmj
          clear hlk hcm hmj
          go_wp2
          go_roundw
          case rel => exact ⟨m + 1, cur, by go_num, by omega, by omega, HLK, MJ9⟩
          case measure => simp [intOf] <;> omega
      · have SH := Lib.hid (A.look_end hlk.out (by omega))
        clear hlk
        go_wp2
        go_ret
        exact ⟨cur, .inr ⟨rfl, SH.out, hmj.out⟩⟩
end Go.Proofs.Ytoemhphgnpedmaa
