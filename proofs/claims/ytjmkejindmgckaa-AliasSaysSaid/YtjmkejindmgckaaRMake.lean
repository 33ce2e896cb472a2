/-
  culref.Alias: the walk. Condition: the slice reads as a list of weights that may be.
-/
import Derived.Test.YtjmkejindmgckaaMake
import Derived.Test.YtjmkejindmgckaaView
import Derived.Deep.RegionLaw
import Derived.Test.YtjmkejindmgckaaOrdL
namespace Go.Proofs.Ytjmkejindmgckaa
open Go.RowKit

/-- Columns with what remains of them, as cells. -/
def bits2 (l : List Bit) : List Value := l.flatMap fun p => [.int .i64 (p.1 : Int), .int .i64 p.2]
theorem bits2_len (l : List Bit) : (bits2 l).length = l.length * 2 := by
  induction l with
  | nil => rfl
  | cons p l ih => simp only [bits2, List.flatMap_cons, List.length_append, List.length_cons, List.length_nil] at ih ⊢; omega
theorem bits2_cons (p : Bit) (l : List Bit) : bits2 (p :: l) = [.int .i64 (p.1 : Int), .int .i64 p.2] ++ bits2 l := rfl
theorem bits2_one (l : List Bit) : ∀ u ∈ bits2 l, u.oneCell' = true := by
  intro u hu
  simp only [bits2, List.mem_flatMap] at hu
  obtain ⟨p, _, hp⟩ := hu
  simp only [List.mem_cons, List.mem_nil_iff, or_false] at hp
  rcases hp with rfl | rfl <;> rfl
theorem T_bit : ElemT Try.prog 87 89 (.agg #[.int .i64 0, .int .i64 0]) 2 16 := ⟨Try.underlying87, by kernel_rfl, rfl, by decide⟩

/-- What culref.Alias leaves. -/
def RMakeRet (w : World) (S : Int) (n : Nat) (F : List Int × List Int) (e : Ending) (w' : World) : Prop :=
  ∃ A1 A2 c1 c2, e = .returned (.agg #[.int .i64 S, .slice A1 n c1, .slice A2 n c2]) ∧ Own w' w.heap.size 3 1 A1 n c1 (ints F.1) ∧ Own w' w.heap.size 3 1 A2 n c2 (ints F.2) ∧ Below w.heap.size w w'
/-- The two stacks, as rows of pairs. -/
structure Piles (w : World) (B : Nat) (Al Ah : Option Addr) (cl ch : Nat) (lo hi : List Bit) : Prop where
  l : Own w B 89 2 Al lo.length cl (bits2 lo)
  h : Own w B 89 2 Ah hi.length ch (bits2 hi)
  ap : Apart Al Ah
section
variable {w w' : World} {B : Nat} {Al Ah A A' : Option Addr} {cl ch n c n' c' b : Nat} {lo hi : List Bit} {xs xs' : List Value}
theorem Piles.drew (s : Piles w B Al Ah cl ch lo hi) : Piles w.drew B Al Ah cl ch lo hi := ⟨s.l, s.h, s.ap⟩
theorem Piles.alloc (s : Piles w B Al Ah cl ch lo hi) (o : Obj) : Piles (w.alloc o) B Al Ah cl ch lo hi := ⟨s.l.alloc o, s.h.alloc o, s.ap⟩
theorem Piles.low (s : Piles w B Al Ah cl ch lo hi) {p : Addr} (hp : p.block < B) (u : Value) : Piles (w.setCell p u) B Al Ah cl ch lo hi := ⟨s.l.low hp u, s.h.low hp u, s.ap⟩
theorem Piles.grown (s : Piles w B Al Ah cl ch lo hi) (ap : Apped w w' b 3 1 A A' n' c' xs') (h : Own w b 3 1 A n c xs) : Piles w' B Al Ah cl ch lo hi :=
  ⟨s.l.grown_apart ap (h.apart_type s.l (by decide)), s.h.grown_apart ap (h.apart_type s.h (by decide)), s.ap⟩
theorem Apped.here {e : TypeId} {size : Nat} (_ : Apped w w' b 3 1 A A' n' c' xs') {base n2 c2 : Nat} {A2 : Option Addr} {x2 : List Value} (h : Own w base e size A2 n2 c2 x2) : Own w base e size A2 n2 c2 x2 := h
theorem Apped.piles (_ : Apped w w' b 3 1 A A' n' c' xs') (h : Piles w B Al Ah cl ch lo hi) : Piles w B Al Ah cl ch lo hi := h
end
/-- The table that is being made, its rows growing. -/
structure RMk (w : World) (B gb : Nat) (A1 A2 : Option Addr) (k c1 c2 : Nat) (S : Int) (own rest : List Int) : Prop where
  pb : Blk w gb 24 #[.int .i64 S, .slice A1 k c1, .slice A2 k c2]
  oO : Own w B 3 1 A1 k c1 (ints own)
  oR : Own w B 3 1 A2 k c2 (ints rest)
  ap : Apart A1 A2
  lt : gb < B

section
variable {w w2 : World} {B gb : Nat} {o1 o2 : Obj} {Al Ah A1 A2 A' : Option Addr} {cl ch c1 c2 c' k : Nat} {S : Int} {lo hi : List Bit} {p : Bit} {own rest : List Int}
theorem lit_apart {w0 : World} {g b e2n s n c : Nat} {e : TypeId} {A : Option Addr} {xs : List Value} (h : Own w0 b e s A n c xs) (hg : w0.heap.size ≤ g) : Apart (some ⟨g, 0, none⟩) A := by
  intro g' h1 h2
  have h3 : g = g' := by simpa [blockOf] using h1
  have := (h.blk h2).2
  omega
theorem Piles.pushL (s : Piles w B Al Ah cl ch lo hi) (ap : Apped ((w.alloc o1).alloc o2) w2 B 89 2 (some ⟨w.heap.size + 1, 0, none⟩) A' (1 + lo.length) c' (bits2 [p] ++ bits2 lo)) : Piles w2 B A' Ah c' ch (p :: lo) hi := by
  have ha : Apart (some ⟨w.heap.size + 1, 0, none⟩) Ah := lit_apart (e2n := 0) s.h (by omega)
  refine ⟨?_, ((s.h.alloc o1).alloc o2).grown_apart ap ha, ap.apart ((s.h.alloc o1).alloc o2) ha⟩
  have h1 := ap.own
  rw [Nat.add_comm] at h1
  exact h1
theorem Piles.pushH (s : Piles w B Al Ah cl ch lo hi) (ap : Apped ((w.alloc o1).alloc o2) w2 B 89 2 (some ⟨w.heap.size + 1, 0, none⟩) A' (1 + hi.length) c' (bits2 [p] ++ bits2 hi)) : Piles w2 B Al A' cl c' lo (p :: hi) := by
  have ha : Apart (some ⟨w.heap.size + 1, 0, none⟩) Al := lit_apart (e2n := 0) s.l (by omega)
  refine ⟨((s.l.alloc o1).alloc o2).grown_apart ap ha, ?_, (ap.apart ((s.l.alloc o1).alloc o2) ha).symm⟩
  have h1 := ap.own
  rw [Nat.add_comm] at h1
  exact h1
theorem RMk.push {n' : Nat} {xs' : List Value} (m : RMk w B gb A1 A2 k c1 c2 S own rest) (hz : gb < w.heap.size) (ap : Apped ((w.alloc o1).alloc o2) w2 B 89 2 (some ⟨w.heap.size + 1, 0, none⟩) A' n' c' xs') : RMk w2 B gb A1 A2 k c1 c2 S own rest :=
  ⟨((m.pb.alloc o1).alloc o2).grown ap.grow (fun e => by have : w.heap.size + 1 = gb := by simpa [blockOf] using e
                                                         omega),
    ((m.oO.alloc o1).alloc o2).grown_apart ap (lit_apart (e2n := 0) m.oO (by omega)), ((m.oR.alloc o1).alloc o2).grown_apart ap (lit_apart (e2n := 0) m.oR (by omega)), m.ap, m.lt⟩
end
theorem loTo_next {S : Int} {n k : Nat} {xs : List Int} {x : Int} (hx : xs[k]? = some x) (h : x * (n : Int) < S) : loTo S n xs (k + 1) = (k, x * n) :: loTo S n xs k ∧ hiTo S n xs (k + 1) = hiTo S n xs k := by
  rw [loTo, hiTo, getD_of hx, if_pos h, if_pos h]; exact ⟨rfl, rfl⟩
theorem hiTo_next {S : Int} {n k : Nat} {xs : List Int} {x : Int} (hx : xs[k]? = some x) (h : ¬ x * (n : Int) < S) : loTo S n xs (k + 1) = loTo S n xs k ∧ hiTo S n xs (k + 1) = (k, x * n) :: hiTo S n xs k := by
  rw [loTo, hiTo, getD_of hx, if_neg h, if_neg h]; exact ⟨rfl, rfl⟩

theorem Vw.apart_own {w : World} {B b n1 c1 s1 n2 c2 s2 g : Nat} {e1 e2 : TypeId} {A : Option Addr} {x1 x2 : List Value} (h : Vw w B e1 s1 A n1 c1 x1) (h2 : Own w b e2 s2 (some ⟨g, 0, none⟩) n2 c2 x2) (hne : e1 ≠ e2) : blockOf A ≠ some g := by
  rcases h.at_ with ⟨hv, _⟩ | ⟨g1, o, cur, hv, _, hh, _⟩
  · subst hv; exact fun h => by cases h
  · subst hv
    intro e
    have e' : g1 = g := by simpa [blockOf] using e
    subst e'
    rcases h2.2 with ⟨hv, _⟩ | ⟨g2, cap, cur2, hv, _, hh2, _⟩
    · cases hv
    · injection hv with hv
      injection hv with hv
      injection hv with hv
      subst hv
      rw [hh] at hh2
      injection hh2 with hh2
      injection hh2 with _ h5
      exact hne h5
section
variable {w w' : World} {B gb gO gR n c1 c2 : Nat} {A1 A2 : Option Addr} {S : Int} {own rest : List Int}
theorem RMk.below (m : RMk w B gb A1 A2 n c1 c2 S own rest) (hb : Below w.heap.size w w') : RMk w' B gb A1 A2 n c1 c2 S own rest :=
  ⟨m.pb.below hb m.pb.lt, m.oO.below hb (Nat.le_refl _), m.oR.below hb (Nat.le_refl _), m.ap, m.lt⟩
theorem RMk.drew (m : RMk w B gb A1 A2 n c1 c2 S own rest) : RMk w.drew B gb A1 A2 n c1 c2 S own rest := ⟨m.pb, m.oO, m.oR, m.ap, m.lt⟩
theorem RMk.setO (m : RMk w B gb (some ⟨gO, 0, none⟩) A2 n c1 c2 S own rest) (j : Nat) (v : Int) : RMk (w.setCell ⟨gO, j, none⟩ (.int .i64 v)) B gb (some ⟨gO, 0, none⟩) A2 n c1 c2 S (own.set j v) rest := by
  have h1 := (m.oO.blk (g := gO) rfl).1
  have h2 := m.lt
  exact ⟨m.pb.far (by dsimp only; omega) _, by rw [ints_set]; exact m.oO.set j _, m.oR.far (fun g hg e => m.ap gO rfl (by rw [hg]; exact congrArg some e)) _, m.ap, m.lt⟩
theorem RMk.setR (m : RMk w B gb A1 (some ⟨gR, 0, none⟩) n c1 c2 S own rest) (j : Nat) (v : Int) : RMk (w.setCell ⟨gR, j, none⟩ (.int .i64 v)) B gb A1 (some ⟨gR, 0, none⟩) n c1 c2 S own (rest.set j v) := by
  have h1 := (m.oR.blk (g := gR) rfl).1
  have h2 := m.lt
  exact ⟨m.pb.far (by dsimp only; omega) _, m.oO.far (p := ⟨gR, j, none⟩) (fun g hg e => m.ap g (by rw [hg]; rfl) (show some gR = some g from congrArg some e.symm)) _, by rw [ints_set]; exact m.oR.set j _, m.ap, m.lt⟩
/-- A store into a block that is none of theirs. -/
theorem RMk.off {p : Addr} (m : RMk w B gb A1 A2 n c1 c2 S own rest) (u : Value) (h0 : gb ≠ p.block) (h1 : blockOf A1 ≠ some p.block) (h2 : blockOf A2 ≠ some p.block) : RMk (w.setCell p u) B gb A1 A2 n c1 c2 S own rest :=
  ⟨m.pb.far h0 _, m.oO.far (fun g hg e => h1 (by rw [hg]; exact congrArg some e)) _, m.oR.far (fun g hg e => h2 (by rw [hg]; exact congrArg some e)) _, m.ap, m.lt⟩
end
theorem RMk.push1 {w w2 : World} {B gb g0 k c1 c2 n' c' : Nat} {A1 A2 A' : Option Addr} {S : Int} {own rest : List Int} {o : Obj} {xs' : List Value} (m : RMk w B gb A1 A2 k c1 c2 S own rest) (hg : w.heap.size ≤ g0) (ap : Apped (w.alloc o) w2 B 89 2 (some ⟨g0, 0, none⟩) A' n' c' xs') : RMk w2 B gb A1 A2 k c1 c2 S own rest := by
  have hl := m.pb.lt
  exact ⟨(m.pb.alloc o).grown ap.grow (fun e => by have e' : g0 = gb := Option.some.inj e; omega), (m.oO.alloc o).grown_apart ap (lit_apart (e2n := 0) m.oO hg), (m.oR.alloc o).grown_apart ap (lit_apart (e2n := 0) m.oR hg), m.ap, m.lt⟩
/-- The rounds of the second loop. -/
structure RR (w1 wr : World) (B gb : Nat) (A1 A2 Al Ah : Option Addr) (c1 c2 cl ch n f : Nat) (S : Int) (F : List Int × List Int) (lo hi : List Bit) (own rest : List Int) : Prop where
  l : Vw wr B 89 2 Al lo.length cl (bits2 lo)
  h : Vw wr B 89 2 Ah hi.length ch (bits2 hi)
  ap : Apart Al Ah
  m : RMk wr B gb A1 A2 n c1 c2 S own rest
  i : AInv n S lo hi
  le : lo.length + hi.length ≤ f
  r : aRun S f lo hi own rest = F
  b : Below w1.heap.size w1 wr
  z : B ≤ wr.heap.size
def RRounds (w1 : World) (B gb : Nat) (A1 A2 : Option Addr) (c1 c2 n : Nat) (S : Int) (F : List Int × List Int) (vl vh : Value) (wr : World) : Prop :=
  ∃ f lo hi own rest Al Ah cl ch, vl = .slice Al lo.length cl ∧ vh = .slice Ah hi.length ch ∧ RR w1 wr B gb A1 A2 Al Ah c1 c2 cl ch n f S F lo hi own rest
theorem bits2_at0 (p : Bit) (l : List Bit) : (bits2 (p :: l))[0]? = some (.int .i64 (p.1 : Int)) := rfl
theorem bits2_at1 (p : Bit) (l : List Bit) : (bits2 (p :: l))[1]? = some (.int .i64 p.2) := rfl
theorem Vw.cell0 {w : World} {B g o n c : Nat} {e : TypeId} {xs : List Value} {u : Value} (h : Vw w B e 2 (some ⟨g, o, none⟩) n c xs) (hu : xs[0]? = some u) : w.cell? ⟨g, o, none⟩ = some u := h.cell hu

/-- The cells that region 7 reads, as long as not both appends have come up. -/
def R7C (gb : Nat) (A1 A2 : Option Addr) (k c1 c2 : Nat) (w : World) : Prop := w.cell? ⟨gb, 1, none⟩ = some (.slice A1 k c1) ∧ w.cell? ⟨gb, 2, none⟩ = some (.slice A2 k c2)
def R7S (gb : Nat) (A1 A2 : Option Addr) (k c1 c2 : Nat) (l : Array Bool) (w : World) : Prop := (l.getD 4 true && l.getD 9 true) = false → R7C gb A1 A2 k c1 c2 w
section
variable {gb k c1 c2 i : Nat} {A1 A2 : Option Addr} {l : Array Bool} {w : World}
theorem R7S.set (h4 : i ≠ 4) (h9 : i ≠ 9) : R7S gb A1 A2 k c1 c2 (l.setIfInBounds i true) w ↔ R7S gb A1 A2 k c1 c2 l w := by
  unfold R7S; rw [getD_set_ne true h4, getD_set_ne true h9]
theorem R7S.at4 (h : l.getD 4 true = false) (hs : R7S gb A1 A2 k c1 c2 l w) : R7C gb A1 A2 k c1 c2 w := hs (by rw [h]; rfl)
theorem R7S.at9 (h : l.getD 9 true = false) (hs : R7S gb A1 A2 k c1 c2 l w) : R7C gb A1 A2 k c1 c2 w := hs (by rw [h, Bool.and_false])
theorem R7S.keep {B : Nat} {wr : World} (hg : gb < B) (q1 : wr.cell? ⟨gb, 1, none⟩ = some (.slice A1 k c1)) (q2 : wr.cell? ⟨gb, 2, none⟩ = some (.slice A2 k c2)) (hb : Below B wr w) : R7S gb A1 A2 k c1 c2 l w :=
  fun _ => ⟨(hb.cell (p := ⟨gb, 1, none⟩) hg).trans q1, (hb.cell (p := ⟨gb, 2, none⟩) hg).trans q2⟩
end
set_option maxRecDepth 100000 in
set_option maxHeartbeats 3200000 in
theorem rmake_ok {A : Option Addr} {n c : Nat} {xs : List Int} {w : World} (h : Si w A n c xs) (he : wErr n xs = 0) :
    Calls Try.prog 14 #[.slice A n c] w (RMakeRet w (wsum xs n) n (aliasOf n xs)) := by
  have hm := h.len_max
  obtain ⟨b1, b2, b3, b4, b5⟩ := wErr_zero h.ilen he
  have HL := hide h.ilen
  obtain ⟨S, hS⟩ : ∃ S, wsum xs n = S := ⟨_, rfl⟩
  have HV := hide (show wVal n xs = S by rw [wVal, if_pos he, hS])
  have hS1 := wsum_okTo (n := n) (by rw [HL.out]; exact Nat.le_refl _) b2 n (Nat.le_refl _)
  rw [hS] at hS1
  have HP := fun k hk => aPre (n := n) (sum := S) b1 HL.out b3 k hk
  have HPI := hide (show AInv n S (loTo S n xs n) (hiTo S n xs n) from by have := (aPre (n := n) (sum := wsum xs n) b1 HL.out b3 n (Nat.le_refl _)).inv; rwa [hS] at this)
  obtain ⟨F, hF⟩ : ∃ F, aliasOf n xs = F := ⟨_, rfl⟩
  have HF := hide (show aRun S n (loTo S n xs n) (hiTo S n xs n) (List.replicate n S) ((List.range n).map fun (i : Nat) => (i : Int)) = F by rw [← hF, ← hS]; rfl)
  rw [hF, hS]
  have HPH := hide HP
  have HW := hide b3
  have HE := hide he
  obtain ⟨hS2, hS3⟩ := hS1
  have hS4 : S ≤ 40000000000000 := by omega
  clear hS b3 he b2 b5 hF HP hS3
  go_enter Try.func14, Try.ntmps14
  go_wp2_with fail
  refine (rweights_is (h.on (by repeat' (first | assumption | with_reducible exact Below.refl _ _ | with_reducible apply Below.drew | with_reducible apply below_drewN | with_reducible apply below_alloc | with_reducible refine below_set ?_ ?_ _ | (simp only [World.size_alloc, World.heap_drewN]; omega) | (simp; omega)))) HV.out HE.out).mono ?_
  rintro e w1 ⟨rfl, hb1⟩
  have hw1 : Below w.heap.size w w1 := below_on (by repeat' (first | assumption | with_reducible exact Below.refl _ _ | with_reducible apply Below.drew | with_reducible apply below_drewN | with_reducible apply below_alloc | with_reducible refine below_set ?_ ?_ _ | (simp only [World.size_alloc, World.heap_drewN]; omega) | (simp; omega))) hb1
  have rb1 := (Blk.new w 24 #[.int .i64 0, .slice none 0 0, .slice none 0 0]).below hb1 (Blk.new w 24 #[.int .i64 0, .slice none 0 0, .slice none 0 0]).lt
  have z1 := hb1.size
  simp only [World.size_alloc] at z1
  go_wp2_with fail
  obtain ⟨gb, hgb⟩ : ∃ gb, w1.heap.size = gb := ⟨_, rfl⟩
  obtain ⟨B, hB⟩ : ∃ B, w1.heap.size + 1 = B := ⟨_, rfl⟩
  have mk0 : RMk (w1.alloc (.cells #[.int .i64 S, .slice none 0 0, .slice none 0 0] 24)) B gb none none 0 0 0 S (List.replicate 0 S) ((List.range 0).map fun (i : Nat) => (i : Int)) :=
    ⟨by rw [← hgb]; exact Blk.new _ _ _, Own.nil _ _ _ _, Own.nil _ _ _ _, Apart.nil _, by omega⟩
  have hb12 : Below w1.heap.size w1 (w1.alloc (.cells #[.int .i64 S, .slice none 0 0, .slice none 0 0] 24)) := (Below.refl _ _).alloc (Nat.le_refl _) _
  have hz2 : B ≤ (w1.alloc (.cells #[.int .i64 S, .slice none 0 0, .slice none 0 0] 24)).heap.size := by rw [World.size_alloc]; omega
  have hx2 := h.on hw1
  have hB2 : w1.heap.size < B := by omega
  have HGB := hide hgb
  rw [hgb]
  clear hgb hB
  go_loopw [6, 7, 22] (fun lo hi i wr => ∃ (k : Nat) (Al Ah A1 A2 : Option Addr) (cl ch c1 c2 : Nat), k ≤ n ∧ i = .int .i64 k ∧ lo = .slice Al (loTo S n xs k).length cl ∧ hi = .slice Ah (hiTo S n xs k).length ch ∧
      Piles wr B Al Ah cl ch (loTo S n xs k) (hiTo S n xs k) ∧ RMk wr B gb A1 A2 k c1 c2 S (List.replicate k S) ((List.range k).map fun (i : Nat) => (i : Int)) ∧ Below w1.heap.size w1 wr ∧ B ≤ wr.heap.size) (fun _ _ i _ => n - (intOf i).toNat)
  case atStart => exact ⟨0, none, none, none, none, 0, 0, 0, 0, Nat.zero_le _, rfl, rfl, rfl, ⟨Own.nil _ _ _ _, Own.nil _ _ _ _, Apart.nil _⟩, mk0, hb12, hz2⟩
  case round =>
    clear mk0 hb12 hz2
    obtain ⟨k, Al, Ah, A1, A2, cl, ch, c1, c2, hk, rfl, rfl, rfl, hpl, hmk, hbr, hzr⟩ := hrel
    by_cases hlt : k < n
    · obtain ⟨ad, x, rfl, hb, hx, hc⟩ := (hx2.on hbr).icell hlt
      have q1 := hmk.pb.at_ (i := 1) rfl
      have q2 := hmk.pb.at_ (i := 2) rfl
      have u1 := hmk.pb.free 1
      have u2 := hmk.pb.free 2
      have oO := hmk.oO
      have oR := hmk.oR
      have hap2 := hmk.ap
      have hgB := hmk.lt
      have hgr : gb < wr.heap.size := by omega
      go_upto_region 7 with fail
      go_cut [27] (fun s27 wx => ∃ A1 A2 c1 c2, Piles wx B Al Ah cl ch (loTo S n xs k) (hiTo S n xs k) ∧ RMk wx B gb A1 A2 (k + 1) c1 c2 S (List.replicate (k + 1) S) ((List.range (k + 1)).map fun (i : Nat) => (i : Int)) ∧ Below w1.heap.size w1 wx ∧ B ≤ wx.heap.size)
      case first =>
        -- region 7
        refine anyTill.begin (S := R7S gb A1 A2 k c1 c2) (by kernel_rfl) ?_
        have hS : R7S gb A1 A2 k c1 c2 (Array.replicate 14 false) wr.drew := fun _ => ⟨q1, q2⟩
        refine anyTill.take (i := 0) (oi := { dst := some 27, op := .fieldAddr 24 (.tmp 5) 1, type := 0, pos := "low.go:444", after := #[], guard := none }) (v := ?_) rfl (by kernel_rfl) (by kernel_rfl) (by kernel_rfl) (fun _ _ _ h => h) (fun _ _ => R7S.set (by decide) (by decide)) (Or.inl ⟨by rfl, ?_⟩) hS ?_
        rotate_left
        · (intro w hSw; (try dsimp only at hSw); go_simp; try with_reducible rfl)
        try simp only [Act.put, List.setIfInBounds_toArray, List.set_cons_zero, List.set_cons_succ]
        replace hS := (R7S.set (i := 0) (by decide) (by decide)).2 hS
        refine anyTill.read (i := 1) (oi := { dst := some 28, op := .load 22 (.tmp 27), type := 22, pos := "low.go:444", after := #[{ on := 0, ground := .data }], guard := none }) (v := ?_) (m := 4) (C := R7C gb A1 A2 k c1 c2) rfl (by kernel_rfl) (by kernel_rfl) (by kernel_rfl) (by kernel_rfl) (by rfl) (fun _ _ => R7S.at4) (fun _ _ _ h => h) (fun _ _ => R7S.set (by decide) (by decide)) (Or.inl ⟨by rfl, ?_⟩) hS ?_
        rotate_left
        · (intro w hSw; (try dsimp only at hSw); obtain ⟨hSw1, hSw2⟩ := hSw; go_simp; try with_reducible rfl)
        try simp only [Act.put, List.setIfInBounds_toArray, List.set_cons_zero, List.set_cons_succ]
        replace hS := (R7S.set (i := 1) (by decide) (by decide)).2 hS
        refine anyTill.take (i := 2) (oi := { dst := some 29, op := .move (.tmp 3), type := 3, pos := "low.go:444", after := #[], guard := none }) (v := ?_) rfl (by kernel_rfl) (by kernel_rfl) (by kernel_rfl) (fun _ _ _ h => h) (fun _ _ => R7S.set (by decide) (by decide)) (Or.inl ⟨by rfl, ?_⟩) hS ?_
        rotate_left
        · (intro w hSw; (try dsimp only at hSw); go_simp; try with_reducible rfl)
        try simp only [Act.put, List.setIfInBounds_toArray, List.set_cons_zero, List.set_cons_succ]
        replace hS := (R7S.set (i := 2) (by decide) (by decide)).2 hS
        refine anyTill.take (i := 5) (oi := { dst := some 32, op := .fieldAddr 24 (.tmp 5) 2, type := 0, pos := "low.go:444", after := #[], guard := none }) (v := ?_) rfl (by kernel_rfl) (by kernel_rfl) (by kernel_rfl) (fun _ _ _ h => h) (fun _ _ => R7S.set (by decide) (by decide)) (Or.inl ⟨by rfl, ?_⟩) hS ?_
        rotate_left
        · (intro w hSw; (try dsimp only at hSw); go_simp; try with_reducible rfl)
        try simp only [Act.put, List.setIfInBounds_toArray, List.set_cons_zero, List.set_cons_succ]
        replace hS := (R7S.set (i := 5) (by decide) (by decide)).2 hS
        refine anyTill.read (i := 6) (oi := { dst := some 33, op := .load 22 (.tmp 32), type := 22, pos := "low.go:444", after := #[{ on := 5, ground := .data }], guard := none }) (v := ?_) (m := 9) (C := R7C gb A1 A2 k c1 c2) rfl (by kernel_rfl) (by kernel_rfl) (by kernel_rfl) (by kernel_rfl) (by rfl) (fun _ _ => R7S.at9) (fun _ _ _ h => h) (fun _ _ => R7S.set (by decide) (by decide)) (Or.inl ⟨by rfl, ?_⟩) hS ?_
        rotate_left
        · (intro w hSw; (try dsimp only at hSw); obtain ⟨hSw1, hSw2⟩ := hSw; go_simp; try with_reducible rfl)
        try simp only [Act.put, List.setIfInBounds_toArray, List.set_cons_zero, List.set_cons_succ]
        replace hS := (R7S.set (i := 6) (by decide) (by decide)).2 hS
        refine anyTill.take (i := 7) (oi := { dst := some 34, op := .move (.tmp 8), type := 3, pos := "low.go:444", after := #[], guard := none }) (v := ?_) rfl (by kernel_rfl) (by kernel_rfl) (by kernel_rfl) (fun _ _ _ h => h) (fun _ _ => R7S.set (by decide) (by decide)) (Or.inl ⟨by rfl, ?_⟩) hS ?_
        rotate_left
        · (intro w hSw; (try dsimp only at hSw); go_simp; try with_reducible rfl)
        try simp only [Act.put, List.setIfInBounds_toArray, List.set_cons_zero, List.set_cons_succ]
        replace hS := (R7S.set (i := 7) (by decide) (by decide)).2 hS
        refine anyTill.ready (rs := [3, 8]) (by kernel_rfl) (by simp) ?_
        refine AllTill.cons (o := { dst := some 30, op := .buildSlice 22 1 #[(0, .tmp 29)], type := 22, pos := "low.go:444", after := #[{ on := 2, ground := .data }], guard := none }) rfl (fun K hK => ?_) (AllTill.cons (o := { dst := some 35, op := .buildSlice 22 1 #[(0, .tmp 34)], type := 22, pos := "low.go:444", after := #[{ on := 7, ground := .data }], guard := none }) rfl (fun K hK => ?_) AllTill.nil)
        · clear hS
          go_simp
          refine hK.out _ _ (by exact R7S.keep hgB q1 q2 (by repeat' (first | assumption | with_reducible exact Below.refl _ _ | with_reducible apply Below.drew | (with_reducible refine Below.alloc ?_ ?_ _) | (simp only [World.size_alloc, World.drew]; omega) | (simp; omega)))) (fun hS => ?_)
          clear hK K
          try simp only [Act.put, List.setIfInBounds_toArray, List.set_cons_zero, List.set_cons_succ]
          refine anyTill.ready (rs := [4, 8]) (by kernel_rfl) (by simp) ?_
          refine AllTill.cons (o := { dst := some 31, op := .call { callee := .builtin .append, args := #[.tmp 28, .tmp 30], argTypes := #[22, 22] }, type := 22, pos := "low.go:444", after := #[{ on := 1, ground := .data }, { on := 3, ground := .data }], guard := none }) rfl (fun K hK => ?_) (AllTill.cons (o := { dst := some 35, op := .buildSlice 22 1 #[(0, .tmp 34)], type := 22, pos := "low.go:444", after := #[{ on := 7, ground := .data }], guard := none }) rfl (fun K hK => ?_) AllTill.nil)
          · clear hS
            refine step_append_one T_int (base := B) (A := A1) (xs := ints (List.replicate k S)) (v := .int .i64 S) (by rfl) (.tmp 28) (.tmp 30) (by rfl) (by rfl) (by rfl) ?_ ?_ rfl ?_ ?_ ?_ ?_
            · (first | with_reducible exact (oO.alloc _).drew | with_reducible exact ((oO.alloc _).alloc _).drew | with_reducible exact oO.drew | with_reducible exact oO | with_reducible exact oO.alloc _ | with_reducible exact (oO.alloc _).alloc _)
            · (first | with_reducible exact at_new _ _ | with_reducible exact at_newd _ _ | with_reducible exact at_new2 _ _ _ | with_reducible exact at_new2d _ _ _ | with_reducible exact at_new3 _ _ _ | with_reducible exact at_new3d _ _ _ | with_reducible exact (hh _ (lt_new2 _ _ _) (fun e => by have := (oO.blk e).2; omega)).trans (at_new2 _ _ _) | with_reducible exact (hh _ (lt_new2d _ _ _) (fun e => by have := (oO.blk e).2; omega)).trans (at_new2d _ _ _) | with_reducible exact (hh _ (lt_new3 _ _ _) (fun e => by have := (oO.blk e).2; omega)).trans (at_new3 _ _ _) | with_reducible exact (hh _ (lt_new3d _ _ _) (fun e => by have := (oO.blk e).2; omega)).trans (at_new3d _ _ _))
            · simp only [maxLen]; omega
            · omega
            · first | exact hzn | (simp only [World.drew, World.size_alloc]; omega)
            intro X1 d1 w2 ap
            have hkn : Below B wr w2 := Below.trans (by repeat' (first | assumption | with_reducible exact Below.refl _ _ | with_reducible apply Below.drew | (with_reducible refine Below.alloc ?_ ?_ _) | (simp only [World.size_alloc, World.drew]; omega) | (simp; omega))) ap.below
            have q1n := (hkn.cell (p := ⟨gb, 1, none⟩) hgB).trans q1
            have q2n := (hkn.cell (p := ⟨gb, 2, none⟩) hgB).trans q2
            have u1n := (hkn.frozen (p := ⟨gb, 1, none⟩) hgB).trans u1
            have u2n := (hkn.frozen (p := ⟨gb, 2, none⟩) hgB).trans u2
            have hzn : B ≤ w2.heap.size := Nat.le_trans hzr hkn.size
            have zgn : gb < w2.heap.size := Nat.lt_of_lt_of_le hgr hkn.size
            have hh := fun g hg hne => ap.grow.block g hg (Ne.symm hne)
            have oW := ap.here (e := 3) (size := 1) (base := B) (A2 := A2) (n2 := k) (c2 := c2) (x2 := ints ((List.range k).map fun (i : Nat) => (i : Int))) (by first | with_reducible exact (oR.alloc _).drew | with_reducible exact ((oR.alloc _).alloc _).drew | with_reducible exact oR.drew | with_reducible exact oR | with_reducible exact oR.alloc _ | with_reducible exact (oR.alloc _).alloc _)
            have oM := ap.here (e := 3) (size := 1) (base := B) (A2 := A1) (n2 := k) (c2 := c1) (x2 := ints (List.replicate k S)) (by first | with_reducible exact (oO.alloc _).drew | with_reducible exact ((oO.alloc _).alloc _).drew | with_reducible exact oO.drew | with_reducible exact oO | with_reducible exact oO.alloc _ | with_reducible exact (oO.alloc _).alloc _)
            have oRn := oW.grown_apart ap hap2
            have hapn := ap.apart oW hap2
            have own1 := ap.own
            have hpln := (ap.piles (by first | with_reducible exact (hpl.alloc _).drew | with_reducible exact ((hpl.alloc _).alloc _).drew | with_reducible exact hpl.drew | with_reducible exact hpl | with_reducible exact hpl.alloc _ | with_reducible exact (hpl.alloc _).alloc _)).grown ap oM
            clear oW oM
            refine hK.out _ _ (by exact R7S.keep hgB q1 q2 (by repeat' (first | assumption | with_reducible exact Below.refl _ _ | with_reducible apply Below.drew | (with_reducible refine Below.alloc ?_ ?_ _) | (simp only [World.size_alloc, World.drew]; omega) | (simp; omega)))) (fun hS => ?_)
            clear hK K
            try simp only [Act.put, List.setIfInBounds_toArray, List.set_cons_zero, List.set_cons_succ]
            refine anyTill.take (i := 10) (oi := { dst := some 37, op := .fieldAddr 24 (.tmp 5) 1, type := 0, pos := "low.go:444", after := #[{ on := 0, ground := .phase }, { on := 1, ground := .phase }, { on := 2, ground := .phase }, { on := 3, ground := .phase }, { on := 4, ground := .phase }, { on := 5, ground := .phase }, { on := 6, ground := .phase }, { on := 7, ground := .textOnly .lateStores }, { on := 8, ground := .textOnly .lateStores }, { on := 9, ground := .textOnly .lateStoresUnsure }], guard := none }) (v := ?_) rfl (by kernel_rfl) (by kernel_rfl) (by kernel_rfl) (fun _ _ _ h => h) (fun _ _ => R7S.set (by decide) (by decide)) (Or.inl ⟨by rfl, ?_⟩) hS ?_
            rotate_left
            · (intro w hSw; (try dsimp only at hSw); go_simp; try with_reducible rfl)
            try simp only [Act.put, List.setIfInBounds_toArray, List.set_cons_zero, List.set_cons_succ]
            replace hS := (R7S.set (i := 10) (by decide) (by decide)).2 hS
            refine anyTill.ready (rs := [8]) (by kernel_rfl) (by simp) ?_
            refine AllTill.cons (o := { dst := some 35, op := .buildSlice 22 1 #[(0, .tmp 34)], type := 22, pos := "low.go:444", after := #[{ on := 7, ground := .data }], guard := none }) rfl (fun K hK => ?_) AllTill.nil
            · clear hS
              go_simp
              refine hK.out _ _ (by exact R7S.keep hgB q1 q2 (by repeat' (first | assumption | with_reducible exact Below.refl _ _ | with_reducible apply Below.drew | (with_reducible refine Below.alloc ?_ ?_ _) | (simp only [World.size_alloc, World.drew]; omega) | (simp; omega)))) (fun hS => ?_)
              clear hK K
              try simp only [Act.put, List.setIfInBounds_toArray, List.set_cons_zero, List.set_cons_succ]
              refine anyTill.ready (rs := [9]) (by kernel_rfl) (by simp) ?_
              refine AllTill.cons (o := { dst := some 36, op := .call { callee := .builtin .append, args := #[.tmp 33, .tmp 35], argTypes := #[22, 22] }, type := 22, pos := "low.go:444", after := #[{ on := 6, ground := .data }, { on := 8, ground := .data }, { on := 4, ground := .chain }], guard := none }) rfl (fun K hK => ?_) AllTill.nil
              · clear hS
                refine step_append_one T_int (base := B) (A := A2) (xs := ints ((List.range k).map fun (i : Nat) => (i : Int))) (v := .int .i64 (k : Int)) (by rfl) (.tmp 33) (.tmp 35) (by rfl) (by rfl) (by rfl) ?_ ?_ rfl ?_ ?_ ?_ ?_
                · (first | with_reducible exact (oRn.alloc _).drew | with_reducible exact ((oRn.alloc _).alloc _).drew | with_reducible exact oRn.drew | with_reducible exact oRn | with_reducible exact oRn.alloc _ | with_reducible exact (oRn.alloc _).alloc _)
                · (first | with_reducible exact at_new _ _ | with_reducible exact at_newd _ _ | with_reducible exact at_new2 _ _ _ | with_reducible exact at_new2d _ _ _ | with_reducible exact at_new3 _ _ _ | with_reducible exact at_new3d _ _ _ | with_reducible exact (hh _ (lt_new2 _ _ _) (fun e => by have := (oO.blk e).2; omega)).trans (at_new2 _ _ _) | with_reducible exact (hh _ (lt_new2d _ _ _) (fun e => by have := (oO.blk e).2; omega)).trans (at_new2d _ _ _) | with_reducible exact (hh _ (lt_new3 _ _ _) (fun e => by have := (oO.blk e).2; omega)).trans (at_new3 _ _ _) | with_reducible exact (hh _ (lt_new3d _ _ _) (fun e => by have := (oO.blk e).2; omega)).trans (at_new3d _ _ _))
                · simp only [maxLen]; omega
                · omega
                · first | exact hzn | (simp only [World.drew, World.size_alloc]; omega)
                intro X2 d2 w2 ap
                have hkn : Below B wr w2 := Below.trans (by repeat' (first | assumption | with_reducible exact Below.refl _ _ | with_reducible apply Below.drew | (with_reducible refine Below.alloc ?_ ?_ _) | (simp only [World.size_alloc, World.drew]; omega) | (simp; omega))) ap.below
                have q1n := (hkn.cell (p := ⟨gb, 1, none⟩) hgB).trans q1
                have q2n := (hkn.cell (p := ⟨gb, 2, none⟩) hgB).trans q2
                have u1n := (hkn.frozen (p := ⟨gb, 1, none⟩) hgB).trans u1
                have u2n := (hkn.frozen (p := ⟨gb, 2, none⟩) hgB).trans u2
                have hzn : B ≤ w2.heap.size := Nat.le_trans hzr hkn.size
                have zgn : gb < w2.heap.size := Nat.lt_of_lt_of_le hgr hkn.size
                have hh := fun g hg hne => ap.grow.block g hg (Ne.symm hne)
                have oW := ap.here (by first | with_reducible exact (own1.alloc _).drew | with_reducible exact ((own1.alloc _).alloc _).drew | with_reducible exact own1.drew | with_reducible exact own1 | with_reducible exact own1.alloc _ | with_reducible exact (own1.alloc _).alloc _)
                have oM := ap.here (by first | with_reducible exact (oRn.alloc _).drew | with_reducible exact ((oRn.alloc _).alloc _).drew | with_reducible exact oRn.drew | with_reducible exact oRn | with_reducible exact oRn.alloc _ | with_reducible exact (oRn.alloc _).alloc _)
                have own1n := oW.grown_apart ap hapn.symm
                have hapF := (ap.apart oW hapn.symm).symm
                have own2n := ap.own
                have hplm := (ap.piles (by first | with_reducible exact (hpln.alloc _).drew | with_reducible exact ((hpln.alloc _).alloc _).drew | with_reducible exact hpln.drew | with_reducible exact hpln | with_reducible exact hpln.alloc _ | with_reducible exact (hpln.alloc _).alloc _)).grown ap oM
                clear hpln
                have hpln := hplm
                clear hplm oW oM
                refine hK.out _ _ (by exact fun h => absurd h (by decide)) (fun hS => ?_)
                clear hK K
                try simp only [Act.put, List.setIfInBounds_toArray, List.set_cons_zero, List.set_cons_succ]
                refine anyTill.ready (rs := [11]) (by kernel_rfl) (by simp) ?_
                refine AllTill.cons (o := { dst := none, op := .store 22 (.tmp 37) (.tmp 31), type := 0, pos := "low.go:444", after := #[{ on := 10, ground := .data }, { on := 4, ground := .data }, { on := 9, ground := .chain }, { on := 0, ground := .phase }, { on := 1, ground := .phase }, { on := 2, ground := .phase }, { on := 3, ground := .phase }, { on := 4, ground := .phase }, { on := 5, ground := .phase }, { on := 6, ground := .phase }, { on := 7, ground := .textOnly .lateStores }, { on := 8, ground := .textOnly .lateStores }, { on := 9, ground := .textOnly .lateStoresUnsure }], guard := none }) rfl (fun K hK => ?_) AllTill.nil
                · clear hS
                  go_simp
                  refine hK.out _ _ (by exact fun h => absurd h (by decide)) (fun hS => ?_)
                  clear hK K
                  try simp only [Act.put, List.setIfInBounds_toArray, List.set_cons_zero, List.set_cons_succ]
                  refine anyTill.take (i := 12) (oi := { dst := some 38, op := .fieldAddr 24 (.tmp 5) 2, type := 0, pos := "low.go:444", after := #[{ on := 0, ground := .phase }, { on := 1, ground := .phase }, { on := 2, ground := .phase }, { on := 3, ground := .phase }, { on := 4, ground := .phase }, { on := 5, ground := .phase }, { on := 6, ground := .phase }, { on := 7, ground := .phase }, { on := 8, ground := .phase }, { on := 9, ground := .phase }, { on := 10, ground := .phase }, { on := 11, ground := .phase }], guard := none }) (v := ?_) rfl (by kernel_rfl) (by kernel_rfl) (by kernel_rfl) (fun _ _ _ h => h) (fun _ _ => R7S.set (by decide) (by decide)) (Or.inl ⟨by rfl, ?_⟩) hS ?_
                  rotate_left
                  · (intro w hSw; (try dsimp only at hSw); go_simp; try with_reducible rfl)
                  try simp only [Act.put, List.setIfInBounds_toArray, List.set_cons_zero, List.set_cons_succ]
                  replace hS := (R7S.set (i := 12) (by decide) (by decide)).2 hS
                  refine anyTill.ready (rs := [13]) (by kernel_rfl) (by simp) ?_
                  refine AllTill.cons (o := { dst := none, op := .store 22 (.tmp 38) (.tmp 36), type := 0, pos := "low.go:444", after := #[{ on := 12, ground := .data }, { on := 9, ground := .data }, { on := 11, ground := .chain }, { on := 0, ground := .phase }, { on := 1, ground := .phase }, { on := 2, ground := .phase }, { on := 3, ground := .phase }, { on := 4, ground := .phase }, { on := 5, ground := .phase }, { on := 6, ground := .phase }, { on := 7, ground := .phase }, { on := 8, ground := .phase }, { on := 9, ground := .phase }, { on := 10, ground := .phase }, { on := 11, ground := .phase }], guard := none }) rfl (fun K hK => ?_) AllTill.nil
                  · clear hS
                    go_simp
                    refine hK.out _ _ (by exact fun h => absurd h (by decide)) (fun hS => ?_)
                    clear hK K
                    try simp only [Act.put, List.setIfInBounds_toArray, List.set_cons_zero, List.set_cons_succ]
                    refine anyTill.fin (by kernel_rfl) ?_ _
                    go_wp2_with fail
                    go_meet
                    have hgle : w1.heap.size ≤ gb := Nat.le_of_eq HGB.out
                    all_goals
                      refine ⟨X1, X2, d1, d2, (hpln.low (p := ⟨gb, 1, none⟩) hgB _).low (p := ⟨gb, 2, none⟩) hgB _, ⟨?_, ?_, ?_, ?_, hgB⟩, (hbr.trans (hkn.mono (by omega))).setCell (p := ⟨gb, 1, none⟩) (by dsimp only; omega) _ |>.setCell (p := ⟨gb, 2, none⟩) (by dsimp only; omega) _, by simp; omega⟩
                      · have := ((hmk.pb.below hkn hgB).set 1 (.slice X1 (k + 1) d1)).set 2 (.slice X2 (k + 1) d2)
                        simpa using this
                      · rw [List.replicate_succ', ints_append]
                        first | exact (own1n.low (p := ⟨gb, 1, none⟩) hgB _).low (p := ⟨gb, 2, none⟩) hgB _ | exact (own1.low (p := ⟨gb, 1, none⟩) hgB _).low (p := ⟨gb, 2, none⟩) hgB _
                      · rw [List.range_succ, List.map_append, ints_append]
                        first | exact (own2n.low (p := ⟨gb, 1, none⟩) hgB _).low (p := ⟨gb, 2, none⟩) hgB _ | exact (own2.low (p := ⟨gb, 1, none⟩) hgB _).low (p := ⟨gb, 2, none⟩) hgB _
                      · exact hapF
          · clear hS
            go_simp
            refine hK.out _ _ (by exact R7S.keep hgB q1 q2 (by repeat' (first | assumption | with_reducible exact Below.refl _ _ | with_reducible apply Below.drew | (with_reducible refine Below.alloc ?_ ?_ _) | (simp only [World.size_alloc, World.drew]; omega) | (simp; omega)))) (fun hS => ?_)
            clear hK K
            try simp only [Act.put, List.setIfInBounds_toArray, List.set_cons_zero, List.set_cons_succ]
            refine anyTill.ready (rs := [4]) (by kernel_rfl) (by simp) ?_
            refine AllTill.cons (o := { dst := some 31, op := .call { callee := .builtin .append, args := #[.tmp 28, .tmp 30], argTypes := #[22, 22] }, type := 22, pos := "low.go:444", after := #[{ on := 1, ground := .data }, { on := 3, ground := .data }], guard := none }) rfl (fun K hK => ?_) AllTill.nil
            · clear hS
              refine step_append_one T_int (base := B) (A := A1) (xs := ints (List.replicate k S)) (v := .int .i64 S) (by rfl) (.tmp 28) (.tmp 30) (by rfl) (by rfl) (by rfl) ?_ ?_ rfl ?_ ?_ ?_ ?_
              · (first | with_reducible exact (oO.alloc _).drew | with_reducible exact ((oO.alloc _).alloc _).drew | with_reducible exact oO.drew | with_reducible exact oO | with_reducible exact oO.alloc _ | with_reducible exact (oO.alloc _).alloc _)
              · (first | with_reducible exact at_new _ _ | with_reducible exact at_newd _ _ | with_reducible exact at_new2 _ _ _ | with_reducible exact at_new2d _ _ _ | with_reducible exact at_new3 _ _ _ | with_reducible exact at_new3d _ _ _ | with_reducible exact (hh _ (lt_new2 _ _ _) (fun e => by have := (oO.blk e).2; omega)).trans (at_new2 _ _ _) | with_reducible exact (hh _ (lt_new2d _ _ _) (fun e => by have := (oO.blk e).2; omega)).trans (at_new2d _ _ _) | with_reducible exact (hh _ (lt_new3 _ _ _) (fun e => by have := (oO.blk e).2; omega)).trans (at_new3 _ _ _) | with_reducible exact (hh _ (lt_new3d _ _ _) (fun e => by have := (oO.blk e).2; omega)).trans (at_new3d _ _ _))
              · simp only [maxLen]; omega
              · omega
              · first | exact hzn | (simp only [World.drew, World.size_alloc]; omega)
              intro X1 d1 w2 ap
              have hkn : Below B wr w2 := Below.trans (by repeat' (first | assumption | with_reducible exact Below.refl _ _ | with_reducible apply Below.drew | (with_reducible refine Below.alloc ?_ ?_ _) | (simp only [World.size_alloc, World.drew]; omega) | (simp; omega))) ap.below
              have q1n := (hkn.cell (p := ⟨gb, 1, none⟩) hgB).trans q1
              have q2n := (hkn.cell (p := ⟨gb, 2, none⟩) hgB).trans q2
              have u1n := (hkn.frozen (p := ⟨gb, 1, none⟩) hgB).trans u1
              have u2n := (hkn.frozen (p := ⟨gb, 2, none⟩) hgB).trans u2
              have hzn : B ≤ w2.heap.size := Nat.le_trans hzr hkn.size
              have zgn : gb < w2.heap.size := Nat.lt_of_lt_of_le hgr hkn.size
              have hh := fun g hg hne => ap.grow.block g hg (Ne.symm hne)
              have oW := ap.here (e := 3) (size := 1) (base := B) (A2 := A2) (n2 := k) (c2 := c2) (x2 := ints ((List.range k).map fun (i : Nat) => (i : Int))) (by first | with_reducible exact (oR.alloc _).drew | with_reducible exact ((oR.alloc _).alloc _).drew | with_reducible exact oR.drew | with_reducible exact oR | with_reducible exact oR.alloc _ | with_reducible exact (oR.alloc _).alloc _)
              have oM := ap.here (e := 3) (size := 1) (base := B) (A2 := A1) (n2 := k) (c2 := c1) (x2 := ints (List.replicate k S)) (by first | with_reducible exact (oO.alloc _).drew | with_reducible exact ((oO.alloc _).alloc _).drew | with_reducible exact oO.drew | with_reducible exact oO | with_reducible exact oO.alloc _ | with_reducible exact (oO.alloc _).alloc _)
              have oRn := oW.grown_apart ap hap2
              have hapn := ap.apart oW hap2
              have own1 := ap.own
              have hpln := (ap.piles (by first | with_reducible exact (hpl.alloc _).drew | with_reducible exact ((hpl.alloc _).alloc _).drew | with_reducible exact hpl.drew | with_reducible exact hpl | with_reducible exact hpl.alloc _ | with_reducible exact (hpl.alloc _).alloc _)).grown ap oM
              clear oW oM
              refine hK.out _ _ (by exact R7S.keep hgB q1 q2 (by repeat' (first | assumption | with_reducible exact Below.refl _ _ | with_reducible apply Below.drew | (with_reducible refine Below.alloc ?_ ?_ _) | (simp only [World.size_alloc, World.drew]; omega) | (simp; omega)))) (fun hS => ?_)
              clear hK K
              try simp only [Act.put, List.setIfInBounds_toArray, List.set_cons_zero, List.set_cons_succ]
              refine anyTill.take (i := 10) (oi := { dst := some 37, op := .fieldAddr 24 (.tmp 5) 1, type := 0, pos := "low.go:444", after := #[{ on := 0, ground := .phase }, { on := 1, ground := .phase }, { on := 2, ground := .phase }, { on := 3, ground := .phase }, { on := 4, ground := .phase }, { on := 5, ground := .phase }, { on := 6, ground := .phase }, { on := 7, ground := .textOnly .lateStores }, { on := 8, ground := .textOnly .lateStores }, { on := 9, ground := .textOnly .lateStoresUnsure }], guard := none }) (v := ?_) rfl (by kernel_rfl) (by kernel_rfl) (by kernel_rfl) (fun _ _ _ h => h) (fun _ _ => R7S.set (by decide) (by decide)) (Or.inl ⟨by rfl, ?_⟩) hS ?_
              rotate_left
              · (intro w hSw; (try dsimp only at hSw); go_simp; try with_reducible rfl)
              try simp only [Act.put, List.setIfInBounds_toArray, List.set_cons_zero, List.set_cons_succ]
              replace hS := (R7S.set (i := 10) (by decide) (by decide)).2 hS
              refine anyTill.ready (rs := [9]) (by kernel_rfl) (by simp) ?_
              refine AllTill.cons (o := { dst := some 36, op := .call { callee := .builtin .append, args := #[.tmp 33, .tmp 35], argTypes := #[22, 22] }, type := 22, pos := "low.go:444", after := #[{ on := 6, ground := .data }, { on := 8, ground := .data }, { on := 4, ground := .chain }], guard := none }) rfl (fun K hK => ?_) AllTill.nil
              · clear hS
                refine step_append_one T_int (base := B) (A := A2) (xs := ints ((List.range k).map fun (i : Nat) => (i : Int))) (v := .int .i64 (k : Int)) (by rfl) (.tmp 33) (.tmp 35) (by rfl) (by rfl) (by rfl) ?_ ?_ rfl ?_ ?_ ?_ ?_
                · (first | with_reducible exact (oRn.alloc _).drew | with_reducible exact ((oRn.alloc _).alloc _).drew | with_reducible exact oRn.drew | with_reducible exact oRn | with_reducible exact oRn.alloc _ | with_reducible exact (oRn.alloc _).alloc _)
                · (first | with_reducible exact at_new _ _ | with_reducible exact at_newd _ _ | with_reducible exact at_new2 _ _ _ | with_reducible exact at_new2d _ _ _ | with_reducible exact at_new3 _ _ _ | with_reducible exact at_new3d _ _ _ | with_reducible exact (hh _ (lt_new2 _ _ _) (fun e => by have := (oO.blk e).2; omega)).trans (at_new2 _ _ _) | with_reducible exact (hh _ (lt_new2d _ _ _) (fun e => by have := (oO.blk e).2; omega)).trans (at_new2d _ _ _) | with_reducible exact (hh _ (lt_new3 _ _ _) (fun e => by have := (oO.blk e).2; omega)).trans (at_new3 _ _ _) | with_reducible exact (hh _ (lt_new3d _ _ _) (fun e => by have := (oO.blk e).2; omega)).trans (at_new3d _ _ _))
                · simp only [maxLen]; omega
                · omega
                · first | exact hzn | (simp only [World.drew, World.size_alloc]; omega)
                intro X2 d2 w2 ap
                have hkn : Below B wr w2 := Below.trans (by repeat' (first | assumption | with_reducible exact Below.refl _ _ | with_reducible apply Below.drew | (with_reducible refine Below.alloc ?_ ?_ _) | (simp only [World.size_alloc, World.drew]; omega) | (simp; omega))) ap.below
                have q1n := (hkn.cell (p := ⟨gb, 1, none⟩) hgB).trans q1
                have q2n := (hkn.cell (p := ⟨gb, 2, none⟩) hgB).trans q2
                have u1n := (hkn.frozen (p := ⟨gb, 1, none⟩) hgB).trans u1
                have u2n := (hkn.frozen (p := ⟨gb, 2, none⟩) hgB).trans u2
                have hzn : B ≤ w2.heap.size := Nat.le_trans hzr hkn.size
                have zgn : gb < w2.heap.size := Nat.lt_of_lt_of_le hgr hkn.size
                have hh := fun g hg hne => ap.grow.block g hg (Ne.symm hne)
                have oW := ap.here (by first | with_reducible exact (own1.alloc _).drew | with_reducible exact ((own1.alloc _).alloc _).drew | with_reducible exact own1.drew | with_reducible exact own1 | with_reducible exact own1.alloc _ | with_reducible exact (own1.alloc _).alloc _)
                have oM := ap.here (by first | with_reducible exact (oRn.alloc _).drew | with_reducible exact ((oRn.alloc _).alloc _).drew | with_reducible exact oRn.drew | with_reducible exact oRn | with_reducible exact oRn.alloc _ | with_reducible exact (oRn.alloc _).alloc _)
                have own1n := oW.grown_apart ap hapn.symm
                have hapF := (ap.apart oW hapn.symm).symm
                have own2n := ap.own
                have hplm := (ap.piles (by first | with_reducible exact (hpln.alloc _).drew | with_reducible exact ((hpln.alloc _).alloc _).drew | with_reducible exact hpln.drew | with_reducible exact hpln | with_reducible exact hpln.alloc _ | with_reducible exact (hpln.alloc _).alloc _)).grown ap oM
                clear hpln
                have hpln := hplm
                clear hplm oW oM
                refine hK.out _ _ (by exact fun h => absurd h (by decide)) (fun hS => ?_)
                clear hK K
                try simp only [Act.put, List.setIfInBounds_toArray, List.set_cons_zero, List.set_cons_succ]
                refine anyTill.ready (rs := [11]) (by kernel_rfl) (by simp) ?_
                refine AllTill.cons (o := { dst := none, op := .store 22 (.tmp 37) (.tmp 31), type := 0, pos := "low.go:444", after := #[{ on := 10, ground := .data }, { on := 4, ground := .data }, { on := 9, ground := .chain }, { on := 0, ground := .phase }, { on := 1, ground := .phase }, { on := 2, ground := .phase }, { on := 3, ground := .phase }, { on := 4, ground := .phase }, { on := 5, ground := .phase }, { on := 6, ground := .phase }, { on := 7, ground := .textOnly .lateStores }, { on := 8, ground := .textOnly .lateStores }, { on := 9, ground := .textOnly .lateStoresUnsure }], guard := none }) rfl (fun K hK => ?_) AllTill.nil
                · clear hS
                  go_simp
                  refine hK.out _ _ (by exact fun h => absurd h (by decide)) (fun hS => ?_)
                  clear hK K
                  try simp only [Act.put, List.setIfInBounds_toArray, List.set_cons_zero, List.set_cons_succ]
                  refine anyTill.take (i := 12) (oi := { dst := some 38, op := .fieldAddr 24 (.tmp 5) 2, type := 0, pos := "low.go:444", after := #[{ on := 0, ground := .phase }, { on := 1, ground := .phase }, { on := 2, ground := .phase }, { on := 3, ground := .phase }, { on := 4, ground := .phase }, { on := 5, ground := .phase }, { on := 6, ground := .phase }, { on := 7, ground := .phase }, { on := 8, ground := .phase }, { on := 9, ground := .phase }, { on := 10, ground := .phase }, { on := 11, ground := .phase }], guard := none }) (v := ?_) rfl (by kernel_rfl) (by kernel_rfl) (by kernel_rfl) (fun _ _ _ h => h) (fun _ _ => R7S.set (by decide) (by decide)) (Or.inl ⟨by rfl, ?_⟩) hS ?_
                  rotate_left
                  · (intro w hSw; (try dsimp only at hSw); go_simp; try with_reducible rfl)
                  try simp only [Act.put, List.setIfInBounds_toArray, List.set_cons_zero, List.set_cons_succ]
                  replace hS := (R7S.set (i := 12) (by decide) (by decide)).2 hS
                  refine anyTill.ready (rs := [13]) (by kernel_rfl) (by simp) ?_
                  refine AllTill.cons (o := { dst := none, op := .store 22 (.tmp 38) (.tmp 36), type := 0, pos := "low.go:444", after := #[{ on := 12, ground := .data }, { on := 9, ground := .data }, { on := 11, ground := .chain }, { on := 0, ground := .phase }, { on := 1, ground := .phase }, { on := 2, ground := .phase }, { on := 3, ground := .phase }, { on := 4, ground := .phase }, { on := 5, ground := .phase }, { on := 6, ground := .phase }, { on := 7, ground := .phase }, { on := 8, ground := .phase }, { on := 9, ground := .phase }, { on := 10, ground := .phase }, { on := 11, ground := .phase }], guard := none }) rfl (fun K hK => ?_) AllTill.nil
                  · clear hS
                    go_simp
                    refine hK.out _ _ (by exact fun h => absurd h (by decide)) (fun hS => ?_)
                    clear hK K
                    try simp only [Act.put, List.setIfInBounds_toArray, List.set_cons_zero, List.set_cons_succ]
                    refine anyTill.fin (by kernel_rfl) ?_ _
                    go_wp2_with fail
                    go_meet
                    have hgle : w1.heap.size ≤ gb := Nat.le_of_eq HGB.out
                    all_goals
                      refine ⟨X1, X2, d1, d2, (hpln.low (p := ⟨gb, 1, none⟩) hgB _).low (p := ⟨gb, 2, none⟩) hgB _, ⟨?_, ?_, ?_, ?_, hgB⟩, (hbr.trans (hkn.mono (by omega))).setCell (p := ⟨gb, 1, none⟩) (by dsimp only; omega) _ |>.setCell (p := ⟨gb, 2, none⟩) (by dsimp only; omega) _, by simp; omega⟩
                      · have := ((hmk.pb.below hkn hgB).set 1 (.slice X1 (k + 1) d1)).set 2 (.slice X2 (k + 1) d2)
                        simpa using this
                      · rw [List.replicate_succ', ints_append]
                        first | exact (own1n.low (p := ⟨gb, 1, none⟩) hgB _).low (p := ⟨gb, 2, none⟩) hgB _ | exact (own1.low (p := ⟨gb, 1, none⟩) hgB _).low (p := ⟨gb, 2, none⟩) hgB _
                      · rw [List.range_succ, List.map_append, ints_append]
                        first | exact (own2n.low (p := ⟨gb, 1, none⟩) hgB _).low (p := ⟨gb, 2, none⟩) hgB _ | exact (own2.low (p := ⟨gb, 1, none⟩) hgB _).low (p := ⟨gb, 2, none⟩) hgB _
                      · exact hapF
        · clear hS
          go_simp
          refine hK.out _ _ (by exact R7S.keep hgB q1 q2 (by repeat' (first | assumption | with_reducible exact Below.refl _ _ | with_reducible apply Below.drew | (with_reducible refine Below.alloc ?_ ?_ _) | (simp only [World.size_alloc, World.drew]; omega) | (simp; omega)))) (fun hS => ?_)
          clear hK K
          try simp only [Act.put, List.setIfInBounds_toArray, List.set_cons_zero, List.set_cons_succ]
          refine anyTill.ready (rs := [3]) (by kernel_rfl) (by simp) ?_
          refine AllTill.cons (o := { dst := some 30, op := .buildSlice 22 1 #[(0, .tmp 29)], type := 22, pos := "low.go:444", after := #[{ on := 2, ground := .data }], guard := none }) rfl (fun K hK => ?_) AllTill.nil
          · clear hS
            go_simp
            refine hK.out _ _ (by exact R7S.keep hgB q1 q2 (by repeat' (first | assumption | with_reducible exact Below.refl _ _ | with_reducible apply Below.drew | (with_reducible refine Below.alloc ?_ ?_ _) | (simp only [World.size_alloc, World.drew]; omega) | (simp; omega)))) (fun hS => ?_)
            clear hK K
            try simp only [Act.put, List.setIfInBounds_toArray, List.set_cons_zero, List.set_cons_succ]
            refine anyTill.ready (rs := [4]) (by kernel_rfl) (by simp) ?_
            refine AllTill.cons (o := { dst := some 31, op := .call { callee := .builtin .append, args := #[.tmp 28, .tmp 30], argTypes := #[22, 22] }, type := 22, pos := "low.go:444", after := #[{ on := 1, ground := .data }, { on := 3, ground := .data }], guard := none }) rfl (fun K hK => ?_) AllTill.nil
            · clear hS
              refine step_append_one T_int (base := B) (A := A1) (xs := ints (List.replicate k S)) (v := .int .i64 S) (by rfl) (.tmp 28) (.tmp 30) (by rfl) (by rfl) (by rfl) ?_ ?_ rfl ?_ ?_ ?_ ?_
              · (first | with_reducible exact (oO.alloc _).drew | with_reducible exact ((oO.alloc _).alloc _).drew | with_reducible exact oO.drew | with_reducible exact oO | with_reducible exact oO.alloc _ | with_reducible exact (oO.alloc _).alloc _)
              · (first | with_reducible exact at_new _ _ | with_reducible exact at_newd _ _ | with_reducible exact at_new2 _ _ _ | with_reducible exact at_new2d _ _ _ | with_reducible exact at_new3 _ _ _ | with_reducible exact at_new3d _ _ _ | with_reducible exact (hh _ (lt_new2 _ _ _) (fun e => by have := (oO.blk e).2; omega)).trans (at_new2 _ _ _) | with_reducible exact (hh _ (lt_new2d _ _ _) (fun e => by have := (oO.blk e).2; omega)).trans (at_new2d _ _ _) | with_reducible exact (hh _ (lt_new3 _ _ _) (fun e => by have := (oO.blk e).2; omega)).trans (at_new3 _ _ _) | with_reducible exact (hh _ (lt_new3d _ _ _) (fun e => by have := (oO.blk e).2; omega)).trans (at_new3d _ _ _))
              · simp only [maxLen]; omega
              · omega
              · first | exact hzn | (simp only [World.drew, World.size_alloc]; omega)
              intro X1 d1 w2 ap
              have hkn : Below B wr w2 := Below.trans (by repeat' (first | assumption | with_reducible exact Below.refl _ _ | with_reducible apply Below.drew | (with_reducible refine Below.alloc ?_ ?_ _) | (simp only [World.size_alloc, World.drew]; omega) | (simp; omega))) ap.below
              have q1n := (hkn.cell (p := ⟨gb, 1, none⟩) hgB).trans q1
              have q2n := (hkn.cell (p := ⟨gb, 2, none⟩) hgB).trans q2
              have u1n := (hkn.frozen (p := ⟨gb, 1, none⟩) hgB).trans u1
              have u2n := (hkn.frozen (p := ⟨gb, 2, none⟩) hgB).trans u2
              have hzn : B ≤ w2.heap.size := Nat.le_trans hzr hkn.size
              have zgn : gb < w2.heap.size := Nat.lt_of_lt_of_le hgr hkn.size
              have hh := fun g hg hne => ap.grow.block g hg (Ne.symm hne)
              have oW := ap.here (e := 3) (size := 1) (base := B) (A2 := A2) (n2 := k) (c2 := c2) (x2 := ints ((List.range k).map fun (i : Nat) => (i : Int))) (by first | with_reducible exact (oR.alloc _).drew | with_reducible exact ((oR.alloc _).alloc _).drew | with_reducible exact oR.drew | with_reducible exact oR | with_reducible exact oR.alloc _ | with_reducible exact (oR.alloc _).alloc _)
              have oM := ap.here (e := 3) (size := 1) (base := B) (A2 := A1) (n2 := k) (c2 := c1) (x2 := ints (List.replicate k S)) (by first | with_reducible exact (oO.alloc _).drew | with_reducible exact ((oO.alloc _).alloc _).drew | with_reducible exact oO.drew | with_reducible exact oO | with_reducible exact oO.alloc _ | with_reducible exact (oO.alloc _).alloc _)
              have oRn := oW.grown_apart ap hap2
              have hapn := ap.apart oW hap2
              have own1 := ap.own
              have hpln := (ap.piles (by first | with_reducible exact (hpl.alloc _).drew | with_reducible exact ((hpl.alloc _).alloc _).drew | with_reducible exact hpl.drew | with_reducible exact hpl | with_reducible exact hpl.alloc _ | with_reducible exact (hpl.alloc _).alloc _)).grown ap oM
              clear oW oM
              refine hK.out _ _ (by exact R7S.keep hgB q1 q2 (by repeat' (first | assumption | with_reducible exact Below.refl _ _ | with_reducible apply Below.drew | (with_reducible refine Below.alloc ?_ ?_ _) | (simp only [World.size_alloc, World.drew]; omega) | (simp; omega)))) (fun hS => ?_)
              clear hK K
              try simp only [Act.put, List.setIfInBounds_toArray, List.set_cons_zero, List.set_cons_succ]
              refine anyTill.take (i := 10) (oi := { dst := some 37, op := .fieldAddr 24 (.tmp 5) 1, type := 0, pos := "low.go:444", after := #[{ on := 0, ground := .phase }, { on := 1, ground := .phase }, { on := 2, ground := .phase }, { on := 3, ground := .phase }, { on := 4, ground := .phase }, { on := 5, ground := .phase }, { on := 6, ground := .phase }, { on := 7, ground := .textOnly .lateStores }, { on := 8, ground := .textOnly .lateStores }, { on := 9, ground := .textOnly .lateStoresUnsure }], guard := none }) (v := ?_) rfl (by kernel_rfl) (by kernel_rfl) (by kernel_rfl) (fun _ _ _ h => h) (fun _ _ => R7S.set (by decide) (by decide)) (Or.inl ⟨by rfl, ?_⟩) hS ?_
              rotate_left
              · (intro w hSw; (try dsimp only at hSw); go_simp; try with_reducible rfl)
              try simp only [Act.put, List.setIfInBounds_toArray, List.set_cons_zero, List.set_cons_succ]
              replace hS := (R7S.set (i := 10) (by decide) (by decide)).2 hS
              refine anyTill.ready (rs := [9]) (by kernel_rfl) (by simp) ?_
              refine AllTill.cons (o := { dst := some 36, op := .call { callee := .builtin .append, args := #[.tmp 33, .tmp 35], argTypes := #[22, 22] }, type := 22, pos := "low.go:444", after := #[{ on := 6, ground := .data }, { on := 8, ground := .data }, { on := 4, ground := .chain }], guard := none }) rfl (fun K hK => ?_) AllTill.nil
              · clear hS
                refine step_append_one T_int (base := B) (A := A2) (xs := ints ((List.range k).map fun (i : Nat) => (i : Int))) (v := .int .i64 (k : Int)) (by rfl) (.tmp 33) (.tmp 35) (by rfl) (by rfl) (by rfl) ?_ ?_ rfl ?_ ?_ ?_ ?_
                · (first | with_reducible exact (oRn.alloc _).drew | with_reducible exact ((oRn.alloc _).alloc _).drew | with_reducible exact oRn.drew | with_reducible exact oRn | with_reducible exact oRn.alloc _ | with_reducible exact (oRn.alloc _).alloc _)
                · (first | with_reducible exact at_new _ _ | with_reducible exact at_newd _ _ | with_reducible exact at_new2 _ _ _ | with_reducible exact at_new2d _ _ _ | with_reducible exact at_new3 _ _ _ | with_reducible exact at_new3d _ _ _ | with_reducible exact (hh _ (lt_new2 _ _ _) (fun e => by have := (oO.blk e).2; omega)).trans (at_new2 _ _ _) | with_reducible exact (hh _ (lt_new2d _ _ _) (fun e => by have := (oO.blk e).2; omega)).trans (at_new2d _ _ _) | with_reducible exact (hh _ (lt_new3 _ _ _) (fun e => by have := (oO.blk e).2; omega)).trans (at_new3 _ _ _) | with_reducible exact (hh _ (lt_new3d _ _ _) (fun e => by have := (oO.blk e).2; omega)).trans (at_new3d _ _ _))
                · simp only [maxLen]; omega
                · omega
                · first | exact hzn | (simp only [World.drew, World.size_alloc]; omega)
                intro X2 d2 w2 ap
                have hkn : Below B wr w2 := Below.trans (by repeat' (first | assumption | with_reducible exact Below.refl _ _ | with_reducible apply Below.drew | (with_reducible refine Below.alloc ?_ ?_ _) | (simp only [World.size_alloc, World.drew]; omega) | (simp; omega))) ap.below
                have q1n := (hkn.cell (p := ⟨gb, 1, none⟩) hgB).trans q1
                have q2n := (hkn.cell (p := ⟨gb, 2, none⟩) hgB).trans q2
                have u1n := (hkn.frozen (p := ⟨gb, 1, none⟩) hgB).trans u1
                have u2n := (hkn.frozen (p := ⟨gb, 2, none⟩) hgB).trans u2
                have hzn : B ≤ w2.heap.size := Nat.le_trans hzr hkn.size
                have zgn : gb < w2.heap.size := Nat.lt_of_lt_of_le hgr hkn.size
                have hh := fun g hg hne => ap.grow.block g hg (Ne.symm hne)
                have oW := ap.here (by first | with_reducible exact (own1.alloc _).drew | with_reducible exact ((own1.alloc _).alloc _).drew | with_reducible exact own1.drew | with_reducible exact own1 | with_reducible exact own1.alloc _ | with_reducible exact (own1.alloc _).alloc _)
                have oM := ap.here (by first | with_reducible exact (oRn.alloc _).drew | with_reducible exact ((oRn.alloc _).alloc _).drew | with_reducible exact oRn.drew | with_reducible exact oRn | with_reducible exact oRn.alloc _ | with_reducible exact (oRn.alloc _).alloc _)
                have own1n := oW.grown_apart ap hapn.symm
                have hapF := (ap.apart oW hapn.symm).symm
                have own2n := ap.own
                have hplm := (ap.piles (by first | with_reducible exact (hpln.alloc _).drew | with_reducible exact ((hpln.alloc _).alloc _).drew | with_reducible exact hpln.drew | with_reducible exact hpln | with_reducible exact hpln.alloc _ | with_reducible exact (hpln.alloc _).alloc _)).grown ap oM
                clear hpln
                have hpln := hplm
                clear hplm oW oM
                refine hK.out _ _ (by exact fun h => absurd h (by decide)) (fun hS => ?_)
                clear hK K
                try simp only [Act.put, List.setIfInBounds_toArray, List.set_cons_zero, List.set_cons_succ]
                refine anyTill.ready (rs := [11]) (by kernel_rfl) (by simp) ?_
                refine AllTill.cons (o := { dst := none, op := .store 22 (.tmp 37) (.tmp 31), type := 0, pos := "low.go:444", after := #[{ on := 10, ground := .data }, { on := 4, ground := .data }, { on := 9, ground := .chain }, { on := 0, ground := .phase }, { on := 1, ground := .phase }, { on := 2, ground := .phase }, { on := 3, ground := .phase }, { on := 4, ground := .phase }, { on := 5, ground := .phase }, { on := 6, ground := .phase }, { on := 7, ground := .textOnly .lateStores }, { on := 8, ground := .textOnly .lateStores }, { on := 9, ground := .textOnly .lateStoresUnsure }], guard := none }) rfl (fun K hK => ?_) AllTill.nil
                · clear hS
                  go_simp
                  refine hK.out _ _ (by exact fun h => absurd h (by decide)) (fun hS => ?_)
                  clear hK K
                  try simp only [Act.put, List.setIfInBounds_toArray, List.set_cons_zero, List.set_cons_succ]
                  refine anyTill.take (i := 12) (oi := { dst := some 38, op := .fieldAddr 24 (.tmp 5) 2, type := 0, pos := "low.go:444", after := #[{ on := 0, ground := .phase }, { on := 1, ground := .phase }, { on := 2, ground := .phase }, { on := 3, ground := .phase }, { on := 4, ground := .phase }, { on := 5, ground := .phase }, { on := 6, ground := .phase }, { on := 7, ground := .phase }, { on := 8, ground := .phase }, { on := 9, ground := .phase }, { on := 10, ground := .phase }, { on := 11, ground := .phase }], guard := none }) (v := ?_) rfl (by kernel_rfl) (by kernel_rfl) (by kernel_rfl) (fun _ _ _ h => h) (fun _ _ => R7S.set (by decide) (by decide)) (Or.inl ⟨by rfl, ?_⟩) hS ?_
                  rotate_left
                  · (intro w hSw; (try dsimp only at hSw); go_simp; try with_reducible rfl)
                  try simp only [Act.put, List.setIfInBounds_toArray, List.set_cons_zero, List.set_cons_succ]
                  replace hS := (R7S.set (i := 12) (by decide) (by decide)).2 hS
                  refine anyTill.ready (rs := [13]) (by kernel_rfl) (by simp) ?_
                  refine AllTill.cons (o := { dst := none, op := .store 22 (.tmp 38) (.tmp 36), type := 0, pos := "low.go:444", after := #[{ on := 12, ground := .data }, { on := 9, ground := .data }, { on := 11, ground := .chain }, { on := 0, ground := .phase }, { on := 1, ground := .phase }, { on := 2, ground := .phase }, { on := 3, ground := .phase }, { on := 4, ground := .phase }, { on := 5, ground := .phase }, { on := 6, ground := .phase }, { on := 7, ground := .phase }, { on := 8, ground := .phase }, { on := 9, ground := .phase }, { on := 10, ground := .phase }, { on := 11, ground := .phase }], guard := none }) rfl (fun K hK => ?_) AllTill.nil
                  · clear hS
                    go_simp
                    refine hK.out _ _ (by exact fun h => absurd h (by decide)) (fun hS => ?_)
                    clear hK K
                    try simp only [Act.put, List.setIfInBounds_toArray, List.set_cons_zero, List.set_cons_succ]
                    refine anyTill.fin (by kernel_rfl) ?_ _
                    go_wp2_with fail
                    go_meet
                    have hgle : w1.heap.size ≤ gb := Nat.le_of_eq HGB.out
                    all_goals
                      refine ⟨X1, X2, d1, d2, (hpln.low (p := ⟨gb, 1, none⟩) hgB _).low (p := ⟨gb, 2, none⟩) hgB _, ⟨?_, ?_, ?_, ?_, hgB⟩, (hbr.trans (hkn.mono (by omega))).setCell (p := ⟨gb, 1, none⟩) (by dsimp only; omega) _ |>.setCell (p := ⟨gb, 2, none⟩) (by dsimp only; omega) _, by simp; omega⟩
                      · have := ((hmk.pb.below hkn hgB).set 1 (.slice X1 (k + 1) d1)).set 2 (.slice X2 (k + 1) d2)
                        simpa using this
                      · rw [List.replicate_succ', ints_append]
                        first | exact (own1n.low (p := ⟨gb, 1, none⟩) hgB _).low (p := ⟨gb, 2, none⟩) hgB _ | exact (own1.low (p := ⟨gb, 1, none⟩) hgB _).low (p := ⟨gb, 2, none⟩) hgB _
                      · rw [List.range_succ, List.map_append, ints_append]
                        first | exact (own2n.low (p := ⟨gb, 1, none⟩) hgB _).low (p := ⟨gb, 2, none⟩) hgB _ | exact (own2.low (p := ⟨gb, 1, none⟩) hgB _).low (p := ⟨gb, 2, none⟩) hgB _
                      · exact hapF
      case rest =>
        obtain ⟨A1', A2', c1', c2', hpl', hmk', hb', hz'⟩ := hcut
        clear hpl hmk q1 q2 u1 u2 oO oR hap2 hbr
        have hxb := HW.out x (List.mem_of_getElem? hx)
        obtain ⟨m1, m2⟩ := times_bound hxb.1 hxb.2 b1
        have hlen := (HPH.out k hk).len
        by_cases hs : x * (n : Int) < S
        · obtain ⟨e1, e2⟩ := loTo_next hx hs
          have E1 := hide e1
          have E2 := hide e2
          clear e1 e2 hx
          obtain ⟨T, hT⟩ : ∃ T, x * (n : Int) = T := ⟨_, rfl⟩
          rw [hT] at m1 m2 hs E1
          go_wp2_with (at_builtin; refine wpList_append_sl T_bit rfl _ _ rfl (by rfl) (by rfl) (Own.of_blk (base := B) (n := 1) (at_new3 _ _ _) (by omega) (by simp [maxLen]) rfl) (((hpl'.l.alloc _).alloc _).sl) (bits2_one (loTo S n xs k)) (by simp only [maxLen]; omega) (by omega) (by simp; omega) ?_; intro A3 c3 w3 ap)
          have hpl3 := hpl'.pushL (p := (k, T)) ap
          have hmk3 := hmk'.push (by omega) ap
          have hb3 : Below w1.heap.size w1 w3 := ((hb'.alloc (by omega) _).alloc (by simp; omega) _).trans (ap.below.mono (by omega))
          have hz3 : B ≤ w3.heap.size := Nat.le_trans (by simp; omega) ap.below.size
          clear ap
          go_wp2_with fail
          go_roundw
          case rel => exact ⟨k + 1, A3, Ah, A1', A2', c3, ch, c1', c2', by omega, by go_num, by rw [E1.out, List.length_cons, Nat.add_comm], by rw [E2.out], by rw [E1.out, E2.out]; exact hpl3, hmk3, hb3, hz3⟩
          case measure => simp [intOf]; omega
        · obtain ⟨e1, e2⟩ := hiTo_next hx hs
          have E1 := hide e1
          have E2 := hide e2
          clear e1 e2 hx
          obtain ⟨T, hT⟩ : ∃ T, x * (n : Int) = T := ⟨_, rfl⟩
          rw [hT] at m1 m2 hs E2
          go_wp2_with (at_builtin; refine wpList_append_sl T_bit rfl _ _ rfl (by rfl) (by rfl) (Own.of_blk (base := B) (n := 1) (at_new3 _ _ _) (by omega) (by simp [maxLen]) rfl) (((hpl'.h.alloc _).alloc _).sl) (bits2_one (hiTo S n xs k)) (by simp only [maxLen]; omega) (by omega) (by simp; omega) ?_; intro A3 c3 w3 ap)
          have hpl3 := hpl'.pushH (p := (k, T)) ap
          have hmk3 := hmk'.push (by omega) ap
          have hb3 : Below w1.heap.size w1 w3 := ((hb'.alloc (by omega) _).alloc (by simp; omega) _).trans (ap.below.mono (by omega))
          have hz3 : B ≤ w3.heap.size := Nat.le_trans (by simp; omega) ap.below.size
          clear ap
          go_wp2_with fail
          go_roundw
          case rel => exact ⟨k + 1, Al, A3, A1', A2', cl, c3, c1', c2', by omega, by go_num, by rw [E1.out], by rw [E2.out, List.length_cons, Nat.add_comm], by rw [E1.out, E2.out]; exact hpl3, hmk3, hb3, hz3⟩
          case measure => simp [intOf]; omega
    · obtain rfl : n = k := by omega
      have rr0 : RR w1 wr B gb A1 A2 Al Ah c1 c2 cl ch n n S F (loTo S n xs n) (hiTo S n xs n) (List.replicate n S) ((List.range n).map fun (i : Nat) => (i : Int)) :=
        ⟨hpl.l.vw, hpl.h.vw, hpl.ap, hmk, HPI.out, by rw [(HPH.out n (Nat.le_refl _)).len]; exact Nat.le_refl _, HF.out, hbr, hzr⟩
      clear hpl hbr hzr
      obtain ⟨gO, rfl, _, _⟩ := hmk.oO.addr b4
      obtain ⟨gR, rfl, _, _⟩ := hmk.oR.addr b4
      clear hmk
      go_wp2_with fail
      go_loopw [6, 7] (fun vl vh wr => RRounds w1 B gb (some ⟨gO, 0, none⟩) (some ⟨gR, 0, none⟩) c1 c2 n S F vl vh wr) (fun vl vh _ => sLen vl + sLen vh)
      case atStart => exact ⟨_, _, _, _, _, _, _, _, _, rfl, rfl, rr0⟩
      case round =>
        clear rr0
        obtain ⟨f, lo, hi, own, rest, Al, Ah, cl, ch, rfl, rfl, rr⟩ := hrel
        have zr := rr.z
        have hgB := rr.m.lt
        rcases lo with _ | ⟨⟨i, x⟩, lo⟩
        · have hr := rr.r
          rw [aRun_nil] at hr
          have HR := hide hr
          have q0 := rr.m.pb.at_ (i := 0) rfl
          have q1 := rr.m.pb.at_ (i := 1) rfl
          have q2 := rr.m.pb.at_ (i := 2) rfl
          have rb := rb1.below rr.b rb1.lt
          have p0 := rb.at_ (i := 0) rfl
          have p1 := rb.at_ (i := 1) rfl
          have p2 := rb.at_ (i := 2) rfl
          have f0 := rb.free 0
          have f1 := rb.free 1
          have f2 := rb.free 2
          have hgl := rb.lt
          have hwB : w.heap.size < B := by omega
          have hbb := rr.b
          have oO := rr.m.oO
          have oR := rr.m.oR
          go_wp2_with fail
          refine bodyPost_ret (v := .agg #[.int .i64 S, .slice (some ⟨gO, 0, none⟩) n c1, .slice (some ⟨gR, 0, none⟩) n c2]) (by simp [results, Try.results14, go_sem, p0, p1, p2]) rfl ⟨_, _, _, _, rfl, ?_, ?_, ?_⟩
          · rw [← HR.out]
            exact ((((oO.low (by dsimp only; omega) _).low (by dsimp only; omega) _).low (by dsimp only; omega) _).mono (by omega))
          · rw [← HR.out]
            exact ((((oR.low (by dsimp only; omega) _).low (by dsimp only; omega) _).low (by dsimp only; omega) _).mono (by omega))
          · have := below_on hw1 hbb
            repeat' (first | assumption | with_reducible exact Below.refl _ _ | with_reducible apply Below.drew | with_reducible apply below_drewN | with_reducible apply below_alloc | with_reducible refine below_set ?_ ?_ _ | (simp only [World.size_alloc, World.heap_drewN]; omega) | (simp; omega))
        · rcases hi with _ | ⟨⟨k, y⟩, hi⟩
          · exact absurd rr.i.hi_ne (fun h => h)
          · have hx := rr.i.low (i, x) (by simp)
            have hy := rr.i.high (k, y) (by simp)
            have hin := rr.i.lt (i, x) (by simp)
            have hkn := rr.i.lt (k, y) (by simp)
            dsimp only at hx hy hin hkn
            obtain ⟨x1, x2⟩ := hx
            obtain ⟨y1, y2⟩ := hy
            obtain ⟨gl, ol, rfl, hl1, hl2⟩ := rr.l.addr (by simp)
            obtain ⟨gh, oh, rfl, hh1, hh2⟩ := rr.h.addr (by simp)
            have l0 := rr.l.cell0 (bits2_at0 _ _)
            have l1 := rr.l.cell (bits2_at1 _ _)
            have h0 := rr.h.cell0 (bits2_at0 _ _)
            have h1 := rr.h.cell (bits2_at1 _ _)
            dsimp only at l0 l1 h0 h1
            go_upto_region 14 with fail
            go_cut [11, 12] (fun s11 s12 wx => ∃ ga g2, s11 = .pointer (some ⟨ga, 0, none⟩) ∧ s12 = .pointer (some ⟨g2, 0, none⟩) ∧ ga ≠ g2 ∧ wr.heap.size ≤ ga ∧ wr.heap.size ≤ g2 ∧ Blk wx ga 89 #[.int .i64 (i : Int), .int .i64 x] ∧ Blk wx g2 89 #[.int .i64 (k : Int), .int .i64 y] ∧ Below wr.heap.size wr wx)
            case first =>
              go_region
              all_goals go_wp2_with fail
              all_goals go_meet
              all_goals
                refine ⟨_, _, rfl, rfl, by omega, by omega, by omega, ?_, ?_, by repeat' (first | assumption | with_reducible exact Below.refl _ _ | with_reducible apply Below.drew | with_reducible apply below_drewN | with_reducible apply below_alloc | with_reducible refine below_set ?_ ?_ _ | (simp only [World.size_alloc, World.heap_drewN]; omega) | (simp; omega))⟩
                · first | exact at_new2d _ _ _ | exact at_new3d _ _ _ | exact at_new2 _ _ _ | exact at_new3 _ _ _
                · first | exact at_new2d _ _ _ | exact at_new3d _ _ _ | exact at_new2 _ _ _ | exact at_new3 _ _ _
            case rest =>
              obtain ⟨ga, g2, rfl, rfl, hne, hga, hg2, ba, b2, hbw⟩ := hcut
              have Lc := rr.l.below hbw (Nat.le_refl _)
              have Hc := rr.h.below hbw (Nat.le_refl _)
              have Mc := rr.m.below hbw
              have V := Lc.from_ (lo := 1) (by simp)
              have hcp := Lc.cap
              simp only [List.length_cons] at hcp
              clear l0 l1 h0 h1
              by_cases hcl : cl = 1
              case' pos =>
                subst hcl
                obtain rfl : lo = [] := List.eq_nil_of_length_eq_zero (by omega)
                rw [if_pos rfl] at V
                have V2 : Vw wc B 89 2 (some ⟨gl, ol, none⟩) 0 0 (bits2 []) := V
                clear V
                go_upto_region 16 with fail
              case' neg =>
                rw [if_neg hcl] at V
                have V2 : Vw wc B 89 2 (some ⟨gl, ol + 2, none⟩) lo.length (cl - 1) (bits2 lo) := V
                clear V
                go_upto_region 16 with fail
              all_goals
                have oO := Mc.oO
                have oR := Mc.oR
                have q1 : wc.cell? ⟨gb, 1, none⟩ = some (.slice (some ⟨gO, 0, none⟩) n c1) := Mc.pb.at_ (i := 1) rfl
                have q2 : wc.cell? ⟨gb, 2, none⟩ = some (.slice (some ⟨gR, 0, none⟩) n c2) := Mc.pb.at_ (i := 2) rfl
                have a0 : wc.cell? ⟨ga, 0, none⟩ = some (.int .i64 (i : Int)) := ba.at_ (i := 0) rfl
                have a1 : wc.cell? ⟨ga, 1, none⟩ = some (.int .i64 x) := ba.at_ (i := 1) rfl
                have v0 : wc.cell? ⟨g2, 0, none⟩ = some (.int .i64 (k : Int)) := b2.at_ (i := 0) rfl
                have v1 : wc.cell? ⟨g2, 1, none⟩ = some (.int .i64 y) := b2.at_ (i := 1) rfl
                have lO := oO.sl.ilen
                have lR := oR.sl.ilen
                have hcO := oO.cell (j := i) (u := .int .i64 (own.getD i 0)) (by rw [ints_getElem?, getD_at (l := own) (k := i) (by omega)]; rfl)
                have hcR := oR.cell (j := i) (u := .int .i64 (rest.getD i 0)) (by rw [ints_getElem?, getD_at (l := rest) (k := i) (by omega)]; rfl)
                have hfO := oO.free i
                have hfR := oR.free i
                have bO := oO.blk (g := gO) rfl
                have bR := oR.blk (g := gR) rfl
                have bO2 := rr.m.oO.blk (g := gO) rfl
                have bR2 := rr.m.oR.blk (g := gR) rfl
                have ne1 : ¬ gO = gR := fun e => Mc.ap gO rfl (by rw [e]; rfl)
                have ne2 : ¬ gR = gO := fun e => ne1 e.symm
                have ne3 : ¬ gO = ga := by omega
                have ne4 : ¬ gO = g2 := by omega
                have ne5 : ¬ gR = ga := by omega
                have ne6 : ¬ gR = g2 := by omega
                have ne7 : ¬ ga = gO := by omega
                have ne8 : ¬ g2 = gO := by omega
                have ne9 : ¬ ga = gR := by omega
                have ne10 : ¬ g2 = gR := by omega
                have hik : (i : Int) < (n : Int) := by omega
                have zc := hbw.size
                clear lO lR
                obtain ⟨W, hW⟩ : ∃ W : World, wc = W := ⟨_, rfl⟩
                go_cut [69] (fun s69 wx => RMk wx B gb (some ⟨gO, 0, none⟩) (some ⟨gR, 0, none⟩) n c1 c2 S (own.set i x) (rest.set i (k : Int)) ∧ Blk wx ga 89 #[.int .i64 (i : Int), .int .i64 x] ∧ Blk wx g2 89 #[.int .i64 (k : Int), .int .i64 y] ∧
                  (∀ A n c xs, Vw W B 89 2 A n c xs → Vw wx B 89 2 A n c xs) ∧ Below B W wx)
                case first =>
                  subst hW
                  go_region
                  all_goals go_wp2_with fail
                  all_goals go_meet
                  all_goals
                    refine ⟨((Mc.setO i x).setR i (k : Int)).drew, ?_, ?_, ?_, ?_⟩
                    · exact ((ba.far (p := ⟨gO, i, none⟩) ne7 _).far (p := ⟨gR, i, none⟩) ne9 _).drew
                    · exact ((b2.far (p := ⟨gO, i, none⟩) ne8 _).far (p := ⟨gR, i, none⟩) ne10 _).drew
                    · intro A n' c' xs' hv
                      have m1 := hv.far (p := ⟨gO, i, none⟩) (hv.apart_own oO (by decide)) (.int .i64 x)
                      exact (m1.far (p := ⟨gR, i, none⟩) (hv.apart_own oR (by decide)) _).drew
                    · exact (((Below.refl _ _).setCell (p := ⟨gO, i, none⟩) bO.1 _).setCell (p := ⟨gR, i, none⟩) bR.1 _).drew
                case rest =>
                  obtain ⟨Md, bad, b2d, keepV, hbd⟩ := hcut
                  subst hW
                  have Vd := keepV _ _ _ _ V2
                  have Hd := keepV _ _ _ _ Hc
                  have ap0 := rr.ap
                  have hgh : ¬ gl = gh := fun e => ap0 gl rfl (by rw [e]; rfl)
                  have hbO := Hd.apart_own Md.oO (by decide)
                  have hbR := Hd.apart_own Md.oR (by decide)
                  clear oO oR q1 q2 a0 a1 v0 v1 hcO hcR hfO hfR keepV
                  have a1 : wc.cell? ⟨ga, 1, none⟩ = some (.int .i64 x) := bad.at_ (i := 1) rfl
                  have v0 : wc.cell? ⟨g2, 0, none⟩ = some (.int .i64 (k : Int)) := b2d.at_ (i := 0) rfl
                  have v1 : wc.cell? ⟨g2, 1, none⟩ = some (.int .i64 y) := b2d.at_ (i := 1) rfl
                  have fv := b2d.free 1
                  have h0 : wc.cell? ⟨gh, oh, none⟩ = some (.int .i64 (k : Int)) := Hd.cell0 (bits2_at0 _ _)
                  have h1 : wc.cell? ⟨gh, oh + 1, none⟩ = some (.int .i64 y) := Hd.cell (bits2_at1 _ _)
                  have fh0 := Hd.free oh
                  have fh1 := Hd.free (oh + 1)
                  have nh1 : ¬ gh = g2 := by omega
                  have nh2 : ¬ g2 = gh := by omega
                  have nh3 : ¬ ga = g2 := hne
                  have nh4 : ¬ g2 = ga := fun e => hne e.symm
                  have nh5 : ¬ gh = ga := by omega
                  have nh6 : ¬ ga = gh := by omega
                  obtain ⟨z, hz⟩ : ∃ z, y - (S - x) = z := ⟨_, rfl⟩
                  have z1 : 0 ≤ z := by omega
                  have z2 : z ≤ 40000000000000 := by omega
                  have HZ := hide hz
                  have hB2 : ∀ o, blockOf (some (⟨gl, o, none⟩ : Addr)) ≠ some g2 := fun o e => by have e' : gl = g2 := Option.some.inj e; omega
                  have hBh : ∀ o, blockOf (some (⟨gl, o, none⟩ : Addr)) ≠ some gh := fun o e => hgh (Option.some.inj e)
                  have hH2 : blockOf (some (⟨gh, oh, none⟩ : Addr)) ≠ some g2 := fun e => nh1 (Option.some.inj e)
                  have hO2 : blockOf (some (⟨gO, 0, none⟩ : Addr)) ≠ some g2 := fun e => ne4 (Option.some.inj e)
                  have hR2 : blockOf (some (⟨gR, 0, none⟩ : Addr)) ≠ some g2 := fun e => ne6 (Option.some.inj e)
                  have hOh : blockOf (some (⟨gO, 0, none⟩ : Addr)) ≠ some gh := fun e => hbO (show some gh = some gO from e.symm)
                  have hRh : blockOf (some (⟨gR, 0, none⟩ : Addr)) ≠ some gh := fun e => hbR (show some gh = some gR from e.symm)
                  have Vf := ((Vd.far (p := ⟨g2, 1, none⟩) (hB2 _) (.int .i64 z)).far (p := ⟨gh, oh, none⟩) (hBh _) (.int .i64 (k : Int))).far (p := ⟨gh, oh + 1, none⟩) (hBh _) (.int .i64 z)
                  have Hf : Vw (((wc.setCell ⟨g2, 1, none⟩ (.int .i64 z)).setCell ⟨gh, oh, none⟩ (.int .i64 (k : Int))).setCell ⟨gh, oh + 1, none⟩ (.int .i64 z)) B 89 2 (some ⟨gh, oh, none⟩) ((k, z) :: hi).length ch (bits2 ((k, z) :: hi)) :=
                    ((Hd.far (p := ⟨g2, 1, none⟩) hH2 (.int .i64 z)).set 0 (.int .i64 (k : Int))).set 1 (.int .i64 z)
                  have Mf := ((Md.off (p := ⟨g2, 1, none⟩) (.int .i64 z) (by dsimp only; omega) hO2 hR2).off (p := ⟨gh, oh, none⟩) (.int .i64 (k : Int)) (by dsimp only; omega) hOh hRh).off (p := ⟨gh, oh + 1, none⟩) (.int .i64 z) (by dsimp only; omega) hOh hRh
                  have bbf := ((((rr.b.trans (hbw.mono (Nat.le_trans (by omega) zr))).trans (hbd.mono (show w1.heap.size ≤ B by omega))).setCell (p := ⟨g2, 1, none⟩) (by dsimp only; omega) (.int .i64 z)).setCell (p := ⟨gh, oh, none⟩) (by dsimp only; omega) (.int .i64 (k : Int))).setCell (p := ⟨gh, oh + 1, none⟩) (by dsimp only; omega) (.int .i64 z)
                  have zf : B ≤ (((wc.setCell ⟨g2, 1, none⟩ (.int .i64 z)).setCell ⟨gh, oh, none⟩ (.int .i64 (k : Int))).setCell ⟨gh, oh + 1, none⟩ (.int .i64 z)).heap.size := by have := hbd.size; simp; omega
                  have hstep := rr.i.step
                  have hr := rr.r
                  have hle := rr.le
                  simp only [List.length_cons] at hle
                  obtain ⟨f', rfl⟩ : ∃ f', f = f' + 1 := ⟨f - 1, by omega⟩
                  rw [aRun, hz] at hr
                  rw [hz] at hstep
                  have HR := hide hr
                  have HST := hide hstep
                  clear hr hstep
                  by_cases hzs : z < S
                  · have HI := hide (HST.out.1 hzs)
                    have hr2 := HR.out
                    rw [if_pos hzs] at hr2
                    have HR2 := hide hr2
                    have U := Hf.from_ (lo := 1) (by simp)
                    have hcp2 := Hf.cap
                    simp only [List.length_cons] at hcp2
                    clear hr2
                    by_cases hch : ch = 1
                    case' pos =>
                      subst hch
                      obtain rfl : hi = [] := List.eq_nil_of_length_eq_zero (by omega)
                      rw [if_pos rfl] at U
                      have U2 : Vw (((wc.setCell ⟨g2, 1, none⟩ (.int .i64 z)).setCell ⟨gh, oh, none⟩ (.int .i64 (k : Int))).setCell ⟨gh, oh + 1, none⟩ (.int .i64 z)) B 89 2 (some ⟨gh, oh, none⟩) 0 0 (bits2 []) := U
                      clear U
                    case' neg =>
                      rw [if_neg hch] at U
                      have U2 : Vw (((wc.setCell ⟨g2, 1, none⟩ (.int .i64 z)).setCell ⟨gh, oh, none⟩ (.int .i64 (k : Int))).setCell ⟨gh, oh + 1, none⟩ (.int .i64 z)) B 89 2 (some ⟨gh, oh + 2, none⟩) hi.length (ch - 1) (bits2 hi) := U
                      clear U
                    all_goals
                      have hlb := HI.out.len
                      simp only [List.length_cons, List.length_nil] at hlb
                      have hsz : (((wc.setCell ⟨g2, 1, none⟩ (.int .i64 z)).setCell ⟨gh, oh, none⟩ (.int .i64 (k : Int))).setCell ⟨gh, oh + 1, none⟩ (.int .i64 z)).heap.size = wc.heap.size := by simp
                      have hblk : Blk ((((wc.setCell ⟨g2, 1, none⟩ (.int .i64 z)).setCell ⟨gh, oh, none⟩ (.int .i64 (k : Int))).setCell ⟨gh, oh + 1, none⟩ (.int .i64 z)).alloc (.cells #[.int .i64 (k : Int), .int .i64 z] 89)) wc.heap.size 89 #[.int .i64 (k : Int), .int .i64 z] := by
                        have hb := Blk.new (((wc.setCell ⟨g2, 1, none⟩ (.int .i64 z)).setCell ⟨gh, oh, none⟩ (.int .i64 (k : Int))).setCell ⟨gh, oh + 1, none⟩ (.int .i64 z)) 89 #[.int .i64 (k : Int), .int .i64 z]
                        rwa [hsz] at hb
                      have hBw : B ≤ wc.heap.size := by rw [← hsz]; exact zf
                      have hghw : gh < wc.heap.size := by have := hbd.size; omega
                      have HSZ := hide hsz
                      have HBK := hide hblk
                      clear hsz hblk
                      go_wp2_with (at_builtin; refine wpList_append_sl T_bit rfl _ _ rfl (by rfl) (by rfl) (Own.of_blk (base := B) (n := 1) HBK.out hBw (by simp [maxLen]) rfl) ((Vf.alloc _).sl (by decide)) (bits2_one _) (by simp only [maxLen]; omega) (by omega) (by rw [World.size_alloc, HSZ.out]; omega) ?_; intro A3 c3 w3 ap)
                      have own3 := ap.own.vw
                      have M3 := Mf.push1 (by rw [HSZ.out]; exact Nat.le_refl _) ap
                      have U3 := (U2.alloc (.cells #[.int .i64 (k : Int), .int .i64 z] 89)).grown_apart ap (fun g e1 e2 => by have e3 : wc.heap.size = g := Option.some.inj e1; have e4 : gh = g := Option.some.inj e2; omega)
                      have hap3 : ∀ o, Apart A3 (some ⟨gh, o, none⟩) := fun o g e1 e2 => by
                        have e4 : gh = g := Option.some.inj e2
                        have hs3 := HSZ.out
                        rcases ap.lies with e | e <;> rw [e] at e1 <;> have e3 := Option.some.inj e1
                        · have e5 : wc.heap.size = g := e3
                          omega
                        · rw [World.size_alloc] at e3
                          omega
                      have bb3 := (bbf.alloc (by rw [HSZ.out]; omega) (.cells #[.int .i64 (k : Int), .int .i64 z] 89)).trans (ap.below.mono (show w1.heap.size ≤ B by omega))
                      have z3 : B ≤ w3.heap.size := Nat.le_trans (by rw [World.size_alloc, HSZ.out]; omega) ap.below.size
                      clear ap
                      rw [Nat.add_comm] at own3
                      go_wp2_with fail
                      go_roundw
                      case rel =>
                        refine ⟨f', (k, z) :: _, _, own.set i x, rest.set i (k : Int), _, _, _, _, ?_, ?_, ⟨own3, U3, hap3 _, M3, HI.out, ?_, HR2.out, bb3, z3⟩⟩
                        · simp only [List.length_cons, List.length_nil, Nat.add_comm]
                        · rfl
                        · simp only [List.length_cons, List.length_nil]; omega
                      case measure => simp only [sLen, List.length_cons, List.length_nil]; omega
                  · have HI := hide (HST.out.2 hzs)
                    have hr2 := HR.out
                    rw [if_neg hzs] at hr2
                    have HR2 := hide hr2
                    clear hr2
                    go_wp2_with fail
                    go_roundw
                    case rel =>
                      refine ⟨f', _, (k, z) :: hi, own.set i x, rest.set i (k : Int), _, _, _, _, ?_, rfl, ⟨Vf, Hf, ap0, Mf, HI.out, ?_, HR2.out, bbf, zf⟩⟩
                      · rfl
                      · simp only [List.length_cons, List.length_nil]; omega
                    case measure => simp only [sLen, List.length_cons, List.length_nil]; omega
end Go.Proofs.Ytjmkejindmgckaa
