/-
  alike.Sign: the walk. Conditions: the slices read as lists.
-/
import Derived.Test.YtgejpinepkockabAlike3
import Derived.Test.YtgejpinepkockabOpen3
import Derived.Test.YtgejpinepkockabClone
import Derived.Test.YtgejpinepkockabOwn2
import Derived.Test.YtgejpinepkockabEq
namespace Go.Proofs.Ytgejpinepkockab
open Go.RowKit

def fE (n : Nat) (ls : List Int) (os : List Row) (k : Nat) : Int := fErr (os.getD k (none, 0, 0, [])).2.1 n (os.getD k (none, 0, 0, [])).2.2.2 ls
def fV (n : Nat) (ls : List Int) (o : Row) : Int := fVal o.2.1 n o.2.2.2 ls
theorem fE_at {n k : Nat} {ls : List Int} {os : List Row} {o : Row} (h : os[k]? = some o) : fE n ls os k = fErr o.2.1 n o.2.2.2 ls := by unfold fE; rw [show os.getD k (none, 0, 0, []) = o from by rw [List.getD, h]; rfl]
def wantTo (N n : Nat) (ls : List Int) (os : List Row) (k : Nat) : Int := if 40 < N then 2 else eTo (fE n ls os) k
theorem take_map {α β : Type} {f : α → β} {l : List α} {k : Nat} {x : α} (h : l[k]? = some x) : (l.take (k + 1)).map f = (l.take k).map f ++ [f x] := by
  rw [List.take_add_one, h]; simp
def SignRet (w : World) (N : Nat) (E : Int) (vs : List Int) (e : Ending) (w' : World) : Prop :=
  ∃ A k c, e = .returned (.tuple #[.slice A k c, .int .i64 E]) ∧ ((E = 0 ∧ k = N ∧ Own w' w.heap.size 3 1 A N c (ints vs)) ∨ (¬ E = 0 ∧ k = 0)) ∧ Below w.heap.size w w'
theorem first_is {A B : Option Addr} {n c m d : Nat} {ls os : List Int} {w : World} (h : Si w A n c ls) (ho : Si w B m d os) {V E : Int} (hv : fVal m n os ls = V) (he : fErr m n os ls = E) :
    Calls Try.prog 26 #[.slice B m d, .slice A n c] w fun e w' => e = .returned (.tuple #[.int .i64 V, .int .i64 E]) ∧ Below w.heap.size w w' := by
  have k := first_any h ho; rw [hv, he] at k; exact k
theorem rfirst_is {A B : Option Addr} {n c m d : Nat} {ls os : List Int} {w : World} (h : Si w A n c ls) (ho : Si w B m d os) {V E : Int} (hv : fVal m n os ls = V) (he : fErr m n os ls = E) :
    Calls Try.prog 27 #[.slice B m d, .slice A n c] w fun e w' => e = .returned (.tuple #[.int .i64 V, .int .i64 E]) ∧ w = w' := by
  have k := rfirst_any h ho; rw [hv, he] at k; exact k
section
variable {A B : Option Addr} {n c N d : Nat} {ls : List Int} {os : List Row} {w : World}
set_option maxRecDepth 20000 in
set_option maxHeartbeats 1600000 in
theorem sign_any (hs : Ss w B N d os) (h : Si w A n c ls) :
    Calls Try.prog 24 #[.slice B N d, .slice A n c] w (SignRet w N (wantTo N n ls os N) (os.map (fV n ls))) := by
  have hm := hs.s.len_max
  by_cases g1 : 40 < N
  · have hE : wantTo N n ls os N = 2 := if_pos g1
    rw [hE]
    clear hE
    go_enter Try.func24, Try.ntmps24
    go_wp2_with fail
    go_ret2
    exact ⟨none, 0, 0, rfl, .inr ⟨by decide, rfl⟩, Below.refl _ _⟩
  have HE := hide (show ∀ k, wantTo N n ls os k = eTo (fE n ls os) k from fun k => if_neg g1)
  have HL := hide hs.len
  rw [HE.out]
  go_enter Try.func24, Try.ntmps24
  go_wp2_with fail
  go_loopw [6, 16] (fun vo vi wr => ∃ (k : Nat) (Ao : Option Addr) (co : Nat), k ≤ N ∧ vi = .int .i64 k ∧ vo = .slice Ao k co ∧ eTo (fE n ls os) k = 0 ∧ Own wr w.heap.size 3 1 Ao k co (ints ((os.take k).map (fV n ls))) ∧ Below w.heap.size w wr) (fun _ i _ => N - (intOf i).toNat)
  case atStart => exact ⟨0, none, 0, Nat.zero_le _, rfl, rfl, rfl, Own.nil _ _ _ _, Below.refl _ _⟩
  case round =>
    obtain ⟨k, Ao, co, hk, rfl, rfl, hok, own, hb⟩ := hrel
    have HOK := hide hok
    clear hok
    by_cases hlt : k < N
    · obtain ⟨ad, o, rfl, hbk, ho, hc, hso⟩ := (hs.on hb).cell hlt
      obtain ⟨V, hV⟩ : ∃ V, fVal o.2.1 n o.2.2.2 ls = V := ⟨_, rfl⟩
      obtain ⟨E, hE⟩ : ∃ E, fErr o.2.1 n o.2.2.2 ls = E := ⟨_, rfl⟩
      have HV := hide hV
      have HEE := hide hE
      have HFE := hide ((fE_at (n := n) (ls := ls) ho).trans hE)
      have HT := hide ((take_map (f := fV n ls) ho).trans (by rw [show fV n ls o = V from hV]))
      clear hV hE ho
      obtain ⟨Ar, nr, cr, zr⟩ := o
      dsimp only at hc hso HV HEE
      by_cases e0 : E = 0
      · subst e0
        have HN := hide (eTo_next HOK.out HFE.out)
        go_wp2_with fail
        refine (first_is (h.on hb) hso HV.out HEE.out).mono ?_
        rintro e w1 ⟨rfl, hb1⟩
        have own1 := own.below hb1 (Nat.le_refl _)
        have hk1 := below_on hb hb1
        have z1 := hk1.size
        go_wp2_with (at_builtin; refine wpList_append_sl T_int rfl _ _ rfl (by rfl) (by rfl) (own1.alloc _) (Sl.lit (at_new _ _)) (ints_one [V]) (by simp only [maxLen]; omega) (by omega) (by simp; omega) ?_; intro A3 c3 w3 ap)
        have own3 := ap.own
        have hb3 : Below w.heap.size w w3 := (hk1.alloc z1 _).trans ap.below
        rw [show ints ((os.take k).map (fV n ls)) ++ [Value.int .i64 V] = ints ((os.take (k + 1)).map (fV n ls)) from by rw [HT.out, ints_append]; rfl] at own3
        clear ap
        go_wp2_with fail
        go_roundw
        case rel => exact ⟨k + 1, A3, c3, by omega, by go_num, rfl, HN.out, own3, hb3⟩
        case measure => simp [intOf]; omega
      · have t1 : (E != 0) = true := by simpa using e0
        have B := hide (eTo_bad HOK.out HFE.out e0 N hlt)
        have HE0 := hide e0
        clear e0
        go_wp2_with fail
        refine (first_is (h.on hb) hso HV.out HEE.out).mono ?_
        rintro e w1 ⟨rfl, hb1⟩
        have hk1 := below_on hb hb1
        go_wp2_with fail
        go_ret2
        exact ⟨none, 0, 0, by rw [B.out]; rfl, .inr ⟨by rw [B.out]; exact HE0.out, rfl⟩, hk1⟩
    · obtain rfl : N = k := by omega
      rw [List.take_of_length_le (by rw [HL.out]; exact Nat.le_refl _)] at own
      go_wp2_with fail
      go_ret2
      exact ⟨Ao, _, co, by rw [HOK.out]; rfl, .inl ⟨HOK.out, rfl, own⟩, hb⟩
end
end Go.Proofs.Ytgejpinepkockab
