/- Proves the parts of the claim that its last text joins: Board6, CloneR, Board7, PutFull, PutIn. Conditions: those that each theorem names. -/
import Derived.Test.YtjpbjghdplbdcaaGreatDoorM34
import Derived.Shelf.Small.Strs
import Derived.Ground.NamesProg
import Derived.Test.YtjpbjghdplbdcaaGreatDoorM33
import Derived.Test.YtjpbjghdplbdcaaGreatDoorM10
import Derived.Deep.RegionHeld3
import Derived.Deep.Cut
import Derived.Laws.StructEq
import Derived.KernelRfl
section
namespace Go.Proofs.YtjpbjghdplbdcaaGreatDoor
open Go.RowKit Go.Shelf
def laysCmp_ren : Go.Shelf.Ren := ⟨fun | 106 => 310 | 213 => 343 | 265 => 359 | n => n, fun | 9 => 9 | 3 => 3 | n => n, fun | n => n⟩
theorem laysCmp : Go.Proofs.Lays.n106 Tryz.prog laysCmp_ren := {
  mixed := by kernel_rfl
  f106 := Tryz.func310.trans (congrArg some (by kernel_rfl))
  f213 := Tryz.func343.trans (congrArg some (by kernel_rfl))
  f265 := Tryz.func359.trans (congrArg some (by kernel_rfl))
  t3 := Tryz.underlying3
  a3 := Tryz.isAgg3
  z3 := Tryz.sizeOf3
  v3 := Tryz.zeroValue3
  t9 := Tryz.underlying9
  a9 := Tryz.isAgg9
  z9 := Tryz.sizeOf9
  v9 := Tryz.zeroValue9 }
def cmpV (a b : ByteArray) : Int := if ltB a b = true then -1 else if a = b then 0 else 1
theorem cmpV_is (a b : ByteArray) : Lib.compareBytes a.data.toList b.data.toList = cmpV a b := by
  rw [cmp_is]
  unfold cmpV ltB
  split
  · rfl
  · by_cases h : a = b
    · rw [if_pos h, if_pos (by rw [h])]
    · rw [if_neg h, if_neg (fun e => h (by8_inj e))]
theorem scmp_any (a b : ByteArray) (w : World) : Calls Tryz.prog 310 #[.string a, .string b] w fun e w' => e = .returned (.int .i64 (cmpV a b)) ∧ w = w' := by
  have k := Any.strings_Compare { laysCmp with } a b w
  rw [cmpV_is] at k
  exact k.mono fun e w' ⟨h1, h2⟩ => ⟨h1, h2.symm⟩
theorem find1_any (p key : ByteArray) (a b : Int) (w : World) : Calls Tryz.prog 309 #[.agg #[.string p, .int .i64 a, .int .i64 b], .string key] w fun e w' => e = .returned (.int .i64 (cmpV p key)) ∧ Below w.heap.size w w' := by
  go_enter Tryz.func309, Tryz.ntmps309
  go_wp2_with fail
  refine (scmp_any _ _ _).mono ?_
  rintro e w' ⟨rfl, rfl⟩
  go_wp2_with fail
  go_ret
  exact ⟨rfl, by repeat' (first | assumption | with_reducible exact Below.refl _ _ | with_reducible apply Below.drew | with_reducible apply below_drewN | with_reducible apply below_alloc | with_reducible refine below_set ?_ ?_ _ | (simp only [World.size_alloc, World.heap_drewN]; omega) | (simp; omega))⟩
def hasR (key : ByteArray) (l : List Rul) : Bool := (look key l).isSome
theorem has_at {key : ByteArray} {l : List Rul} (hu : UpR l) {s : Rul} (h : l[posR key l]? = some s) : hasR key l = decide (cmpV s.1 key = 0) := by
  unfold hasR
  rw [look_at key hu, h]
  dsimp only
  have hl := posR_less (key := key) hu h
  rw [decide_eq_false (by omega)] at hl
  unfold cmpV
  rw [hl]
  by_cases e : s.1 = key
  · rw [if_pos e, if_neg (by simp), if_pos e]; rfl
  · rw [if_neg e, if_neg (by simp), if_neg e]; rfl
theorem has_end {key : ByteArray} {l : List Rul} (hu : UpR l) (h : l.length ≤ posR key l) : hasR key l = false := by
  unfold hasR
  rw [look_at key hu, List.getElem?_eq_none h]
  rfl
theorem cmp_less {key : ByteArray} {l : List Rul} (hu : UpR l) {h : Nat} {s : Rul} (hs : l[h]? = some s) : (cmpV s.1 key < 0) ↔ h < posR key l := by
  have hl := posR_less (key := key) hu hs
  unfold cmpV
  by_cases hh : h < posR key l
  · rw [decide_eq_true hh] at hl
    rw [hl, if_pos rfl]
    exact ⟨fun _ => hh, fun _ => by decide⟩
  · rw [decide_eq_false hh] at hl
    rw [hl, if_neg (by simp)]
    constructor
    · split <;> intro h <;> omega
    · exact fun h => absurd h hh
section
variable {A : Option Addr} {n c : Nat} {l : List Rul} {w : World} {key : ByteArray}
set_option maxRecDepth 20000 in
set_option maxHeartbeats 3200000 in
theorem bsf_any (h : Sr w A n c l) (hu : UpR l) (hn : n ≤ 1000) :
    Calls Tryz.prog 308 #[.slice A n c, .string key, .func (.func 309) #[] #[]] w fun e w' => e = .returned (.tuple #[.int .i64 (posR key l : Nat), .bool (hasR key l)]) ∧ Below w.heap.size w w' := by
  have hm := h.len_max
  have HL := hide h.rlen
  have HU := hide hu
  have hpl : posR key l ≤ n := by rw [← h.rlen]; exact posR_le key l
  obtain ⟨P, hP⟩ : ∃ P, posR key l = P := ⟨_, rfl⟩
  have HP := hide hP
  rw [hP] at hpl ⊢
  have eg := enters_fn Tryz.func309 rfl rfl
  clear hu hP
  go_enter Tryz.func308, Tryz.ntmps308
  go_wp2_with fail
  go_loopw [9, 10] (fun i j wr => ∃ a b : Nat, a ≤ P ∧ P ≤ b ∧ b ≤ n ∧ i = .int .i64 a ∧ j = .int .i64 b ∧ Below w.heap.size w wr) (fun i j _ => (intOf j).toNat - (intOf i).toNat)
  case atStart => exact ⟨0, n, Nat.zero_le _, hpl, Nat.le_refl _, rfl, rfl, Below.refl _ _⟩
  case round =>
    obtain ⟨a, b, ha, hb1, hbn, rfl, rfl, hb⟩ := hrel
    by_cases hlt : a < b
    · obtain ⟨m, hm1⟩ : ∃ m : Nat, (a + b) / 2 = m := ⟨_, rfl⟩
      have hm2 : a ≤ m ∧ m < b := by omega
      have hm3 : ((a : Int) + (b : Int)) / 2 = (m : Int) := by omega
      have hm4 : IntKind.u64.wrap ((a : Int) + (b : Int)) = (a : Int) + (b : Int) := by rw [IntKind.wrap_u64]; omega
      have hm5 : IntKind.i64.wrap (m : Int) = (m : Int) := IntWalk.i64_in _ (by omega)
      have hmn : m < n := by omega
      obtain ⟨ad, r, rfl, hbk, hr, hc0, hc1, hc2⟩ := (h.below hb).rcell hmn
      have HC := hide (cmp_less (key := key) HU.out hr)
      rw [HP.out] at HC
      clear hr hm1
      obtain ⟨p, x, y⟩ := r
      dsimp only at hc0 hc1 hc2 HC
      obtain ⟨V, hV⟩ : ∃ V, cmpV p key = V := ⟨_, rfl⟩
      have CF := hide (find1_any p key x y)
      rw [hV] at CF HC
      clear hV
      by_cases hc : m < P
      · have t1 : V < 0 := HC.out.2 hc
        clear HC
        go_wp2_with fail
        refine (CF.out _).mono ?_
        rintro e w2 ⟨rfl, b2⟩
        go_wp2_with fail
        go_roundw
        case rel => exact ⟨m + 1, b, by omega, hb1, hbn, by go_num, rfl, below_on hb b2⟩
        case measure => simp [intOf]; omega
      · have t1 : ¬ V < 0 := fun h => hc (HC.out.1 h)
        clear HC
        go_wp2_with fail
        refine (CF.out _).mono ?_
        rintro e w2 ⟨rfl, b2⟩
        go_wp2_with fail
        go_roundw
        case rel => exact ⟨a, m, ha, by omega, by omega, rfl, rfl, below_on hb b2⟩
        case measure => simp [intOf]; omega
    · obtain rfl : a = P := by omega
      obtain rfl : b = a := by omega
      by_cases he : b < n
      · obtain ⟨ad, r, rfl, hbk, hr, hc0, hc1, hc2⟩ := (h.below hb).rcell he
        have HH := hide (has_at (key := key) HU.out (by rw [HP.out]; exact hr))
        clear hr
        obtain ⟨p, x, y⟩ := r
        dsimp only at hc0 hc1 hc2 HH
        have CF := hide (find1_any p key x y)
        obtain ⟨V, hV⟩ : ∃ V, cmpV p key = V := ⟨_, rfl⟩
        rw [hV] at CF HH
        clear hV
        go_wp2_with fail
        refine (CF.out _).mono ?_
        rintro e w2 ⟨rfl, b2⟩
        go_wp2_with fail
        go_ret2
        exact ⟨by rw [HH.out]; rfl, below_on hb b2⟩
      · have HH := hide (has_end (key := key) HU.out (by rw [HP.out, HL.out]; omega))
        go_wp2_with fail
        go_ret2
        exact ⟨by rw [HH.out]; rfl, hb⟩
set_option maxRecDepth 20000 in
theorem find_any (h : Sr w A n c l) (hu : UpR l) (hn : n ≤ 1000) :
    Calls Tryz.prog 251 #[.slice A n c, .string key] w fun e w' => e = .returned (.tuple #[.int .i64 (posR key l : Nat), .bool (hasR key l)]) ∧ Below w.heap.size w w' := by
  have HB := hide (bsf_any (key := key) h hu hn)
  clear h hu
  generalize posR key l = P at HB ⊢
  generalize hasR key l = H at HB ⊢
  go_enter Tryz.func251, Tryz.ntmps251
  go_wp2_with fail
  refine HB.out.mono ?_
  rintro e w2 ⟨rfl, b2⟩
  go_wp2_with fail
  go_ret2
  exact ⟨rfl, b2⟩
end
end Go.Proofs.YtjpbjghdplbdcaaGreatDoor
end
section
namespace Go.Proofs.YtjpbjghdplbdcaaGreatDoor
open Go.RowKit
set_option maxHeartbeats 800000 in
theorem cloneR {A : Option Addr} {n c : Nat} {xs : List Rl} {w : World} (h : Sl w w.heap.size 3 A n c (rls xs)) (hr : n * 32 ≤ 140737488355328) :
    Calls Tryz.prog 250 #[.slice A n c] w fun e w' => ∃ A' c', e = .returned (.slice A' n c') ∧ Own w' w.heap.size 132 3 A' n c' (rls xs) ∧ Below w.heap.size w w' := by
  have hm := h.len_max
  rcases A with _ | ad
  · have hc := h.nul rfl
    subst hc
    have hn : n = 0 := by have := h.cap; omega
    subst hn
    have hx : xs = [] := List.eq_nil_of_length_eq_zero h.rlen
    subst hx
    go_enter Tryz.func250, Tryz.ntmps250
    have r := fun w => Lib.run_eql_slice_nil (P := Tryz.prog) w 48 132 none 0 0 0 0 Tryz.underlying48
    go_wp2
    go_ret
    exact ⟨none, 0, rfl, Own.nil _ _ _ _, Below.refl _ _⟩
  · have r := fun w => Lib.run_eql_slice_nil (P := Tryz.prog) w 48 132 (some ad) n c 0 0 Tryz.underlying48
    go_enter Tryz.func250, Tryz.ntmps250
    go_wp2_with (at_builtin; refine wpList_append_sl T_rule rfl _ _ rfl (by rfl) (by rfl) (Own.new w w.heap.size 132 3 0 #[] (Nat.le_refl _) (Nat.zero_le _) rfl) (h.alloc (Nat.le_refl _) _) (rls_one _) (by simp only [maxLen]; omega) (by omega) (by simp) ?_; intro A' c' w' ap)
    go_ret
    have hb : Below w.heap.size w w' := ((Below.refl _ w).alloc (Nat.le_refl _) _).trans ap.below
    exact ⟨A', c', by simp, by simpa using ap.own, hb⟩
end Go.Proofs.YtjpbjghdplbdcaaGreatDoor
end
section
namespace Go.Proofs.YtjpbjghdplbdcaaGreatDoor
open Go.RowKit Go.Shelf
theorem RlOk.fit {l : List Rul} (h : RlOk l) : FitR l := fun r hr => by have := (h.small hr).1; omega
theorem hasR_some {key : ByteArray} {l : List Rul} (hu : UpR l) (h : hasR key l = true) : ∃ s, l[posR key l]? = some s ∧ s.1 = key := by
  unfold hasR at h
  rw [look_at key hu] at h
  cases hp : l[posR key l]? with
  | none => rw [hp] at h; cases h
  | some s =>
    rw [hp] at h
    dsimp only at h
    by_cases e : s.1 = key
    · exact ⟨s, rfl, e⟩
    · rw [if_neg e] at h; cases h
theorem hasR_none {key : ByteArray} {l : List Rul} (h : hasR key l = false) : look key l = none := by
  unfold hasR at h
  cases hl : look key l with
  | none => rfl
  | some s => rw [hl] at h; cases h
theorem rls_set : ∀ (xs : List Rl) (k : Nat) (v : Rl), k < xs.length → (((rls xs).set (k * 3) (.string v.1)).set (k * 3 + 1) (.int .i64 v.2.1)).set (k * 3 + 2) (.int .i64 v.2.2) = rls (xs.set k v)
  | [], _, _, h => absurd h (by simp)
  | x :: xs, 0, v, _ => rfl
  | x :: xs, k + 1, v, h => by
    have ih := rls_set xs k v (by simpa using h)
    rw [show (k + 1) * 3 = k * 3 + 3 by omega]
    show rlV x ++ (((rls xs).set (k * 3) _).set (k * 3 + 1) _).set (k * 3 + 2) _ = _
    rw [ih]
    rfl
theorem eqR_run (p q : ByteArray) (x y a b : Int) (w : World) : (Op.equalIn 10000 132 (.agg #[.string p, .int .i64 x, .int .i64 y]) (.agg #[.string q, .int .i64 a, .int .i64 b])).run Tryz.prog w = .ok ((p.toList == q.toList) && (x == a) && (y == b)) w := by
  have u0 := Tryz.underlying9
  have u1 := Tryz.underlying3
  have a0 := Tryz.isAgg9
  have a1 := Tryz.isAgg3
  have z0 := Tryz.sizeOf9
  have z1 := Tryz.sizeOf3
  have hS : Tryz.prog.underlying 132 = some (.struct (Tryz.prog.fieldsOf 132)) := by kernel_rfl
  rw [show (10000 : Nat) = 9999 + 1 from rfl, run_equalIn_agg w 9999 132 _ _ hS (by kernel_rfl)]
  simp only [Program.fieldsOf, Tryz.underlying132]
  go_simp
  by_cases h1 : p.toList = q.toList <;> by_cases h2 : x = a <;> by_cases h3 : y = b <;> simp [h1, h2, h3]
theorem keep6 {w1 W : World} {b g i : Nat} {v0 v1 v2 u0 u1 u2 : Value} (hb : b < w1.heap.size) (hg : g < w1.heap.size) (f0 : w1.cell? ⟨b, 0, none⟩ = some v0) (f1 : w1.cell? ⟨b, 1, none⟩ = some v1) (f2 : w1.cell? ⟨b, 2, none⟩ = some v2)
    (d0 : w1.cell? ⟨g, i, none⟩ = some u0) (d1 : w1.cell? ⟨g, i + 1, none⟩ = some u1) (d2 : w1.cell? ⟨g, i + 2, none⟩ = some u2) (h : Below w1.heap.size w1 W) :
    Below w1.heap.size w1 W ∧ W.cell? ⟨b, 0, none⟩ = some v0 ∧ W.cell? ⟨b, 1, none⟩ = some v1 ∧ W.cell? ⟨b, 2, none⟩ = some v2 ∧ W.cell? ⟨g, i, none⟩ = some u0 ∧ W.cell? ⟨g, i + 1, none⟩ = some u1 ∧ W.cell? ⟨g, i + 2, none⟩ = some u2 :=
  ⟨h, (h.cell (p := ⟨b, 0, none⟩) hb).trans f0, (h.cell (p := ⟨b, 1, none⟩) hb).trans f1, (h.cell (p := ⟨b, 2, none⟩) hb).trans f2, (h.cell (p := ⟨g, i, none⟩) hg).trans d0, (h.cell (p := ⟨g, i + 1, none⟩) hg).trans d1, (h.cell (p := ⟨g, i + 2, none⟩) hg).trans d2⟩
section
variable {A : Option Addr} {n c : Nat} {l : List Rul} {w : World}
set_option maxRecDepth 20000 in
set_option maxHeartbeats 3200000 in
theorem bput_arg (h : Sr w A n c l) (hok : RlOk l) (p : ByteArray) (a b : Int) (hp : p.size ≤ 9223372036854775807) {E : Int} (hE : oneErr (p, a, b) = E) (h0 : E ≠ 0) :
    Calls Tryz.prog 197 #[.slice A n c, .agg #[.string p, .int .i64 a, .int .i64 b]] w fun e w' => e = .returned (.tuple #[.slice none 0 0, .int .i64 E]) ∧ Below w.heap.size w w' := by
  have b0 := Blk.new w 132 #[.string p, .int .i64 a, .int .i64 b]
  have hb0 : Below w.heap.size w (w.alloc (.cells #[.string p, .int .i64 a, .int .i64 b] 132)) := by repeat' (first | assumption | with_reducible exact Below.refl _ _ | with_reducible apply Below.drew | with_reducible apply below_drewN | with_reducible apply below_alloc | with_reducible refine below_set ?_ ?_ _ | (simp only [World.size_alloc, World.heap_drewN]; omega) | (simp; omega))
  have CC := hide (bcheck_any (h.on hb0) hok.fit)
  rw [rlErr_of h.rlen hok] at CC
  have CO := hide (fun w => one_any p a b w hp)
  rw [hE] at CO
  have t1 : (E != 0) = true := by simpa using h0
  clear hE h0 hok h
  go_enter Tryz.func197, Tryz.ntmps197
  go_wp2_with fail
  refine CC.out.mono ?_
  rintro e w1 ⟨rfl, bel1⟩
  have b1 := b0.below bel1 b0.lt
  have k1 := below_on hb0 bel1
  have c0 := b1.at_ (i := 0) (u := .string p) rfl
  have c1 := b1.at_ (i := 1) (u := .int .i64 a) rfl
  have c2 := b1.at_ (i := 2) (u := .int .i64 b) rfl
  clear b0 hb0 bel1
  go_wp2_with fail
  refine (CO.out _).mono ?_
  rintro e w2 ⟨rfl, bel2⟩
  go_wp2_with fail
  go_ret2
  exact ⟨rfl, below_on k1 bel2⟩
end
end Go.Proofs.YtjpbjghdplbdcaaGreatDoor
end
section
namespace Go.Proofs.YtjpbjghdplbdcaaGreatDoor
open Go.RowKit Go.Shelf
section
variable {A : Option Addr} {n c : Nat} {l : List Rul} {w : World}
set_option maxRecDepth 20000 in
set_option maxHeartbeats 3200000 in
theorem bput_full (h : Sr w A n c l) (hok : RlOk l) (p : ByteArray) (a b : Int) (hp : p.size ≤ 9223372036854775807) (h1 : oneErr (p, a, b) = 0) {P : Nat} (hP : posR p l = P) (hPn : P ≤ n) (hh : hasR p l = false) (e16 : n = 16) :
    Calls Tryz.prog 197 #[.slice A n c, .agg #[.string p, .int .i64 a, .int .i64 b]] w fun e w' => e = .returned (.tuple #[.slice none 0 0, .int .i64 2]) ∧ Below w.heap.size w w' := by
  have hm := h.len_max
  have hn16 : n ≤ 16 := by rw [← h.rlen]; exact hok.len
  have b0 := Blk.new w 132 #[.string p, .int .i64 a, .int .i64 b]
  have hb0 : Below w.heap.size w (w.alloc (.cells #[.string p, .int .i64 a, .int .i64 b] 132)) := by repeat' (first | assumption | with_reducible exact Below.refl _ _ | with_reducible apply Below.drew | with_reducible apply below_drewN | with_reducible apply below_alloc | with_reducible refine below_set ?_ ?_ _ | (simp only [World.size_alloc, World.heap_drewN]; omega) | (simp; omega))
  have CC := hide (bcheck_any (h.on hb0) hok.fit)
  rw [rlErr_of h.rlen hok] at CC
  have CO := hide (fun w => one_any p a b w hp)
  have CL := hide (fun w' (hb : Below w.heap.size w w') => cloneR (h.on hb) (by omega))
  have CF := hide (fun w' (hb : Below w.heap.size w w') => find_any (key := p) (h.on hb) hok.up (by omega))
  rw [h1] at CO
  rw [hP, hh] at CF
  have HLN := hide h.rlen
  have t1 : decide (n = 16) = true := decide_eq_true e16
  have t2 : decide ((n : Int) = 16) = true := decide_eq_true (by omega)
  have t3 : (n == 16) = true := by simpa using e16
  have t4 : ((n : Int) == 16) = true := by simp [e16]
  have E16 := hide e16
  clear e16
  clear h1 hP hh hok h
  go_enter Tryz.func197, Tryz.ntmps197
  go_wp2_with fail
  refine CC.out.mono ?_
  rintro e w1 ⟨rfl, bel1⟩
  have b1 := b0.below bel1 b0.lt
  have k1 := below_on hb0 bel1
  have c0 := b1.at_ (i := 0) (u := .string p) rfl
  have c1 := b1.at_ (i := 1) (u := .int .i64 a) rfl
  have c2 := b1.at_ (i := 2) (u := .int .i64 b) rfl
  clear b0 hb0 bel1 CC
  go_wp2_with fail
  refine (CO.out _).mono ?_
  rintro e w2 ⟨rfl, bel2⟩
  have b2 := b1.below bel2 b1.lt
  have k2 := below_on k1 bel2
  clear c0 c1 c2 b1 k1 bel2 CO
  go_wp2_with fail
  refine (CL.out _ k2).mono ?_
  rintro e w3 ⟨AC, cC, rfl, own3, bel3⟩
  have b3 := b2.below bel3 b2.lt
  have k3 := below_on k2 bel3
  have lw := b2.lt
  have kz := k2.size
  clear b2 CL
  have c0 := b3.at_ (i := 0) (u := .string p) rfl
  go_wp2_with fail
  refine (CF.out _ k3).mono ?_
  rintro e w4 ⟨rfl, bel4⟩
  have b4 := b3.below bel4 b3.lt
  have own4 := own3.below bel4 (Nat.le_refl _)
  have l4 : Below w2.heap.size w2 w4 := below_on bel3 bel4
  have k4 := below_on k3 bel4
  clear c0 b3 k3 bel4 bel3 own3 CF
  have c0 := b4.at_ (i := 0) (u := .string p) rfl
  have c1 := b4.at_ (i := 1) (u := .int .i64 a) rfl
  have c2 := b4.at_ (i := 2) (u := .int .i64 b) rfl
  clear own4 l4
  go_wp2_with fail
  go_quiet (fail)
  go_wp2_with fail
  go_quiet (fail)
  go_wp2_with fail
  go_ret2
  exact ⟨rfl, by repeat' (first | assumption | with_reducible exact Below.refl _ _ | with_reducible apply Below.drew | with_reducible apply below_drewN | with_reducible apply below_alloc | with_reducible refine below_set ?_ ?_ _ | (simp only [World.size_alloc, World.heap_drewN]; omega) | (simp; omega))⟩
end
end Go.Proofs.YtjpbjghdplbdcaaGreatDoor
end
section
namespace Go.Proofs.YtjpbjghdplbdcaaGreatDoor
open Go.RowKit Go.Shelf
section
variable {A : Option Addr} {n c : Nat} {l : List Rul} {w : World}
set_option maxRecDepth 20000 in
set_option maxHeartbeats 3200000 in
theorem bput_in (h : Sr w A n c l) (hok : RlOk l) (p : ByteArray) (a b : Int) (hp : p.size ≤ 9223372036854775807) (h1 : oneErr (p, a, b) = 0) {P : Nat} (hP : posR p l = P) (hPn : P ≤ n) (hh : hasR p l = false) (e16 : ¬ n = 16) :
    Calls Tryz.prog 197 #[.slice A n c, .agg #[.string p, .int .i64 a, .int .i64 b]] w fun e w' => ∃ A' c', e = .returned (.tuple #[.slice A' (n + 1) c', .int .i64 0]) ∧ Own w' w.heap.size 132 3 A' (n + 1) c' (rls (l.take P ++ (p, a, b) :: l.drop P)) ∧ Below w.heap.size w w' := by
  have hm := h.len_max
  have hn16 : n ≤ 16 := by rw [← h.rlen]; exact hok.len
  have b0 := Blk.new w 132 #[.string p, .int .i64 a, .int .i64 b]
  have hb0 : Below w.heap.size w (w.alloc (.cells #[.string p, .int .i64 a, .int .i64 b] 132)) := by repeat' (first | assumption | with_reducible exact Below.refl _ _ | with_reducible apply Below.drew | with_reducible apply below_drewN | with_reducible apply below_alloc | with_reducible refine below_set ?_ ?_ _ | (simp only [World.size_alloc, World.heap_drewN]; omega) | (simp; omega))
  have CC := hide (bcheck_any (h.on hb0) hok.fit)
  rw [rlErr_of h.rlen hok] at CC
  have CO := hide (fun w => one_any p a b w hp)
  have CL := hide (fun w' (hb : Below w.heap.size w w') => cloneR (h.on hb) (by omega))
  have CF := hide (fun w' (hb : Below w.heap.size w w') => find_any (key := p) (h.on hb) hok.up (by omega))
  rw [h1] at CO
  rw [hP, hh] at CF
  have HLN := hide h.rlen
  have t1 : ¬ (n : Int) = 16 := by omega
  clear h1 hP hh hok h
  go_enter Tryz.func197, Tryz.ntmps197
  go_wp2_with fail
  refine CC.out.mono ?_
  rintro e w1 ⟨rfl, bel1⟩
  have b1 := b0.below bel1 b0.lt
  have k1 := below_on hb0 bel1
  have c0 := b1.at_ (i := 0) (u := .string p) rfl
  have c1 := b1.at_ (i := 1) (u := .int .i64 a) rfl
  have c2 := b1.at_ (i := 2) (u := .int .i64 b) rfl
  clear b0 hb0 bel1 CC
  go_wp2_with fail
  refine (CO.out _).mono ?_
  rintro e w2 ⟨rfl, bel2⟩
  have b2 := b1.below bel2 b1.lt
  have k2 := below_on k1 bel2
  clear c0 c1 c2 b1 k1 bel2 CO
  go_wp2_with fail
  refine (CL.out _ k2).mono ?_
  rintro e w3 ⟨AC, cC, rfl, own3, bel3⟩
  have b3 := b2.below bel3 b2.lt
  have k3 := below_on k2 bel3
  have lw := b2.lt
  have kz := k2.size
  clear b2 CL
  have c0 := b3.at_ (i := 0) (u := .string p) rfl
  go_wp2_with fail
  refine (CF.out _ k3).mono ?_
  rintro e w4 ⟨rfl, bel4⟩
  have b4 := b3.below bel4 b3.lt
  have own4 := own3.below bel4 (Nat.le_refl _)
  have l4 : Below w2.heap.size w2 w4 := below_on bel3 bel4
  have k4 := below_on k3 bel4
  clear c0 b3 k3 bel4 bel3 own3 CF
  have c0 := b4.at_ (i := 0) (u := .string p) rfl
  have c1 := b4.at_ (i := 1) (u := .int .i64 a) rfl
  have c2 := b4.at_ (i := 2) (u := .int .i64 b) rfl
  go_wp2_with fail
  go_quiet (fail)
  go_wp2_with fail
  go_quiet (fail)
  go_wp2_with fail
  refine (insR (x := (p, a, b)) ((own4.drewN _).alloc _) (Blk.new _ _ _) ?_ hPn (by simp only [World.size_alloc, World.heap_drewN]; have := l4.size; omega) (by omega)).mono ?_
  · intro e
    rcases AC with _ | ad
    · cases e
    · have := (own4.blk e).2
      simp only [World.heap_drewN] at this
      omega
  · rintro e w5 ⟨A', c', rfl, own5, g5⟩
    have g6 : Below w2.heap.size w2 w5 := by
      refine Below.grown ?_ g5 ?_ fun k hk => (own4.blk hk).1
      · repeat' (first | assumption | with_reducible exact Below.refl _ _ | with_reducible apply Below.drew | with_reducible apply below_drewN | with_reducible apply below_alloc | with_reducible refine below_set ?_ ?_ _ | (simp only [World.size_alloc, World.heap_drewN]; omega) | (simp; omega))
      · simp only [World.size_alloc, World.heap_drewN]; have := l4.size; omega
    go_wp2_with fail
    go_ret2
    exact ⟨_, _, rfl, own5.mono (by have := k2.size; omega), below_on k2 g6⟩
end
end Go.Proofs.YtjpbjghdplbdcaaGreatDoor
end
