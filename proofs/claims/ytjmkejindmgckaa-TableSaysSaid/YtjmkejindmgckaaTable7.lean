/-
  culref.Tables over a closure that has captured one pointer, or three: the walks. Conditions: the rows read as lists of numbers; what the closure answers while old memory stands.
-/
import Derived.Test.YtjmkejindmgckaaTable6
namespace Go.Proofs.Ytjmkejindmgckaa
open Go.RowKit

theorem addT_take {f : Nat → Nat → Int} {zss : List (List Int)} {k : Nat} {zs : List Int} (h : zss[k]? = some zs) : (addT f zss).take (k + 1) = (addT f zss).take k ++ [zs.mapIdx fun j x => x + f k j] := by
  rw [List.take_add_one]
  congr 1
  simp [addT, h]
theorem newRow_take {f : Nat → Int} {zs : List Int} {l : Nat} {x : Int} (h : zs[l]? = some x) : (zs.mapIdx fun j x => x + f j).take (l + 1) = (zs.mapIdx fun j x => x + f j).take l ++ [x + f l] := by
  rw [List.take_add_one]
  congr 1
  simp [h]
theorem row_last {w : World} {B g l m c : Nat} {e : TypeId} {ys : List Int} {x : Int} (hl : ys.length = m) (hlt : l < m) (h : Own w B e 1 (some ⟨g, 0, none⟩) (l + 1) c (ints (ys.take l) ++ [.int .i64 x])) : w.cell? ⟨g, l, none⟩ = some (.int .i64 x) :=
  h.cell (by rw [List.getElem?_append_right (by simp [ints_len, hl]; omega)]; simp [ints_len, hl, Nat.min_eq_left (Nat.le_of_lt hlt)])
section
variable {A : Option Addr} {n c : Nat} {os : List Row} {w : World}
set_option maxRecDepth 100000 in
set_option maxHeartbeats 3200000 in
theorem tables_cap1 {m : Nat} (h : Ss w A n c os) (he : tabErr (m : Int) n (rows os) = 0) (g : FuncId) (v0 : Value) (f : Nat → Nat → Int) (hf : ∀ i k, 0 ≤ f i k ∧ f i k ≤ 1000000000000)
    (eg : ∀ (args : Array Value) (W : World), (callFunc g args).run Try.prog W = .ok (.enter g args) W)
    (hd : ∀ (i k : Nat), i < n → k < m → ∀ W, Below w.heap.size w W → Calls Try.prog g #[.int .i64 (i : Int), .int .i64 (k : Int), v0] W fun e w' => e = .returned (.int .i64 (f i k)) ∧ Below W.heap.size W w') {b : Bool} (hb : okTab f (rows os) m n = b) :
    Calls Try.prog 47 #[.agg #[.int .i64 (m : Int), .slice A n c], .func (.func g) #[] #[v0]] w (TabRet w (sumW b m) (sumT b f (rows os)) (sumE b)) := by
  have hmax := h.s.len_max
  have HK := hide (tabOk_rows h he)
  have HB := hide hb
  have HD := hide hd
  have HFB := hide hf
  have m1 : 1 ≤ m := by have := HK.out.w1; omega
  have m2 : m ≤ 32 := by have := HK.out.w2; omega
  have n4 := HK.out.n2
  have HL := hide h.len
  obtain ⟨zss, hzss⟩ : ∃ zss, rows os = zss := ⟨_, rfl⟩
  rw [hzss] at HB HK ⊢
  have HZ := hide hzss
  clear he hb hzss hd hf
  have b2 := (Blk.new ((w.alloc (.cells #[.int .i64 (m : Int), .slice A n c] 65)).alloc (.cells #[.int .i64 0, .slice none 0 0] 65)) 65 #[.int .i64 (m : Int), .slice none 0 0])
  rw [World.size_alloc, World.size_alloc] at b2
  have b1 := (Blk.new (w.alloc (.cells #[.int .i64 (m : Int), .slice A n c] 65)) 65 #[.int .i64 0, .slice none 0 0]).alloc (.cells #[.int .i64 (m : Int), .slice none 0 0] 65)
  rw [World.size_alloc] at b1
  have hbl : Below w.heap.size w (((w.alloc (.cells #[.int .i64 (m : Int), .slice A n c] 65)).alloc (.cells #[.int .i64 0, .slice none 0 0] 65)).alloc (.cells #[.int .i64 (m : Int), .slice none 0 0] 65)) := by repeat' (first | assumption | with_reducible exact Below.refl _ _ | with_reducible apply Below.drew | with_reducible apply below_drewN | with_reducible apply below_alloc | with_reducible refine below_set ?_ ?_ _ | (simp only [World.size_alloc, World.heap_drewN]; omega) | (simp; omega))
  have hz : (((w.alloc (.cells #[.int .i64 (m : Int), .slice A n c] 65)).alloc (.cells #[.int .i64 0, .slice none 0 0] 65)).alloc (.cells #[.int .i64 (m : Int), .slice none 0 0] 65)).heap.size = w.heap.size + 1 + 1 + 1 := by simp only [World.size_alloc]
  have HB2 := hide b2
  have HB1 := hide b1
  have HBL := hide hbl
  have HZS := hide hz
  clear b2 b1 hbl hz
  go_enter Try.func47, Try.ntmps47
  go_wp2_with fail
  obtain ⟨w3, hw3⟩ : ∃ w3, ((w.alloc (.cells #[.int .i64 (m : Int), .slice A n c] 65)).alloc (.cells #[.int .i64 0, .slice none 0 0] 65)).alloc (.cells #[.int .i64 (m : Int), .slice none 0 0] 65) = w3 := ⟨_, rfl⟩
  have b3 := HB2.out
  have b2 := HB1.out
  have hbl := HBL.out
  have hz := HZS.out
  rw [hw3] at b3 b2 hbl hz ⊢
  have hz3 : w.heap.size + 1 + 1 + 1 ≤ w3.heap.size := by omega
  clear hw3 hz HB2 HB1 HBL HZS
  go_loopw [18] (fun i wr => ∃ (k : Nat) (Ao : Option Addr) (co : Nat) (o2 : List Row), k ≤ n ∧ i = .int .i64 k ∧ Ot wr (w.heap.size + 1 + 1 + 1) Ao k co o2 ∧ rows o2 = (addT f zss).take k ∧ okTo (okRow f zss m) k = true ∧
    Blk wr (w.heap.size + 1 + 1) 65 #[.int .i64 (m : Int), .slice Ao k co] ∧ Blk wr (w.heap.size + 1) 65 #[.int .i64 0, .slice none 0 0] ∧ Below w.heap.size w wr ∧ w.heap.size + 1 + 1 + 1 ≤ wr.heap.size) (fun i _ => n - (intOf i).toNat)
  case atStart => exact ⟨0, none, 0, [], Nat.zero_le _, rfl, Ot.nil _ _, rfl, rfl, b3, b2, hbl, hz3⟩
  case round =>
    clear b3 b2 hbl hz3
    obtain ⟨k, Ao, co, o2, hk, rfl, hot, hro, hok, b3, b2, kr, hzr⟩ := hrel
    have HOK := hide hok
    have HRO := hide hro
    have HOT := hide hot
    have HB3 := hide b3
    have HB2 := hide b2
    clear hok hro
    by_cases hlt : k < n
    · clear b3 b2 hot
      obtain ⟨ad2, ⟨Au, nu, cu, zs⟩, rfl, hbk2, ho2, hc2, hs2⟩ := (h.on kr).cell hlt
      dsimp only at hc2 hs2
      have hz0 := rows_at ho2
      rw [HZ.out] at hz0
      dsimp only at hz0
      have hnu : (zs.length : Int) = m := HK.out.row k zs hz0
      have hnu2 : nu = m := by have := hs2.ilen; omega
      subst hnu2
      have HZ0 := hide hz0
      have HZL := hide (show zs.length = nu by omega)
      have HTK := hide (addT_take (f := f) hz0)
      have HS2 := hide hs2
      clear hz0 hnu ho2
      go_wp2_with fail
      obtain ⟨wo, rfl⟩ : ∃ wo : World, wo = wr := ⟨_, rfl⟩
      go_loopw [9, 25] (fun v j wr => ∃ (l : Nat) (Ar : Option Addr) (cr : Nat), l ≤ nu ∧ j = .int .i64 l ∧ v = .slice Ar l cr ∧ Own wr wo.heap.size 3 1 Ar l cr (ints ((zs.mapIdx fun j x => x + f k j).take l)) ∧ okTo (okCell f zss k) l = true ∧ Below wo.heap.size wo wr) (fun _ j _ => nu - (intOf j).toNat)
      case atStart => exact ⟨0, none, 0, Nat.zero_le _, rfl, rfl, Own.nil _ _ _ _, rfl, Below.refl _ _⟩
      case round =>
        clear hs2 hc2
        obtain ⟨l, Ar, cr, hl, rfl, rfl, hown, hcell, hb⟩ := hrel
        have HCL := hide hcell
        clear hcell
        by_cases hlt2 : l < nu
        · obtain ⟨ad4, x, rfl, hbk4, hx, hcx⟩ := (HS2.out.on hb).icell hlt2
          obtain ⟨x0, x1⟩ := HK.out.cnt k zs l x HZ0.out hx
          obtain ⟨y0, y1⟩ := HFB.out k l
          have HNT := hide (newRow_take (f := f k) hx)
          have HCK := hide (show okCell f zss k l = decide (x + f k l ≤ 1000000000000) by unfold okCell; rw [getD_of HZ0.out, getD_of hx])
          have HDK := hide (HD.out k l hlt hlt2 _ (below_on kr hb))
          obtain ⟨y, hy⟩ : ∃ y, f k l = y := ⟨_, rfl⟩
          rw [hy] at y0 y1 HNT HCK HDK
          have HOW := hide hown
          have hzb := hb.size
          clear hx hy hown
          go_wp2_with fail
          refine HDK.out.mono ?_
          rintro e w5 ⟨rfl, hb5⟩
          have k5 := below_on hb hb5
          have own5 := HOW.out.below hb5 (Nat.le_refl _)
          have z5 := k5.size
          clear HDK
          by_cases hle : x + y ≤ 1000000000000
          · have HN := hide (okTo_next HCL.out (by rw [HCK.out]; exact decide_eq_true hle))
            have ht := inR_yes (x := x + y) (a := 0) (b := 1000000000000) ⟨by omega, hle⟩
            go_wp2_with (at_builtin; refine wpList_append_sl T_int rfl _ _ rfl (by rfl) (by rfl) (own5.alloc _) (Sl.lit (at_new _ _)) (ints_one [x + y]) (by simp only [maxLen]; omega) (by omega) (by simp; omega) ?_; intro A6 c6 w6 ap; obtain ⟨g6, rfl, hg61, hg62⟩ := ap.own.addr (Nat.succ_pos _); have hcy := row_last (ys := zs.mapIdx fun j x => x + f k j) (by rw [List.length_mapIdx]; exact HZL.out) hlt2 ap.own; have HAP := hide ap; have hb56 := (Below.refl w5.heap.size w5).alloc (Nat.le_refl _) (.cells #[.int .i64 (x + y)] 3); clear ap)
            have k6 := (k5.alloc (by omega) _).trans HAP.out.below
            have own6 := HAP.out.own
            rw [show ints ((zs.mapIdx fun j x => x + f k j).take l) ++ [Value.int .i64 (x + y)] = ints ((zs.mapIdx fun j x => x + f k j).take (l + 1)) from by rw [HNT.out, ints_append]; rfl] at own6
            have HK6 := hide k6
            have HO6 := hide own6
            clear own6 own5 k6 k5 hb5 hb56 HAP
            refine (count_any _ _).mono ?_
            rintro e w' ⟨rfl, rfl⟩
            go_wp2_with fail
            go_roundw
            case rel => exact ⟨l + 1, _, _, by omega, by go_num, rfl, HO6.out, HN.out, HK6.out⟩
            case measure => simp [intOf]; omega
          · have ht := inR_no (x := x + y) (a := 0) (b := 1000000000000) (by omega)
            have hB := HB.out
            rw [show okTab f zss nu n = false from okTo_bad (k := k) (okTo_bad (k := l) (by rw [HCK.out]; exact decide_eq_false hle) nu hlt2) n hlt] at hB
            subst hB
            go_wp2_with (at_builtin; refine wpList_append_sl T_int rfl _ _ rfl (by rfl) (by rfl) (own5.alloc _) (Sl.lit (at_new _ _)) (ints_one [x + y]) (by simp only [maxLen]; omega) (by omega) (by simp; omega) ?_; intro A6 c6 w6 ap; obtain ⟨g6, rfl, hg61, hg62⟩ := ap.own.addr (Nat.succ_pos _); have hcy := row_last (ys := zs.mapIdx fun j x => x + f k j) (by rw [List.length_mapIdx]; exact HZL.out) hlt2 ap.own; have HAP := hide ap; have hb56 := (Below.refl w5.heap.size w5).alloc (Nat.le_refl _) (.cells #[.int .i64 (x + y)] 3); clear ap)
            have k6 := (k5.alloc (by omega) _).trans HAP.out.below
            have HK6 := hide k6
            have bz6 := HB2.out.below HK6.out HB2.out.lt
            have p0 : w6.cell? ⟨w.heap.size + 1, 0, none⟩ = some (.int .i64 0) := bz6.at_ (i := 0) rfl
            have p1 : w6.cell? ⟨w.heap.size + 1, 1, none⟩ = some (.slice none 0 0) := bz6.at_ (i := 1) rfl
            have f0 := bz6.free 0
            have f1 := bz6.free 1
            clear own5 k6 k5 hb5 hb56 HAP bz6
            refine (count_any _ _).mono ?_
            rintro e w' ⟨rfl, rfl⟩
            go_wp2_with fail
            refine bodyPost_ret (v := .tuple #[.agg #[.int .i64 0, .slice none 0 0], .int .i64 2]) (by simp [results, Try.results47, go_sem, p0, p1]) rfl ⟨none, 0, 0, [], rfl, Ss.none _, rfl, ?_⟩
            exact below_set (below_set (below_on kr HK6.out) (p := ⟨w.heap.size + 1, 0, none⟩) (by dsimp only; omega) _) (p := ⟨w.heap.size + 1, 1, none⟩) (by dsimp only; omega) _
        · obtain rfl : l = nu := by omega
          have HN := hide (okTo_next (k := k) HOK.out (show okRow f zss l k = true from HCL.out))
          rw [List.take_of_length_le (by simp [HZL.out])] at hown
          have ot5 := HOT.out.below hb (Nat.le_refl _)
          have b35 := HB3.out.below hb HB3.out.lt
          have b25 := HB2.out.below hb HB2.out.lt
          have k5 := below_on kr hb
          have z5 := hb.size
          have q1 : wr.cell? ⟨w.heap.size + 1 + 1, 1, none⟩ = some (.slice Ao k co) := b35.at_ (i := 1) rfl
          have HO5 := hide ot5
          have HB35 := hide b35
          have HB25 := hide b25
          have HOW := hide hown
          clear hown ot5 b35 b25
          have gl5 : w.heap.size + 1 + 1 < wr.heap.size := by omega
          have u1 : wr.frozen? ⟨w.heap.size + 1 + 1, 1, none⟩ = false := HB35.out.free 1
          go_wp2_with (at_builtin; refine wpList_append_sl T_rows rfl _ _ rfl (by rfl) (by rfl) (HO5.out.s.alloc _) (Sl.lit (at_new _ _)) (by intro u hu; rw [List.mem_singleton] at hu; subst hu; rfl) (by simp only [maxLen]; omega) (by omega) (by simp; omega) ?_; intro A7 c7 w7 ap; have q7 := (ap.below.cell (p := ⟨w.heap.size + 1 + 1, 1, none⟩) (Nat.lt_succ_self _)).trans ((World.cell?_alloc_lt _ _ ⟨w.heap.size + 1 + 1, 1, none⟩ gl5).trans q1); have u7 := (ap.below.frozen (p := ⟨w.heap.size + 1 + 1, 1, none⟩) (Nat.lt_succ_self _)).trans ((World.frozen?_alloc_past _ _ _ gl5).trans u1))
          have ot7 := (HO5.out.alloc (.cells #[.slice Ar l cr] 22)).push (o := (Ar, l, cr, zs.mapIdx fun j x => x + f k j)) (W := wo.heap.size) (fun p hp g hg => HOT.out.row_lt p hp g hg) (HOW.out.alloc _) hzr ap
          have b37 := ((HB35.out.alloc (.cells #[.slice Ar l cr] 22)).below ap.below (Nat.lt_succ_self _)).set 1 (.slice A7 (k + 1) c7)
          have b27 := ((HB25.out.alloc (.cells #[.slice Ar l cr] 22)).below ap.below (by omega)).far (p := ⟨w.heap.size + 1 + 1, 1, none⟩) (by dsimp only; omega) (.slice A7 (k + 1) c7)
          have k7 : Below w.heap.size w w7 := k5.trans (((Below.refl _ _).alloc (by have := k5.size; omega) _).trans (ap.below.mono (by omega)))
          have z7 : w.heap.size + 1 + 1 + 1 ≤ w7.heap.size := by have := ap.below.size; simp only [World.size_alloc] at this; omega
          go_roundw
          case rel =>
            refine ⟨k + 1, A7, c7, _, by omega, by go_num, ot7.low (p := ⟨w.heap.size + 1 + 1, 1, none⟩) (Nat.lt_succ_self _) _, ?_, HN.out, ?_, b27, k7.setCell (p := ⟨w.heap.size + 1 + 1, 1, none⟩) (by dsimp only; omega) _, by simp; omega⟩
            · rw [HTK.out, ← HRO.out]
              simp [rows]
            · simpa using b37
          case measure => simp [intOf]; omega
    · obtain rfl : k = n := by omega
      have hB := HB.out
      rw [show okTab f zss m k = true from HOK.out] at hB
      subst hB
      have hr := HRO.out
      rw [List.take_of_length_le (by simp [addT, ← HZ.out, rows_len, HL.out])] at hr
      have HR := hide hr
      have c0 : wr.cell? ⟨w.heap.size + 1 + 1, 0, none⟩ = some (.int .i64 (m : Int)) := b3.at_ (i := 0) rfl
      have c1 : wr.cell? ⟨w.heap.size + 1 + 1, 1, none⟩ = some (.slice Ao k co) := b3.at_ (i := 1) rfl
      have p0 : wr.cell? ⟨w.heap.size + 1, 0, none⟩ = some (.int .i64 0) := b2.at_ (i := 0) rfl
      have p1 : wr.cell? ⟨w.heap.size + 1, 1, none⟩ = some (.slice none 0 0) := b2.at_ (i := 1) rfl
      have f0 := b2.free 0
      have f1 := b2.free 1
      clear hr hot b3 b2
      go_wp2_with fail
      refine bodyPost_ret (v := .tuple #[.agg #[.int .i64 (m : Int), .slice Ao k co], .int .i64 0]) (by simp [results, Try.results47, go_sem, p0, p1]) rfl ⟨Ao, k, co, o2, rfl, ((HOT.out.low (p := ⟨w.heap.size + 1, 0, none⟩) (by dsimp only; omega) _).low (p := ⟨w.heap.size + 1, 1, none⟩) (by dsimp only; omega) _).ss, HR.out, ?_⟩
      exact below_set (below_set kr (p := ⟨w.heap.size + 1, 0, none⟩) (by dsimp only; omega) _) (p := ⟨w.heap.size + 1, 1, none⟩) (by dsimp only; omega) _

set_option maxRecDepth 100000 in
set_option maxHeartbeats 3200000 in
theorem tables_cap3 {m : Nat} (h : Ss w A n c os) (he : tabErr (m : Int) n (rows os) = 0) (g : FuncId) (v0 v1 v2 : Value) (f : Nat → Nat → Int) (hf : ∀ i k, 0 ≤ f i k ∧ f i k ≤ 1000000000000)
    (eg : ∀ (args : Array Value) (W : World), (callFunc g args).run Try.prog W = .ok (.enter g args) W)
    (hd : ∀ (i k : Nat), i < n → k < m → ∀ W, Below w.heap.size w W → Calls Try.prog g #[.int .i64 (i : Int), .int .i64 (k : Int), v0, v1, v2] W fun e w' => e = .returned (.int .i64 (f i k)) ∧ Below W.heap.size W w') {b : Bool} (hb : okTab f (rows os) m n = b) :
    Calls Try.prog 47 #[.agg #[.int .i64 (m : Int), .slice A n c], .func (.func g) #[] #[v0, v1, v2]] w (TabRet w (sumW b m) (sumT b f (rows os)) (sumE b)) := by
  have hmax := h.s.len_max
  have HK := hide (tabOk_rows h he)
  have HB := hide hb
  have HD := hide hd
  have HFB := hide hf
  have m1 : 1 ≤ m := by have := HK.out.w1; omega
  have m2 : m ≤ 32 := by have := HK.out.w2; omega
  have n4 := HK.out.n2
  have HL := hide h.len
  obtain ⟨zss, hzss⟩ : ∃ zss, rows os = zss := ⟨_, rfl⟩
  rw [hzss] at HB HK ⊢
  have HZ := hide hzss
  clear he hb hzss hd hf
  have b2 := (Blk.new ((w.alloc (.cells #[.int .i64 (m : Int), .slice A n c] 65)).alloc (.cells #[.int .i64 0, .slice none 0 0] 65)) 65 #[.int .i64 (m : Int), .slice none 0 0])
  rw [World.size_alloc, World.size_alloc] at b2
  have b1 := (Blk.new (w.alloc (.cells #[.int .i64 (m : Int), .slice A n c] 65)) 65 #[.int .i64 0, .slice none 0 0]).alloc (.cells #[.int .i64 (m : Int), .slice none 0 0] 65)
  rw [World.size_alloc] at b1
  have hbl : Below w.heap.size w (((w.alloc (.cells #[.int .i64 (m : Int), .slice A n c] 65)).alloc (.cells #[.int .i64 0, .slice none 0 0] 65)).alloc (.cells #[.int .i64 (m : Int), .slice none 0 0] 65)) := by repeat' (first | assumption | with_reducible exact Below.refl _ _ | with_reducible apply Below.drew | with_reducible apply below_drewN | with_reducible apply below_alloc | with_reducible refine below_set ?_ ?_ _ | (simp only [World.size_alloc, World.heap_drewN]; omega) | (simp; omega))
  have hz : (((w.alloc (.cells #[.int .i64 (m : Int), .slice A n c] 65)).alloc (.cells #[.int .i64 0, .slice none 0 0] 65)).alloc (.cells #[.int .i64 (m : Int), .slice none 0 0] 65)).heap.size = w.heap.size + 1 + 1 + 1 := by simp only [World.size_alloc]
  have HB2 := hide b2
  have HB1 := hide b1
  have HBL := hide hbl
  have HZS := hide hz
  clear b2 b1 hbl hz
  go_enter Try.func47, Try.ntmps47
  go_wp2_with fail
  obtain ⟨w3, hw3⟩ : ∃ w3, ((w.alloc (.cells #[.int .i64 (m : Int), .slice A n c] 65)).alloc (.cells #[.int .i64 0, .slice none 0 0] 65)).alloc (.cells #[.int .i64 (m : Int), .slice none 0 0] 65) = w3 := ⟨_, rfl⟩
  have b3 := HB2.out
  have b2 := HB1.out
  have hbl := HBL.out
  have hz := HZS.out
  rw [hw3] at b3 b2 hbl hz ⊢
  have hz3 : w.heap.size + 1 + 1 + 1 ≤ w3.heap.size := by omega
  clear hw3 hz HB2 HB1 HBL HZS
  go_loopw [18] (fun i wr => ∃ (k : Nat) (Ao : Option Addr) (co : Nat) (o2 : List Row), k ≤ n ∧ i = .int .i64 k ∧ Ot wr (w.heap.size + 1 + 1 + 1) Ao k co o2 ∧ rows o2 = (addT f zss).take k ∧ okTo (okRow f zss m) k = true ∧
    Blk wr (w.heap.size + 1 + 1) 65 #[.int .i64 (m : Int), .slice Ao k co] ∧ Blk wr (w.heap.size + 1) 65 #[.int .i64 0, .slice none 0 0] ∧ Below w.heap.size w wr ∧ w.heap.size + 1 + 1 + 1 ≤ wr.heap.size) (fun i _ => n - (intOf i).toNat)
  case atStart => exact ⟨0, none, 0, [], Nat.zero_le _, rfl, Ot.nil _ _, rfl, rfl, b3, b2, hbl, hz3⟩
  case round =>
    clear b3 b2 hbl hz3
    obtain ⟨k, Ao, co, o2, hk, rfl, hot, hro, hok, b3, b2, kr, hzr⟩ := hrel
    have HOK := hide hok
    have HRO := hide hro
    have HOT := hide hot
    have HB3 := hide b3
    have HB2 := hide b2
    clear hok hro
    by_cases hlt : k < n
    · clear b3 b2 hot
      obtain ⟨ad2, ⟨Au, nu, cu, zs⟩, rfl, hbk2, ho2, hc2, hs2⟩ := (h.on kr).cell hlt
      dsimp only at hc2 hs2
      have hz0 := rows_at ho2
      rw [HZ.out] at hz0
      dsimp only at hz0
      have hnu : (zs.length : Int) = m := HK.out.row k zs hz0
      have hnu2 : nu = m := by have := hs2.ilen; omega
      subst hnu2
      have HZ0 := hide hz0
      have HZL := hide (show zs.length = nu by omega)
      have HTK := hide (addT_take (f := f) hz0)
      have HS2 := hide hs2
      clear hz0 hnu ho2
      go_wp2_with fail
      obtain ⟨wo, rfl⟩ : ∃ wo : World, wo = wr := ⟨_, rfl⟩
      go_loopw [9, 25] (fun v j wr => ∃ (l : Nat) (Ar : Option Addr) (cr : Nat), l ≤ nu ∧ j = .int .i64 l ∧ v = .slice Ar l cr ∧ Own wr wo.heap.size 3 1 Ar l cr (ints ((zs.mapIdx fun j x => x + f k j).take l)) ∧ okTo (okCell f zss k) l = true ∧ Below wo.heap.size wo wr) (fun _ j _ => nu - (intOf j).toNat)
      case atStart => exact ⟨0, none, 0, Nat.zero_le _, rfl, rfl, Own.nil _ _ _ _, rfl, Below.refl _ _⟩
      case round =>
        clear hs2 hc2
        obtain ⟨l, Ar, cr, hl, rfl, rfl, hown, hcell, hb⟩ := hrel
        have HCL := hide hcell
        clear hcell
        by_cases hlt2 : l < nu
        · obtain ⟨ad4, x, rfl, hbk4, hx, hcx⟩ := (HS2.out.on hb).icell hlt2
          obtain ⟨x0, x1⟩ := HK.out.cnt k zs l x HZ0.out hx
          obtain ⟨y0, y1⟩ := HFB.out k l
          have HNT := hide (newRow_take (f := f k) hx)
          have HCK := hide (show okCell f zss k l = decide (x + f k l ≤ 1000000000000) by unfold okCell; rw [getD_of HZ0.out, getD_of hx])
          have HDK := hide (HD.out k l hlt hlt2 _ (below_on kr hb))
          obtain ⟨y, hy⟩ : ∃ y, f k l = y := ⟨_, rfl⟩
          rw [hy] at y0 y1 HNT HCK HDK
          have HOW := hide hown
          have hzb := hb.size
          clear hx hy hown
          go_wp2_with fail
          refine HDK.out.mono ?_
          rintro e w5 ⟨rfl, hb5⟩
          have k5 := below_on hb hb5
          have own5 := HOW.out.below hb5 (Nat.le_refl _)
          have z5 := k5.size
          clear HDK
          by_cases hle : x + y ≤ 1000000000000
          · have HN := hide (okTo_next HCL.out (by rw [HCK.out]; exact decide_eq_true hle))
            have ht := inR_yes (x := x + y) (a := 0) (b := 1000000000000) ⟨by omega, hle⟩
            go_wp2_with (at_builtin; refine wpList_append_sl T_int rfl _ _ rfl (by rfl) (by rfl) (own5.alloc _) (Sl.lit (at_new _ _)) (ints_one [x + y]) (by simp only [maxLen]; omega) (by omega) (by simp; omega) ?_; intro A6 c6 w6 ap; obtain ⟨g6, rfl, hg61, hg62⟩ := ap.own.addr (Nat.succ_pos _); have hcy := row_last (ys := zs.mapIdx fun j x => x + f k j) (by rw [List.length_mapIdx]; exact HZL.out) hlt2 ap.own; have HAP := hide ap; have hb56 := (Below.refl w5.heap.size w5).alloc (Nat.le_refl _) (.cells #[.int .i64 (x + y)] 3); clear ap)
            have k6 := (k5.alloc (by omega) _).trans HAP.out.below
            have own6 := HAP.out.own
            rw [show ints ((zs.mapIdx fun j x => x + f k j).take l) ++ [Value.int .i64 (x + y)] = ints ((zs.mapIdx fun j x => x + f k j).take (l + 1)) from by rw [HNT.out, ints_append]; rfl] at own6
            have HK6 := hide k6
            have HO6 := hide own6
            clear own6 own5 k6 k5 hb5 hb56 HAP
            refine (count_any _ _).mono ?_
            rintro e w' ⟨rfl, rfl⟩
            go_wp2_with fail
            go_roundw
            case rel => exact ⟨l + 1, _, _, by omega, by go_num, rfl, HO6.out, HN.out, HK6.out⟩
            case measure => simp [intOf]; omega
          · have ht := inR_no (x := x + y) (a := 0) (b := 1000000000000) (by omega)
            have hB := HB.out
            rw [show okTab f zss nu n = false from okTo_bad (k := k) (okTo_bad (k := l) (by rw [HCK.out]; exact decide_eq_false hle) nu hlt2) n hlt] at hB
            subst hB
            go_wp2_with (at_builtin; refine wpList_append_sl T_int rfl _ _ rfl (by rfl) (by rfl) (own5.alloc _) (Sl.lit (at_new _ _)) (ints_one [x + y]) (by simp only [maxLen]; omega) (by omega) (by simp; omega) ?_; intro A6 c6 w6 ap; obtain ⟨g6, rfl, hg61, hg62⟩ := ap.own.addr (Nat.succ_pos _); have hcy := row_last (ys := zs.mapIdx fun j x => x + f k j) (by rw [List.length_mapIdx]; exact HZL.out) hlt2 ap.own; have HAP := hide ap; have hb56 := (Below.refl w5.heap.size w5).alloc (Nat.le_refl _) (.cells #[.int .i64 (x + y)] 3); clear ap)
            have k6 := (k5.alloc (by omega) _).trans HAP.out.below
            have HK6 := hide k6
            have bz6 := HB2.out.below HK6.out HB2.out.lt
            have p0 : w6.cell? ⟨w.heap.size + 1, 0, none⟩ = some (.int .i64 0) := bz6.at_ (i := 0) rfl
            have p1 : w6.cell? ⟨w.heap.size + 1, 1, none⟩ = some (.slice none 0 0) := bz6.at_ (i := 1) rfl
            have f0 := bz6.free 0
            have f1 := bz6.free 1
            clear own5 k6 k5 hb5 hb56 HAP bz6
            refine (count_any _ _).mono ?_
            rintro e w' ⟨rfl, rfl⟩
            go_wp2_with fail
            refine bodyPost_ret (v := .tuple #[.agg #[.int .i64 0, .slice none 0 0], .int .i64 2]) (by simp [results, Try.results47, go_sem, p0, p1]) rfl ⟨none, 0, 0, [], rfl, Ss.none _, rfl, ?_⟩
            exact below_set (below_set (below_on kr HK6.out) (p := ⟨w.heap.size + 1, 0, none⟩) (by dsimp only; omega) _) (p := ⟨w.heap.size + 1, 1, none⟩) (by dsimp only; omega) _
        · obtain rfl : l = nu := by omega
          have HN := hide (okTo_next (k := k) HOK.out (show okRow f zss l k = true from HCL.out))
          rw [List.take_of_length_le (by simp [HZL.out])] at hown
          have ot5 := HOT.out.below hb (Nat.le_refl _)
          have b35 := HB3.out.below hb HB3.out.lt
          have b25 := HB2.out.below hb HB2.out.lt
          have k5 := below_on kr hb
          have z5 := hb.size
          have q1 : wr.cell? ⟨w.heap.size + 1 + 1, 1, none⟩ = some (.slice Ao k co) := b35.at_ (i := 1) rfl
          have HO5 := hide ot5
          have HB35 := hide b35
          have HB25 := hide b25
          have HOW := hide hown
          clear hown ot5 b35 b25
          have gl5 : w.heap.size + 1 + 1 < wr.heap.size := by omega
          have u1 : wr.frozen? ⟨w.heap.size + 1 + 1, 1, none⟩ = false := HB35.out.free 1
          go_wp2_with (at_builtin; refine wpList_append_sl T_rows rfl _ _ rfl (by rfl) (by rfl) (HO5.out.s.alloc _) (Sl.lit (at_new _ _)) (by intro u hu; rw [List.mem_singleton] at hu; subst hu; rfl) (by simp only [maxLen]; omega) (by omega) (by simp; omega) ?_; intro A7 c7 w7 ap; have q7 := (ap.below.cell (p := ⟨w.heap.size + 1 + 1, 1, none⟩) (Nat.lt_succ_self _)).trans ((World.cell?_alloc_lt _ _ ⟨w.heap.size + 1 + 1, 1, none⟩ gl5).trans q1); have u7 := (ap.below.frozen (p := ⟨w.heap.size + 1 + 1, 1, none⟩) (Nat.lt_succ_self _)).trans ((World.frozen?_alloc_past _ _ _ gl5).trans u1))
          have ot7 := (HO5.out.alloc (.cells #[.slice Ar l cr] 22)).push (o := (Ar, l, cr, zs.mapIdx fun j x => x + f k j)) (W := wo.heap.size) (fun p hp g hg => HOT.out.row_lt p hp g hg) (HOW.out.alloc _) hzr ap
          have b37 := ((HB35.out.alloc (.cells #[.slice Ar l cr] 22)).below ap.below (Nat.lt_succ_self _)).set 1 (.slice A7 (k + 1) c7)
          have b27 := ((HB25.out.alloc (.cells #[.slice Ar l cr] 22)).below ap.below (by omega)).far (p := ⟨w.heap.size + 1 + 1, 1, none⟩) (by dsimp only; omega) (.slice A7 (k + 1) c7)
          have k7 : Below w.heap.size w w7 := k5.trans (((Below.refl _ _).alloc (by have := k5.size; omega) _).trans (ap.below.mono (by omega)))
          have z7 : w.heap.size + 1 + 1 + 1 ≤ w7.heap.size := by have := ap.below.size; simp only [World.size_alloc] at this; omega
          go_roundw
          case rel =>
            refine ⟨k + 1, A7, c7, _, by omega, by go_num, ot7.low (p := ⟨w.heap.size + 1 + 1, 1, none⟩) (Nat.lt_succ_self _) _, ?_, HN.out, ?_, b27, k7.setCell (p := ⟨w.heap.size + 1 + 1, 1, none⟩) (by dsimp only; omega) _, by simp; omega⟩
            · rw [HTK.out, ← HRO.out]
              simp [rows]
            · simpa using b37
          case measure => simp [intOf]; omega
    · obtain rfl : k = n := by omega
      have hB := HB.out
      rw [show okTab f zss m k = true from HOK.out] at hB
      subst hB
      have hr := HRO.out
      rw [List.take_of_length_le (by simp [addT, ← HZ.out, rows_len, HL.out])] at hr
      have HR := hide hr
      have c0 : wr.cell? ⟨w.heap.size + 1 + 1, 0, none⟩ = some (.int .i64 (m : Int)) := b3.at_ (i := 0) rfl
      have c1 : wr.cell? ⟨w.heap.size + 1 + 1, 1, none⟩ = some (.slice Ao k co) := b3.at_ (i := 1) rfl
      have p0 : wr.cell? ⟨w.heap.size + 1, 0, none⟩ = some (.int .i64 0) := b2.at_ (i := 0) rfl
      have p1 : wr.cell? ⟨w.heap.size + 1, 1, none⟩ = some (.slice none 0 0) := b2.at_ (i := 1) rfl
      have f0 := b2.free 0
      have f1 := b2.free 1
      clear hr hot b3 b2
      go_wp2_with fail
      refine bodyPost_ret (v := .tuple #[.agg #[.int .i64 (m : Int), .slice Ao k co], .int .i64 0]) (by simp [results, Try.results47, go_sem, p0, p1]) rfl ⟨Ao, k, co, o2, rfl, ((HOT.out.low (p := ⟨w.heap.size + 1, 0, none⟩) (by dsimp only; omega) _).low (p := ⟨w.heap.size + 1, 1, none⟩) (by dsimp only; omega) _).ss, HR.out, ?_⟩
      exact below_set (below_set kr (p := ⟨w.heap.size + 1, 0, none⟩) (by dsimp only; omega) _) (p := ⟨w.heap.size + 1, 1, none⟩) (by dsimp only; omega) _

end
end Go.Proofs.Ytjmkejindmgckaa
