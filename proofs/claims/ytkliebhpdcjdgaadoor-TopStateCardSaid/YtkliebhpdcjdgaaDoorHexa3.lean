/-
  culref.Rv, Th, ParseRv, ParseTh: the walks. Conditions: a text's length.
-/
import Derived.Test.YtkliebhpdcjdgaaDoorHexa
import Derived.Test.YtkliebhpdcjdgaaDoorMem
import Derived.Shelf.Strings.Trim
import Derived.Shelf.Small.Strs
namespace Go.Proofs.YtkliebhpdcjdgaaDoor
open Go.RowKit Go.Shelf

theorem last_next (N k : Nat) : hexs.extract (N / 16 ^ k % 16) (N / 16 ^ k % 16 + 1) ++ tx (digs k N) = tx (digs (k + 1) N) := by
  rw [hex_piece (Nat.mod_lt _ (by decide)), tx_app, digs_cons]
  rfl
theorem rrv_any {N : Nat} (hN : N < 72057594037927936) (w : World) : Calls Tryd.prog 24 #[.int .i64 N] w fun e w' => e = .returned (.string (tx (digs 14 N))) ∧ w = w' := by
  go_enter Tryd.func24, Tryd.ntmps24
  go_wp2_with fail
  go_loop [0, 3, 4] (fun n v i => ∃ k : Nat, k ≤ 14 ∧ i = .int .i64 k ∧ n = .int .i64 (N / 16 ^ k : Nat) ∧ v = .string (tx (digs k N))) (fun _ _ i => 14 - (intOf i).toNat)
  case atStart => exact ⟨0, by omega, rfl, by simp, rfl⟩
  case round =>
    obtain ⟨k, hk, rfl, rfl, rfl⟩ := hrel
    by_cases hlt : k < 14
    · have hn := last_next N k
      have hd : N / 16 ^ k % 16 < 16 := Nat.mod_lt _ (by decide)
      have h1 := hexs_size hd
      have h2 : (tx (digs k N)).size = k := by rw [tx_size, digs_len]
      have h3 : N / 16 ^ (k + 1) = N / 16 ^ k / 16 := by rw [Nat.div_div_eq_div_mul, Nat.pow_succ]
      have h5 : N / 16 ^ k < 72057594037927936 := Nat.lt_of_le_of_lt (Nat.div_le_self _ _) hN
      obtain ⟨V, hV⟩ : ∃ V, N / 16 ^ k = V := ⟨_, rfl⟩
      rw [hV] at hn hd h1 h3 h5 ⊢
      have hV' := hide hV
      obtain ⟨C, hC⟩ : ∃ C, hexs.extract (V % 16) (V % 16 + 1) = C := ⟨_, rfl⟩
      rw [hC] at hn h1
      obtain ⟨U, hU⟩ : ∃ U, tx (digs (k + 1) N) = U := ⟨_, rfl⟩
      rw [hU] at hn
      have HU := hide hU
      have H3 := hide h3
      obtain ⟨d, hdd⟩ : ∃ d, V % 16 = d := ⟨_, rfl⟩
      have e1 : (V : Int) % 16 = (d : Int) := by omega
      rw [hdd] at hC hd
      unfold hexs at hC
      generalize tx (digs k N) = T at hn h2 ⊢
      clear hV hU h3 hdd
      go_wp2_with fail
      refine ⟨⟨k + 1, by omega, by go_num, ?_, by rw [HU.out]⟩, by simp [intOf]; omega⟩
      rw [H3.out]
      first | rfl | (congr 1; omega)
    · obtain rfl : k = 14 := by omega
      go_wp2_with fail
      go_ret
      exact ⟨rfl, rfl⟩

def laysTR_ren : Go.Shelf.Ren := ⟨fun | 162 => 49 | 232 => 63 | 227 => 64 | 234 => 65 | 236 => 66 | 228 => 76 | 271 => 77 | 151 => 78 | 120 => 88 | 197 => 83 | 152 => 89 | 260 => 90 | 137 => 50 | 119 => 92 | 224 => 86 | 225 => 85 | 217 => 67 | 266 => 79 | n => n, fun | 9 => 9 | 4 => 4 | 3 => 3 | 5 => 5 | 117 => 99 | 116 => 98 | 0 => 0 | 124 => 102 | 21 => 21 | 105 => 108 | 46 => 63 | 119 => 119 | 139 => 122 | 138 => 121 | n => n, fun | 3 => 3 | 4 => 4 | n => n⟩
theorem laysTR : Go.Proofs.Lays.n162 Tryd.prog laysTR_ren := {
  mixed := by kernel_rfl
  f119 := Tryd.func92.trans (congrArg some (by kernel_rfl))
  f120 := Tryd.func88.trans (congrArg some (by kernel_rfl))
  f137 := Tryd.func50.trans (congrArg some (by kernel_rfl))
  f151 := Tryd.func78.trans (congrArg some (by kernel_rfl))
  f152 := Tryd.func89.trans (congrArg some (by kernel_rfl))
  f162 := Tryd.func49.trans (congrArg some (by kernel_rfl))
  f197 := Tryd.func83.trans (congrArg some (by kernel_rfl))
  f217 := Tryd.func67.trans (congrArg some (by kernel_rfl))
  f224 := Tryd.func86.trans (congrArg some (by kernel_rfl))
  f225 := Tryd.func85.trans (congrArg some (by kernel_rfl))
  f227 := Tryd.func64.trans (congrArg some (by kernel_rfl))
  f228 := Tryd.func76.trans (congrArg some (by kernel_rfl))
  f232 := Tryd.func63.trans (congrArg some (by kernel_rfl))
  f234 := Tryd.func65.trans (congrArg some (by kernel_rfl))
  f236 := Tryd.func66.trans (congrArg some (by kernel_rfl))
  f260 := Tryd.func90.trans (congrArg some (by kernel_rfl))
  f266 := Tryd.func79.trans (congrArg some (by kernel_rfl))
  f271 := Tryd.func77.trans (congrArg some (by kernel_rfl))
  t0 := Tryd.underlying0
  a0 := Tryd.isAgg0
  z0 := Tryd.sizeOf0
  v0 := Tryd.zeroValue0
  t3 := Tryd.underlying3
  a3 := Tryd.isAgg3
  z3 := Tryd.sizeOf3
  v3 := Tryd.zeroValue3
  t4 := Tryd.underlying4
  a4 := Tryd.isAgg4
  z4 := Tryd.sizeOf4
  v4 := Tryd.zeroValue4
  t5 := Tryd.underlying5
  a5 := Tryd.isAgg5
  z5 := Tryd.sizeOf5
  v5 := Tryd.zeroValue5
  t9 := Tryd.underlying9
  a9 := Tryd.isAgg9
  z9 := Tryd.sizeOf9
  v9 := Tryd.zeroValue9
  t21 := Tryd.underlying21
  a21 := Tryd.isAgg21
  z21 := Tryd.sizeOf21
  v21 := Tryd.zeroValue21
  t46 := Tryd.underlying63
  a46 := Tryd.isAgg63
  z46 := Tryd.sizeOf63
  v46 := Tryd.zeroValue63
  t105 := Tryd.underlying108
  a105 := Tryd.isAgg108
  z105 := Tryd.sizeOf108
  v105 := Tryd.zeroValue108
  t116 := Tryd.underlying98
  a116 := Tryd.isAgg98
  z116 := Tryd.sizeOf98
  t117 := Tryd.underlying99
  a117 := Tryd.isAgg99
  z117 := Tryd.sizeOf99
  v117 := Tryd.zeroValue99
  t119 := Tryd.underlying119
  a119 := Tryd.isAgg119
  z119 := Tryd.sizeOf119
  t124 := Tryd.underlying102
  a124 := Tryd.isAgg102
  z124 := Tryd.sizeOf102
  v124 := Tryd.zeroValue102
  t138 := Tryd.underlying121
  a138 := Tryd.isAgg121
  z138 := Tryd.sizeOf121
  v138 := Tryd.zeroValue121
  t139 := Tryd.underlying122
  a139 := Tryd.isAgg122
  z139 := Tryd.sizeOf122
  v139 := Tryd.zeroValue122
  g3 := by kernel_rfl
  g4 := by kernel_rfl }
theorem trim0 (l : List UInt8) (hl : l.length ≤ 140737488351232) (w : World) : Calls Tryd.prog 49 #[.string (tx l), .string ⟨#[48]⟩] w fun e w' => e = .returned (.string (tx (tz l))) ∧ w = w' := by
  refine (Any.strings_TrimRight_one laysTR (tx l) 48 (by decide) w (by rw [tx_size]; omega)).mono ?_
  rintro e w' ⟨rfl, rfl⟩
  exact ⟨rfl, rfl⟩
theorem empty_yes : (tx []).toList.isEmpty = true := by rw [ByteArray.toList_eq]; rfl
theorem empty_no {l : List UInt8} (h : ¬ l = []) : (tx l).toList.isEmpty = false := by rw [ByteArray.toList_eq]; simpa [tx] using h
theorem rth_any {N : Nat} (hN : N < 72057594037927936) (w : World) : Calls Tryd.prog 23 #[.int .i64 N] w fun e w' => e = .returned (.string (tx (thS (digs 14 N)))) ∧ w = w' := by
  have HT := hide (trim0 (digs 14 N) (by rw [digs_len]; omega))
  have HR := hide (rrv_any hN)
  unfold thS
  generalize digs 14 N = l at HT HR ⊢
  by_cases h : tz l = []
  · rw [if_pos h]
    rw [h] at HT
    have e0 := empty_yes
    clear h
    generalize tx l = L at HT HR
    generalize tx [] = T at HT e0
    go_enter Tryd.func23, Tryd.ntmps23
    go_wp2_with fail
    refine (HR.out _).mono ?_
    rintro e w' ⟨rfl, rfl⟩
    go_wp2_with fail
    refine (HT.out _).mono ?_
    rintro e w' ⟨rfl, rfl⟩
    go_wp2_with fail
    go_ret
    exact ⟨rfl, rfl⟩
  · rw [if_neg h]
    have e0 := empty_no h
    clear h
    generalize tx l = L at HT HR
    generalize tx (tz l) = T at HT e0 ⊢
    go_enter Tryd.func23, Tryd.ntmps23
    go_wp2_with fail
    refine (HR.out _).mono ?_
    rintro e w' ⟨rfl, rfl⟩
    go_wp2_with fail
    refine (HT.out _).mono ?_
    rintro e w' ⟨rfl, rfl⟩
    go_wp2_with fail
    go_ret
    exact ⟨rfl, rfl⟩

def laysIB_ren : Go.Shelf.Ren := ⟨fun | 137 => 50 | 217 => 67 | 266 => 79 | n => n, fun | 9 => 9 | 5 => 5 | 3 => 3 | n => n, fun | n => n⟩
theorem laysIB : Go.Proofs.Lays.n137 Tryd.prog laysIB_ren := {
  mixed := by kernel_rfl
  f137 := Tryd.func50.trans (congrArg some (by kernel_rfl))
  f217 := Tryd.func67.trans (congrArg some (by kernel_rfl))
  f266 := Tryd.func79.trans (congrArg some (by kernel_rfl))
  t3 := Tryd.underlying3
  a3 := Tryd.isAgg3
  z3 := Tryd.sizeOf3
  v3 := Tryd.zeroValue3
  t5 := Tryd.underlying5
  a5 := Tryd.isAgg5
  z5 := Tryd.sizeOf5
  v5 := Tryd.zeroValue5
  t9 := Tryd.underlying9
  a9 := Tryd.isAgg9
  z9 := Tryd.sizeOf9
  v9 := Tryd.zeroValue9 }
def hexi (c : UInt8) : Int := if isHex c then (hexv c : Int) else -1
theorem hexi_is (c : UInt8) : Lib.indexByte hexs.data.toList c = hexi c := by
  have : ∀ n, n < 256 → Lib.indexByte hexs.data.toList (UInt8.ofNat n) = hexi (UInt8.ofNat n) := by decide +kernel
  have h := this c.toNat c.toNat_lt
  rwa [UInt8.ofNat_toNat] at h
theorem idx_any (c : UInt8) (w : World) : Calls Tryd.prog 50 #[.string ⟨#[48, 49, 50, 51, 52, 53, 54, 55, 56, 57, 97, 98, 99, 100, 101, 102]⟩, .int .u8 c.toNat] w fun e w' => e = .returned (.int .i64 (hexi c)) ∧ w = w' := by
  refine (Any.strings_IndexByte laysIB hexs (c.toNat : Int) w).mono ?_
  rintro e w' ⟨rfl, rfl⟩
  rw [show (((c.toNat : Nat) : Int)).toNat.toUInt8 = c by simp, hexi_is]
  exact ⟨rfl, rfl⟩

theorem rvR_len {l : List UInt8} (h : ¬ l.length = 14) : rvR l = -1 := by unfold rvR rvOk; rw [decide_eq_false h, Bool.and_false]; rfl
theorem rvR_bad {l : List UInt8} {k : Nat} (hk : k < l.length) (h : isHex (l.getD k 48) = false) : rvR l = -1 := by
  by_cases h14 : l.length = 14
  · unfold rvR rvOk hexTo
    rw [okTo_bad (p := fun i => isHex (l.getD i 48)) (k := k) h 14 (by omega)]
    rfl
  · exact rvR_len h14
theorem rvR_ok {l : List UInt8} (h14 : l.length = 14) (h : hexTo l 14 = true) : rvR l = pv l 14 := by unfold rvR rvOk; rw [h, decide_eq_true h14]; rfl
theorem pv_big {l : List UInt8} {k : Nat} (hx : hexTo l k = true) (h : 72057594037927936 ≤ pv l k) : 14 < k := by
  have h1 := pv_lt k hx
  by_cases e : 14 < k
  · exact e
  · have := Nat.pow_le_pow_right (n := 16) (by decide) (show k ≤ 14 by omega)
    omega
set_option maxRecDepth 20000 in
set_option maxHeartbeats 1600000 in
theorem rprv_any {l : List UInt8} (hl : l.length ≤ 140737488351232) (w : World) :
    Calls Tryd.prog 26 #[.string (tx l)] w fun e w' => e = .returned (.int .i64 (rvR l)) ∧ Below w.heap.size w w' := by
  have hsz := tx_size l
  have hget : ∀ k (h : k < (tx l).size), (tx l)[k]'h = l.getD k 48 := fun k h => tx_get h
  obtain ⟨s, hs⟩ : ∃ s, tx l = s := ⟨_, rfl⟩
  rw [hs] at hsz hget ⊢
  clear hs
  go_enter Tryd.func26, Tryd.ntmps26
  go_wp2_with fail
  rw [run_bytes_of_string _ _ _ 5 s (by kernel_rfl) (by kernel_rfl) (by kernel_rfl)]
  have hcell : ∀ k, k < l.length → (w.drew.alloc (.cells (bytesRow s (grownCap w s.size 0 5)) 5 ((bytesRow s (grownCap w s.size 0 5)).size, (bytesRow s (grownCap w s.size 0 5)).size + 1))).cell? ⟨w.heap.size, k, none⟩ = some (.int .u8 ((l.getD k 48).toNat : Int)) := by
    intro k hk
    have hk2 : k < s.size := by rw [hsz]; exact hk
    rw [← hget k hk2]
    rw [show w.heap.size = w.drew.heap.size from rfl, World.cell?_alloc_mark]
    have hk' : k < s.data.size := hk2
    unfold bytesRow
    rw [Array.getElem?_append_left (by simpa using hk')]
    simp [hk']
    exact ⟨s.data[k], by simp [hk'], rfl⟩
  have hbel : Below w.heap.size w (w.drew.alloc (.cells (bytesRow s (grownCap w s.size 0 5)) 5 ((bytesRow s (grownCap w s.size 0 5)).size, (bytesRow s (grownCap w s.size 0 5)).size + 1))) := by repeat' (first | assumption | with_reducible exact Below.refl _ _ | with_reducible apply Below.drew | with_reducible apply below_drewN | with_reducible apply below_alloc | with_reducible refine below_set ?_ ?_ _ | (simp only [World.size_alloc, World.heap_drewN]; omega) | (simp; omega))
  rw [hsz] at hcell hbel ⊢
  generalize w.drew.alloc (.cells (bytesRow s (grownCap w l.length 0 5)) 5 ((bytesRow s (grownCap w l.length 0 5)).size, (bytesRow s (grownCap w l.length 0 5)).size + 1)) = w1 at hcell hbel ⊢
  generalize grownCap w l.length 0 5 = cap
  have HCL := hide hcell
  clear hcell hget
  go_wp2_with fail
  go_loop [3, 10] (fun v i => ∃ k : Nat, k ≤ l.length ∧ i = .int .i64 k ∧ v = .int .i64 (pv l k) ∧ hexTo l k = true ∧ pv l k < 2305843009213693952) (fun _ i => l.length - (intOf i).toNat)
  case atStart => exact ⟨0, Nat.zero_le _, rfl, rfl, rfl, by simp [pv]⟩
  case round =>
    obtain ⟨k, hk, rfl, rfl, hx, hp⟩ := hrel
    have HX := hide hx
    obtain ⟨P, hP⟩ : ∃ P, pv l k = P := ⟨_, rfl⟩
    have HP := hide hP
    rw [hP] at hp ⊢
    clear hx hP
    by_cases hlt : k < l.length
    · have hc := HCL.out k hlt
      obtain ⟨c, hcc⟩ : ∃ c, l.getD k 48 = c := ⟨_, rfl⟩
      have HC := hide hcc
      rw [hcc] at hc
      clear hcc
      have c8 := c.toNat_lt
      have HI := hide (idx_any c)
      cases hh : isHex c
      · have HH := hide hh
        rw [show hexi c = -1 by unfold hexi; rw [hh]; rfl] at HI
        clear hh
        go_wp2_with fail
        refine (HI.out _).mono ?_
        rintro e w' ⟨rfl, rfl⟩
        go_wp2_with fail
        rw [rvR_bad hlt (by rw [HC.out]; exact HH.out)]
        go_ret
        exact ⟨rfl, hbel⟩
      · have HH := hide hh
        rw [show hexi c = (hexv c : Int) by unfold hexi; rw [hh]; rfl] at HI
        have hv := hexv_lt hh
        clear hh
        obtain ⟨V, hV⟩ : ∃ V, hexv c = V := ⟨_, rfl⟩
        have HV := hide hV
        rw [hV] at HI hv
        clear hV
        by_cases hbig : 72057594037927936 ≤ P
        · go_wp2_with fail
          refine (HI.out _).mono ?_
          rintro e w' ⟨rfl, rfl⟩
          go_wp2_with fail
          rw [rvR_len (by have := pv_big HX.out (by rw [HP.out]; exact hbig); omega)]
          go_ret
          exact ⟨rfl, hbel⟩
        · go_wp2_with fail
          refine (HI.out _).mono ?_
          rintro e w' ⟨rfl, rfl⟩
          go_wp2_with fail
          have hn : pv l (k + 1) = P * 16 + V := by rw [pv, HP.out, HC.out, HV.out]
          refine ⟨⟨k + 1, by omega, by go_num, ?_, okTo_next HX.out (by show isHex (l.getD k 48) = true; rw [HC.out]; exact HH.out), by rw [hn]; omega⟩, by simp [intOf]; omega⟩
          rw [hn]
          first | rfl | (congr 1; omega)
    · obtain rfl : k = l.length := by omega
      by_cases h14 : l.length = 14
      · have hr := hide (show rvR l = P by rw [← HP.out, h14]; exact rvR_ok h14 (by rw [← h14]; exact HX.out))
        rw [h14]
        go_wp2_with fail
        rw [hr.out]
        go_ret
        exact ⟨rfl, hbel⟩
      · have t1 : ((l.length : Int) != 14) = true := by simp; omega
        go_wp2_with fail
        rw [rvR_len h14]
        go_ret
        exact ⟨rfl, hbel⟩

def zeros14 : ByteArray := ⟨#[48, 48, 48, 48, 48, 48, 48, 48, 48, 48, 48, 48, 48, 48]⟩
theorem zeros_piece {m : Nat} (h : m ≤ 14) : zeros14.extract 0 m = tx (List.replicate m 48) := by
  have : ∀ m < 15, (zeros14.extract 0 m).data = (tx (List.replicate m 48)).data := by decide +kernel
  exact ByteArray.ext (this m (by omega))
theorem thR_no {l : List UInt8} (h : thOk l = false) : thR l = -1 := by unfold thR; rw [h]; rfl
theorem thR_yes {l : List UInt8} (h : thOk l = true) : thR l = pv l 14 := by unfold thR; rw [h]; rfl
theorem rvR_pad {l : List UInt8} (h : l.length ≤ 14) : rvR (l ++ List.replicate (14 - l.length) 48) = if hexTo l 14 then (pv l 14 : Int) else -1 := by
  unfold rvR rvOk
  rw [hexTo_pad, pv_pad, decide_eq_true (show (l ++ List.replicate (14 - l.length) (48 : UInt8)).length = 14 by simp; omega)]
  cases hexTo l 14 <;> rfl
theorem tx_inj {a b : List UInt8} (h : tx a = tx b) : a = b := by
  have := congrArg (fun s => s.data.toList) h
  simpa [tx] using this
theorem tx_nb {a b : List UInt8} (h : ¬ a = b) : ((tx a).toList == (tx b).toList) = false := by
  rw [ByteArray.toList_eq, ByteArray.toList_eq]
  simpa [tx] using h
set_option maxRecDepth 20000 in
set_option maxHeartbeats 1600000 in
theorem rpth_any {l : List UInt8} (hl : l.length ≤ 140737488351232) (w : World) :
    Calls Tryd.prog 25 #[.string (tx l)] w fun e w' => e = .returned (.int .i64 (thR l)) ∧ Below w.heap.size w w' := by
  have hsz := tx_size l
  by_cases h0 : 0 < l.length
  · by_cases h14 : l.length ≤ 14
    · obtain ⟨m, hm⟩ : ∃ m, 14 - l.length = m := ⟨_, rfl⟩
      have hz := zeros_piece (m := m) (by omega)
      have hc := tx_app l (List.replicate m 48)
      have hzs : (tx (List.replicate m 48)).size = m := by rw [tx_size, List.length_replicate]
      have hmi : (14 : Int) - (l.length : Int) = (m : Int) := by omega
      have HP := hide (rprv_any (l := l ++ List.replicate m 48) (by simp; omega))
      rw [← hm, rvR_pad h14, hm] at HP
      cases hx : hexTo l 14
      · rw [hx, if_neg (by simp)] at HP
        have hr := hide (thR_no (l := l) (by unfold thOk; rw [hx]; rfl))
        clear hx
        generalize tx l = S at hsz hc HP ⊢
        generalize tx (List.replicate m 48) = Z at hz hc hzs
        generalize tx (l ++ List.replicate m 48) = Y at hc HP
        unfold zeros14 at hz
        go_enter Tryd.func25, Tryd.ntmps25
        go_wp2_with fail
        refine (HP.out _).mono ?_
        rintro e w1 ⟨rfl, bel⟩
        go_wp2_with fail
        rw [hr.out]
        go_ret
        exact ⟨rfl, bel⟩
      · rw [hx, if_pos rfl] at HP
        have hV := pv_lt 14 hx
        have HT := hide (rth_any (N := pv l 14) hV)
        have hb := th_back h0 h14 hx
        have hok : thOk l = !endsBad l := by unfold thOk; rw [hx, decide_eq_true ⟨h0, h14⟩]; rfl
        by_cases ht : thS (digs 14 (pv l 14)) = l
        · have hr := hide (thR_yes (l := l) (by rw [hok, hb.1 ht]; rfl))
          rw [ht] at HT
          clear hx hb hok ht
          generalize tx l = S at hsz hc HP HT ⊢
          generalize tx (List.replicate m 48) = Z at hz hc hzs
          generalize tx (l ++ List.replicate m 48) = Y at hc HP
          generalize pv l 14 = V at HP HT hr hV
          unfold zeros14 at hz
          go_enter Tryd.func25, Tryd.ntmps25
          go_wp2_with fail
          refine (HP.out _).mono ?_
          rintro e w1 ⟨rfl, bel⟩
          go_wp2_with fail
          refine (HT.out _).mono ?_
          rintro e w' ⟨rfl, rfl⟩
          go_wp2_with fail
          rw [hr.out]
          go_ret
          exact ⟨rfl, bel⟩
        · have hr := hide (thR_no (l := l) (by
            rw [hok]
            cases he : endsBad l
            · exact absurd (hb.2 he) ht
            · rfl))
          have hne := tx_nb ht
          clear hx hb hok ht
          generalize tx l = S at hsz hc HP hne ⊢
          generalize tx (List.replicate m 48) = Z at hz hc hzs
          generalize tx (l ++ List.replicate m 48) = Y at hc HP
          generalize tx (thS (digs 14 (pv l 14))) = T at HT hne
          generalize pv l 14 = V at HP HT hV
          unfold zeros14 at hz
          go_enter Tryd.func25, Tryd.ntmps25
          go_wp2_with fail
          refine (HP.out _).mono ?_
          rintro e w1 ⟨rfl, bel⟩
          go_wp2_with fail
          refine (HT.out _).mono ?_
          rintro e w' ⟨rfl, rfl⟩
          go_wp2_with fail
          rw [hr.out]
          go_ret
          exact ⟨rfl, bel⟩
    · have hr := hide (thR_no (l := l) (by unfold thOk; rw [decide_eq_false (by omega), Bool.and_false]; rfl))
      generalize tx l = S at hsz ⊢
      go_enter Tryd.func25, Tryd.ntmps25
      go_wp2_with fail
      rw [hr.out]
      go_ret
      exact ⟨rfl, Below.refl _ _⟩
  · have hr := hide (thR_no (l := l) (by unfold thOk; rw [decide_eq_false (by omega), Bool.and_false]; rfl))
    generalize tx l = S at hsz ⊢
    go_enter Tryd.func25, Tryd.ntmps25
    go_wp2_with fail
    rw [hr.out]
    go_ret
    exact ⟨rfl, Below.refl _ _⟩
end Go.Proofs.YtkliebhpdcjdgaaDoor
