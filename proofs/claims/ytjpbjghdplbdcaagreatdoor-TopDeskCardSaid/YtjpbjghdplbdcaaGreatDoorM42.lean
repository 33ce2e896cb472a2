/- Proves the parts of the claim that its last text joins: Ans1, Ans2, Ans3. Conditions: those that each theorem names. -/
import Derived.Test.YtjpbjghdplbdcaaGreatDoorM04
import Derived.WalkKit
import Derived.Defers
import Derived.Recover
import Derived.Test.YtjpbjghdplbdcaaGreatDoorM21
import Derived.Test.YtjpbjghdplbdcaaGreatDoorM41
section
namespace Go.Proofs.YtjpbjghdplbdcaaGreatDoor
open Go.RowKit Go.Shelf
theorem wpS_body {P : Program} {fn : Func} {c : Code} {c₀ : Frame} {cs : List Frame} {R : Ending → FrameMode → World → Prop} {u : FrameMode} {a : Act} {w : World}
    (h : c.wp P (bodyPost P fn (fun e w' => R e u w')) a w) : c.wpS P (bodyPostS P fn c₀ cs R) a ({ c₀ with mode := u } :: cs) w := by
  intro b k _ _
  obtain ⟨e, a', w', q, r⟩ := h b k ({ c₀ with mode := u } :: cs)
  refine ⟨e, a', _, w', ?_, r⟩
  cases e with
  | normal => obtain ⟨h1, v, h2, h3⟩ := q; exact ⟨h1, u, rfl, v, h2, h3⟩
  | ret => obtain ⟨h1, v, h2, h3⟩ := q; exact ⟨h1, u, rfl, v, h2, h3⟩
  | panic ch => obtain ⟨h1, h2⟩ := q; exact ⟨h1, u, rfl, h2⟩
  | outgrown => exact ⟨u, q⟩
  | exit _ => exact q.elim
  | goto _ => exact q.elim
def errB (e : Int) : List UInt8 := [101, 114, 114, 111, 114, 32] ++ dec e
theorem ans_idle (p : Addr) (w : World) :
    CallsD Tryz.prog 30 #[.pointer (some p)] .returning w fun e u' w' => e = .returned (.tuple #[]) ∧ u' = .returning ∧ w' = w := by
  refine callsD_of_wpS Tryz.func30 rfl fun c₀ cs hu => ?_
  apply wpS_seq
  apply wpS_region
  simp [wpOpsS, go_sem, recoverD, hu, Tryz.ntmps30, Exit.thenS]
  simp only [Array.replicate_succ, Array.replicate_zero, List.push_toArray, List.append_toArray, List.nil_append, List.cons_append, List.setIfInBounds_toArray, List.set_cons_succ, List.set_cons_zero]
  rw [show c₀ = { c₀ with mode := .returning } by cases c₀; simp_all]
  apply wpS_body
  go_wp2_with fail
  go_end0
  exact ⟨rfl, rfl⟩
set_option maxRecDepth 100000 in
set_option maxHeartbeats 1600000 in
theorem ans_caught {b ob : Nat} {e : Int} {w : World} (hL : LibW b w) (hbw : b ≤ w.heap.size) (he : I64 e) (z : ByteArray) (hB : Blk w ob 9 #[.string z]) :
    CallsD Tryz.prog 30 #[.pointer (some ⟨ob, 0, none⟩)] (.panicking [{ v := .iface 78 (.agg #[.int .i64 e]), recovered := false }]) w fun x u' w' =>
      x = .returned (.tuple #[]) ∧ u' = .panicking [{ v := .iface 78 (.agg #[.int .i64 e]), recovered := true }] ∧ ∃ w1, Below w.heap.size w w1 ∧ Blk w1 ob 9 #[.string z] ∧ w' = w1.setCell ⟨ob, 0, none⟩ (.string (tx (errB e))) := by
  have CI := hide (fun w' (hw : Below w.heap.size w w') => itoa_any (hL.below (hw.mono hbw)) he.1 he.2)
  have hds := dec_size e
  have hts := tx_size (dec e)
  have hta : ∀ (v : Value) (w : World), (Instr.typeAssert (.iface 78 v) 20 78 true).run Tryz.prog w = .ok (.tuple #[v, .bool true]) w := fun _ _ => by kernel_rfl
  refine callsD_of_wpS Tryz.func30 rfl fun c₀ cs hu => ?_
  apply wpS_seq
  apply wpS_region
  simp [wpOpsS, go_sem, recoverD, hu, Tryz.ntmps30, Exit.thenS]
  simp only [Array.replicate_succ, Array.replicate_zero, List.push_toArray, List.append_toArray, List.nil_append, List.cons_append, List.setIfInBounds_toArray, List.set_cons_succ, List.set_cons_zero]
  apply wpS_body
  go_wp2_with fail
  have hB1 := hB.alloc (.cells #[.int .i64 e] 78)
  have b1 := below_alloc (Below.refl w.heap.size w) (.cells #[.int .i64 e] 78)
  refine (CI.out _ b1).mono ?_
  rintro x w2 ⟨rfl, b2⟩
  have hB2 := hB1.below b2 hB1.lt
  have G2 := hide (b1.trans (b2.mono b1.size))
  have f0 := hB2.at_ (i := 0) (u := .string z) rfl
  have f1 := hB2.free 0
  clear hB1 b1 CI
  go_wp2_with fail
  go_end0
  have ht : (⟨#[101, 114, 114, 111, 114, 32]⟩ : ByteArray) ++ tx (dec e) = tx (errB e) := tx_app [101, 114, 114, 111, 114, 32] (dec e)
  exact ⟨rfl, w2, G2.out, hB2, by rw [← ht]⟩
end Go.Proofs.YtjpbjghdplbdcaaGreatDoor
end
section
namespace Go.Proofs.YtjpbjghdplbdcaaGreatDoor
open Go.RowKit
def ansP (s : DSt) (len : Nat) (r : Option (Nat × (DSt → Said))) : DSt × List UInt8 :=
  match r with
  | none => (s, errB 9)
  | some (k, R) => if k = len then ((R s).2.1, if (R s).1 = 0 then (R s).2.2 else errB (R s).1) else (s, errB 9)
end Go.Proofs.YtjpbjghdplbdcaaGreatDoor
end
section
namespace Go.Proofs.YtjpbjghdplbdcaaGreatDoor
open Go.RowKit Go.Shelf
def Answered (w : World) (g : Nat) (q : DSt × List UInt8) (e : Ending) (w' : World) : Prop := e = .returned (.string (tx q.2)) ∧ DeskAt w' g q.1 ∧ w.grownBy w' (some g)
theorem grown_set_new {w w' : World} {r : Option Nat} {ob : Nat} (h : w.grownBy w' r) (hob : w.heap.size ≤ ob) (v : Value) : w.grownBy (w'.setCell ⟨ob, 0, none⟩ v) r :=
  ⟨h.os, h.tape, h.output, by simpa using h.size, fun k hk hne => (Below.heap_setCell w' ⟨ob, 0, none⟩ v k (by show k ≠ ob; omega)).trans (h.block k hk hne)⟩
section
variable {b : Nat} {w : World} {g n c : Nat} {A : Option Addr} {s : DSt} {xs : List (List UInt8)} {x0 : List UInt8}
set_option maxRecDepth 100000 in
set_option maxHeartbeats 3200000 in
theorem answer_n
    (hL : LibW b w) (hbg : b ≤ g) (hD : DeskAt w g s) (hO : DOk s) (hS : St w A n c xs) (hn : n ≤ 1000000) (hs : ShortW xs) (hx0 : xs[0]? = some x0) (hl : listNo x0 = none)
    (HR : ∀ w' gw, Below w.heap.size w w' → LibW b w' → b ≤ gw → WordsAt w' gw xs 1 → Calls Tryz.prog 35 #[.pointer (some ⟨g, 0, none⟩), .string (tx x0), .pointer (some ⟨gw, 0, none⟩)] w' fun e w'' => Disp b g gw xs w' (none) e w'') :
    Calls Tryz.prog 16 #[.pointer (some ⟨g, 0, none⟩), .slice A n c] w fun e w' => Answered w g (ansP s xs.length (none)) e w' := by
  have hmf : ∀ fn first cap w, (Instr.makeFunc fn first cap).run Tryz.prog w = .ok (.func fn first cap) w := fun _ _ _ _ => rfl
  have hwl := hS.wlen
  have hgl := hD.lt
  have hn0 : 0 < n := by rw [← hwl]; exact (List.getElem?_eq_some_iff.1 hx0).1
  obtain ⟨ad, y0, rfl, hbk, hy0, hc0⟩ := hS.tcell hn0
  obtain rfl : y0 = x0 := by rw [hx0] at hy0; injection hy0 with h; exact h.symm
  have hsz := hs y0 (List.mem_of_getElem? hx0)
  have CL := hide (fun w' => lists_none hsz hl w')
  have CR := hide HR
  have HS := hide hS
  have HL := hide hL
  have HD := hide hD
  have HO := hide hO
  clear HR hS hL hD hO hx0 hy0 hl hs hsz
  have bO : Blk ((w.alloc (.cells #[.string ⟨#[]⟩] 9)).alloc (.cells #[.slice (some ad) n c, .int .i64 1] 82)) w.heap.size 9 #[.string ⟨#[]⟩] := (Blk.new w _ _).alloc _
  have bW : Blk ((w.alloc (.cells #[.string ⟨#[]⟩] 9)).alloc (.cells #[.slice (some ad) n c, .int .i64 1] 82)) (w.heap.size + 1) 82 #[.slice (some ad) n c, .int .i64 1] := by
    have t := Blk.new (w.alloc (.cells #[.string ⟨#[]⟩] 9)) 82 #[.slice (some ad) n c, .int .i64 1]
    simpa using t
  have b2 : Below w.heap.size w ((w.alloc (.cells #[.string ⟨#[]⟩] 9)).alloc (.cells #[.slice (some ad) n c, .int .i64 1] 82)) := below_alloc (below_alloc (Below.refl w.heap.size w) _) _
  have hc2 : ((w.alloc (.cells #[.string ⟨#[]⟩] 9)).alloc (.cells #[.slice (some ad) n c, .int .i64 1] 82)).cell? ad = some (.string (tx y0)) := (b2.cell hbk).trans hc0
  have hz2 : ((w.alloc (.cells #[.string ⟨#[]⟩] 9)).alloc (.cells #[.slice (some ad) n c, .int .i64 1] 82)).heap.size = w.heap.size + 2 := by simp
  have S2 := hide (HS.out.below (B := w.heap.size) b2)
  clear hc0
  go_enter_defers Tryz.func16, Tryz.ntmps16
  go_wp2_with fail
  generalize ((w.alloc (.cells #[.string ⟨#[]⟩] 9)).alloc (.cells #[.slice (some ad) n c, .int .i64 1] 82)) = w2 at bO bW b2 hc2 hz2 S2 ⊢
  refine (CL.out _).mono ?_
  rintro e w3 ⟨rfl, b3⟩
  have bO3 := bO.below b3 bO.lt
  have bW3 := bW.below b3 bW.lt
  have hc3 : w3.cell? ad = some (.string (tx y0)) := (b3.cell (by omega)).trans hc2
  have b23 : Below w.heap.size w w3 := b2.trans (b3.mono (by omega))
  have hz3 : w.heap.size + 2 ≤ w3.heap.size := by have := b3.size; omega
  have S3 := hide (S2.out.below (B := w.heap.size) (b3.mono (by omega)))
  have L3 := hide (HL.out.below (b23.mono (by omega)))
  clear bO bW b2 b3 hc2 hz2 S2 CL
  go_wp2_with fail
  have k3 : WordsAt w3 (w.heap.size + 1) xs 1 := ⟨some ad, n, c, bW3, S3.out.more (by omega), hn⟩
  clear bW3 S3 hc3
  refine (CR.out w3 _ b23 L3.out (by omega) k3).mono ?_
  rintro e w4 ⟨g4, rfl⟩
  have b4 : Below w.heap.size w w4 := b23.trans ((gbel g4 (by omega)).mono (by omega))
  have bO4 := bO3.kept g4 (by omega)
  have L4 := HL.out.below (b4.mono (by omega))
  refine leaves_cons (f := 30) (args := #[.pointer (some ⟨w.heap.size, 0, none⟩)]) (by simp) (by simp [go_sem]) ?_
  refine (ans_caught L4 (by have := b4.size; omega) (by constructor <;> omega) _ bO4).mono ?_
  rintro x u' w5 ⟨rfl, rfl, w6, b6, bO6, rfl⟩
  have f6 := (bO6.set 0 (.string (tx (errB 9)))).at_ (i := 0) (u := .string (tx (errB 9))) rfl
  have bF : Below w.heap.size w (w6.setCell ⟨w.heap.size, 0, none⟩ (.string (tx (errB 9)))) := (b4.trans (b6.mono b4.size)).setCell (Nat.le_refl _) _
  simp [Leaves, settle, results, Tryz.results16, go_sem, f6]
  exact ⟨rfl, HD.out.on bF, gbelow bF _⟩
set_option maxRecDepth 100000 in
set_option maxHeartbeats 3200000 in
theorem answer_y
    (hL : LibW b w) (hbg : b ≤ g) (hD : DeskAt w g s) (hO : DOk s) (hS : St w A n c xs) (hn : n ≤ 1000000) (hs : ShortW xs) (hx0 : xs[0]? = some x0) (hl : listNo x0 = none) {R : DSt → Said} (hE : I64 (R s).1)
    (HR : ∀ w' gw, Below w.heap.size w w' → LibW b w' → b ≤ gw → WordsAt w' gw xs 1 → Calls Tryz.prog 35 #[.pointer (some ⟨g, 0, none⟩), .string (tx x0), .pointer (some ⟨gw, 0, none⟩)] w' fun e w'' => Disp b g gw xs w' (some (xs.length, R)) e w'') :
    Calls Tryz.prog 16 #[.pointer (some ⟨g, 0, none⟩), .slice A n c] w fun e w' => Answered w g (ansP s xs.length (some (xs.length, R))) e w' := by
  have hmf : ∀ fn first cap w, (Instr.makeFunc fn first cap).run Tryz.prog w = .ok (.func fn first cap) w := fun _ _ _ _ => rfl
  have hwl := hS.wlen
  have hgl := hD.lt
  have hn0 : 0 < n := by rw [← hwl]; exact (List.getElem?_eq_some_iff.1 hx0).1
  obtain ⟨ad, y0, rfl, hbk, hy0, hc0⟩ := hS.tcell hn0
  obtain rfl : y0 = x0 := by rw [hx0] at hy0; injection hy0 with h; exact h.symm
  have hsz := hs y0 (List.mem_of_getElem? hx0)
  have CL := hide (fun w' => lists_none hsz hl w')
  have CR := hide HR
  have HS := hide hS
  have HL := hide hL
  have HD := hide hD
  have HO := hide hO
  clear HR hS hL hD hO hx0 hy0 hl hs hsz
  have bO : Blk ((w.alloc (.cells #[.string ⟨#[]⟩] 9)).alloc (.cells #[.slice (some ad) n c, .int .i64 1] 82)) w.heap.size 9 #[.string ⟨#[]⟩] := (Blk.new w _ _).alloc _
  have bW : Blk ((w.alloc (.cells #[.string ⟨#[]⟩] 9)).alloc (.cells #[.slice (some ad) n c, .int .i64 1] 82)) (w.heap.size + 1) 82 #[.slice (some ad) n c, .int .i64 1] := by
    have t := Blk.new (w.alloc (.cells #[.string ⟨#[]⟩] 9)) 82 #[.slice (some ad) n c, .int .i64 1]
    simpa using t
  have b2 : Below w.heap.size w ((w.alloc (.cells #[.string ⟨#[]⟩] 9)).alloc (.cells #[.slice (some ad) n c, .int .i64 1] 82)) := below_alloc (below_alloc (Below.refl w.heap.size w) _) _
  have hc2 : ((w.alloc (.cells #[.string ⟨#[]⟩] 9)).alloc (.cells #[.slice (some ad) n c, .int .i64 1] 82)).cell? ad = some (.string (tx y0)) := (b2.cell hbk).trans hc0
  have hz2 : ((w.alloc (.cells #[.string ⟨#[]⟩] 9)).alloc (.cells #[.slice (some ad) n c, .int .i64 1] 82)).heap.size = w.heap.size + 2 := by simp
  have S2 := hide (HS.out.below (B := w.heap.size) b2)
  clear hc0
  go_enter_defers Tryz.func16, Tryz.ntmps16
  go_wp2_with fail
  generalize ((w.alloc (.cells #[.string ⟨#[]⟩] 9)).alloc (.cells #[.slice (some ad) n c, .int .i64 1] 82)) = w2 at bO bW b2 hc2 hz2 S2 ⊢
  refine (CL.out _).mono ?_
  rintro e w3 ⟨rfl, b3⟩
  have bO3 := bO.below b3 bO.lt
  have bW3 := bW.below b3 bW.lt
  have hc3 : w3.cell? ad = some (.string (tx y0)) := (b3.cell (by omega)).trans hc2
  have b23 : Below w.heap.size w w3 := b2.trans (b3.mono (by omega))
  have hz3 : w.heap.size + 2 ≤ w3.heap.size := by have := b3.size; omega
  have S3 := hide (S2.out.below (B := w.heap.size) (b3.mono (by omega)))
  have L3 := hide (HL.out.below (b23.mono (by omega)))
  clear bO bW b2 b3 hc2 hz2 S2 CL
  go_wp2_with fail
  have k3 : WordsAt w3 (w.heap.size + 1) xs 1 := ⟨some ad, n, c, bW3, S3.out.more (by omega), hn⟩
  clear bW3 S3 hc3
  refine (CR.out w3 _ b23 L3.out (by omega) k3).mono ?_
  rintro e w4 ⟨g4, F, caps, rfl, h4, wl⟩
  have b4 : Below w.heap.size w w4 := b23.trans ((gbel g4 (by omega)).mono (by omega))
  have bO4 := bO3.kept g4 (by omega)
  have hz4 := b4.size
  have WL := hide wl.2
  have hen : ∀ args w, (callFunc F args).run Tryz.prog w = .ok (.enter F args) w := wl.1
  have G4 := hide g4
  clear bO3 k3 CR wl g4 b23
  go_wp2_with fail
  refine (end_ok h4).mono ?_
  rintro e w5 ⟨rfl, q, rfl⟩
  have q5 : Below w4.heap.size w4 (w4.drewN q) := below_drewN (Below.refl _ w4) q
  have b5 : Below w.heap.size w (w4.drewN q) := below_drewN b4 q
  have bO5 := bO4.drewN q
  generalize w4.drewN q = w5 at q5 b5 bO5 ⊢
  have L5 := HL.out.below (b5.mono (by omega))
  have D5 := HD.out.on b5
  have CF := hide (WL.out w5 s q5 L5 hbg D5 HO.out)
  clear h4 D5
  go_wp2_with fail
  refine CF.out.mono ?_
  rintro e w6 ⟨g6, D6, hcase⟩
  have bO6 := bO5.kept g6 (by omega)
  have L6 : LibW b w6 := L5.below ((gbel g6 (by have := b5.size; omega)).mono hbg)
  have hz6 := g6.size
  have hz5 := b5.size
  have GG := hide (gtrans (gbelow b5 (some g)) g6)
  have DD := hide D6
  clear CF WL g6 D6
  rcases hcase with ⟨h0, rfl⟩ | ⟨h0, rfl⟩
  · have f0 := bO6.at_ (i := 0) (u := .string ⟨#[]⟩) rfl
    have f1 := bO6.free 0
    have H0 := hide h0
    clear h0
    go_wp2_with fail
    refine leaves_cons (f := 30) (args := #[.pointer (some ⟨w.heap.size, 0, none⟩)]) (by simp) (by simp [go_sem]) ?_
    refine (ans_idle _ _).mono ?_
    rintro x u' w7 ⟨rfl, rfl, rfl⟩
    have f7 := (bO6.set 0 (.string (tx (R s).2.2))).at_ (i := 0) (u := .string (tx (R s).2.2)) rfl
    simp [Leaves, settle, results, Tryz.results16, go_sem, f7]
    simp only [ansP, if_pos, H0.out]
    exact ⟨rfl, DD.out.past bO6 (by omega) _, grown_set_new GG.out (Nat.le_refl _) _⟩
  · refine leaves_cons (f := 30) (args := #[.pointer (some ⟨w.heap.size, 0, none⟩)]) (by simp) (by simp [go_sem]) ?_
    refine (ans_caught L6 (by omega) hE _ bO6).mono ?_
    rintro x u' w7 ⟨rfl, rfl, w8, b8, bO8, rfl⟩
    have f8 := (bO8.set 0 (.string (tx (errB (R s).1)))).at_ (i := 0) (u := .string (tx (errB (R s).1))) rfl
    simp [Leaves, settle, results, Tryz.results16, go_sem, f8]
    simp only [ansP, if_pos, if_neg h0]
    exact ⟨rfl, (DD.out.on b8).past bO8 (by omega) _, grown_set_new (gtrans GG.out (gbelow b8 _)) (Nat.le_refl _) _⟩
set_option maxRecDepth 100000 in
set_option maxHeartbeats 3200000 in
theorem answer_m
    (hL : LibW b w) (hbg : b ≤ g) (hD : DeskAt w g s) (hO : DOk s) (hS : St w A n c xs) (hn : n ≤ 1000000) (hs : ShortW xs) (hx0 : xs[0]? = some x0) (hl : listNo x0 = none) {R : DSt → Said} {k : Nat} (hk : k < xs.length)
    (HR : ∀ w' gw, Below w.heap.size w w' → LibW b w' → b ≤ gw → WordsAt w' gw xs 1 → Calls Tryz.prog 35 #[.pointer (some ⟨g, 0, none⟩), .string (tx x0), .pointer (some ⟨gw, 0, none⟩)] w' fun e w'' => Disp b g gw xs w' (some (k, R)) e w'') :
    Calls Tryz.prog 16 #[.pointer (some ⟨g, 0, none⟩), .slice A n c] w fun e w' => Answered w g (ansP s xs.length (some (k, R))) e w' := by
  have hmf : ∀ fn first cap w, (Instr.makeFunc fn first cap).run Tryz.prog w = .ok (.func fn first cap) w := fun _ _ _ _ => rfl
  have hwl := hS.wlen
  have hgl := hD.lt
  have hn0 : 0 < n := by rw [← hwl]; exact (List.getElem?_eq_some_iff.1 hx0).1
  obtain ⟨ad, y0, rfl, hbk, hy0, hc0⟩ := hS.tcell hn0
  obtain rfl : y0 = x0 := by rw [hx0] at hy0; injection hy0 with h; exact h.symm
  have hsz := hs y0 (List.mem_of_getElem? hx0)
  have CL := hide (fun w' => lists_none hsz hl w')
  have CR := hide HR
  have HS := hide hS
  have HL := hide hL
  have HD := hide hD
  have HO := hide hO
  clear HR hS hL hD hO hx0 hy0 hl hs hsz
  have bO : Blk ((w.alloc (.cells #[.string ⟨#[]⟩] 9)).alloc (.cells #[.slice (some ad) n c, .int .i64 1] 82)) w.heap.size 9 #[.string ⟨#[]⟩] := (Blk.new w _ _).alloc _
  have bW : Blk ((w.alloc (.cells #[.string ⟨#[]⟩] 9)).alloc (.cells #[.slice (some ad) n c, .int .i64 1] 82)) (w.heap.size + 1) 82 #[.slice (some ad) n c, .int .i64 1] := by
    have t := Blk.new (w.alloc (.cells #[.string ⟨#[]⟩] 9)) 82 #[.slice (some ad) n c, .int .i64 1]
    simpa using t
  have b2 : Below w.heap.size w ((w.alloc (.cells #[.string ⟨#[]⟩] 9)).alloc (.cells #[.slice (some ad) n c, .int .i64 1] 82)) := below_alloc (below_alloc (Below.refl w.heap.size w) _) _
  have hc2 : ((w.alloc (.cells #[.string ⟨#[]⟩] 9)).alloc (.cells #[.slice (some ad) n c, .int .i64 1] 82)).cell? ad = some (.string (tx y0)) := (b2.cell hbk).trans hc0
  have hz2 : ((w.alloc (.cells #[.string ⟨#[]⟩] 9)).alloc (.cells #[.slice (some ad) n c, .int .i64 1] 82)).heap.size = w.heap.size + 2 := by simp
  have S2 := hide (HS.out.below (B := w.heap.size) b2)
  clear hc0
  go_enter_defers Tryz.func16, Tryz.ntmps16
  go_wp2_with fail
  generalize ((w.alloc (.cells #[.string ⟨#[]⟩] 9)).alloc (.cells #[.slice (some ad) n c, .int .i64 1] 82)) = w2 at bO bW b2 hc2 hz2 S2 ⊢
  refine (CL.out _).mono ?_
  rintro e w3 ⟨rfl, b3⟩
  have bO3 := bO.below b3 bO.lt
  have bW3 := bW.below b3 bW.lt
  have hc3 : w3.cell? ad = some (.string (tx y0)) := (b3.cell (by omega)).trans hc2
  have b23 : Below w.heap.size w w3 := b2.trans (b3.mono (by omega))
  have hz3 : w.heap.size + 2 ≤ w3.heap.size := by have := b3.size; omega
  have S3 := hide (S2.out.below (B := w.heap.size) (b3.mono (by omega)))
  have L3 := hide (HL.out.below (b23.mono (by omega)))
  clear bO bW b2 b3 hc2 hz2 S2 CL
  go_wp2_with fail
  have k3 : WordsAt w3 (w.heap.size + 1) xs 1 := ⟨some ad, n, c, bW3, S3.out.more (by omega), hn⟩
  clear bW3 S3 hc3
  refine (CR.out w3 _ b23 L3.out (by omega) k3).mono ?_
  rintro e w4 ⟨g4, F, caps, rfl, h4, wl⟩
  have b4 : Below w.heap.size w w4 := b23.trans ((gbel g4 (by omega)).mono (by omega))
  have bO4 := bO3.kept g4 (by omega)
  have hz4 := b4.size
  have WL := hide wl.2
  have hen : ∀ args w, (callFunc F args).run Tryz.prog w = .ok (.enter F args) w := wl.1
  have G4 := hide g4
  clear bO3 k3 CR wl g4 b23
  go_wp2_with fail
  refine (end_bad h4 hk).mono ?_
  rintro e w5 ⟨rfl, q, rfl⟩
  have b5 : Below w.heap.size w (w4.drewN q) := below_drewN b4 q
  have bO5 := bO4.drewN q
  generalize w4.drewN q = w5 at b5 bO5 ⊢
  have L5 := HL.out.below (b5.mono (by omega))
  refine leaves_cons (f := 30) (args := #[.pointer (some ⟨w.heap.size, 0, none⟩)]) (by simp) (by simp [go_sem]) ?_
  refine (ans_caught L5 (by have := b5.size; omega) (by constructor <;> omega) _ bO5).mono ?_
  rintro x u' w6 ⟨rfl, rfl, w7, b7, bO7, rfl⟩
  have f7 := (bO7.set 0 (.string (tx (errB 9)))).at_ (i := 0) (u := .string (tx (errB 9))) rfl
  have bF : Below w.heap.size w (w7.setCell ⟨w.heap.size, 0, none⟩ (.string (tx (errB 9)))) := (b5.trans (b7.mono b5.size)).setCell (Nat.le_refl _) _
  simp [Leaves, settle, results, Tryz.results16, go_sem, f7]
  have hne : ¬ k = xs.length := by omega
  simp only [ansP, if_neg hne]
  exact ⟨rfl, HD.out.on bF, gbelow bF _⟩
end
end Go.Proofs.YtjpbjghdplbdcaaGreatDoor
end
