/- Proves the parts of the claim that its last text joins: DispR. Conditions: those that each theorem names. -/
import Derived.Test.YtjpbjghdplbdcaaGreatDoorM21
section
namespace Go.Proofs.YtjpbjghdplbdcaaGreatDoor
open Go.RowKit Go.Shelf
section
variable {b : Nat} {w : World} {g gw k : Nat} {xs : List (List UInt8)}
set_option maxRecDepth 100000 in
set_option maxHeartbeats 3200000 in
theorem rd_th (hL : LibW b w) (hb : b ≤ gw) (h : WordsAt w gw xs k) (hs : ShortW xs) (hk : k ≤ xs.length) {x0 : Nat} (h0 : numAt xs k = some x0) :
    Calls Tryz.prog 35 #[.pointer (some ⟨g, 0, none⟩), .string ⟨#[116, 104]⟩, .pointer (some ⟨gw, 0, none⟩)] w fun e w' => Disp b g gw xs w (some (k + 1, fun s => ((thQ x0).1, s, (thQ x0).2))) e w' := by
  have hmf : ∀ fn first cap w, (Instr.makeFunc fn first cap).run Tryz.prog w = .ok (.func fn first cap) w := fun _ _ _ _ => rfl
  have hg := h.lt
  have IX0 := hide (numAt_i64 h0)
  have C0 := hide (fun w' (hw : LibW b w') (h : WordsAt w' gw xs (k)) => num_y hw hb h hs h0)
  have HL := hide hL
  clear hs hL hk h0
  go_enter Tryz.func35, Tryz.ntmps35
  go_wp2_with fail
  have b0 := Below.refl w.heap.size w
  have l0 : LibW b w := HL.out.below (b0.mono (by omega))
  have k0 := h.below b0
  have G0 := hide (gbelow b0 (some gw))
  have z0 : gw < w.heap.size := by have := b0.size; omega
  refine (C0.out _ l0 k0).mono ?_
  rintro e w1 ⟨rfl, k1, g1⟩
  have l1 : LibW b w1 := l0.below ((gbel g1 (Nat.le_of_lt z0)).mono hb)
  have G1 := hide (gtrans G0.out g1)
  have z1 : gw < w1.heap.size := by have := g1.size; omega
  clear g1 C0 k0 l0
  go_wp2_with fail
  have B0 : Blk (w1.alloc (.cells #[.int .i64 x0] 3)) w1.heap.size 3 #[.int .i64 x0] := by
    have t := Blk.new w1 3 #[.int .i64 x0]
    simpa using t
  have bF : Below w1.heap.size w1 (w1.alloc (.cells #[.int .i64 x0] 3)) := below_alloc (Below.refl w1.heap.size w1) (.cells #[.int .i64 x0] 3)
  generalize hwf : (w1.alloc (.cells #[.int .i64 x0] 3)) = wf at B0 bF ⊢
  clear hwf
  go_ret
  exact ⟨gtrans G1.out (gbelow bF _), 100, _, rfl, k1.below bF, enters_of Tryz.func100 rfl rfl, fun w' s hw hL' hbg hD hO => (read2_any hL' (Nat.le_trans hbg (Nat.le_of_lt hD.lt))  (B0.below hw B0.lt)).mono fun e w2 hq => did_of hD hq⟩
set_option maxRecDepth 100000 in
set_option maxHeartbeats 3200000 in
theorem rd_th_n0 (hL : LibW b w) (hb : b ≤ gw) (h : WordsAt w gw xs k) (hs : ShortW xs) (hk : k ≤ xs.length) (h0 : numAt xs k = none) :
    Calls Tryz.prog 35 #[.pointer (some ⟨g, 0, none⟩), .string ⟨#[116, 104]⟩, .pointer (some ⟨gw, 0, none⟩)] w fun e w' => Disp b g gw xs w (none) e w' := by
  have hmf : ∀ fn first cap w, (Instr.makeFunc fn first cap).run Tryz.prog w = .ok (.func fn first cap) w := fun _ _ _ _ => rfl
  have hg := h.lt
  have C0 := hide (fun w' (hw : LibW b w') (h : WordsAt w' gw xs (k)) => num_n hw hb h hs (by exact hk) h0)
  have HL := hide hL
  clear hs hL hk h0
  go_enter Tryz.func35, Tryz.ntmps35
  go_wp2_with fail
  have b0 := Below.refl w.heap.size w
  have l0 : LibW b w := HL.out.below (b0.mono (by omega))
  have k0 := h.below b0
  have G0 := hide (gbelow b0 (some gw))
  have z0 : gw < w.heap.size := by have := b0.size; omega
  refine (C0.out _ l0 k0).mono ?_
  rintro e w1 ⟨rfl, g1⟩
  exact ⟨rfl, gtrans G0.out g1, rfl⟩
theorem rd_th_is (hL : LibW b w) (hb : b ≤ gw) (h : WordsAt w gw xs k) (hs : ShortW xs) (hk : k ≤ xs.length) :
    Calls Tryz.prog 35 #[.pointer (some ⟨g, 0, none⟩), .string ⟨#[116, 104]⟩, .pointer (some ⟨gw, 0, none⟩)] w fun e w' => Disp b g gw xs w (thD xs k) e w' := by
  unfold thD
  cases h0 : numAt xs k with
  | none => exact rd_th_n0 hL hb h hs hk h0
  | some x0 =>
    exact rd_th hL hb h hs hk h0
set_option maxRecDepth 100000 in
set_option maxHeartbeats 3200000 in
theorem rd_part (hL : LibW b w) (hb : b ≤ gw) (h : WordsAt w gw xs k) (hs : ShortW xs) (hk : k ≤ xs.length) {x0 : Nat} (h0 : numAt xs k = some x0) {x1 : Nat} (h1 : numAt xs (k + 1) = some x1) :
    Calls Tryz.prog 35 #[.pointer (some ⟨g, 0, none⟩), .string ⟨#[112, 97, 114, 116]⟩, .pointer (some ⟨gw, 0, none⟩)] w fun e w' => Disp b g gw xs w (some (k + 2, fun s => ((partQ x0 x1).1, s, (partQ x0 x1).2))) e w' := by
  have hmf : ∀ fn first cap w, (Instr.makeFunc fn first cap).run Tryz.prog w = .ok (.func fn first cap) w := fun _ _ _ _ => rfl
  have hg := h.lt
  have IX0 := hide (numAt_i64 h0)
  have IX1 := hide (numAt_i64 h1)
  have C0 := hide (fun w' (hw : LibW b w') (h : WordsAt w' gw xs (k)) => num_y hw hb h hs h0)
  have C1 := hide (fun w' (hw : LibW b w') (h : WordsAt w' gw xs (k + 1)) => num_y hw hb h hs h1)
  have HL := hide hL
  clear hs hL hk h0 h1
  go_enter Tryz.func35, Tryz.ntmps35
  go_wp2_with fail
  have b0 := Below.refl w.heap.size w
  have l0 : LibW b w := HL.out.below (b0.mono (by omega))
  have k0 := h.below b0
  have G0 := hide (gbelow b0 (some gw))
  have z0 : gw < w.heap.size := by have := b0.size; omega
  refine (C0.out _ l0 k0).mono ?_
  rintro e w1 ⟨rfl, k1, g1⟩
  have l1 : LibW b w1 := l0.below ((gbel g1 (Nat.le_of_lt z0)).mono hb)
  have G1 := hide (gtrans G0.out g1)
  have z1 : gw < w1.heap.size := by have := g1.size; omega
  clear g1 C0 k0 l0
  go_wp2_with fail
  refine (C1.out _ l1 k1).mono ?_
  rintro e w2 ⟨rfl, k2, g2⟩
  have l2 : LibW b w2 := l1.below ((gbel g2 (Nat.le_of_lt z1)).mono hb)
  have G2 := hide (gtrans G1.out g2)
  have z2 : gw < w2.heap.size := by have := g2.size; omega
  clear g2 C1 k1 l1
  go_wp2_with fail
  have B0 : Blk ((w2.alloc (.cells #[.int .i64 x0] 3)).alloc (.cells #[.int .i64 x1] 3)) w2.heap.size 3 #[.int .i64 x0] := by
    have t := (Blk.new w2 3 #[.int .i64 x0]).alloc (.cells #[.int .i64 x1] 3)
    simpa using t
  have B1 : Blk ((w2.alloc (.cells #[.int .i64 x0] 3)).alloc (.cells #[.int .i64 x1] 3)) (w2.heap.size + 1) 3 #[.int .i64 x1] := by
    have t := Blk.new (w2.alloc (.cells #[.int .i64 x0] 3)) 3 #[.int .i64 x1]
    simpa using t
  have bF : Below w2.heap.size w2 ((w2.alloc (.cells #[.int .i64 x0] 3)).alloc (.cells #[.int .i64 x1] 3)) := below_alloc (below_alloc (Below.refl w2.heap.size w2) (.cells #[.int .i64 x0] 3)) (.cells #[.int .i64 x1] 3)
  generalize hwf : ((w2.alloc (.cells #[.int .i64 x0] 3)).alloc (.cells #[.int .i64 x1] 3)) = wf at B0 B1 bF ⊢
  clear hwf
  go_ret
  exact ⟨gtrans G2.out (gbelow bF _), 103, _, rfl, k2.below bF, enters_of Tryz.func103 rfl rfl, fun w' s hw hL' hbg hD hO => (read3_any hL' (Nat.le_trans hbg (Nat.le_of_lt hD.lt))  (B0.below hw B0.lt) (B1.below hw B1.lt)).mono fun e w2 hq => did_of hD hq⟩
set_option maxRecDepth 100000 in
set_option maxHeartbeats 3200000 in
theorem rd_part_n0 (hL : LibW b w) (hb : b ≤ gw) (h : WordsAt w gw xs k) (hs : ShortW xs) (hk : k ≤ xs.length) (h0 : numAt xs k = none) :
    Calls Tryz.prog 35 #[.pointer (some ⟨g, 0, none⟩), .string ⟨#[112, 97, 114, 116]⟩, .pointer (some ⟨gw, 0, none⟩)] w fun e w' => Disp b g gw xs w (none) e w' := by
  have hmf : ∀ fn first cap w, (Instr.makeFunc fn first cap).run Tryz.prog w = .ok (.func fn first cap) w := fun _ _ _ _ => rfl
  have hg := h.lt
  have C0 := hide (fun w' (hw : LibW b w') (h : WordsAt w' gw xs (k)) => num_n hw hb h hs (by exact hk) h0)
  have HL := hide hL
  clear hs hL hk h0
  go_enter Tryz.func35, Tryz.ntmps35
  go_wp2_with fail
  have b0 := Below.refl w.heap.size w
  have l0 : LibW b w := HL.out.below (b0.mono (by omega))
  have k0 := h.below b0
  have G0 := hide (gbelow b0 (some gw))
  have z0 : gw < w.heap.size := by have := b0.size; omega
  refine (C0.out _ l0 k0).mono ?_
  rintro e w1 ⟨rfl, g1⟩
  exact ⟨rfl, gtrans G0.out g1, rfl⟩
set_option maxRecDepth 100000 in
set_option maxHeartbeats 3200000 in
theorem rd_part_n1 (hL : LibW b w) (hb : b ≤ gw) (h : WordsAt w gw xs k) (hs : ShortW xs) (hk : k ≤ xs.length) {x0 : Nat} (h0 : numAt xs k = some x0) (h1 : numAt xs (k + 1) = none) :
    Calls Tryz.prog 35 #[.pointer (some ⟨g, 0, none⟩), .string ⟨#[112, 97, 114, 116]⟩, .pointer (some ⟨gw, 0, none⟩)] w fun e w' => Disp b g gw xs w (none) e w' := by
  have hmf : ∀ fn first cap w, (Instr.makeFunc fn first cap).run Tryz.prog w = .ok (.func fn first cap) w := fun _ _ _ _ => rfl
  have hg := h.lt
  have IX0 := hide (numAt_i64 h0)
  have C0 := hide (fun w' (hw : LibW b w') (h : WordsAt w' gw xs (k)) => num_y hw hb h hs h0)
  have C1 := hide (fun w' (hw : LibW b w') (h : WordsAt w' gw xs (k + 1)) => num_n hw hb h hs (by exact numAt_le h0) h1)
  have HL := hide hL
  clear hs hL hk h0 h1
  go_enter Tryz.func35, Tryz.ntmps35
  go_wp2_with fail
  have b0 := Below.refl w.heap.size w
  have l0 : LibW b w := HL.out.below (b0.mono (by omega))
  have k0 := h.below b0
  have G0 := hide (gbelow b0 (some gw))
  have z0 : gw < w.heap.size := by have := b0.size; omega
  refine (C0.out _ l0 k0).mono ?_
  rintro e w1 ⟨rfl, k1, g1⟩
  have l1 : LibW b w1 := l0.below ((gbel g1 (Nat.le_of_lt z0)).mono hb)
  have G1 := hide (gtrans G0.out g1)
  have z1 : gw < w1.heap.size := by have := g1.size; omega
  clear g1 C0 k0 l0
  go_wp2_with fail
  refine (C1.out _ l1 k1).mono ?_
  rintro e w2 ⟨rfl, g2⟩
  exact ⟨rfl, gtrans G1.out g2, rfl⟩
theorem rd_part_is (hL : LibW b w) (hb : b ≤ gw) (h : WordsAt w gw xs k) (hs : ShortW xs) (hk : k ≤ xs.length) :
    Calls Tryz.prog 35 #[.pointer (some ⟨g, 0, none⟩), .string ⟨#[112, 97, 114, 116]⟩, .pointer (some ⟨gw, 0, none⟩)] w fun e w' => Disp b g gw xs w (partD xs k) e w' := by
  unfold partD
  cases h0 : numAt xs k with
  | none => exact rd_part_n0 hL hb h hs hk h0
  | some x0 =>
    cases h1 : numAt xs (k + 1) with
    | none => exact rd_part_n1 hL hb h hs hk h0 h1
    | some x1 =>
      exact rd_part hL hb h hs hk h0 h1
set_option maxRecDepth 100000 in
set_option maxHeartbeats 3200000 in
theorem rd_count (hL : LibW b w) (hb : b ≤ gw) (h : WordsAt w gw xs k) (hs : ShortW xs) (hk : k ≤ xs.length) {x0 : Nat} (h0 : numAt xs k = some x0) {x1 : Nat} (h1 : numAt xs (k + 1) = some x1) :
    Calls Tryz.prog 35 #[.pointer (some ⟨g, 0, none⟩), .string ⟨#[99, 111, 117, 110, 116]⟩, .pointer (some ⟨gw, 0, none⟩)] w fun e w' => Disp b g gw xs w (some (k + 2, fun s => ((countQ x0 x1).1, s, (countQ x0 x1).2))) e w' := by
  have hmf : ∀ fn first cap w, (Instr.makeFunc fn first cap).run Tryz.prog w = .ok (.func fn first cap) w := fun _ _ _ _ => rfl
  have hg := h.lt
  have IX0 := hide (numAt_i64 h0)
  have IX1 := hide (numAt_i64 h1)
  have C0 := hide (fun w' (hw : LibW b w') (h : WordsAt w' gw xs (k)) => num_y hw hb h hs h0)
  have C1 := hide (fun w' (hw : LibW b w') (h : WordsAt w' gw xs (k + 1)) => num_y hw hb h hs h1)
  have HL := hide hL
  clear hs hL hk h0 h1
  go_enter Tryz.func35, Tryz.ntmps35
  go_wp2_with fail
  have b0 := Below.refl w.heap.size w
  have l0 : LibW b w := HL.out.below (b0.mono (by omega))
  have k0 := h.below b0
  have G0 := hide (gbelow b0 (some gw))
  have z0 : gw < w.heap.size := by have := b0.size; omega
  refine (C0.out _ l0 k0).mono ?_
  rintro e w1 ⟨rfl, k1, g1⟩
  have l1 : LibW b w1 := l0.below ((gbel g1 (Nat.le_of_lt z0)).mono hb)
  have G1 := hide (gtrans G0.out g1)
  have z1 : gw < w1.heap.size := by have := g1.size; omega
  clear g1 C0 k0 l0
  go_wp2_with fail
  refine (C1.out _ l1 k1).mono ?_
  rintro e w2 ⟨rfl, k2, g2⟩
  have l2 : LibW b w2 := l1.below ((gbel g2 (Nat.le_of_lt z1)).mono hb)
  have G2 := hide (gtrans G1.out g2)
  have z2 : gw < w2.heap.size := by have := g2.size; omega
  clear g2 C1 k1 l1
  go_wp2_with fail
  have B0 : Blk ((w2.alloc (.cells #[.int .i64 x0] 3)).alloc (.cells #[.int .i64 x1] 3)) w2.heap.size 3 #[.int .i64 x0] := by
    have t := (Blk.new w2 3 #[.int .i64 x0]).alloc (.cells #[.int .i64 x1] 3)
    simpa using t
  have B1 : Blk ((w2.alloc (.cells #[.int .i64 x0] 3)).alloc (.cells #[.int .i64 x1] 3)) (w2.heap.size + 1) 3 #[.int .i64 x1] := by
    have t := Blk.new (w2.alloc (.cells #[.int .i64 x0] 3)) 3 #[.int .i64 x1]
    simpa using t
  have bF : Below w2.heap.size w2 ((w2.alloc (.cells #[.int .i64 x0] 3)).alloc (.cells #[.int .i64 x1] 3)) := below_alloc (below_alloc (Below.refl w2.heap.size w2) (.cells #[.int .i64 x0] 3)) (.cells #[.int .i64 x1] 3)
  generalize hwf : ((w2.alloc (.cells #[.int .i64 x0] 3)).alloc (.cells #[.int .i64 x1] 3)) = wf at B0 B1 bF ⊢
  clear hwf
  go_ret
  exact ⟨gtrans G2.out (gbelow bF _), 105, _, rfl, k2.below bF, enters_of Tryz.func105 rfl rfl, fun w' s hw hL' hbg hD hO => (read4_any hL' (Nat.le_trans hbg (Nat.le_of_lt hD.lt))  (B0.below hw B0.lt) (B1.below hw B1.lt)).mono fun e w2 hq => did_of hD hq⟩
set_option maxRecDepth 100000 in
set_option maxHeartbeats 3200000 in
theorem rd_count_n0 (hL : LibW b w) (hb : b ≤ gw) (h : WordsAt w gw xs k) (hs : ShortW xs) (hk : k ≤ xs.length) (h0 : numAt xs k = none) :
    Calls Tryz.prog 35 #[.pointer (some ⟨g, 0, none⟩), .string ⟨#[99, 111, 117, 110, 116]⟩, .pointer (some ⟨gw, 0, none⟩)] w fun e w' => Disp b g gw xs w (none) e w' := by
  have hmf : ∀ fn first cap w, (Instr.makeFunc fn first cap).run Tryz.prog w = .ok (.func fn first cap) w := fun _ _ _ _ => rfl
  have hg := h.lt
  have C0 := hide (fun w' (hw : LibW b w') (h : WordsAt w' gw xs (k)) => num_n hw hb h hs (by exact hk) h0)
  have HL := hide hL
  clear hs hL hk h0
  go_enter Tryz.func35, Tryz.ntmps35
  go_wp2_with fail
  have b0 := Below.refl w.heap.size w
  have l0 : LibW b w := HL.out.below (b0.mono (by omega))
  have k0 := h.below b0
  have G0 := hide (gbelow b0 (some gw))
  have z0 : gw < w.heap.size := by have := b0.size; omega
  refine (C0.out _ l0 k0).mono ?_
  rintro e w1 ⟨rfl, g1⟩
  exact ⟨rfl, gtrans G0.out g1, rfl⟩
set_option maxRecDepth 100000 in
set_option maxHeartbeats 3200000 in
theorem rd_count_n1 (hL : LibW b w) (hb : b ≤ gw) (h : WordsAt w gw xs k) (hs : ShortW xs) (hk : k ≤ xs.length) {x0 : Nat} (h0 : numAt xs k = some x0) (h1 : numAt xs (k + 1) = none) :
    Calls Tryz.prog 35 #[.pointer (some ⟨g, 0, none⟩), .string ⟨#[99, 111, 117, 110, 116]⟩, .pointer (some ⟨gw, 0, none⟩)] w fun e w' => Disp b g gw xs w (none) e w' := by
  have hmf : ∀ fn first cap w, (Instr.makeFunc fn first cap).run Tryz.prog w = .ok (.func fn first cap) w := fun _ _ _ _ => rfl
  have hg := h.lt
  have IX0 := hide (numAt_i64 h0)
  have C0 := hide (fun w' (hw : LibW b w') (h : WordsAt w' gw xs (k)) => num_y hw hb h hs h0)
  have C1 := hide (fun w' (hw : LibW b w') (h : WordsAt w' gw xs (k + 1)) => num_n hw hb h hs (by exact numAt_le h0) h1)
  have HL := hide hL
  clear hs hL hk h0 h1
  go_enter Tryz.func35, Tryz.ntmps35
  go_wp2_with fail
  have b0 := Below.refl w.heap.size w
  have l0 : LibW b w := HL.out.below (b0.mono (by omega))
  have k0 := h.below b0
  have G0 := hide (gbelow b0 (some gw))
  have z0 : gw < w.heap.size := by have := b0.size; omega
  refine (C0.out _ l0 k0).mono ?_
  rintro e w1 ⟨rfl, k1, g1⟩
  have l1 : LibW b w1 := l0.below ((gbel g1 (Nat.le_of_lt z0)).mono hb)
  have G1 := hide (gtrans G0.out g1)
  have z1 : gw < w1.heap.size := by have := g1.size; omega
  clear g1 C0 k0 l0
  go_wp2_with fail
  refine (C1.out _ l1 k1).mono ?_
  rintro e w2 ⟨rfl, g2⟩
  exact ⟨rfl, gtrans G1.out g2, rfl⟩
theorem rd_count_is (hL : LibW b w) (hb : b ≤ gw) (h : WordsAt w gw xs k) (hs : ShortW xs) (hk : k ≤ xs.length) :
    Calls Tryz.prog 35 #[.pointer (some ⟨g, 0, none⟩), .string ⟨#[99, 111, 117, 110, 116]⟩, .pointer (some ⟨gw, 0, none⟩)] w fun e w' => Disp b g gw xs w (countD xs k) e w' := by
  unfold countD
  cases h0 : numAt xs k with
  | none => exact rd_count_n0 hL hb h hs hk h0
  | some x0 =>
    cases h1 : numAt xs (k + 1) with
    | none => exact rd_count_n1 hL hb h hs hk h0 h1
    | some x1 =>
      exact rd_count hL hb h hs hk h0 h1
set_option maxRecDepth 100000 in
set_option maxHeartbeats 3200000 in
theorem rd_mark (hL : LibW b w) (hb : b ≤ gw) (h : WordsAt w gw xs k) (hs : ShortW xs) (hk : k ≤ xs.length) {x0 : List UInt8} (h0 : wordAt xs k = some x0) :
    Calls Tryz.prog 35 #[.pointer (some ⟨g, 0, none⟩), .string ⟨#[109, 97, 114, 107]⟩, .pointer (some ⟨gw, 0, none⟩)] w fun e w' => Disp b g gw xs w (some (k + 1, fun s => ((markQ x0).1, s, (markQ x0).2))) e w' := by
  have hmf : ∀ fn first cap w, (Instr.makeFunc fn first cap).run Tryz.prog w = .ok (.func fn first cap) w := fun _ _ _ _ => rfl
  have hg := h.lt
  have HS0 := hide (hs x0 (List.mem_of_getElem? (show xs[k]? = some x0 from h0)))
  have C0 := hide (fun w' (hw : LibW b w') (h : WordsAt w' gw xs (k)) => next_ok h h0)
  have HL := hide hL
  clear hs hL hk h0
  go_enter Tryz.func35, Tryz.ntmps35
  go_wp2_with fail
  have b0 := Below.refl w.heap.size w
  have l0 : LibW b w := HL.out.below (b0.mono (by omega))
  have k0 := h.below b0
  have G0 := hide (gbelow b0 (some gw))
  have z0 : gw < w.heap.size := by have := b0.size; omega
  refine (C0.out _ l0 k0).mono ?_
  rintro e w1 ⟨rfl, k1, g1⟩
  have l1 : LibW b w1 := l0.below ((gbel g1 (Nat.le_of_lt z0)).mono hb)
  have G1 := hide (gtrans G0.out g1)
  have z1 : gw < w1.heap.size := by have := g1.size; omega
  clear g1 C0 k0 l0
  go_wp2_with fail
  have B0 : Blk (w1.alloc (.cells #[.string (tx x0)] 9)) w1.heap.size 9 #[.string (tx x0)] := by
    have t := Blk.new w1 9 #[.string (tx x0)]
    simpa using t
  have bF : Below w1.heap.size w1 (w1.alloc (.cells #[.string (tx x0)] 9)) := below_alloc (Below.refl w1.heap.size w1) (.cells #[.string (tx x0)] 9)
  generalize hwf : (w1.alloc (.cells #[.string (tx x0)] 9)) = wf at B0 bF ⊢
  clear hwf
  go_ret
  exact ⟨gtrans G1.out (gbelow bF _), 107, _, rfl, k1.below bF, enters_of Tryz.func107 rfl rfl, fun w' s hw hL' hbg hD hO => (read5_any hL' (Nat.le_trans hbg (Nat.le_of_lt hD.lt)) HS0.out (B0.below hw B0.lt)).mono fun e w2 hq => did_of hD hq⟩
set_option maxRecDepth 100000 in
set_option maxHeartbeats 3200000 in
theorem rd_mark_n0 (hL : LibW b w) (hb : b ≤ gw) (h : WordsAt w gw xs k) (hs : ShortW xs) (hk : k ≤ xs.length) (h0 : wordAt xs k = none) :
    Calls Tryz.prog 35 #[.pointer (some ⟨g, 0, none⟩), .string ⟨#[109, 97, 114, 107]⟩, .pointer (some ⟨gw, 0, none⟩)] w fun e w' => Disp b g gw xs w (none) e w' := by
  have hmf : ∀ fn first cap w, (Instr.makeFunc fn first cap).run Tryz.prog w = .ok (.func fn first cap) w := fun _ _ _ _ => rfl
  have hg := h.lt
  have C0 := hide (fun w' (hw : LibW b w') (h : WordsAt w' gw xs (k)) => word_n h (by exact hk) h0)
  have HL := hide hL
  clear hs hL hk h0
  go_enter Tryz.func35, Tryz.ntmps35
  go_wp2_with fail
  have b0 := Below.refl w.heap.size w
  have l0 : LibW b w := HL.out.below (b0.mono (by omega))
  have k0 := h.below b0
  have G0 := hide (gbelow b0 (some gw))
  have z0 : gw < w.heap.size := by have := b0.size; omega
  refine (C0.out _ l0 k0).mono ?_
  rintro e w1 ⟨rfl, g1⟩
  exact ⟨rfl, gtrans G0.out g1, rfl⟩
theorem rd_mark_is (hL : LibW b w) (hb : b ≤ gw) (h : WordsAt w gw xs k) (hs : ShortW xs) (hk : k ≤ xs.length) :
    Calls Tryz.prog 35 #[.pointer (some ⟨g, 0, none⟩), .string ⟨#[109, 97, 114, 107]⟩, .pointer (some ⟨gw, 0, none⟩)] w fun e w' => Disp b g gw xs w (markD xs k) e w' := by
  unfold markD
  cases h0 : wordAt xs k with
  | none => exact rd_mark_n0 hL hb h hs hk h0
  | some x0 =>
    exact rd_mark hL hb h hs hk h0
end
end Go.Proofs.YtjpbjghdplbdcaaGreatDoor
end
