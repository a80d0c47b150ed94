/-
  The walk of ViewLow.
-/
import Derived.Test.YtnbbbgoecndjhaaLowWd
import Derived.Laws.MakeOwn
namespace Go.Proofs.Ytnbbbgoecndjhaa
open Go.ChangeShapes Go.WideShapes Go.ChangeAt Go.RowKit
set_option linter.unusedVariables false

def CS32 : Array Value := Array.replicate 32 (.bool false)
theorem info4 : (Try.prog.info? 4).map (fun i => (i.zero, i.size, i.bytes)) = some (some (.bool false), 1, 1) := by kernel_rfl
theorem made32 : madeCells #[.bool false] 32 = CS32 := by
  apply Array.ext_getElem?
  intro i
  unfold CS32 madeCells
  by_cases h : i < 32
  · simp [h, Nat.mod_one]
  · simp [h]
theorem make32 (w : World) : (Instr.makeSlice 54 (.int .i64 32) (.int .i64 32)).run Try.prog w = .ok (.slice (some ⟨w.heap.size, 0, none⟩) 32 32) (w.alloc (.cells CS32 4)) := by
  obtain ⟨i0, hi, hz0, hz1, hz2⟩ := info_parts info4
  have := run_make (P := Try.prog) w 54 4 i0 (.bool false) Try.underlying54 hi hz0 .i64 .i64 32 32 (by omega) (by omega) (by rw [hz2]; omega) (by omega)
  rw [this, hz1]
  rw [show (Value.bool false).cells = #[.bool false] from rfl, show (32 : Int).toNat * 1 = 32 from rfl, made32]
  rfl

/-- What holds at the head of the first loop; of the second; of the third. -/
def L1 (w : World) (vb mb hb len : Nat) (lo : Int) (m : Nat) (i : Value) (wr : World) : Prop :=
  ∃ (j n : Nat) (h : Nat → Bool), j ≤ len ∧ i = .int .i64 j ∧ n ≤ m + j ∧ LV w wr vb mb n lo h ∧ HasAt wr hb h ∧ Below w.heap.size w wr
def L3 (w : World) (vb mb hb n : Nat) (lo : Int) (h : Nat → Bool) (k : Value) (wr : World) : Prop :=
  ∃ j : Nat, j ≤ 32 ∧ k = .int .u64 j ∧ LV w wr vb mb n lo h ∧ HasAt wr hb h ∧ Below w.heap.size w wr

def L4 (w : World) (vb mb hb n : Nat) (lo : Int) (h : Nat → Bool) (k : Value) (wr : World) : Prop :=
  ∃ q : Nat, lo ≤ q ∧ q ≤ 32 ∧ k = .int .u64 q ∧ (∀ k : Nat, lo ≤ k → k < q → h k = true) ∧ LV w wr vb mb n lo h ∧ HasAt wr hb h ∧ Below w.heap.size w wr
theorem byte_at {w wr : World} {a : Option Addr} {len : Nat} (hr0 : 0 < len → ∃ xs, Row w a len xs ∧ ∀ z ∈ xs, 0 ≤ z ∧ z ≤ 255) (hb : Below w.heap.size w wr) {j : Nat} (hj : j < len) :
    ∃ g off z c, a = some ⟨g, off, none⟩ ∧ wr.cell? ⟨g, off + j, none⟩ = some (.int .u8 z) ∧ c < 32 ∧ bits .and .u8 z 31 = ((c : Nat) : Int) ∧ g < wr.heap.size := by
  obtain ⟨xs, ⟨h1, h2, h3⟩, hx⟩ := hr0 (by omega)
  rcases h3 with ⟨_, h3⟩ | ⟨g, off, rfl, hc⟩
  · omega
  · have hz : xs.getD j 0 ∈ xs := by
      rw [List.getD_eq_getElem?_getD, List.getElem?_eq_getElem (by omega)]
      exact List.getElem_mem _
    have hzz := hx _ hz
    have hlt := World.block_lt_of_cell? _ _ (hc j hj)
    refine ⟨g, off, xs.getD j 0, (xs.getD j 0 % 32).toNat, rfl, (hb.cell (p := ⟨g, off + j, none⟩) hlt).trans (hc j hj), by omega, ?_, by have := hb.size; exact Nat.lt_of_lt_of_le hlt this⟩
    rw [u8_and31 _ (by omega) (by omega)]
    omega

set_option maxRecDepth 100000 in
theorem low_out (a a' : Option Addr) (len cap len' cap' : Nat) (y : Int) (w : World) (hm : len ≤ 9223372036854775807) (hm' : len' ≤ 9223372036854775807) (h : 40 < len ∨ 40 < len') :
    Calls Try.prog 6 #[.slice a len cap, .int .u8 y, .slice a' len' cap'] w fun e w' => e = .returned (.bool true) ∧ Below w.heap.size w w' := by
  by_cases h1 : 40 < len
  · go_enter Try.func6, Try.ntmps6
    go_wp2_with (first | (go_at_call 7; (with_reducible refine (awake_any _).mono ?_); rintro e w1 ⟨rfl, hb1⟩))
    go_ret
    exact ⟨rfl, hb1⟩
  · have h2 : 40 < len' := by omega
    go_enter Try.func6, Try.ntmps6
    go_wp2_with (first | (go_at_call 7; (with_reducible refine (awake_any _).mono ?_); rintro e w1 ⟨rfl, hb1⟩))
    go_ret
    exact ⟨rfl, hb1⟩

set_option maxRecDepth 100000 in
set_option maxHeartbeats 2000000 in
theorem low_main (a a' : Option Addr) (len cap len' cap' : Nat) (y : Int) (w : World) (hr : 0 < len → ∃ xs, Row w a len xs ∧ ∀ z ∈ xs, 0 ≤ z ∧ z ≤ 255) (hr' : 0 < len' → ∃ xs, Row w a' len' xs ∧ ∀ z ∈ xs, 0 ≤ z ∧ z ≤ 255) (hl : len ≤ 40) (hl' : len' ≤ 40) (hy0 : 0 ≤ y) (hy1 : y ≤ 255) :
    Calls Try.prog 6 #[.slice a len cap, .int .u8 y, .slice a' len' cap'] w fun e w' => e = .returned (.bool true) ∧ Below w.heap.size w w' := by
  have HR := Lib.hid hr
  have HR' := Lib.hid hr'
  clear hr hr'
  have hmk := make32
  go_enter Try.func6, Try.ntmps6
  go_wp2_with (first
    | (go_at_call 7; (with_reducible refine (awake_any _).mono ?_); rintro e w1 ⟨rfl, hb1⟩; have hz1 := hb1.size)
    | (go_at_call 8; (with_reducible refine (new_ok w.heap.size _ hz1).mono ?_); rintro e w2 ⟨vb, mb, rfl, hV2, hS2⟩; have hb2 := hb1.trans hS2.below; have hz2 := hb2.size))
  obtain ⟨gh, hhb⟩ : ∃ gh, w2.heap.size = gh := ⟨_, rfl⟩
  have hH3 : HasAt (w2.alloc (.cells CS32 4)) gh (fun _ => false) := by rw [← hhb]; exact HasAt.made w2 _ rfl
  have hV3 : LV w (w2.alloc (.cells CS32 4)) vb mb 0 0 (fun _ => false) := ⟨0, _, by rw [MK_none]; exact hV2.later ((Below.refl _ _).alloc (Nat.le_refl _) _), by rw [MK_none]; exact nx0⟩
  have hb3 : Below w.heap.size w (w2.alloc (.cells CS32 4)) := hb2.alloc hz2 _
  rw [hhb]
  have hhb2 : w.heap.size ≤ gh := by omega
  clear hV2 hS2 hhb
  generalize w2.alloc (.cells CS32 4) = w3 at *
  go_wp2
  go_loopw [10] (fun i wr => L1 w vb mb gh len 0 0 i wr) (fun i _ => len - (intOf i).toNat)
  case atStart => exact ⟨0, 0, _, by omega, rfl, by omega, hV3, hH3, hb3⟩
  case round =>
    obtain ⟨j, n, h, hj, rfl, hn, hV, hH, hb⟩ := hrel
    have HV := Lib.hid hV
    have HH := Lib.hid hH
    clear hV hH
    by_cases hlt : j < len
    · obtain ⟨g, off, z, c, rfl, hcell, hc, e1, hg⟩ := byte_at HR.out hb hlt
      go_wp2_with (first
        | (go_at_call 9; go_loud ((with_reducible refine (low_note w _ vb mb n 0 h c _ _ _ (HV.out.later ((Below.refl _ _).alloc (Nat.le_refl _) _)) (Row.one _ _ _) (hb.alloc hb.size _).size hc (by omega) (by omega) rfl).mono ?_); rintro e w5 ⟨n', rfl, hn', hV5, hS5⟩; have hH5 := (HH.out.kept ((Bytes.refl _).alloc _)).kept hS5.bytes; have hb5 := (hb.alloc hb.size _).trans hS5.below; have q1 := hH5.cell hc; have q2 := hH5.free c; have q3 := hH5.lt; have HV5 := Lib.hid hV5; have HH5 := Lib.hid hH5; clear hV5 hH5)))
      go_roundw
      case rel => exact ⟨j + 1, n', _, by omega, by go_num, by omega, HV5.out.store HH5.out _, HH5.out.put hc, hb5.setCell (p := ⟨gh, c, none⟩) hhb2 _⟩
      case measure => simp [intOf]; omega
    · obtain rfl : j = len := by omega
      obtain ⟨lo, e2, hlo⟩ : ∃ lo : Nat, bits .and .u8 y 31 = (lo : Int) ∧ lo < 32 := ⟨(y % 32).toNat, by rw [u8_and31 y hy0 (by omega)]; omega, by omega⟩
      go_wp2_with (first
        | (go_at_call 13; go_loud ((with_reducible refine (low_raise w _ vb mb n lo h HV.out hb.size (by omega) (by omega)).mono ?_); rintro e w7 ⟨rfl, hV7, hS7⟩; have hH7 := HH.out.kept hS7.bytes; have hb7 := hb.trans hS7.below)))
      clear HV HH hb hb3 hV3 hH3 e2
      go_loopw [13] (fun i wr => L1 w vb mb gh len' lo 40 i wr) (fun i _ => len' - (intOf i).toNat)
      case atStart => exact ⟨0, n, _, by omega, rfl, by omega, hV7, hH7, hb7⟩
      case round =>
        obtain ⟨wo, hwo⟩ : ∃ wo : World, wo = wr := ⟨_, rfl⟩
        clear hV7 hH7 hb7
        obtain ⟨j', n, h, hj', rfl, hn, hV, hH, hb⟩ := hrel
        have HV := Lib.hid hV
        have HH := Lib.hid hH
        clear hV hH hwo
        by_cases hlt : j' < len'
        · obtain ⟨g, off, z, c, rfl, hcell, hc, e1, hg⟩ := byte_at HR'.out hb hlt
          have h1n : (c : Int) < lo ∨ ¬ (c : Int) < lo := by omega
          rcases Bool.eq_false_or_eq_true (h c) with h2 | h2 <;> rcases h1n with h1 | h1
          · have hcode : code lo h c = 35 := by unfold code; simp [h1]
            go_wp2_with (first
              | (go_at_call 9; go_loud ((with_reducible refine (low_note w _ vb mb n lo h c _ _ _ (HV.out.later ((Below.refl _ _).alloc (Nat.le_refl _) _)) (Row.one _ _ _) (hb.alloc hb.size _).size hc (by omega) (by omega) hcode).mono ?_); rintro e w5 ⟨n', rfl, hn', hV5, hS5⟩; have hH5 := (HH.out.kept ((Bytes.refl _).alloc _)).kept hS5.bytes; have hb5 := (hb.alloc hb.size _).trans hS5.below; have q1 := hH5.cell hc; rw [h2] at q1; have q2 := hH5.free c; have q3 := hH5.lt; have HV5 := Lib.hid hV5; have HH5 := Lib.hid hH5; clear hV5 hH5)))
            go_roundw
            case rel => exact ⟨j' + 1, n', _, by omega, by go_num, by omega, HV5.out.store HH5.out _, HH5.out.put hc, hb5.setCell (p := ⟨gh, c, none⟩) hhb2 _⟩
            case measure => simp [intOf]; omega
          · have hcode : code lo h c = 31 := by unfold code; simp [h1, h2]
            go_wp2_with (first
              | (go_at_call 9; go_loud ((with_reducible refine (low_note w _ vb mb n lo h c _ _ _ (HV.out.later ((Below.refl _ _).alloc (Nat.le_refl _) _)) (Row.one _ _ _) (hb.alloc hb.size _).size hc (by omega) (by omega) hcode).mono ?_); rintro e w5 ⟨n', rfl, hn', hV5, hS5⟩; have hH5 := (HH.out.kept ((Bytes.refl _).alloc _)).kept hS5.bytes; have hb5 := (hb.alloc hb.size _).trans hS5.below; have q1 := hH5.cell hc; rw [h2] at q1; have q2 := hH5.free c; have q3 := hH5.lt; have HV5 := Lib.hid hV5; have HH5 := Lib.hid hH5; clear hV5 hH5)))
            go_roundw
            case rel => exact ⟨j' + 1, n', _, by omega, by go_num, by omega, HV5.out.store HH5.out _, HH5.out.put hc, hb5.setCell (p := ⟨gh, c, none⟩) hhb2 _⟩
            case measure => simp [intOf]; omega
          · have hcode : code lo h c = 35 := by unfold code; simp [h1]
            go_wp2_with (first
              | (go_at_call 9; go_loud ((with_reducible refine (low_note w _ vb mb n lo h c _ _ _ (HV.out.later ((Below.refl _ _).alloc (Nat.le_refl _) _)) (Row.one _ _ _) (hb.alloc hb.size _).size hc (by omega) (by omega) hcode).mono ?_); rintro e w5 ⟨n', rfl, hn', hV5, hS5⟩; have hH5 := (HH.out.kept ((Bytes.refl _).alloc _)).kept hS5.bytes; have hb5 := (hb.alloc hb.size _).trans hS5.below; have q1 := hH5.cell hc; rw [h2] at q1; have q2 := hH5.free c; have q3 := hH5.lt; have HV5 := Lib.hid hV5; have HH5 := Lib.hid hH5; clear hV5 hH5)))
            go_roundw
            case rel => exact ⟨j' + 1, n', _, by omega, by go_num, by omega, HV5.out.store HH5.out _, HH5.out.put hc, hb5.setCell (p := ⟨gh, c, none⟩) hhb2 _⟩
            case measure => simp [intOf]; omega
          · have hcode : code lo h c = 0 := by unfold code; simp [h1, h2]
            go_wp2_with (first
              | (go_at_call 9; go_loud ((with_reducible refine (low_note w _ vb mb n lo h c _ _ _ (HV.out.later ((Below.refl _ _).alloc (Nat.le_refl _) _)) (Row.one _ _ _) (hb.alloc hb.size _).size hc (by omega) (by omega) hcode).mono ?_); rintro e w5 ⟨n', rfl, hn', hV5, hS5⟩; have hH5 := (HH.out.kept ((Bytes.refl _).alloc _)).kept hS5.bytes; have hb5 := (hb.alloc hb.size _).trans hS5.below; have q1 := hH5.cell hc; rw [h2] at q1; have q2 := hH5.free c; have q3 := hH5.lt; have HV5 := Lib.hid hV5; have HH5 := Lib.hid hH5; clear hV5 hH5)))
            go_roundw
            case rel => exact ⟨j' + 1, n', _, by omega, by go_num, by omega, HV5.out.store HH5.out _, HH5.out.put hc, hb5.setCell (p := ⟨gh, c, none⟩) hhb2 _⟩
            case measure => simp [intOf]; omega
        · obtain rfl : j' = len' := by omega
          go_wp2
          clear hmk
          go_loopw [17] (fun k wr => L3 w vb mb gh n lo h k wr) (fun k _ => 32 - (intOf k).toNat)
          case atStart => exact ⟨0, by omega, rfl, HV.out, HH.out, hb⟩
          case round =>
            clear HV HH hb
            obtain ⟨k, hk, rfl, hV, hH, hb⟩ := hrel
            have HV := Lib.hid hV
            have HH := Lib.hid hH
            clear hV hH
            have hbs := hb.size
            by_cases hlt : k < 32
            · have hwk : IntKind.u8.wrap (k : Int) = k := by rw [IntKind.wrap_u8]; omega
              have h1n : (k : Int) < lo ∨ ¬ (k : Int) < lo := by omega
              rcases Bool.eq_false_or_eq_true (h k) with h2 | h2 <;> rcases h1n with h1 | h1
              · go_wp2_with (first
                  | (go_at_call 12; go_loud ((with_reducible refine (low_gone w wr vb mb n lo h k HV.out h1).mono ?_); rintro e w9 ⟨rfl, rfl⟩)))
                go_roundw
                case rel => exact ⟨k + 1, by omega, by go_num, HV.out, HH.out, hb⟩
                case measure => simp [intOf]; omega
              · go_wp2_with (first
                  | (go_at_call 12; go_loud ((with_reducible refine (low_got w wr vb mb n lo h k HV.out hlt (by omega) h2).mono ?_); rintro e w9 ⟨g, cap9, rfl, d1, d2, hb9⟩; have c1 := (HH.out.kept ((Bytes.refl _).below hb9)).cell hlt; rw [h2] at c1; have c3 := (HH.out.kept ((Bytes.refl _).below hb9)).lt)))
                go_roundw
                case rel => exact ⟨k + 1, by omega, by go_num, HV.out.later hb9, HH.out.kept ((Bytes.refl _).below hb9), hb.trans (hb9.mono hbs)⟩
                case measure => simp [intOf]; omega
              · go_wp2_with (first
                  | (go_at_call 12; go_loud ((with_reducible refine (low_gone w wr vb mb n lo h k HV.out h1).mono ?_); rintro e w9 ⟨rfl, rfl⟩)))
                go_roundw
                case rel => exact ⟨k + 1, by omega, by go_num, HV.out, HH.out, hb⟩
                case measure => simp [intOf]; omega
              · go_wp2_with (first
                  | (go_at_call 12; go_loud ((with_reducible refine (low_none w wr vb mb n lo h k HV.out hlt (by omega) h2).mono ?_); rintro e w9 ⟨rfl, rfl⟩; have c1 := HH.out.cell hlt; rw [h2] at c1; have c3 := HH.out.lt)))
                go_roundw
                case rel => exact ⟨k + 1, by omega, by go_num, HV.out, HH.out, hb⟩
                case measure => simp [intOf]; omega
            · obtain rfl : k = 32 := by omega
              go_wp2
              go_loopw [20] (fun q wr => L4 w vb mb gh n lo h q wr) (fun q _ => 32 - (intOf q).toNat)
              case atStart => exact ⟨lo, by omega, by omega, rfl, fun k k1 k2 => by omega, HV.out, HH.out, hb⟩
              case round =>
                clear HV HH hb hbs
                obtain ⟨q, hq0, hq1, rfl, hall, hV, hH, hb⟩ := hrel
                have HV := Lib.hid hV
                have HH := Lib.hid hH
                have HA := Lib.hid hall
                clear hV hH hall
                by_cases hlt : q < 32
                · have c1 := HH.out.cell hlt
                  have c3 := HH.out.lt
                  rcases Bool.eq_false_or_eq_true (h q) with h2 | h2
                  · rw [h2] at c1
                    go_wp2
                    go_roundw
                    case rel =>
                      have hal2 : ∀ k : Nat, (lo : Int) ≤ k → k < q + 1 → h k = true := fun k k1 k2 => by
                        by_cases e : k = q
                        · rw [e]; exact h2
                        · exact HA.out k k1 (by omega)
                      have hL : L4 w vb mb gh n lo h (.int .u64 ((q : Int) + 1)) wr := ⟨q + 1, by omega, by omega, by go_num, hal2, HV.out, HH.out, hb⟩
                      first | exact hL | ((repeat apply Exists.intro); exact ⟨hL, rfl⟩)
                    case measure => simp [intOf]; omega
                  · rw [h2] at c1
                    have HN := Lib.hid (low_next w wr vb mb n lo h q HV.out (by omega) (by omega) (by omega) (fun k k1 k2 => HA.out k (by omega) k2) (fun _ => h2))
                    go_wp2_with (first
                      | (go_at_call 19; (with_reducible refine (low_low w wr vb mb n lo h HV.out).mono ?_); rintro e w9 ⟨rfl, rfl⟩)
                      | (go_at_call 11; (with_reducible refine HN.out.mono ?_); rintro e w9 ⟨rfl, rfl⟩))
                    go_ret
                    exact ⟨rfl, hb⟩
                · obtain rfl : q = 32 := by omega
                  have HN := Lib.hid (low_next w wr vb mb n lo h 32 HV.out (by omega) (by omega) (by omega) (fun k k1 k2 => HA.out k (by omega) k2) (fun h => by omega))
                  go_wp2_with (first
                    | (go_at_call 19; (with_reducible refine (low_low w wr vb mb n lo h HV.out).mono ?_); rintro e w9 ⟨rfl, rfl⟩)
                    | (go_at_call 11; (with_reducible refine HN.out.mono ?_); rintro e w9 ⟨rfl, rfl⟩))
                  go_ret
                  exact ⟨rfl, hb⟩

theorem low_all (a a' : Option Addr) (len cap len' cap' : Nat) (y : Int) (w : World) (hm : len ≤ 9223372036854775807) (hm' : len' ≤ 9223372036854775807) (hy : 0 ≤ y ∧ y ≤ 255) (hr : 0 < len → len ≤ 40 → ∃ xs, Row w a len xs ∧ ∀ z ∈ xs, 0 ≤ z ∧ z ≤ 255) (hr' : 0 < len' → len' ≤ 40 → ∃ xs, Row w a' len' xs ∧ ∀ z ∈ xs, 0 ≤ z ∧ z ≤ 255) :
    Calls Try.prog 6 #[.slice a len cap, .int .u8 y, .slice a' len' cap'] w fun e w' => e = .returned (.bool true) ∧ Below w.heap.size w w' := by
  by_cases hl : 40 < len ∨ 40 < len'
  · exact low_out a a' len cap len' cap' y w hm hm' hl
  · exact low_main a a' len cap len' cap' y w (fun h => hr h (by omega)) (fun h => hr' h (by omega)) (by omega) (by omega) hy.1 hy.2
end Go.Proofs.Ytnbbbgoecndjhaa
