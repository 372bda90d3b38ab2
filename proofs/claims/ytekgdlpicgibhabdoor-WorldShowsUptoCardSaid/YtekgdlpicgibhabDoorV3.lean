/-
  What is amiss with a call (the reference's callErr).
-/
import Derived.Test.YtekgdlpicgibhabDoorV2
namespace Go.Proofs.YtekgdlpicgibhabDoor.SH
open Go.RowKit Go.Proofs.YtekgdlpicgibhabDoorW.PrintWords PT PWorldShows

def has (s : List UInt8) (l : Int) : Bool := s.any fun b => decide ((b.toNat : Int) = l)
theorem has_cons (a : UInt8) (s : List UInt8) (l : Int) : has (a :: s) l = (decide ((a.toNat : Int) = l) || has s l) := rfl
theorem asked_l0 (s : List UInt8) (l : Int) (hs : s.length ≤ 1000) : ∀ (k i : Nat), i ≤ s.length → s.length - i < k → annexref21_asked.l0 k (by_ s) l i = some (has (s.drop i) l) := by
  intro k
  induction k with
  | zero => intro i _ h; omega
  | succ k ih =>
    intro i hi hk
    unfold annexref21_asked.l0
    rw [by_size]
    by_cases hlt : i < s.length
    · rw [if_pos (by omega), if_pos (by omega)]
      have hb : bt (by_ s) i = (s[i].toNat : Int) := by
        have := bt_at (by_ s) i (by rw [by_size]; simpa using hlt)
        rw [← this]
        simp [by_]
        rfl
      have hd : s.drop i = s[i] :: s.drop (i + 1) := List.drop_eq_getElem_cons hlt
      rw [hb, hd, has_cons]
      by_cases hl : (s[i].toNat : Int) = l
      · rw [if_pos hl, decide_eq_true hl]; rfl
      · rw [if_neg hl]
        have hw : wrap64 ((i : Int) + 1) = ((i + 1 : Nat) : Int) := by unfold wrap64; omega
        rw [hw, ih (i + 1) hlt (by omega)]
        rw [decide_eq_false hl]; rfl
    · have : i = s.length := by omega
      subst this
      rw [if_neg (by omega)]
      simp [has]
theorem asked37 (s : List UInt8) (l : Int) (hs : s.length ≤ 1000) (w : World) : Calls Tryd.prog 37 #[.string (by_ s), .int .u8 l] w fun e w' => e = .returned (.bool (has s l)) ∧ Drawn0 w w' :=
  annexref21_asked.calls (s.length + 1) (by_ s) l _ w (by
    have h := asked_l0 s l hs (s.length + 1) 0 (Nat.zero_le _) (by omega)
    simpa [annexref21_asked.f] using h)
theorem number38 (a : Int) (w : World) : Calls Tryd.prog 38 #[.int .i64 a] w fun e w' => e = .returned (.bool (decide (numOk a))) ∧ Drawn0 w w' :=
  annexref21_number.calls a _ w (by
    unfold annexref21_number.f numOk
    by_cases h : a ≥ 0
    · rw [if_pos h]; exact congrArg some (decide_eq_decide.2 ⟨fun h2 => ⟨h, h2⟩, fun h2 => h2.2⟩)
    · rw [if_neg h]; exact congrArg some (decide_eq_false (fun h2 => h h2.1)).symm)

theorem formR_le (op : Int) : (formR op).length ≤ 1000 := by
  unfold formR
  repeat' split
  all_goals simp
theorem has_mem {F : List UInt8} (l : UInt8) (h : has F (l.toNat : Int) = true) : l ∈ F := by
  unfold has at h
  rw [List.any_eq_true] at h
  obtain ⟨b, hb, e⟩ := h
  have e' := of_decide_eq_true e
  have : b = l := UInt8.toNat_inj.1 (by omega)
  rwa [← this]
theorem has_not {F : List UInt8} (l : UInt8) (h : has F (l.toNat : Int) = false) : ¬ l ∈ F := fun hm => by
  have : has F (l.toNat : Int) = true := by
    unfold has
    rw [List.any_eq_true]
    exact ⟨l, hm, decide_eq_true rfl⟩
  rw [h] at this
  cases this
/-- The reference's question of a field: has it a letter, or is it empty? -/
theorem spare_bools (c : Cl) (p n m d h g o l : Bool) (F : List UInt8) (hp : p = true ↔ (112 ∈ F ∨ c.path.toList = [])) (hn : n = true ↔ (110 ∈ F ∨ c.name.toList = [])) (hm : m = true ↔ (109 ∈ F ∨ c.name2.toList = [])) (hd : d = true ↔ (100 ∈ F ∨ c.data = []))
    (hh : h = true ↔ (104 ∈ F ∨ c.h = 0)) (hg : g = true ↔ (103 ∈ F ∨ c.h2 = 0)) (ho : o = true ↔ (111 ∈ F ∨ c.off = 0)) (hl : l = true ↔ (108 ∈ F ∨ c.len = 0)) :
    (p && n && m && d && h && g && o && l) = true ↔ spareFree c F := by
  simp only [Bool.and_eq_true, spareFree, hp, hn, hm, hd, hh, hg, ho, hl, and_assoc]

set_option maxRecDepth 100000 in
set_option maxHeartbeats 8000000 in
theorem callErr31 {B : Nat} (c : Cl) (A : Option Addr) (cap : Nat) (w : World) (hT : Tabs B w) (hB : B ≤ w.heap.size) :
    Calls Tryd.prog 31 #[.agg (c.cells A cap).toArray] w fun e w' => ∃ n : Int, e = .returned (.int .i64 n) ∧ (n = 0 ↔ okC c) ∧ Below w.heap.size w w' := by
  by_cases hop : opOk c
  · obtain ⟨h1, h10⟩ := hop
    have hbound : c.op = 1 ∨ c.op = 2 ∨ c.op = 3 ∨ c.op = 4 ∨ c.op = 5 ∨ c.op = 6 ∨ c.op = 7 ∨ c.op = 8 ∨ c.op = 9 ∨ c.op = 10 := by omega
    obtain ⟨op, h, h2, off, len, path, name, name2, data⟩ := c
    simp only [Cl.cells]
    simp only at h1 h10 hbound
    have hf := fun o => (hT.on_up hB (below_alloc (Below.refl _ w) o)).fr op.toNat (by omega) (by omega)
    rw [Int.toNat_of_nonneg (by omega)] at hf
    have HB := Lib.hid hbound
    clear hbound
    have e1 : decide (op < 1) = false := decide_eq_false (by omega)
    have e2 : decide (10 < op) = false := decide_eq_false (by omega)
    go_enter Tryd.func31, Tryd.ntmps31
    go_upto_region 4 with (fail)
    go_cut [4] (fun v wc => ∃ (p : Bool) (m : Nat), v = .bool p ∧ Aside0 (p = true ↔ (112 ∈ formR op ∨ path.toList = [])) ∧ wc = (w.alloc (.cells #[.int .i64 op, .int .i64 h, .int .i64 h2, .int .i64 off, .int .i64 len, .string path, .string name, .string name2, .slice A data.length cap] 25)).drewN m)
    case first =>
      cases ha : has (formR op) 112 with
      | true =>
        go_wp2_with (go_at_call 37; refine (asked37 (formR op) 112 (formR_le op) _).mono ?_; rw [ha]; rintro e w' ⟨rfl, hd⟩; obtain ⟨m, rfl⟩ := hd.out)
        go_meet
        case rel => exact ⟨true, _, rfl, ⟨by simp [has_mem 112 ha]⟩, rfl⟩
      | false =>
        cases hq : path.toList.isEmpty with
        | true =>
          go_wp2_with (go_at_call 37; refine (asked37 (formR op) 112 (formR_le op) _).mono ?_; rw [ha]; rintro e w' ⟨rfl, hd⟩; obtain ⟨m, rfl⟩ := hd.out)
          go_meet
          case rel => exact ⟨true, _, rfl, ⟨by have h1 := has_not 112 ha; simp at hq; simp [h1, hq]⟩, rfl⟩
        | false =>
          go_wp2_with (go_at_call 37; refine (asked37 (formR op) 112 (formR_le op) _).mono ?_; rw [ha]; rintro e w' ⟨rfl, hd⟩; obtain ⟨m, rfl⟩ := hd.out)
          go_meet
          case rel => exact ⟨false, _, rfl, ⟨by have h1 := has_not 112 ha; simp at hq; simp [h1, hq]⟩, rfl⟩
    case rest =>
      obtain ⟨p4, m4, rfl, H4, rfl⟩ := hcut
      go_upto_region 5 with (fail)
      go_cut [5] (fun v wc => ∃ (p : Bool) (m : Nat), v = .bool p ∧ Aside0 (p = true ↔ (110 ∈ formR op ∨ name.toList = [])) ∧ wc = (w.alloc (.cells #[.int .i64 op, .int .i64 h, .int .i64 h2, .int .i64 off, .int .i64 len, .string path, .string name, .string name2, .slice A data.length cap] 25)).drewN m)
      case first =>
        cases ha : has (formR op) 110 with
        | true =>
          go_wp2_with (go_at_call 37; refine (asked37 (formR op) 110 (formR_le op) _).mono ?_; rw [ha]; rintro e w' ⟨rfl, hd⟩; obtain ⟨m, rfl⟩ := hd.out)
          go_meet
          case rel => exact ⟨true, _, rfl, ⟨by simp [has_mem 110 ha]⟩, rfl⟩
        | false =>
          cases hq : name.toList.isEmpty with
          | true =>
            go_wp2_with (go_at_call 37; refine (asked37 (formR op) 110 (formR_le op) _).mono ?_; rw [ha]; rintro e w' ⟨rfl, hd⟩; obtain ⟨m, rfl⟩ := hd.out)
            go_meet
            case rel => exact ⟨true, _, rfl, ⟨by have h1 := has_not 110 ha; simp at hq; simp [h1, hq]⟩, rfl⟩
          | false =>
            go_wp2_with (go_at_call 37; refine (asked37 (formR op) 110 (formR_le op) _).mono ?_; rw [ha]; rintro e w' ⟨rfl, hd⟩; obtain ⟨m, rfl⟩ := hd.out)
            go_meet
            case rel => exact ⟨false, _, rfl, ⟨by have h1 := has_not 110 ha; simp at hq; simp [h1, hq]⟩, rfl⟩
      case rest =>
        obtain ⟨p5, m5, rfl, H5, rfl⟩ := hcut
        go_upto_region 6 with (fail)
        go_cut [6] (fun v wc => ∃ (p : Bool) (m : Nat), v = .bool p ∧ Aside0 (p = true ↔ (109 ∈ formR op ∨ name2.toList = [])) ∧ wc = (w.alloc (.cells #[.int .i64 op, .int .i64 h, .int .i64 h2, .int .i64 off, .int .i64 len, .string path, .string name, .string name2, .slice A data.length cap] 25)).drewN m)
        case first =>
          cases ha : has (formR op) 109 with
          | true =>
            go_wp2_with (go_at_call 37; refine (asked37 (formR op) 109 (formR_le op) _).mono ?_; rw [ha]; rintro e w' ⟨rfl, hd⟩; obtain ⟨m, rfl⟩ := hd.out)
            go_meet
            case rel => exact ⟨true, _, rfl, ⟨by simp [has_mem 109 ha]⟩, rfl⟩
          | false =>
            cases hq : name2.toList.isEmpty with
            | true =>
              go_wp2_with (go_at_call 37; refine (asked37 (formR op) 109 (formR_le op) _).mono ?_; rw [ha]; rintro e w' ⟨rfl, hd⟩; obtain ⟨m, rfl⟩ := hd.out)
              go_meet
              case rel => exact ⟨true, _, rfl, ⟨by have h1 := has_not 109 ha; simp at hq; simp [h1, hq]⟩, rfl⟩
            | false =>
              go_wp2_with (go_at_call 37; refine (asked37 (formR op) 109 (formR_le op) _).mono ?_; rw [ha]; rintro e w' ⟨rfl, hd⟩; obtain ⟨m, rfl⟩ := hd.out)
              go_meet
              case rel => exact ⟨false, _, rfl, ⟨by have h1 := has_not 109 ha; simp at hq; simp [h1, hq]⟩, rfl⟩
        case rest =>
          obtain ⟨p6, m6, rfl, H6, rfl⟩ := hcut
          go_upto_region 7 with (fail)
          go_cut [7] (fun v wc => ∃ (p : Bool) (m : Nat), v = .bool p ∧ Aside0 (p = true ↔ (100 ∈ formR op ∨ data = [])) ∧ wc = (w.alloc (.cells #[.int .i64 op, .int .i64 h, .int .i64 h2, .int .i64 off, .int .i64 len, .string path, .string name, .string name2, .slice A data.length cap] 25)).drewN m)
          case first =>
            cases ha : has (formR op) 100 with
            | true =>
              go_wp2_with (go_at_call 37; refine (asked37 (formR op) 100 (formR_le op) _).mono ?_; rw [ha]; rintro e w' ⟨rfl, hd⟩; obtain ⟨m, rfl⟩ := hd.out)
              go_meet
              case rel => exact ⟨true, _, rfl, ⟨by simp [has_mem 100 ha]⟩, rfl⟩
            | false =>
              cases hq : (((data.length : Nat) : Int) == 0) with
              | true =>
                go_wp2_with (go_at_call 37; refine (asked37 (formR op) 100 (formR_le op) _).mono ?_; rw [ha]; rintro e w' ⟨rfl, hd⟩; obtain ⟨m, rfl⟩ := hd.out)
                go_meet
                case rel => exact ⟨true, _, rfl, ⟨by have h1 := has_not 100 ha; simp at hq; simp [h1, hq]⟩, rfl⟩
              | false =>
                go_wp2_with (go_at_call 37; refine (asked37 (formR op) 100 (formR_le op) _).mono ?_; rw [ha]; rintro e w' ⟨rfl, hd⟩; obtain ⟨m, rfl⟩ := hd.out)
                go_meet
                case rel => exact ⟨false, _, rfl, ⟨by have h1 := has_not 100 ha; simp at hq; simp [h1, hq]⟩, rfl⟩
          case rest =>
            obtain ⟨p7, m7, rfl, H7, rfl⟩ := hcut
            go_upto_region 8 with (fail)
            go_cut [8] (fun v wc => ∃ (p : Bool) (m : Nat), v = .bool p ∧ Aside0 (p = true ↔ (104 ∈ formR op ∨ h = 0)) ∧ wc = (w.alloc (.cells #[.int .i64 op, .int .i64 h, .int .i64 h2, .int .i64 off, .int .i64 len, .string path, .string name, .string name2, .slice A data.length cap] 25)).drewN m)
            case first =>
              cases ha : has (formR op) 104 with
              | true =>
                go_wp2_with (go_at_call 37; refine (asked37 (formR op) 104 (formR_le op) _).mono ?_; rw [ha]; rintro e w' ⟨rfl, hd⟩; obtain ⟨m, rfl⟩ := hd.out)
                go_meet
                case rel => exact ⟨true, _, rfl, ⟨by simp [has_mem 104 ha]⟩, rfl⟩
              | false =>
                cases hq : (h == 0) with
                | true =>
                  go_wp2_with (go_at_call 37; refine (asked37 (formR op) 104 (formR_le op) _).mono ?_; rw [ha]; rintro e w' ⟨rfl, hd⟩; obtain ⟨m, rfl⟩ := hd.out)
                  go_meet
                  case rel => exact ⟨true, _, rfl, ⟨by have h1 := has_not 104 ha; simp at hq; simp [h1, hq]⟩, rfl⟩
                | false =>
                  go_wp2_with (go_at_call 37; refine (asked37 (formR op) 104 (formR_le op) _).mono ?_; rw [ha]; rintro e w' ⟨rfl, hd⟩; obtain ⟨m, rfl⟩ := hd.out)
                  go_meet
                  case rel => exact ⟨false, _, rfl, ⟨by have h1 := has_not 104 ha; simp at hq; simp [h1, hq]⟩, rfl⟩
            case rest =>
              obtain ⟨p8, m8, rfl, H8, rfl⟩ := hcut
              go_upto_region 9 with (fail)
              go_cut [9] (fun v wc => ∃ (p : Bool) (m : Nat), v = .bool p ∧ Aside0 (p = true ↔ (103 ∈ formR op ∨ h2 = 0)) ∧ wc = (w.alloc (.cells #[.int .i64 op, .int .i64 h, .int .i64 h2, .int .i64 off, .int .i64 len, .string path, .string name, .string name2, .slice A data.length cap] 25)).drewN m)
              case first =>
                cases ha : has (formR op) 103 with
                | true =>
                  go_wp2_with (go_at_call 37; refine (asked37 (formR op) 103 (formR_le op) _).mono ?_; rw [ha]; rintro e w' ⟨rfl, hd⟩; obtain ⟨m, rfl⟩ := hd.out)
                  go_meet
                  case rel => exact ⟨true, _, rfl, ⟨by simp [has_mem 103 ha]⟩, rfl⟩
                | false =>
                  cases hq : (h2 == 0) with
                  | true =>
                    go_wp2_with (go_at_call 37; refine (asked37 (formR op) 103 (formR_le op) _).mono ?_; rw [ha]; rintro e w' ⟨rfl, hd⟩; obtain ⟨m, rfl⟩ := hd.out)
                    go_meet
                    case rel => exact ⟨true, _, rfl, ⟨by have h1 := has_not 103 ha; simp at hq; simp [h1, hq]⟩, rfl⟩
                  | false =>
                    go_wp2_with (go_at_call 37; refine (asked37 (formR op) 103 (formR_le op) _).mono ?_; rw [ha]; rintro e w' ⟨rfl, hd⟩; obtain ⟨m, rfl⟩ := hd.out)
                    go_meet
                    case rel => exact ⟨false, _, rfl, ⟨by have h1 := has_not 103 ha; simp at hq; simp [h1, hq]⟩, rfl⟩
              case rest =>
                obtain ⟨p9, m9, rfl, H9, rfl⟩ := hcut
                go_upto_region 10 with (fail)
                go_cut [10] (fun v wc => ∃ (p : Bool) (m : Nat), v = .bool p ∧ Aside0 (p = true ↔ (111 ∈ formR op ∨ off = 0)) ∧ wc = (w.alloc (.cells #[.int .i64 op, .int .i64 h, .int .i64 h2, .int .i64 off, .int .i64 len, .string path, .string name, .string name2, .slice A data.length cap] 25)).drewN m)
                case first =>
                  cases ha : has (formR op) 111 with
                  | true =>
                    go_wp2_with (go_at_call 37; refine (asked37 (formR op) 111 (formR_le op) _).mono ?_; rw [ha]; rintro e w' ⟨rfl, hd⟩; obtain ⟨m, rfl⟩ := hd.out)
                    go_meet
                    case rel => exact ⟨true, _, rfl, ⟨by simp [has_mem 111 ha]⟩, rfl⟩
                  | false =>
                    cases hq : (off == 0) with
                    | true =>
                      go_wp2_with (go_at_call 37; refine (asked37 (formR op) 111 (formR_le op) _).mono ?_; rw [ha]; rintro e w' ⟨rfl, hd⟩; obtain ⟨m, rfl⟩ := hd.out)
                      go_meet
                      case rel => exact ⟨true, _, rfl, ⟨by have h1 := has_not 111 ha; simp at hq; simp [h1, hq]⟩, rfl⟩
                    | false =>
                      go_wp2_with (go_at_call 37; refine (asked37 (formR op) 111 (formR_le op) _).mono ?_; rw [ha]; rintro e w' ⟨rfl, hd⟩; obtain ⟨m, rfl⟩ := hd.out)
                      go_meet
                      case rel => exact ⟨false, _, rfl, ⟨by have h1 := has_not 111 ha; simp at hq; simp [h1, hq]⟩, rfl⟩
                case rest =>
                  obtain ⟨p10, m10, rfl, H10, rfl⟩ := hcut
                  go_upto_region 11 with (fail)
                  go_cut [11] (fun v wc => ∃ (p : Bool) (m : Nat), v = .bool p ∧ Aside0 (p = true ↔ (108 ∈ formR op ∨ len = 0)) ∧ wc = (w.alloc (.cells #[.int .i64 op, .int .i64 h, .int .i64 h2, .int .i64 off, .int .i64 len, .string path, .string name, .string name2, .slice A data.length cap] 25)).drewN m)
                  case first =>
                    cases ha : has (formR op) 108 with
                    | true =>
                      go_wp2_with (go_at_call 37; refine (asked37 (formR op) 108 (formR_le op) _).mono ?_; rw [ha]; rintro e w' ⟨rfl, hd⟩; obtain ⟨m, rfl⟩ := hd.out)
                      go_meet
                      case rel => exact ⟨true, _, rfl, ⟨by simp [has_mem 108 ha]⟩, rfl⟩
                    | false =>
                      cases hq : (len == 0) with
                      | true =>
                        go_wp2_with (go_at_call 37; refine (asked37 (formR op) 108 (formR_le op) _).mono ?_; rw [ha]; rintro e w' ⟨rfl, hd⟩; obtain ⟨m, rfl⟩ := hd.out)
                        go_meet
                        case rel => exact ⟨true, _, rfl, ⟨by have h1 := has_not 108 ha; simp at hq; simp [h1, hq]⟩, rfl⟩
                      | false =>
                        go_wp2_with (go_at_call 37; refine (asked37 (formR op) 108 (formR_le op) _).mono ?_; rw [ha]; rintro e w' ⟨rfl, hd⟩; obtain ⟨m, rfl⟩ := hd.out)
                        go_meet
                        case rel => exact ⟨false, _, rfl, ⟨by have h1 := has_not 108 ha; simp at hq; simp [h1, hq]⟩, rfl⟩
                  case rest =>
                    obtain ⟨p11, m11, rfl, H11, rfl⟩ := hcut
                    have HS := Aside0.mk (spare_bools (⟨op, h, h2, off, len, path, name, name2, data⟩ : Cl) p4 p5 p6 p7 p8 p9 p10 p11 (formR op) H4.out H5.out H6.out H7.out H8.out H9.out H10.out H11.out)
                    have HK : Aside0 (okC (⟨op, h, h2, off, len, path, name, name2, data⟩ : Cl) → (p4 && p5 && p6 && p7 && p8 && p9 && p10 && p11) = true) := ⟨fun hk => HS.out.2 ((spare_fill (⟨op, h, h2, off, len, path, name, name2, data⟩ : Cl)).2 hk.2.1)⟩
                    clear H4 H5 H6 H7 H8 H9 H10 H11
                    go_upto_region 12 with (fail)
                    cases p4 with
                    | false =>
                      go_wp2
                      go_ret
                      exact ⟨218, rfl, ⟨fun e => by simp at e, fun hk => by have := HK.out hk; simp at this⟩, pw_below_drewN (below_alloc (Below.refl _ _) _) _⟩
                    | true =>
                      cases p5 with
                      | false =>
                        go_wp2
                        go_ret
                        exact ⟨218, rfl, ⟨fun e => by simp at e, fun hk => by have := HK.out hk; simp at this⟩, pw_below_drewN (below_alloc (Below.refl _ _) _) _⟩
                      | true =>
                        cases p6 with
                        | false =>
                          go_wp2
                          go_ret
                          exact ⟨218, rfl, ⟨fun e => by simp at e, fun hk => by have := HK.out hk; simp at this⟩, pw_below_drewN (below_alloc (Below.refl _ _) _) _⟩
                        | true =>
                          cases p7 with
                          | false =>
                            go_wp2
                            go_ret
                            exact ⟨218, rfl, ⟨fun e => by simp at e, fun hk => by have := HK.out hk; simp at this⟩, pw_below_drewN (below_alloc (Below.refl _ _) _) _⟩
                          | true =>
                            cases p8 with
                            | false =>
                              go_wp2
                              go_ret
                              exact ⟨218, rfl, ⟨fun e => by simp at e, fun hk => by have := HK.out hk; simp at this⟩, pw_below_drewN (below_alloc (Below.refl _ _) _) _⟩
                            | true =>
                              cases p9 with
                              | false =>
                                go_wp2
                                go_ret
                                exact ⟨218, rfl, ⟨fun e => by simp at e, fun hk => by have := HK.out hk; simp at this⟩, pw_below_drewN (below_alloc (Below.refl _ _) _) _⟩
                              | true =>
                                cases p10 with
                                | false =>
                                  go_wp2
                                  go_ret
                                  exact ⟨218, rfl, ⟨fun e => by simp at e, fun hk => by have := HK.out hk; simp at this⟩, pw_below_drewN (below_alloc (Below.refl _ _) _) _⟩
                                | true =>
                                  cases p11 with
                                  | false =>
                                    go_wp2
                                    go_ret
                                    exact ⟨218, rfl, ⟨fun e => by simp at e, fun hk => by have := HK.out hk; simp at this⟩, pw_below_drewN (below_alloc (Below.refl _ _) _) _⟩
                                  | true =>
                                    obtain ⟨x0, hx0⟩ : ∃ b, decide (numOk h) = b := ⟨_, rfl⟩
                                    obtain ⟨x1, hx1⟩ : ∃ b, decide (numOk h2) = b := ⟨_, rfl⟩
                                    obtain ⟨x2, hx2⟩ : ∃ b, decide (numOk off) = b := ⟨_, rfl⟩
                                    obtain ⟨x3, hx3⟩ : ∃ b, decide (numOk len) = b := ⟨_, rfl⟩
                                    go_upto_region 18 with (first | (go_at_call 38; refine (number38 h _).mono ?_; rw [hx0]; rintro e w' ⟨rfl, hd⟩; obtain ⟨m, rfl⟩ := hd.out) | (go_at_call 38; refine (number38 h2 _).mono ?_; rw [hx1]; rintro e w' ⟨rfl, hd⟩; obtain ⟨m, rfl⟩ := hd.out) | (go_at_call 38; refine (number38 off _).mono ?_; rw [hx2]; rintro e w' ⟨rfl, hd⟩; obtain ⟨m, rfl⟩ := hd.out) | (go_at_call 38; refine (number38 len _).mono ?_; rw [hx3]; rintro e w' ⟨rfl, hd⟩; obtain ⟨m, rfl⟩ := hd.out))
                                    cases x0 with
                                    | false =>
                                      go_wp2
                                      go_ret
                                      exact ⟨213, rfl, ⟨fun e => by simp at e, fun hk => absurd hk.2.2.1 (of_decide_eq_false hx0)⟩, pw_below_drewN (below_alloc (Below.refl _ _) _) _⟩
                                    | true =>
                                      cases x1 with
                                      | false =>
                                        go_wp2
                                        go_ret
                                        exact ⟨213, rfl, ⟨fun e => by simp at e, fun hk => absurd hk.2.2.2.1 (of_decide_eq_false hx1)⟩, pw_below_drewN (below_alloc (Below.refl _ _) _) _⟩
                                      | true =>
                                        cases x2 with
                                        | false =>
                                          go_wp2
                                          go_ret
                                          exact ⟨213, rfl, ⟨fun e => by simp at e, fun hk => absurd hk.2.2.2.2.1 (of_decide_eq_false hx2)⟩, pw_below_drewN (below_alloc (Below.refl _ _) _) _⟩
                                        | true =>
                                          cases x3 with
                                          | false =>
                                            go_wp2
                                            go_ret
                                            exact ⟨213, rfl, ⟨fun e => by simp at e, fun hk => absurd hk.2.2.2.2.2 (of_decide_eq_false hx3)⟩, pw_below_drewN (below_alloc (Below.refl _ _) _) _⟩
                                          | true =>
                                            go_wp2
                                            go_ret
                                            exact ⟨0, rfl, ⟨fun _ => ⟨⟨h1, h10⟩, (spare_fill (⟨op, h, h2, off, len, path, name, name2, data⟩ : Cl)).1 (HS.out.1 rfl), of_decide_eq_true hx0, of_decide_eq_true hx1, of_decide_eq_true hx2, of_decide_eq_true hx3⟩, fun _ => rfl⟩, pw_below_drewN (below_alloc (Below.refl _ _) _) _⟩
  · obtain ⟨op, h, h2, off, len, path, name, name2, data⟩ := c
    simp only [Cl.cells]
    simp only [opOk] at hop
    by_cases h1 : op < 1
    · have e1 : decide (op < 1) = true := decide_eq_true h1
      go_enter Tryd.func31, Tryd.ntmps31
      go_wp2
      go_ret
      exact ⟨212, rfl, ⟨fun e => by simp at e, fun hk => absurd hk.1 hop⟩, below_alloc (Below.refl _ _) _⟩
    · have e1 : decide (op < 1) = false := decide_eq_false h1
      have e2 : decide (10 < op) = true := decide_eq_true (by omega)
      go_enter Tryd.func31, Tryd.ntmps31
      go_wp2
      go_ret
      exact ⟨212, rfl, ⟨fun e => by simp at e, fun hk => absurd hk.1 hop⟩, below_alloc (Below.refl _ _) _⟩
end Go.Proofs.YtekgdlpicgibhabDoor.SH
