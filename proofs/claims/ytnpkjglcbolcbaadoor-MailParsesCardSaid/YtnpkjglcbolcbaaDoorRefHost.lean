/- The walks of the reference of package host. -/
import Derived.Test.YtnpkjglcbolcbaaDoorHost2
import Derived.Test.YtnpkjglcbolcbaaDoorOwn
set_option linter.all false
namespace Go.Proofs.YtnpkjglcbolcbaaDoor
open Go.RowKit Go.Sort Wf
attribute [local go_sem] ex_list app_list get_list

/-- A slice of strings in new memory is returned. -/
def RetStrs (w : World) (l : List Bytes) (e : Ending) (w' : World) : Prop := ∃ v, e = .returned v ∧ w'.ownsRow w.heap.size 9 1 v l.length (l.map strV) ∧ Below w.heap.size w w'

theorem Tryd.infoStr : (Tryd.prog.info? 9).map (fun i => (i.zero, i.size, i.bytes)) = some (some (Value.string ⟨List.toArray ([])⟩), 1, 16) := by kernel_rfl
set_option maxHeartbeats 1000000 in
theorem ref01_Split (s : Bytes) (c : UInt8) (w : World) (hs : s.length ≤ 1000000000) :
    Calls Tryd.prog 77 #[(Value.string ⟨List.toArray (s)⟩), .int .u8 c.toNat] w (RetStrs w (splitC c s)) := by
  go_enter Tryd.func77, Tryd.ntmps77
  go_wp2_with fail
  go_loopw [5, 6, 7] (fun v f i wr => ∃ (L : List Bytes) (a k : Nat), f = .int .i64 a ∧ i = .int .i64 k ∧ a ≤ k ∧ k ≤ s.length ∧ k - a ≤ pre (· == c) (s.drop a) ∧ wr.ownsRow w.heap.size 9 1 v L.length (L.map strV) ∧ L.length ≤ a ∧ L ++ splitC c (s.drop a) = splitC c s ∧ Below w.heap.size w wr) (fun _ _ i _ => s.length - (intOf i).toNat)
  case atStart => exact ⟨[], 0, 0, rfl, rfl, by omega, by omega, by omega, World.ownsRow_nil _ _ _ _, by simp, rfl, Below.refl _ _⟩
  case round =>
    obtain ⟨L, a, k, rfl, rfl, hak, hks, hpre, hown, hLa, heq, hw⟩ := hrel
    have Hown := hid hown
    have Heq := hid heq
    have Hw := hid hw
    have Hpre := hid hpre
    clear hown heq hw hpre
    by_cases hlt : k < s.length
    · have hdl : (s.drop a).length = s.length - a := by simp
      by_cases hc : s[k] = c
      · have hx := u8_eq hc
        have hp : pre (· == c) (s.drop a) = k - a := by
          have h1 := Hpre.out
          rcases Nat.lt_or_ge (k - a) (pre (· == c) (s.drop a)) with h | h
          · have := pre_get h (by omega)
            rw [List.getElem_drop] at this
            simp only [show a + (k - a) = k by omega] at this
            rw [hc] at this
            simp at this
          · omega
        have hh : splitC c (s.drop a) = (s.drop a).take (k - a) :: splitC c (s.drop (k + 1)) := by
          have := splitC_hit (c := c) (s := s.drop a) (by omega)
          rw [hp, List.drop_drop, show a + (k - a + 1) = k + 1 by omega] at this
          exact this
        have hsl : List.drop a (List.take k s) = (s.drop a).take (k - a) := by rw [List.drop_take]
        have Hn : Hid ((L ++ [List.drop a (List.take k s)]) ++ splitC c (s.drop (k + 1)) = splitC c s) := hid (by rw [← Heq.out, hh, hsl]; simp)
        clear hc hp hh hsl hdl
        have hwl := hid (Hw.out.size)
        go_wp2_with (at_builtin; refine wp_append_one rfl _ _ 84 rfl 9 (Value.string ⟨List.toArray ([])⟩) 16 Tryd.underlying84 Tryd.infoStr rfl w.heap.size _ L.length (L.map strV) rfl Hown.out (strV (List.drop a (List.take k s))) _ rfl rfl (by unfold maxLen; omega) (by omega) hwl.out ?_; intro v' w' hown' hb')
        go_roundw
        case rel => exact ⟨L ++ [List.drop a (List.take k s)], k + 1, k + 1, by go_num, by go_num, by omega, by omega, by omega, by simpa using hown', by simp; omega, Hn.out, Hw.out.trans hb'⟩
        case measure => simp [intOf]; omega
      · have hx := u8_ne hc
        have Hp : Hid (k + 1 - a ≤ pre (· == c) (s.drop a)) := hid (by
          have h1 := Hpre.out
          rcases Nat.lt_or_ge (k - a) (pre (· == c) (s.drop a)) with h | h
          · omega
          · have hq : pre (· == c) (s.drop a) = k - a := by omega
            have := pre_at (p := (· == c)) (l := s.drop a) (by omega)
            simp only [hq, List.getElem_drop, show a + (k - a) = k by omega] at this
            exact absurd (by simpa using this) hc)
        clear hc hdl
        go_wp2_with fail
        go_roundw
        case rel => exact ⟨L, a, k + 1, rfl, by go_num, by omega, by omega, Hp.out, Hown.out, by omega, Heq.out, Hw.out⟩
        case measure => simp [intOf]; omega
    · have hm := splitC_miss (c := c) (s := s.drop a) (by have := Hpre.out; simp; omega)
      have Hn : Hid (L ++ [s.drop a] = splitC c s) := hid (by rw [← Heq.out, hm])
      clear hm
      have hwl := hid (Hw.out.size)
      go_wp2_with (at_builtin; refine wp_append_one rfl _ _ 84 rfl 9 (Value.string ⟨List.toArray ([])⟩) 16 Tryd.underlying84 Tryd.infoStr rfl w.heap.size _ L.length (L.map strV) rfl Hown.out (strV (s.drop a)) _ rfl rfl (by unfold maxLen; omega) (by omega) hwl.out ?_; intro v' w' hown' hb')
      go_ret
      exact ⟨v', rfl, by rw [← Hn.out]; simpa using hown', Hw.out.trans hb'⟩
set_option maxHeartbeats 1000000 in
theorem ref05_label (s : Bytes) (w : World) (hs : s.length ≤ 9223372036854775807) :
    Calls Tryd.prog 144 #[(Value.string ⟨List.toArray (s)⟩)] w fun e w' => e = .returned (.bool (labelOk s)) ∧ w = w' := by
  go_enter Tryd.func144, Tryd.ntmps144
  go_wp2_with fail
  go_loop [3] (fun i => ∃ k : Nat, k ≤ s.length ∧ i = .int .i64 k ∧ (s.take k).all ldh = true) (fun i => s.length - (intOf i).toNat)
  case atStart => exact ⟨0, by omega, rfl, rfl⟩
  case round =>
    obtain ⟨k, hk, rfl, hall⟩ := hrel
    have Hall := hid hall
    clear hall
    by_cases hlt : k < s.length
    · cases hc : ldh s[k]
      · have Ha := hid (show labelOk s = false by unfold labelOk; rw [all_not hlt hc]; simp)
        have hc' := hc
        unfold ldh at hc'
        simp only [Bool.or_eq_false_iff] at hc'
        obtain ⟨⟨c1, c2⟩, c3⟩ := hc'
        have c4 : ((s[k].toNat : Int) != 45) = true := by
          have : s[k] ≠ 45 := by simpa using c3
          rw [bne_iff_ne]
          intro h
          exact this (UInt8.toNat_inj.1 (by simp; omega))
        clear c3 hc
        go_wp2_with (first
          | (go_at_call 119; refine (ref01_IsAlpha _ _).mono ?_; rintro e w' ⟨rfl, rfl⟩)
          | (go_at_call 120; refine (ref01_IsDigit _ _).mono ?_; rintro e w' ⟨rfl, rfl⟩))
        go_ret
        exact ⟨ret_bool Ha.out.symm, rfl⟩
      · have Hc := hid (all_take_snoc hlt Hall.out hc)
        unfold ldh at hc
        simp only [Bool.or_eq_true, beq_iff_eq] at hc
        rcases hc with (hc | hc) | hc
        · go_wp2_with (first
          | (go_at_call 119; refine (ref01_IsAlpha _ _).mono ?_; rintro e w' ⟨rfl, rfl⟩)
          | (go_at_call 120; refine (ref01_IsDigit _ _).mono ?_; rintro e w' ⟨rfl, rfl⟩))
          go_round
          case rel => exact ⟨k + 1, by omega, by go_num, Hc.out⟩
          case measure => simp [intOf]; omega
        · cases hca : isAlpha s[k]
          all_goals
            go_wp2_with (first
              | (go_at_call 119; refine (ref01_IsAlpha _ _).mono ?_; rintro e w' ⟨rfl, rfl⟩)
              | (go_at_call 120; refine (ref01_IsDigit _ _).mono ?_; rintro e w' ⟨rfl, rfl⟩))
            go_round
            case rel => exact ⟨k + 1, by omega, by go_num, Hc.out⟩
            case measure => simp [intOf]; omega
        · have c4 : ((s[k].toNat : Int) != 45) = false := by simp [hc]
          clear hc
          cases hca : isAlpha s[k] <;> cases hcd : isDigit s[k]
          all_goals
            go_wp2_with (first
              | (go_at_call 119; refine (ref01_IsAlpha _ _).mono ?_; rintro e w' ⟨rfl, rfl⟩)
              | (go_at_call 120; refine (ref01_IsDigit _ _).mono ?_; rintro e w' ⟨rfl, rfl⟩))
            go_round
            case rel => exact ⟨k + 1, by omega, by go_num, Hc.out⟩
            case measure => simp [intOf]; omega
    · have hall := Hall.out
      rw [List.take_of_length_le (by omega)] at hall
      have Ha := hid hall
      clear hall Hall
      cases h1 : s.isEmpty
      · by_cases h2 : 63 < s.length
        · have Hq := hid (show labelOk s = false by unfold labelOk; simp; omega)
          go_wp2_with fail
          go_ret
          exact ⟨ret_bool Hq.out.symm, rfl⟩
        · have hl : 0 < s.length := by cases s <;> simp at h1 ⊢
          have h2' : s.length ≤ 63 := by omega
          by_cases h3 : s[0] = 45
          · have Hq := hid (show labelOk s = false by unfold labelOk; rw [head_get hl, h3]; simp)
            have hx : ((s[0].toNat : Int) != 45) = false := by simp [h3]
            clear h3
            go_wp2_with fail
            go_ret
            exact ⟨ret_bool Hq.out.symm, rfl⟩
          · have hx : ((s[0].toNat : Int) != 45) = true := u8_ne' h3
            by_cases h4 : s[s.length - 1] = 45
            · have Hq := hid (show labelOk s = false by
                unfold labelOk
                rw [List.getLast?_eq_getElem?, List.getElem?_eq_getElem (by omega), h4]; simp)
              have hy : ((s[s.length - 1].toNat : Int) != 45) = false := by simp [h4]
              clear h4 h3
              go_wp2_with fail
              go_ret
              exact ⟨ret_bool Hq.out.symm, rfl⟩
            · have hy : ((s[s.length - 1].toNat : Int) != 45) = true := u8_ne' h4
              have Hq := hid ((labelOk_eq s h1 (by omega) (by rw [List.getElem?_eq_getElem hl]; simpa using h3) (by rw [List.getElem?_eq_getElem (by omega)]; simpa using h4)).trans Ha.out)
              clear h3 h4
              go_wp2_with fail
              go_ret
              exact ⟨ret_bool Hq.out.symm, rfl⟩
      · have Hq := hid (show labelOk s = false by unfold labelOk; simp [h1])
        go_wp2_with fail
        go_ret
        exact ⟨ret_bool Hq.out.symm, rfl⟩
set_option maxHeartbeats 1000000 in
theorem ref05_IsIPv4 (s : Bytes) (w : World) (hs : s.length ≤ 1000000000) :
    Calls Tryd.prog 75 #[(Value.string ⟨List.toArray (s)⟩)] w fun e w' => e = .returned (.bool (ipv4 s)) ∧ Below w.heap.size w w' := by
  have hq : ipv4 s = ((splitC 46 s).length == 4 && (splitC 46 s).all octetOk) := rfl
  have hsp := ref01_Split s 46 w hs
  have hlen : ∀ x ∈ splitC 46 s, x.length ≤ s.length := splitC_len 46 s
  have hne := splitC_ne 46 s
  generalize splitC 46 s = parts at hq hsp hlen hne
  have hpos := List.length_pos_iff.2 hne
  have Hq := hid hq
  have Hsp := hid hsp
  have Hlen := hid hlen
  clear hq hsp hlen hne
  go_enter Tryd.func75, Tryd.ntmps75
  go_wp2_with fail
  refine Hsp.out.mono ?_
  rintro e w1 ⟨v, rfl, hown, hw1⟩
  obtain ⟨g, cap, rfl, hg, hgl, hcap, hcm, _, hcells⟩ := owns_cases hown hpos
  have Hw1 := hid hw1
  have Hcells := hid hcells
  unfold maxLen at hcm
  clear hw1 hcells hown
  go_wp2_with fail
  go_loop [12] (fun i => ∃ k : Nat, k ≤ parts.length ∧ i = .int .i64 k ∧ (parts.take k).all octetOk = true) (fun i => parts.length - (intOf i).toNat)
  case atStart => exact ⟨0, by omega, rfl, rfl⟩
  case round =>
    obtain ⟨k, hk, rfl, hall⟩ := hrel
    have Hall := hid hall
    clear hall
    by_cases hlt : k < parts.length
    · have hcell : w1.cell? ⟨g, k, none⟩ = some (Value.string ⟨List.toArray (parts[k])⟩) := by
        rw [Hcells.out k hlt]
        simp [hlt, strV]
      have hln := Hlen.out parts[k] (List.getElem_mem hlt)
      have hoc : octetOk parts[k] = ((numStrict 255 parts[k]).2 == 0) := rfl
      cases hc : octetOk parts[k]
      · have Ha := hid (all_not hlt hc)
        have hn : ((numStrict 255 parts[k]).2 != 0) = true := by rw [hc] at hoc; simp only [bne]; rw [← hoc]; rfl
        clear hoc
        go_wp2_with (go_at_call 121; refine (ref04_Strict _ 255 _ (by omega) (by omega)).mono ?_; rintro e w' ⟨rfl, rfl⟩)
        go_ret
        exact ⟨ret_bool (by rw [Hq.out, Ha.out]; simp), Hw1.out⟩
      · have Hn := hid (all_take_snoc hlt Hall.out hc)
        have hn : ((numStrict 255 parts[k]).2 != 0) = false := by rw [hc] at hoc; simp only [bne]; rw [← hoc]; rfl
        clear hoc
        go_wp2_with (go_at_call 121; refine (ref04_Strict _ 255 _ (by omega) (by omega)).mono ?_; rintro e w' ⟨rfl, rfl⟩)
        go_round
        case rel => exact ⟨k + 1, by omega, by go_num, Hn.out⟩
        case measure => simp [intOf]; omega
    · have hall := Hall.out
      rw [List.take_of_length_le (by omega)] at hall
      have Ha := hid hall
      clear hall Hall
      go_wp2_with fail
      go_ret
      exact ⟨ret_bool (by rw [Hq.out, Ha.out, Bool.and_true, Bool.eq_iff_iff]; simp; omega), Hw1.out⟩
theorem nameL_all (l : List Bytes) (h : l ≠ []) : nameL l = (l.all labelOk && !digitsOk (l.getLast h)) := by
  induction l with
  | nil => exact absurd rfl h
  | cons x l ih =>
    cases l with
    | nil => simp [nameL]
    | cons y r =>
      rw [nameL, ih (by simp)]
      simp [Bool.and_assoc]
set_option maxHeartbeats 1000000 in
theorem ref05_name (s : Bytes) (w : World) (hs : s.length ≤ 1000000000) :
    Calls Tryd.prog 113 #[(Value.string ⟨List.toArray (s)⟩)] w fun e w' => e = .returned (.bool (nameOk s)) ∧ Below w.heap.size w w' := by
  have hne := splitC_ne 46 s
  have hsp := ref01_Split s 46 w hs
  have hlen : ∀ x ∈ splitC 46 s, x.length ≤ s.length := splitC_len 46 s
  obtain ⟨parts, hparts⟩ : ∃ parts, splitC 46 s = parts := ⟨_, rfl⟩
  rw [hparts] at hsp hlen hne
  have hpos := List.length_pos_iff.2 hne
  have hq : nameOk s = (parts.all labelOk && !digitsOk (parts[parts.length - 1]'(by omega))) := by
    unfold nameOk
    rw [hparts, nameL_all _ hne, List.getLast_eq_getElem]
  clear hparts
  have Hq := hid hq
  have Hsp := hid hsp
  have Hlen := hid hlen
  clear hq hsp hlen
  go_enter Tryd.func113, Tryd.ntmps113
  go_wp2_with fail
  refine Hsp.out.mono ?_
  rintro e w1 ⟨v, rfl, hown, hw1⟩
  obtain ⟨g, cap, rfl, hg, hgl, hcap, hcm, _, hcells⟩ := owns_cases hown hpos
  have Hw1 := hid hw1
  have Hcells := hid hcells
  unfold maxLen at hcm
  clear hw1 hcells hown
  go_wp2_with fail
  go_loop [10] (fun i => ∃ k : Nat, k ≤ parts.length ∧ i = .int .i64 k ∧ (parts.take k).all labelOk = true) (fun i => parts.length - (intOf i).toNat)
  case atStart => exact ⟨0, by omega, rfl, rfl⟩
  case round =>
    obtain ⟨k, hk, rfl, hall⟩ := hrel
    have Hall := hid hall
    clear hall
    by_cases hlt : k < parts.length
    · have hcell : w1.cell? ⟨g, k, none⟩ = some (Value.string ⟨List.toArray (parts[k])⟩) := by
        rw [Hcells.out k hlt]
        simp [hlt, strV]
      have hln := Hlen.out parts[k] (List.getElem_mem hlt)
      cases hc : labelOk parts[k]
      · have Ha := hid (all_not hlt hc)
        go_wp2_with (go_at_call 144; refine (ref05_label _ _ (by omega)).mono ?_; rintro e w' ⟨rfl, rfl⟩)
        go_ret
        exact ⟨ret_bool (by rw [Hq.out, Ha.out]; simp), Hw1.out⟩
      · have Hn := hid (all_take_snoc hlt Hall.out hc)
        go_wp2_with (go_at_call 144; refine (ref05_label _ _ (by omega)).mono ?_; rintro e w' ⟨rfl, rfl⟩)
        go_round
        case rel => exact ⟨k + 1, by omega, by go_num, Hn.out⟩
        case measure => simp [intOf]; omega
    · have hall := Hall.out
      rw [List.take_of_length_le (by omega)] at hall
      have Ha := hid hall
      clear hall Hall
      have hcell : w1.cell? ⟨g, parts.length - 1, none⟩ = some (Value.string ⟨List.toArray (parts[parts.length - 1]'(by omega))⟩) := by
        rw [Hcells.out (parts.length - 1) (by omega)]
        rw [List.getElem?_map, List.getElem?_eq_getElem (by omega)]
        rfl
      have hln := Hlen.out (parts[parts.length - 1]'(by omega)) (List.getElem_mem _)
      have hl1 : parts.length - 1 < parts.length := by omega
      go_wp2_with (go_at_call 145; refine (ref01_Digits _ _ (by omega)).mono ?_; rintro e w' ⟨rfl, rfl⟩)
      go_ret
      exact ⟨ret_bool (by rw [Hq.out, Ha.out, Bool.true_and]), Hw1.out⟩
end Go.Proofs.YtnpkjglcbolcbaaDoor
