/- (*Finder).Find: what a path means in a scope; and Find of a list. -/
import Derived.Test.YtbhfecciegfdjaaDoorScopeIn
import Derived.Test.YtbhfecciegfdjaaDoorPath
import Derived.Lib.LastIndexByte
set_option linter.unusedVariables false
set_option linter.unusedSimpArgs false
namespace Go.Proofs.YtbhfecciegfdjaaDoor.X
open Go.RowKit Go.Shelf Go.Proofs.YtbhfecciegfdjaaDoorW.PrintWords Go.Proofs.YtbhfecciegfdjaaDoorW.PrintLast Go.Proofs.YtbhfecciegfdjaaDoorW.PrintMore
def mx0 (x : Int) : Int := if x < 0 then 0 else x
theorem max2_mx0 (k k' : IntKind) (x : Int) : Builtin.max2 (.int k x) (.int k' 0) = pure (.int k (mx0 x)) := by
  rw [max2_int]; rfl
attribute [local go_sem high] max2_mx0
attribute [local go_sem] max_two
def upS (s : ByteArray) : ByteArray := s.extract 0 (Lib.lastIndexByte s 46).toNat
theorem lastIdx_lt (s : ByteArray) (h : ¬ s.size = 0) : (Lib.lastIndexByte s 46).toNat < s.size := by
  rcases Lib.lastIndexByte_spec s 46 with ⟨h1, _⟩ | ⟨i, h1, h2, _⟩
  · rw [h1]; show (0 : Nat) < _; omega
  · rw [h2]; simpa using h1
theorem lastIdx_ge (s : ByteArray) : -1 ≤ Lib.lastIndexByte s 46 ∧ Lib.lastIndexByte s 46 ≤ s.size := by
  rcases Lib.lastIndexByte_spec s 46 with ⟨h1, _⟩ | ⟨i, h1, h2, _⟩
  · rw [h1]; omega
  · rw [h2]; omega
theorem upS_size (s : ByteArray) (h : ¬ s.size = 0) : (upS s).size < s.size := by
  have := lastIdx_lt s h
  unfold upS
  rw [ByteArray.size_extract]
  omega
/-- From a scope up to none: the first whole name that means something. -/
def climbS (g : ByteArray → Option Int) (n0 : ByteArray) : Nat → ByteArray → Option ByteArray
  | 0, sc => if inOk g (inN sc n0) = true then some (inN sc n0) else none
  | f + 1, sc => if inOk g (inN sc n0) = true then some (inN sc n0) else if sc.size = 0 then none else climbS g n0 f (upS sc)
def downS (g : ByteArray → Option Int) : Option ByteArray → List ByteArray → Option ByteArray
  | r, [] => r
  | none, _ :: _ => none
  | some x, n :: l => downS g (if inOk g (inN x n) = true then some (inN x n) else none) l
def findS (g : ByteArray → Option Int) (sc path : ByteArray) : Option RS :=
  if pathOk path = false then none
  else if sc.size ≠ 0 ∧ kd0 g sc ≠ 1 then none
  else match pathL path with
    | [] => none
    | n0 :: rest => (downS g (climbS g n0 sc.size sc) rest).map fun y => ⟨y, kd0 g y⟩
def nmR : Option RS → ByteArray
  | some x => x.f0
  | none => ⟨#[]⟩
def kdR : Option RS → Int
  | some x => x.f1
  | none => 0
def FindPost (r : Option RS) (w : World) (e : Ending) (w' : World) : Prop :=
  e = .returned (.tuple #[.agg #[.string (nmR r), .int .i64 (kdR r)], .bool r.isSome]) ∧ Below w.heap.size w w'
def szOf : Value → Nat
  | .string s => s.size
  | _ => 0
def okFirst (ok : Bool) (x : ByteArray) : Option ByteArray := if ok = true then some x else none
theorem upS_mx (s : ByteArray) : upS s = s.extract 0 (mx0 (Lib.lastIndexByte s 46)).toNat := by
  unfold upS mx0
  split
  · rw [show (Lib.lastIndexByte s 46).toNat = 0 by omega]; rfl
  · rfl
theorem mx0_bd (s : ByteArray) (h : ¬ s.size = 0) : 0 ≤ mx0 (Lib.lastIndexByte s 46) ∧ mx0 (Lib.lastIndexByte s 46) ≤ s.size := by
  have := lastIdx_ge s
  unfold mx0
  split <;> omega
theorem climb_fuel (g : ByteArray → Option Int) (n0 : ByteArray) : ∀ (f f' : Nat) (sc : ByteArray), sc.size ≤ f → sc.size ≤ f' → climbS g n0 f sc = climbS g n0 f' sc
  | 0, 0, _, _, _ => rfl
  | 0, f' + 1, sc, h, _ => by rw [climbS, climbS, if_pos (show sc.size = 0 by omega)]
  | f + 1, 0, sc, _, h => by rw [climbS, climbS, if_pos (show sc.size = 0 by omega)]
  | f + 1, f' + 1, sc, h, h' => by
    rw [climbS, climbS]
    by_cases h0 : sc.size = 0
    · rw [if_pos h0, if_pos h0]
    · have := upS_size sc h0
      rw [climb_fuel g n0 f f' (upS sc) (by omega) (by omega)]
theorem climb_ok (g : ByteArray → Option Int) (n0 sc : ByteArray) (h : inOk g (inN sc n0) = true) : climbS g n0 sc.size sc = some (inN sc n0) := by
  cases hs : sc.size with
  | zero => rw [climbS, if_pos h]
  | succ f => rw [climbS, if_pos h]
theorem climb_no (g : ByteArray → Option Int) (n0 sc : ByteArray) (h : inOk g (inN sc n0) = false) (h0 : sc.size = 0) : climbS g n0 sc.size sc = none := by
  rw [h0, climbS, if_neg (by rw [h]; decide)]
theorem climb_up (g : ByteArray → Option Int) (n0 sc : ByteArray) (h : inOk g (inN sc n0) = false) (h0 : ¬ sc.size = 0) : climbS g n0 sc.size sc = climbS g n0 (upS sc).size (upS sc) := by
  have hu := upS_size sc h0
  rw [show sc.size = (sc.size - 1) + 1 by omega, climbS, if_neg (by rw [h]; decide), if_neg h0]
  exact climb_fuel g n0 _ _ _ (by omega) (Nat.le_refl _)
theorem inN_size (sc n : ByteArray) : (inN sc n).size ≤ sc.size + 1 + n.size := by
  unfold inN
  split
  · omega
  · rw [ByteArray.size_append, ByteArray.size_append]
    have : dot.size = 1 := rfl
    omega
theorem ne_toList {s : ByteArray} (h0 : ¬ s.size = 0) : s.toList = [] ↔ False := by
  refine ⟨fun e => ?_, False.elim⟩
  have := ne_isEmpty h0
  rw [e] at this
  cases this
set_option maxHeartbeats 8000000 in
set_option maxRecDepth 100000 in
theorem finder_Find.calls (bf bm n : Nat) (g : ByteArray → Option Int) (sc path : ByteArray) (m : Int) (w : World) (h : FinderAt w bf bm n g) (hs : sc.size ≤ 100000000) (hp : path.size ≤ 1000000) (hm : w.cell? ⟨0, 0, none⟩ = some (.int .i64 m)) :
    Calls Tryd.prog 18 #[.pointer (some ⟨bf, 0, none⟩), .string sc, .string path] w (FindPost (findS g sc path) w) := by
  have HF := Aside0.mk h
  clear h
  go_enter Tryd.func18, Tryd.ntmps18
  go_wp2_with fail
  have hm1 : (w.alloc (.cells #[.string ⟨#[]⟩, .int .i64 0] 33)).cell? ⟨0, 0, none⟩ = some (.int .i64 m) := pw_cell_below (below_alloc (Below.refl _ _) _) hm
  obtain ⟨W0, hW0⟩ : ∃ W0, W0 = w.alloc (.cells #[.string ⟨#[]⟩, .int .i64 0] 33) := ⟨_, rfl⟩
  have hB0 : Below w.heap.size w W0 := by rw [hW0]; exact below_alloc (Below.refl _ _) _
  have hX0 : W0.heap[w.heap.size]? = some (.cells #[.string ⟨#[]⟩, .int .i64 0] 33 (0, 0)) := by rw [hW0]; exact blk_new w _
  rw [← hW0] at hm1 ⊢
  refine (ident_Path.calls path m W0 hp hm1).mono ?_
  rintro e w1 ⟨A, c, rfl, hC, hc, hb⟩
  have HB1 := Aside0.mk (below_step hB0 hb)
  have HX1 := Aside0.mk (blk_below hX0 hb)
  have hF1 : FinderAt w1 bf bm n g := ⟨blk_below HF.out.1 HB1.out, HF.out.2.below HB1.out⟩
  have HF1 := Aside0.mk hF1
  have HCP := Aside0.mk hC
  clear hm hm1 hW0 hB0 hX0 hb hC HF
  obtain ⟨ok, hok⟩ : ∃ ok, ok = pathOk path := ⟨_, rfl⟩
  rw [← hok]
  have HD : Aside0 (findS g sc path = if ok = false then none else if sc.size ≠ 0 ∧ kd0 g sc ≠ 1 then none else match pathL path with | [] => none | n0 :: rest => (downS g (climbS g n0 sc.size sc) rest).map fun y => ⟨y, kd0 g y⟩) := ⟨by rw [hok]; rfl⟩
  have hx0 : w1.cell? ⟨w.heap.size, 0, none⟩ = some (.string ⟨#[]⟩) := blk_cell HX1.out 0
  have hx1 : w1.cell? ⟨w.heap.size, 1, none⟩ = some (.int .i64 0) := blk_cell HX1.out 1
  have hfx0 := blk_frozen HX1.out 0
  have hfx1 := blk_frozen HX1.out 1
  have d0 : w1.cell? ⟨bf, 0, none⟩ = some (.map (some bm)) := blk_cell hF1.1 0
  have HOK := Aside0.mk hok
  clear hok hF1
  cases ok with
  | false =>
    rw [if_pos rfl] at HD
    have HR := HD
    go_wp2_with fail
    refine bodyPost_ret (results_ct rfl _ _ w.heap.size 33 #[.string ⟨#[]⟩, .int .i64 0] (0, 0) _ rfl ((blk_set (blk_set HX1.out 0 _) 1 _).trans rfl) Tryd.underlying33 rfl (by kernel_rfl)) rfl ?_
    exact ⟨by rw [HR.out]; rfl, (HB1.out.setCell (p := ⟨w.heap.size, 0, none⟩) (Nat.le_refl _) _).setCell (p := ⟨w.heap.size, 1, none⟩) (Nat.le_refl _) _⟩
  | true =>
    rw [if_neg (by decide)] at HD
    have hlk := HF1.out.2.look sc (by unfold maxLen; omega)
    rw [show (g sc).getD 0 = kd0 g sc from rfl] at hlk
    by_cases hbad : sc.size ≠ 0 ∧ kd0 g sc ≠ 1
    · have HR : Aside0 (findS g sc path = none) := ⟨by rw [HD.out, if_pos hbad]⟩
      have he := ne_isEmpty hbad.1
      have t1 : (kd0 g sc != 1) = true := bne_iff_ne.mpr hbad.2
      clear HD hbad
      generalize kd0 g sc = k at *
      go_wp2_with fail
      refine bodyPost_ret (results_ct rfl _ _ w.heap.size 33 #[.string ⟨#[]⟩, .int .i64 0] (0, 0) _ rfl ((blk_set (blk_set HX1.out 0 _) 1 _).trans rfl) Tryd.underlying33 rfl (by kernel_rfl)) rfl ?_
      exact ⟨by rw [HR.out]; rfl, (HB1.out.setCell (p := ⟨w.heap.size, 0, none⟩) (Nat.le_refl _) _).setCell (p := ⟨w.heap.size, 1, none⟩) (Nat.le_refl _) _⟩
    rw [if_neg hbad] at HD
    have hps := pieces_small path
    have hpl : pathL path = (piecesL path.data.toList).map txt8 := if_pos HOK.out.symm
    rw [← hpl] at hps
    obtain ⟨n0, rest, hnr⟩ : ∃ n0 rest, pathL path = n0 :: rest := by
      rw [hpl]
      cases hh : piecesL path.data.toList with
      | nil => exact absurd hh (piecesL_ne _)
      | cons a l => exact ⟨_, _, rfl⟩
    have h8 : (pathL path).length ≤ 8 := by
      have h := HOK.out.symm
      unfold pathOk at h
      rw [Bool.and_eq_true, decide_eq_true_eq] at h
      rw [hpl, List.length_map]
      exact h.1
    have HPS := Aside0.mk hps.2
    rw [hnr] at HD HCP HPS h8 hc
    have hz0 : n0.size ≤ path.size := HPS.out n0 List.mem_cons_self
    rw [hnr]
    clear hps hpl hnr
    obtain ⟨ad, hA, c0⟩ := Kd.at_string HCP.out 0 (by omega) (by rw [List.length_cons]; omega)
    subst hA
    have hrd : rdOf ByteArray.empty (n0 :: rest) 0 = n0 := rfl
    rw [hrd] at c0
    have c0' : w1.cell? ad = some (.string n0) := by simpa [Addr.add] using c0
    clear c0
    obtain ⟨infoS, hinfoS, hinfoZ⟩ := info_parts info9
    obtain ⟨A', hsl, hrest, hlr⟩ := print_drop_of (P := Tryd.prog) Value.string ByteArray.empty 37 9 .i64 Tryd.underlying37 hinfoS hinfoZ.2.1 (some ad) c (n0 :: rest) 1 (by omega) (by rw [List.length_cons]; omega) hc
    have hdr : (n0 :: rest).drop (1 : Int).toNat = rest := rfl
    rw [hdr] at hsl hrest hlr
    have HRC : Aside0 (Kd.C Kd.string w1 A' rest.length rest) := ⟨Kd.C_of_reads (h1 := fun _ => rfl) (hrest w1 (Kd.reads_of_C (h1 := fun _ => rfl) HCP.out))⟩
    have HCL := Aside0.mk HCP.out
    clear hrest hrd hdr hinfoS hinfoZ
    obtain ⟨rn, hrn⟩ : ∃ rn, rn = rest.length := ⟨_, rfl⟩
    rw [List.length_cons] at hsl
    rw [List.length_cons]
    rw [← hrn] at hsl hlr HRC ⊢
    have hr8 : rn ≤ 8 := by rw [hrn]; rw [List.length_cons] at h8; omega
    have HRN := Aside0.mk hrn
    have htest : sc.toList.isEmpty = true ∨ (sc.toList.isEmpty = false ∧ (kd0 g sc != 1) = false) := by
      by_cases h0 : sc.size = 0
      · left; rw [ByteArray.toList_eq, size_zero h0]; rfl
      · right; exact ⟨ne_isEmpty h0, by rw [bne_eq_false_iff_eq]; exact Decidable.byContradiction fun hk => hbad ⟨h0, hk⟩⟩
    clear hbad hrn
    obtain ⟨k0, hk0⟩ : ∃ k0, k0 = kd0 g sc := ⟨_, rfl⟩
    rw [← hk0] at hlk htest
    clear hk0
    rcases htest with he | ⟨he, t1⟩
    all_goals
      go_wp2_with fail
      refine (finder_in.calls bf bm n g sc n0 w1 HF1.out (by omega)).mono ?_
      rintro e w' ⟨rfl, rfl⟩
      clear hlk
      try clear t1
      clear he
      go_wp2_with fail
      go_loop [1, 9, 10] (fun v1 v9 v10 => ∃ (s : ByteArray) (ok : Bool) (x : ByteArray), v1 = .string s ∧ v9 = .bool ok ∧ v10 = .string x ∧ s.size ≤ sc.size ∧ Aside0 (ok = inOk g (inN s n0) ∧ x = inN s n0) ∧ Aside0 (climbS g n0 sc.size sc = climbS g n0 s.size s)) (fun v1 _ _ => szOf v1)
      case atStart => exact ⟨sc, _, _, rfl, rfl, rfl, Nat.le_refl _, ⟨rfl, rfl⟩, ⟨rfl⟩⟩
      case round =>
        obtain ⟨s, ok, x, rfl, rfl, rfl, hss, HOX, HCS⟩ := hrel
        by_cases hgo : ok = false ∧ ¬ s.size = 0
        · obtain ⟨rfl, hs0⟩ := hgo
          have he := ne_isEmpty hs0
          obtain ⟨hm0, hm1⟩ := mx0_bd s hs0
          have hup := upS_size s hs0
          have HCU : Aside0 (climbS g n0 sc.size sc = climbS g n0 (upS s).size (upS s)) := ⟨by rw [HCS.out]; exact climb_up g n0 s HOX.out.1.symm hs0⟩
          have HUP : Aside0 (upS s = s.extract 0 (mx0 (Lib.lastIndexByte s 46)).toNat) := ⟨upS_mx s⟩
          have HUZ := Aside0.mk hup
          clear hs0 hup
          go_wp2_with fail
          refine (Tryd.strings_LastIndexByte s 46 (by omega) w1).mono ?_
          rintro e w' ⟨rfl, rfl⟩
          generalize Lib.lastIndexByte s 46 = ix at *
          go_wp2_with fail
          rw [← HUP.out]
          refine (finder_in.calls bf bm n g (upS s) n0 _ HF1.out (by have := HUZ.out; omega)).mono ?_
          rintro e w' ⟨rfl, rfl⟩
          go_wp2_with fail
          go_round
          case rel => exact ⟨upS s, _, _, rfl, rfl, rfl, by have := HUZ.out; omega, ⟨rfl, rfl⟩, HCU⟩
          case measure => exact HUZ.out
        · have hc2 : ok = true ∨ (ok = false ∧ s.toList.isEmpty = true ∧ s.size = 0) := by
            cases ok with
            | true => exact .inl rfl
            | false =>
              have h0 : s.size = 0 := Decidable.byContradiction fun h => hgo ⟨rfl, h⟩
              exact .inr ⟨rfl, by rw [ByteArray.toList_eq, size_zero h0]; rfl, h0⟩
          have HST : Aside0 (climbS g n0 sc.size sc = okFirst ok x) := ⟨by
            rw [HCS.out]
            rcases hc2 with rfl | ⟨rfl, _, h0⟩
            · rw [HOX.out.2]; exact climb_ok g n0 s HOX.out.1.symm
            · exact climb_no g n0 s HOX.out.1.symm h0⟩
          have hxz : x.size ≤ 102000000 := by rw [HOX.out.2]; have := inN_size s n0; omega
          rw [HST.out] at HD
          clear HOX HCS hgo
          rcases hc2 with rfl | ⟨rfl, he, _⟩
          all_goals
            go_wp2_with fail
            try clear he
            go_loop [9, 10, 66] (fun v9 v10 v66 => ∃ (j : Nat) (ok' : Bool) (x' : ByteArray), j ≤ rn ∧ v9 = .bool ok' ∧ v10 = .string x' ∧ v66 = .int .i64 j ∧ x'.size ≤ 102000000 + 1000001 * j ∧ Aside0 (findS g sc path = (downS g (okFirst ok' x') (rest.drop j)).map fun y => ⟨y, kd0 g y⟩)) (fun _ _ v66 => rn - (intOf v66).toNat)
            case atStart => exact ⟨0, _, x, by omega, rfl, rfl, rfl, by omega, ⟨HD.out⟩⟩
            case round =>
              obtain ⟨j, ok', x', hj, rfl, rfl, rfl, hxz', HDN⟩ := hrel
              by_cases hlt : j < rn
              · have t1 : decide (j < rn) = true := decide_eq_true hlt
                obtain ⟨ad2, hA2, c2⟩ := Kd.at_string HRC.out (j : Int) (by omega) (by omega)
                subst hA2
                have hjm : j < rest.length := by rw [← HRN.out]; exact hlt
                have hrd : rdOf ByteArray.empty rest (j : Int) = rest[j]'hjm := by simp [rdOf, hjm]
                rw [hrd, Int.toNat_natCast] at c2
                have HDR : Aside0 (rest.drop j = rest[j]'hjm :: rest.drop (j + 1)) := ⟨List.drop_eq_getElem_cons hjm⟩
                have hz2 : (rest[j]'hjm).size ≤ path.size := HPS.out _ (List.mem_cons_of_mem _ (List.getElem_mem hjm))
                generalize rest[j]'hjm = nn at *
                clear hrd
                rw [HDR.out] at HDN
                cases ok' with
                | true =>
                  go_wp2_with fail
                  refine (finder_in.calls bf bm n g x' nn _ HF1.out (by omega)).mono ?_
                  rintro e w' ⟨rfl, rfl⟩
                  go_wp2_with fail
                  go_round
                  case rel => exact ⟨j + 1, _, _, by omega, rfl, rfl, by go_num, by have := inN_size x' nn; omega, HDN⟩
                  case measure => simp [intOf]; omega
                | false =>
                  go_wp2_with fail
                  go_round
                  case rel => exact ⟨j + 1, false, x', by omega, rfl, rfl, by go_num, by omega, ⟨by rw [HDN.out]; cases rest.drop (j + 1) <;> rfl⟩⟩
                  case measure => simp [intOf]; omega
              · have t1 : decide (j < rn) = false := decide_eq_false hlt
                have hdn : rest.drop j = [] := List.drop_eq_nil_of_le (by rw [← HRN.out]; omega)
                rw [hdn] at HDN
                cases ok' with
                | true =>
                  have HR : Aside0 (findS g sc path = some ⟨x', kd0 g x'⟩) := HDN
                  have hlk := HF1.out.2.look x' (by unfold maxLen; omega)
                  rw [show (g x').getD 0 = kd0 g x' from rfl] at hlk
                  generalize kd0 g x' = kx at *
                  go_wp2_with fail
                  refine bodyPost_ret (results_ct rfl _ _ w.heap.size 33 #[.string x', .int .i64 kx] (0, 0) _ rfl ((blk_set (blk_set HX1.out 0 _) 1 _).trans rfl) Tryd.underlying33 rfl (by kernel_rfl)) rfl ?_
                  exact ⟨by rw [HR.out]; rfl, (HB1.out.setCell (p := ⟨w.heap.size, 0, none⟩) (Nat.le_refl _) _).setCell (p := ⟨w.heap.size, 1, none⟩) (Nat.le_refl _) _⟩
                | false =>
                  have HR : Aside0 (findS g sc path = none) := HDN
                  go_wp2_with fail
                  refine bodyPost_ret (results_ct rfl _ _ w.heap.size 33 #[.string ⟨#[]⟩, .int .i64 0] (0, 0) _ rfl ((blk_set (blk_set HX1.out 0 _) 1 _).trans rfl) Tryd.underlying33 rfl (by kernel_rfl)) rfl ?_
                  exact ⟨by rw [HR.out]; rfl, (HB1.out.setCell (p := ⟨w.heap.size, 0, none⟩) (Nat.le_refl _) _).setCell (p := ⟨w.heap.size, 1, none⟩) (Nat.le_refl _) _⟩
end Go.Proofs.YtbhfecciegfdjaaDoor.X
