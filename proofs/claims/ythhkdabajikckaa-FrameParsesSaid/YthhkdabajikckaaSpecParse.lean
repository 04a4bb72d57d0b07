/- What Parse of a frame comes to in the program: the formed frame whose bytes they are, if there is one, else none; for at most 10000 bytes. -/
import Derived.Test.YthhkdabajikckaaX18
import Derived.Test.YthhkdabajikckaaX16
import Derived.Test.YthhkdabajikckaaX13
import Derived.Test.YthhkdabajikckaaSpecFrame
import Derived.Test.YthhkdabajikckaaSpecTake
import Derived.Test.YthhkdabajikckaaMathNum
set_option linter.unusedVariables false
namespace Go.Proofs.Ythhkdabajikckaa.X
open Go.RowKit Go.Proofs.YthhkdabajikckaaW.PrintWords Go.Proofs.YthhkdabajikckaaW.PrintLast Go.Proofs.YthhkdabajikckaaW.PrintMore Go.Proofs.Ythhkdabajikckaa.Math

theorem varint_take_ok {l : List Int} (hb : Bytes l) {k : Nat} (hk : 2 * l.length + 2 ≤ k) : varint_Take.f k l = some (takeV 0 0 l) := varint_take_l0 l hb l.length 0 0 (by omega) (by omega) (by omega) (by omega) k hk
theorem takeV_all (l : List Int) (hb : Bytes l) : ∀ (i acc : Nat), i ≤ 9 → acc < 2 ^ (7 * i) →
    (∃ n m : Nat, takeV i acc l = ((n : Int), (m : Int), 0) ∧ n < 18446744073709551616 ∧ i < m ∧ m ≤ i + l.length) ∨ takeV i acc l = (0, 0, 5) ∨ takeV i acc l = (0, 0, 2) := by
  induction l with
  | nil => intro i acc _ _; exact .inr (.inl rfl)
  | cons c l ih =>
    intro i acc hi hacc
    obtain ⟨h0, h1⟩ := hb c (List.mem_cons_self ..)
    have hb' : Bytes l := fun x hx => hb x (List.mem_cons_of_mem _ hx)
    obtain ⟨c, rfl⟩ := Int.eq_ofNat_of_zero_le h0
    simp only [takeV, Int.toNat_natCast]
    by_cases h : i = 9 ∧ 1 < (c : Int)
    · rw [if_pos h]; exact .inr (.inr rfl)
    rw [if_neg h]
    by_cases hc : (c : Int) < 128
    · rw [if_pos hc]
      have := take_room (c := c) hi hacc (fun h9 => by omega) (by omega)
      exact .inl ⟨_, _, rfl, by omega, by omega, by simp only [List.length_cons]; omega⟩
    · rw [if_neg hc]
      have hi9 : i < 9 := by omega
      rcases ih hb' (i + 1) _ (by omega) (take_next hacc (Nat.mod_lt c (by omega : 0 < 128))) with ⟨n, m, e, hn, hm, hl⟩ | e | e
      · exact .inl ⟨n, m, e, hn, by omega, by simp only [List.length_cons]; omega⟩
      · exact .inr (.inl e)
      · exact .inr (.inr e)
theorem next_total {l : List Int} (hb : Bytes l) {k : Nat} (hk : 2 * l.length + 2 ≤ k) : ∃ (n : Nat) (r : List Int), nextF k l = some ((n : Int), r) ∧ n < 18446744073709551616 ∧ Bytes r ∧ r.length ≤ l.length := by
  unfold nextF
  rw [varint_take_ok hb hk, bsome]
  rcases takeV_all l hb 0 0 (by omega) (by omega) with ⟨n, m, e, hn, hm, hml⟩ | e | e
  · rw [e]
    simp only [Int.toNat_natCast]
    rw [if_pos (by omega), if_pos (by omega)]
    exact ⟨n, l.drop m, rfl, hn, hb.drop m, by rw [List.length_drop]; omega⟩
  · rw [e]
    simp only
    rw [if_pos (by omega), if_pos (by omega)]
    exact ⟨0, l, rfl, by omega, hb, Nat.le_refl _⟩
  · rw [e]
    simp only
    rw [if_pos (by omega), if_pos (by omega)]
    exact ⟨0, l, rfl, by omega, hb, Nat.le_refl _⟩
theorem next_enc {n : Nat} (hn : n < 18446744073709551616) {r : List Int} (hr : Bytes r) {k : Nat} (hk : 2 * (r.length + 10) + 2 ≤ k) : nextF k (encV n ++ r) = some ((n : Int), r) := by
  have hl := encV_len10 hn
  have e := takeV_back r n 0 0 (by omega) (by omega)
  rw [show 0 + 2 ^ (7 * 0) * n = n by omega, show 0 + (encV n).length = (encV n).length by omega] at e
  unfold nextF
  rw [varint_take_ok ((encV_bytes n).append hr) (by rw [List.length_append]; omega), bsome, e]
  simp only [Int.toNat_natCast]
  rw [if_pos (by omega), if_pos (by rw [List.length_append]; omega)]
  simp
theorem small_id {n : Int} (h0 : 0 ≤ n) (h1 : n ≤ 2147483648) : smallF n = n := by
  unfold smallF mn
  rw [if_neg (by omega), wrap64_id (by omega) (by omega)]
theorem time_id {n : Int} (h0 : 0 ≤ n) (h1 : n ≤ 1099511627777) : timeF n = n := by
  unfold timeF mn
  rw [if_neg (by omega), wrap64_id (by omega) (by omega)]
theorem room_ok {n : Int} (h0 : 0 ≤ n) {len : Nat} (hl : len < 1099511627776) : 0 ≤ roomF n len ∧ roomF n len ≤ (len : Int) := by
  unfold roomF
  rw [wrap64_id (by omega) (by omega)]
  unfold mx
  split
  · rw [u64_id (by omega) (by omega)]
    unfold mn
    split <;> omega
  · rw [u64_id (by omega) (by omega)]
    unfold mn
    split <;> omega
theorem room_all {n : Nat} (hn : n < 1099511627776) : roomF (n : Int) (n + 4) = (n : Int) := by
  unfold roomF
  rw [wrap64_id (by omega) (by omega)]
  unfold mx
  rw [if_neg (by omega), u64_id (by omega) (by omega)]
  unfold mn
  rw [if_neg (by omega)]
theorem equal_iff {a b : List Int} (ha : Bytes a) (hb : Bytes b) : bytes_Equal.f a b = some (decide (a = b)) := by
  unfold bytes_Equal.f
  by_cases h : a = b
  · subst h
    simp
  · rw [decide_eq_false h, beq_eq_false_iff_ne.mpr (fun e => h ((str_eq_iff ha hb).mp e))]
abbrev FrameT : Type := Int × Int × Int × Int × Int × Int × Int × Int × List Int
def frameB (f : FrameT) : List Int := frameV f.1 f.2.1 f.2.2.1 f.2.2.2.1 f.2.2.2.2.1 f.2.2.2.2.2.1 f.2.2.2.2.2.2.1 f.2.2.2.2.2.2.2.1 f.2.2.2.2.2.2.2.2
def GoodFrame (f : FrameT) : Prop := FormedP f.1 f.2.1 f.2.2.1 f.2.2.2.1 f.2.2.2.2.1 f.2.2.2.2.2.1 f.2.2.2.2.2.2.1 f.2.2.2.2.2.2.2.1 (f.2.2.2.2.2.2.2.2.length : Int) ∧ f.2.2.1 < 18446744073709551616 ∧ Bytes f.2.2.2.2.2.2.2.2
def badT : Int × Int × Int × Int × Int × Int × Int × Int × List Int × Int := (0, 0, 0, 0, 0, 0, 0, 0, [], 2)
def okT (f : FrameT) : Int × Int × Int × Int × Int × Int × Int × Int × List Int × Int := (f.1, f.2.1, f.2.2.1, f.2.2.2.1, f.2.2.2.2.1, f.2.2.2.2.2.1, f.2.2.2.2.2.2.1, f.2.2.2.2.2.2.2.1, f.2.2.2.2.2.2.2.2, 0)
theorem frameB_bytes {f : FrameT} (h : GoodFrame f) : Bytes (frameB f) := by
  unfold frameB frameV
  exact signed_bytes ((Bytes.cons (by omega) (by omega) (encs_bytes _)).append h.2.2)
theorem frameB_len {f : FrameT} (h : GoodFrame f) : 14 ≤ (frameB f).length ∧ (frameB f).length ≤ 4191 := by
  obtain ⟨a0, a1, a2, a3, a4, a5, a6, a7, l⟩ := f
  obtain ⟨h1, h2, h3⟩ := h
  have h4 := encs_len (numsF_lt h2 h1)
  have h5 := encs_pos (numsF a0 a1 a2 a3 a4 a5 a6 a7 l.length)
  unfold FormedP at h1
  simp only at h1
  simp only [frameB, frameV, signed, sumB, List.length_append, List.length_cons, List.length_nil]
  simp only [numsF, List.length_cons, List.length_nil] at h4 h5 ⊢
  omega
/-- A formed frame's bytes are parsed as it is. -/
theorem parse_back {f : FrameT} (h : GoodFrame f) {k : Nat} (hk : 10000 ≤ k) : frame_Parse.f k (frameB f) = some (okT f) := by
  have hB := frameB_bytes h
  have hL := frameB_len h
  obtain ⟨a0, a1, a2, a3, a4, a5, a6, a7, l⟩ := f
  obtain ⟨h1, h2, h3⟩ := h
  simp only at h1 h2 h3
  have hf := h1
  have hlt := numsF_lt h2 h1
  unfold FormedP at h1
  obtain ⟨t, ht⟩ : ∃ t, t = crcUpd 0 (199 :: encs (numsF a0 a1 a2 a3 a4 a5 a6 a7 l.length) ++ l) := ⟨_, rfl⟩
  have hT : Bytes (l ++ sumB t) := h3.append (sumB_bytes t)
  have hTl : (l ++ sumB t).length = l.length + 4 := by simp [sumB]
  have e0 : (frameB (a0, a1, a2, a3, a4, a5, a6, a7, l)).drop 1 = encV a0.toNat ++ (encV a1.toNat ++ (encV a2.toNat ++ (encV a3.toNat ++ (encV a4.toNat ++ (encV a5.toNat ++ (encV a6.toNat ++ (encV a7.toNat ++ (encV l.length ++ (l ++ sumB t))))))))) := by
    unfold frameB frameV signed
    simp only
    rw [← ht]
    simp only [numsF, encs, List.append_nil, List.cons_append, List.drop_succ_cons, List.drop_zero, List.append_assoc]
  have hm : ∀ m ∈ numsF a0 a1 a2 a3 a4 a5 a6 a7 l.length, (encV m).length ≤ 10 := fun m hm => encV_len10 (hlt m hm)
  have g : ∀ {n : Nat} {r : List Int}, n < 18446744073709551616 → Bytes r → r.length ≤ 4200 → nextF k (encV n ++ r) = some ((n : Int), r) := fun hn hr hl => next_enc hn hr (by omega)
  have q : ∀ {n : Nat} {r : List Int} {c : Nat}, n < 18446744073709551616 → r.length ≤ c → (encV n ++ r).length ≤ c + 10 := fun hn hr => by rw [List.length_append]; have := encV_len10 hn; omega
  have b0 : a0.toNat < 18446744073709551616 := by omega
  have b1 : a1.toNat < 18446744073709551616 := by omega
  have b2 : a2.toNat < 18446744073709551616 := by omega
  have b3 : a3.toNat < 18446744073709551616 := by omega
  have b4 : a4.toNat < 18446744073709551616 := by omega
  have b5 : a5.toNat < 18446744073709551616 := by omega
  have b6 : a6.toNat < 18446744073709551616 := by omega
  have b7 : a7.toNat < 18446744073709551616 := by omega
  have b8 : l.length < 18446744073709551616 := by omega
  have B8 : Bytes (encV l.length ++ (l ++ sumB t)) := (encV_bytes _).append hT
  have B7 := (encV_bytes a7.toNat).append B8
  have B6 := (encV_bytes a6.toNat).append B7
  have B5 := (encV_bytes a5.toNat).append B6
  have B4 := (encV_bytes a4.toNat).append B5
  have B3 := (encV_bytes a3.toNat).append B4
  have B2 := (encV_bytes a2.toNat).append B3
  have B1 := (encV_bytes a1.toNat).append B2
  have l8 := q (r := l ++ sumB t) (c := 4100) b8 (by omega)
  have l7 := q b7 l8
  have l6 := q b6 l7
  have l5 := q b5 l6
  have l4 := q b4 l5
  have l3 := q b3 l4
  have l2 := q b2 l3
  have l1 := q b1 l2
  unfold frame_Parse.f
  rw [if_neg (by omega), e0, g b0 B1 (by omega)]
  simp only [bsome]
  rw [g b1 B2 (by omega)]
  simp only [bsome]
  rw [g b2 B3 (by omega)]
  simp only [bsome]
  rw [g b3 B4 (by omega)]
  simp only [bsome]
  rw [g b4 B5 (by omega)]
  simp only [bsome]
  rw [g b5 B6 (by omega)]
  simp only [bsome]
  rw [g b6 B7 (by omega)]
  simp only [bsome]
  rw [g b7 B8 (by omega)]
  simp only [bsome]
  rw [g b8 hT (by omega)]
  simp only [bsome]
  rw [hTl, room_all (by omega), if_pos (by omega), Int.toNat_natCast, List.take_append_of_le_length (Nat.le_refl _), List.take_of_length_le (Nat.le_refl _)]
  unfold slices_Clone_byte_byte.f
  rw [if_pos (by omega), bsome]
  rw [show ((a0.toNat : Nat) : Int) = a0 by omega, show ((a1.toNat : Nat) : Int) = a1 by omega, show ((a2.toNat : Nat) : Int) = a2 by omega, show ((a3.toNat : Nat) : Int) = a3 by omega, show ((a4.toNat : Nat) : Int) = a4 by omega, show ((a5.toNat : Nat) : Int) = a5 by omega, show ((a6.toNat : Nat) : Int) = a6 by omega, show ((a7.toNat : Nat) : Int) = a7 by omega]
  rw [small_id (n := a0) (by omega) (by omega), small_id (n := a1) (by omega) (by omega), small_id (n := a3) (by omega) (by omega), small_id (n := a5) (by omega) (by omega), small_id (n := a7) (by omega) (by omega), time_id (n := a6) (by omega) (by omega)]
  rw [frame_build_yes h3 h2 hf k (by omega), bsome]
  have eq : bytes_Equal.f (frameV a0 a1 a2 a3 a4 a5 a6 a7 l) (frameB (a0, a1, a2, a3, a4, a5, a6, a7, l)) = some true := by
    have := equal_iff hB hB
    rw [decide_eq_true rfl] at this
    exact this
  simp only
  rw [eq, bsome]
  rfl
/-- Of any bytes: the formed frame whose bytes they are, or none. -/
theorem parse_any {l : List Int} (hb : Bytes l) (hl : l.length ≤ 10000) {k : Nat} (hk : 30000 ≤ k) :
    (∃ f, GoodFrame f ∧ l = frameB f ∧ frame_Parse.f k l = some (okT f)) ∨ ((∀ f, GoodFrame f → l ≠ frameB f) ∧ frame_Parse.f k l = some badT) := by
  by_cases hx : ∃ f, GoodFrame f ∧ l = frameB f
  · obtain ⟨f, hf, rfl⟩ := hx
    exact .inl ⟨f, hf, rfl, parse_back hf (by omega)⟩
  refine .inr ⟨fun f hf e => hx ⟨f, hf, e⟩, ?_⟩
  unfold frame_Parse.f
  by_cases h5 : (l.length : Int) < 5
  · rw [if_pos h5]; rfl
  rw [if_neg h5]
  obtain ⟨n1, r1, e1, c1, d1, g1⟩ := next_total (hb.drop 1) (k := k) (by rw [List.length_drop]; omega)
  rw [List.length_drop] at g1
  obtain ⟨n2, r2, e2, c2, d2, g2⟩ := next_total d1 (k := k) (by omega)
  obtain ⟨n3, r3, e3, c3, d3, g3⟩ := next_total d2 (k := k) (by omega)
  obtain ⟨n4, r4, e4, c4, d4, g4⟩ := next_total d3 (k := k) (by omega)
  obtain ⟨n5, r5, e5, c5, d5, g5⟩ := next_total d4 (k := k) (by omega)
  obtain ⟨n6, r6, e6, c6, d6, g6⟩ := next_total d5 (k := k) (by omega)
  obtain ⟨n7, r7, e7, c7, d7, g7⟩ := next_total d6 (k := k) (by omega)
  obtain ⟨n8, r8, e8, c8, d8, g8⟩ := next_total d7 (k := k) (by omega)
  obtain ⟨n9, r9, e9, c9, d9, g9⟩ := next_total d8 (k := k) (by omega)
  simp only [e1, e2, e3, e4, e5, e6, e7, e8, e9, bsome]
  have hr := room_ok (n := (n9 : Int)) (by omega) (len := r9.length) (by omega)
  rw [if_pos hr]
  obtain ⟨p, hp⟩ : ∃ p, p = r9.take (roomF (n9 : Int) r9.length).toNat := ⟨_, rfl⟩
  have hpb : Bytes p := by rw [hp]; exact d9.take _
  have hpl : p.length ≤ r9.length := by rw [hp, List.length_take]; omega
  rw [← hp]
  unfold slices_Clone_byte_byte.f
  rw [if_pos (by omega), bsome]
  by_cases hf : FormedP (smallF (n1 : Int)) (smallF (n2 : Int)) (n3 : Int) (smallF (n4 : Int)) (n5 : Int) (smallF (n6 : Int)) (timeF (n7 : Int)) (smallF (n8 : Int)) (p.length : Int)
  · have hG : GoodFrame (smallF (n1 : Int), smallF (n2 : Int), (n3 : Int), smallF (n4 : Int), (n5 : Int), smallF (n6 : Int), timeF (n7 : Int), smallF (n8 : Int), p) := ⟨hf, by show (n3 : Int) < 18446744073709551616; omega, hpb⟩
    rw [frame_build_yes hpb (by omega) hf k (by omega), bsome]
    have eq : bytes_Equal.f (frameV (smallF (n1 : Int)) (smallF (n2 : Int)) (n3 : Int) (smallF (n4 : Int)) (n5 : Int) (smallF (n6 : Int)) (timeF (n7 : Int)) (smallF (n8 : Int)) p) l = some false := by
      have := equal_iff (frameB_bytes hG) hb
      rw [decide_eq_false (fun e => hx ⟨_, hG, e.symm⟩)] at this
      exact this
    simp only
    rw [eq, bsome, if_neg (by decide)]
    rfl
  · rw [frame_build_no (by omega) (by omega) hf k (by omega), bsome]
    simp only
    rw [equal_iff Bytes.nil hb, bsome, if_neg (by simp)]
    rfl
end Go.Proofs.Ythhkdabajikckaa.X
