/- Declarations as plain trees: what Small, Theirs and all of them come to; no program's text in sight but the printed functions'. -/
import Derived.Test.YtknbhbppofphpaaGreatDoorXB
import Derived.Test.YtknbhbppofphpaaGreatDoorX63
set_option linter.unusedVariables false
set_option linter.unusedSimpArgs false
namespace Go.Proofs.YtknbhbppofphpaaGreatDoor.X
open Go.RowKit Go.Proofs.YtknbhbppofphpaaGreatDoorW.PrintWords Go.Proofs.YtknbhbppofphpaaGreatDoorW.PrintLast Go.Proofs.YtknbhbppofphpaaGreatDoorW.PrintMore
abbrev RD := S60
abbrev PD := S41
abbrev RF := S63
abbrev PF := S62
abbrev RV := S64
abbrev PV := S36
abbrev RM := S67
abbrev PM := S66
abbrev Ps := S34
/-- What holds of no declarations, and of one ahead of others if it holds of what lies in it and of the others. -/
theorem rd_ind {motive : List RD → Prop} (nil : motive []) (cons : ∀ a b c fs vs ms ds l, motive ds → motive l → motive ((⟨a, b, c, fs, vs, ms, ds⟩ : RD) :: l)) : ∀ l, motive l
  | [] => nil
  | ⟨a, b, c, fs, vs, ms, ds⟩ :: l => cons a b c fs vs ms ds l (rd_ind nil cons ds) (rd_ind nil cons l)
theorem pd_ind {motive : List PD → Prop} (nil : motive []) (cons : ∀ a b c fs vs ms ds l, motive ds → motive l → motive ((⟨a, b, c, fs, vs, ms, ds⟩ : PD) :: l)) : ∀ l, motive l
  | [] => nil
  | ⟨a, b, c, fs, vs, ms, ds⟩ :: l => cons a b c fs vs ms ds l (pd_ind nil cons ds) (pd_ind nil cons l)
def nmF : List RF → Nat
  | [] => 0
  | f :: l => f.f2.size / 100 + f.f1.size / 100 + nmF l
def nmV : List RV → Nat
  | [] => 0
  | f :: l => f.f0.size / 100 + nmV l
def nmM : List RM → Nat
  | [] => 0
  | f :: l => f.f0.size / 100 + f.f1.size / 100 + f.f2.size / 100 + nmM l
/-- The size that Small counts. -/
def szL : List RD → Nat
  | [] => 0
  | ⟨_, b, _, fs, vs, ms, ds⟩ :: l => 1 + fs.length + vs.length + ms.length + b.size / 100 + nmF fs + nmV vs + nmM ms + szL ds + szL l
def depL : List RD → Nat
  | [] => 0
  | ⟨_, _, _, _, _, _, ds⟩ :: l => max (1 + depL ds) (depL l)
def GoodF (f : RF) : Prop := f.f1.size ≤ 140737488355328 ∧ f.f2.size ≤ 140737488355328
def GoodV (f : RV) : Prop := f.f0.size ≤ 140737488355328
def GoodM (f : RM) : Prop := f.f0.size ≤ 140737488355328 ∧ f.f1.size ≤ 140737488355328 ∧ f.f2.size ≤ 140737488355328
/-- What a memory's reach allows. -/
def GoodL : List RD → Prop
  | [] => True
  | ⟨a, b, _, fs, vs, ms, ds⟩ :: l => ((Lit.int .i64 a).wf = true ∧ b.size ≤ 140737488355328 ∧ fs.length ≤ 140737488355328 ∧ vs.length ≤ 140737488355328 ∧ ms.length ≤ 140737488355328 ∧ ds.length ≤ 140737488355328) ∧ (∀ f ∈ fs, GoodF f) ∧ (∀ f ∈ vs, GoodV f) ∧ (∀ f ∈ ms, GoodM f) ∧ GoodL ds ∧ GoodL l
/-- The loops of small, on numbers without bounds. -/
def smL : List RD → Int → Int → Int
  | [], _, left => left
  | ⟨_, b, _, fs, vs, ms, ds⟩ :: l, dep, left =>
    if left - 1 - fs.length - vs.length - ms.length - (b.size / 100 : Nat) < 0 then -1
    else
      let c := if dep + 1 > 20 then -1 else smL ds (dep + 1) (left - 1 - fs.length - vs.length - ms.length - (b.size / 100 : Nat) - nmF fs - nmV vs - nmM ms)
      if c < 0 then -1 else smL l dep c
theorem smL_sz : ∀ l dep left, 0 ≤ smL l dep left → smL l dep left = left - szL l ∧ 0 ≤ left ∧ (dep ≤ 20 → dep + depL l ≤ 20) := by
  intro l
  induction l using rd_ind with
  | nil => intro dep left h; rw [smL] at h ⊢; exact ⟨by simp [szL], h, fun hd => by simp only [depL]; omega⟩
  | cons a b c fs vs ms ds l ihd ihl =>
    intro dep left h
    rw [smL] at h ⊢
    by_cases h1 : left - 1 - fs.length - vs.length - ms.length - (b.size / 100 : Nat) < 0
    · rw [if_pos h1] at h
      exact absurd h (by decide)
    · rw [if_neg h1] at h ⊢
      by_cases h2 : dep + 1 > 20
      · simp only [if_pos h2] at h
        rw [if_pos (by decide)] at h
        exact absurd h (by decide)
      · simp only [if_neg h2] at h ⊢
        by_cases h3 : smL ds (dep + 1) (left - 1 - fs.length - vs.length - ms.length - (b.size / 100 : Nat) - nmF fs - nmV vs - nmM ms) < 0
        · rw [if_pos h3] at h
          exact absurd h (by decide)
        · rw [if_neg h3] at h ⊢
          have hd := ihd (dep + 1) _ (Int.not_lt.mp h3)
          have hl := ihl dep _ h
          refine ⟨?_, by omega, fun hd0 => ?_⟩
          · rw [hl.1, hd.1, szL]
            push_cast
            omega
          · have := hd.2.2 (by omega)
            have := hl.2.2 hd0
            rw [depL]
            omega
theorem w64 {x : Int} (h1 : -9223372036854775808 ≤ x) (h2 : x ≤ 9223372036854775807) : wrap64 x = x := by unfold wrap64; omega
theorem w64d (n : Nat) (h : n ≤ 140737488355328) : wrap64 ((n : Int) / 100) = ((n / 100 : Nat) : Int) := by rw [w64 (by omega) (by omega)]; omega
theorem rdRD (pre : List RD) (d : RD) (l : List RD) : rd_T60 (pre ++ d :: l) (pre.length : Int) = d := by
  simp [rd_T60, List.getElem?_append_right]
theorem rdRF (pre : List RF) (d : RF) (l : List RF) : rd_T63 (pre ++ d :: l) (pre.length : Int) = d := by
  simp [rd_T63, List.getElem?_append_right]
theorem rdRV (pre : List RV) (d : RV) (l : List RV) : rd_T64 (pre ++ d :: l) (pre.length : Int) = d := by
  simp [rd_T64, List.getElem?_append_right]
theorem rdRM (pre : List RM) (d : RM) (l : List RM) : rd_T67 (pre ++ d :: l) (pre.length : Int) = d := by
  simp [rd_T67, List.getElem?_append_right]
theorem nmF_le : ∀ fs : List RF, (∀ f ∈ fs, GoodF f) → nmF fs ≤ 2814749767107 * fs.length
  | [], _ => by simp [nmF]
  | f :: l, h => by
    have := nmF_le l (fun x hx => h x (List.mem_cons_of_mem _ hx))
    have hf := h f List.mem_cons_self
    unfold GoodF at hf
    rw [nmF, List.length_cons]
    omega
theorem nmV_le : ∀ fs : List RV, (∀ f ∈ fs, GoodV f) → nmV fs ≤ 2814749767107 * fs.length
  | [], _ => by simp [nmV]
  | f :: l, h => by
    have := nmV_le l (fun x hx => h x (List.mem_cons_of_mem _ hx))
    have hf := h f List.mem_cons_self
    unfold GoodV at hf
    rw [nmV, List.length_cons]
    omega
theorem nmM_le : ∀ fs : List RM, (∀ f ∈ fs, GoodM f) → nmM fs ≤ 5000000000000 * fs.length
  | [], _ => by simp [nmM]
  | f :: l, h => by
    have := nmM_le l (fun x hx => h x (List.mem_cons_of_mem _ hx))
    have hf := h f List.mem_cons_self
    unfold GoodM at hf
    rw [nmM, List.length_cons]
    omega
theorem lt_len {α : Type} (pre : List α) (d : α) (l : List α) : (pre.length : Int) < ((pre ++ d :: l).length : Int) := by rw [List.length_append, List.length_cons]; omega
theorem snoc_eq {α : Type} (pre : List α) (d : α) (l : List α) : pre ++ d :: l = (pre ++ [d]) ++ l := by rw [List.append_assoc]; rfl
theorem snoc_len {α : Type} (pre : List α) (d : α) : ((pre ++ [d]).length : Int) = (pre.length : Int) + 1 := by simp
theorem small_l3 (x0 : List RD) (dep x15 x16 a c0 c1 : Int) (b : ByteArray) (fs : List RF) (vs : List RV) (ds : List RD) (r : Int) : ∀ (ms pre : List RM) (left : Int), (∀ f ∈ ms, GoodM f) → pre.length + ms.length ≤ 1000 → -4611686018427387904 ≤ left - nmM ms → left ≤ 1000 →
    Ev (fun k => (courierref05_small.f k ds (wrap64 (dep + 1)) (left - nmM ms)).bind fun t => if t < 0 then some (-1) else courierref05_small.l0 k x0 dep t x15 (wrap64 (x16 + 1))) r →
    Ev (fun k => courierref05_small.l3 k x0 dep left x15 x16 ((pre ++ ms).length : Int) (pre.length : Int) a b c0 c1 fs vs (pre ++ ms) ds) r
  | [], pre, left, _, _, _, _, hr => by
    refine Ev.step (fun k => ?_) hr
    rw [courierref05_small.l3, if_neg (by simp)]
    simp [nmM]
  | f :: ms, pre, left, hg, hl, h1, h2, hr => by
    have hf := hg f List.mem_cons_self
    unfold GoodM at hf
    rw [nmM] at h1 hr
    rw [List.length_cons] at hl
    have e : wrap64 (wrap64 (wrap64 (left - wrap64 ((f.f0.size : Int) / 100)) - wrap64 ((f.f1.size : Int) / 100)) - wrap64 ((f.f2.size : Int) / 100)) = left - (f.f0.size / 100 : Nat) - (f.f1.size / 100 : Nat) - (f.f2.size / 100 : Nat) := by
      rw [w64d _ hf.1, w64d _ hf.2.1, w64d _ hf.2.2, w64 (x := left - ((f.f0.size / 100 : Nat) : Int)) (by omega) (by omega), w64 (x := left - ((f.f0.size / 100 : Nat) : Int) - ((f.f1.size / 100 : Nat) : Int)) (by omega) (by omega), w64 (by omega) (by omega)]
    have ih := small_l3 x0 dep x15 x16 a c0 c1 b fs vs ds r ms (pre ++ [f]) (left - (f.f0.size / 100 : Nat) - (f.f1.size / 100 : Nat) - (f.f2.size / 100 : Nat)) (fun x hx => hg x (List.mem_cons_of_mem _ hx)) (by rw [List.length_append]; simp; omega) (by omega) (by omega)
      (by
        have e2 : left - (f.f0.size / 100 : Nat) - (f.f1.size / 100 : Nat) - (f.f2.size / 100 : Nat) - (nmM ms : Int) = left - ((f.f0.size / 100 + f.f1.size / 100 + f.f2.size / 100 + nmM ms : Nat) : Int) := by push_cast; omega
        rw [e2]; exact hr)
    refine Ev.step (fun k => ?_) ih
    rw [courierref05_small.l3, if_pos (lt_len _ _ _), if_pos (Int.natCast_nonneg _), if_pos (lt_len _ _ _), rdRM, e, ← snoc_eq, snoc_len, w64 (x := (pre.length : Int) + 1) (by omega) (by omega)]
theorem small_l2 (x0 : List RD) (dep x15 x16 a c0 c1 : Int) (b : ByteArray) (fs : List RF) (ms : List RM) (ds : List RD) (r : Int) : ∀ (vs pre : List RV) (left : Int), (∀ f ∈ vs, GoodV f) → pre.length + vs.length ≤ 1000 → -4611686018427387904 ≤ left - nmV vs → left ≤ 1000 →
    (∀ vs', vs' = pre ++ vs → Ev (fun k => courierref05_small.l3 k x0 dep (left - nmV vs) x15 x16 (ms.length : Int) 0 a b c0 c1 fs vs' ms ds) r) →
    Ev (fun k => courierref05_small.l2 k x0 dep left x15 x16 ((pre ++ vs).length : Int) (pre.length : Int) a b c0 c1 fs (pre ++ vs) ms ds) r
  | [], pre, left, _, _, _, _, hr => by
    refine Ev.step (fun k => ?_) (hr _ rfl)
    rw [courierref05_small.l2, if_neg (by simp)]
    simp [nmV]
  | f :: vs, pre, left, hg, hl, h1, h2, hr => by
    have hf := hg f List.mem_cons_self
    unfold GoodV at hf
    rw [nmV] at h1 hr
    rw [List.length_cons] at hl
    have e : wrap64 (left - wrap64 ((f.f0.size : Int) / 100)) = left - (f.f0.size / 100 : Nat) := by
      rw [w64d _ hf, w64 (by omega) (by omega)]
    have ih := small_l2 x0 dep x15 x16 a c0 c1 b fs ms ds r vs (pre ++ [f]) (left - (f.f0.size / 100 : Nat)) (fun x hx => hg x (List.mem_cons_of_mem _ hx)) (by rw [List.length_append]; simp; omega) (by omega) (by omega)
      (by
        intro vs' hv
        have e2 : left - (f.f0.size / 100 : Nat) - (nmV vs : Int) = left - ((f.f0.size / 100 + nmV vs : Nat) : Int) := by push_cast; omega
        rw [e2]; exact hr vs' (by rw [hv, ← snoc_eq]))
    refine Ev.step (fun k => ?_) ih
    rw [courierref05_small.l2, if_pos (lt_len _ _ _), if_pos (Int.natCast_nonneg _), if_pos (lt_len _ _ _), rdRV, e, ← snoc_eq, snoc_len, w64 (x := (pre.length : Int) + 1) (by omega) (by omega)]
theorem small_l1 (x0 : List RD) (dep x15 x16 a c0 c1 : Int) (b : ByteArray) (vs : List RV) (ms : List RM) (ds : List RD) (r : Int) : ∀ (fs pre : List RF) (left : Int), (∀ f ∈ fs, GoodF f) → pre.length + fs.length ≤ 1000 → -4611686018427387904 ≤ left - nmF fs → left ≤ 1000 →
    (∀ fs', fs' = pre ++ fs → Ev (fun k => courierref05_small.l2 k x0 dep (left - nmF fs) x15 x16 (vs.length : Int) 0 a b c0 c1 fs' vs ms ds) r) →
    Ev (fun k => courierref05_small.l1 k x0 dep left x15 x16 ((pre ++ fs).length : Int) (pre.length : Int) a b c0 c1 (pre ++ fs) vs ms ds) r
  | [], pre, left, _, _, _, _, hr => by
    refine Ev.step (fun k => ?_) (hr _ rfl)
    rw [courierref05_small.l1, if_neg (by simp)]
    simp [nmF]
  | f :: fs, pre, left, hg, hl, h1, h2, hr => by
    have hf := hg f List.mem_cons_self
    unfold GoodF at hf
    rw [nmF] at h1 hr
    rw [List.length_cons] at hl
    have e : wrap64 (wrap64 (left - wrap64 ((f.f2.size : Int) / 100)) - wrap64 ((f.f1.size : Int) / 100)) = left - (f.f2.size / 100 : Nat) - (f.f1.size / 100 : Nat) := by
      rw [w64d _ hf.1, w64d _ hf.2, w64 (x := left - ((f.f2.size / 100 : Nat) : Int)) (by omega) (by omega), w64 (by omega) (by omega)]
    have ih := small_l1 x0 dep x15 x16 a c0 c1 b vs ms ds r fs (pre ++ [f]) (left - (f.f2.size / 100 : Nat) - (f.f1.size / 100 : Nat)) (fun x hx => hg x (List.mem_cons_of_mem _ hx)) (by rw [List.length_append]; simp; omega) (by omega) (by omega)
      (by
        intro vs' hv
        have e2 : left - (f.f2.size / 100 : Nat) - (f.f1.size / 100 : Nat) - (nmF fs : Int) = left - ((f.f2.size / 100 + f.f1.size / 100 + nmF fs : Nat) : Int) := by push_cast; omega
        rw [e2]; exact hr vs' (by rw [hv, ← snoc_eq]))
    refine Ev.step (fun k => ?_) ih
    rw [courierref05_small.l1, if_pos (lt_len _ _ _), if_pos (Int.natCast_nonneg _), if_pos (lt_len _ _ _), rdRF, e, ← snoc_eq, snoc_len, w64 (x := (pre.length : Int) + 1) (by omega) (by omega)]
theorem smL_le : ∀ l dep left, left ≤ 1000 → smL l dep left ≤ 1000 := by
  intro l
  induction l using rd_ind with
  | nil => intro dep left h; rw [smL]; exact h
  | cons a b c fs vs ms ds l ihd ihl =>
    intro dep left h
    rw [smL]
    by_cases h1 : left - 1 - fs.length - vs.length - ms.length - (b.size / 100 : Nat) < 0
    · rw [if_pos h1]; decide
    · rw [if_neg h1]
      by_cases h2 : dep + 1 > 20
      · simp only [if_pos h2]
        rw [if_pos (by decide)]; decide
      · simp only [if_neg h2]
        by_cases h3 : smL ds (dep + 1) (left - 1 - fs.length - vs.length - ms.length - (b.size / 100 : Nat) - nmF fs - nmV vs - nmM ms) < 0
        · rw [if_pos h3]; decide
        · rw [if_neg h3]
          exact ihl _ _ (ihd _ _ (by omega))
theorem small_f (l : List RD) (dep left : Int) (h : dep ≤ 20 → Ev (fun k => courierref05_small.l0 k l dep left (l.length : Int) 0) (smL l dep left)) : Ev (fun k => courierref05_small.f k l dep left) (if dep > 20 then -1 else smL l dep left) := by
  by_cases hd : dep > 20
  · rw [if_pos hd]
    exact Ev.step (f := fun _ => some (-1)) (fun k => by rw [courierref05_small.f, if_pos hd]) (Ev.now _)
  · rw [if_neg hd]
    exact Ev.step (fun k => by rw [courierref05_small.f, if_neg hd]) (h (by omega))
theorem small_l0 : ∀ (l : List RD) (pre : List RD) (dep left : Int), GoodL l → 0 ≤ dep → dep ≤ 20 → left ≤ 1000 → -4611686018427387904 ≤ left → pre.length + l.length ≤ 4611686018427387904 →
    Ev (fun k => courierref05_small.l0 k (pre ++ l) dep left ((pre ++ l).length : Int) (pre.length : Int)) (smL l dep left) := by
  intro l
  induction l using rd_ind with
  | nil =>
    intro pre dep left _ _ _ _ _ _
    refine Ev.step (f := fun _ => some left) (fun k => ?_) (by rw [smL]; exact Ev.now _)
    rw [courierref05_small.l0, if_neg (by simp)]
  | cons a b c fs vs ms ds l ihd ihl =>
    intro pre dep left hg hd0 hd hle hge hlen
    rw [GoodL] at hg
    obtain ⟨⟨_, hb, hfl, hvl, hml, hdl⟩, hgf, hgv, hgm, hgd, hgl⟩ := hg
    have ec : wrap64 (wrap64 (wrap64 (wrap64 (wrap64 (left - 1) - (fs.length : Int)) - (vs.length : Int)) - (ms.length : Int)) - wrap64 ((b.size : Int) / 100)) = left - 1 - fs.length - vs.length - ms.length - (b.size / 100 : Nat) := by
      rw [w64d _ hb]
      rw [w64 (x := left - 1) (by omega) (by omega), w64 (x := left - 1 - (fs.length : Int)) (by omega) (by omega), w64 (x := left - 1 - (fs.length : Int) - (vs.length : Int)) (by omega) (by omega), w64 (x := left - 1 - (fs.length : Int) - (vs.length : Int) - (ms.length : Int)) (by omega) (by omega), w64 (by omega) (by omega)]
    have EC := Aside0.mk ec
    clear ec
    rw [List.length_cons] at hlen
    rw [smL]
    by_cases h1 : left - 1 - fs.length - vs.length - ms.length - (b.size / 100 : Nat) < 0
    · rw [if_pos h1]
      refine Ev.step (f := fun _ => some (-1)) (fun k => ?_) (Ev.now _)
      rw [courierref05_small.l0, if_pos (lt_len _ _ _), if_pos (Int.natCast_nonneg _), if_pos (lt_len _ _ _), rdRD, EC.out, if_pos h1]
    · rw [if_neg h1]
      have hnf := nmF_le fs hgf
      have hnv := nmV_le vs hgv
      have hnm := nmM_le ms hgm
      have hf8 : fs.length ≤ 1000 := by omega
      have hv8 : vs.length ≤ 1000 := by omega
      have hm8 : ms.length ≤ 1000 := by omega
      have q1 : 2814749767107 * fs.length ≤ 2814749767107000 := by omega
      have q2 : 2814749767107 * vs.length ≤ 2814749767107000 := by omega
      have q3 : 5000000000000 * ms.length ≤ 5000000000000000 := by omega
      obtain ⟨u, hu⟩ : ∃ u : Int, u = left - 1 - fs.length - vs.length - ms.length - (b.size / 100 : Nat) := ⟨_, rfl⟩
      rw [← hu] at h1 EC ⊢
      have hu1 : u ≤ 1000 := by omega
      clear hu
      have HDD : Aside0 (wrap64 (dep + 1) = dep + 1) := ⟨w64 (by omega) (by omega)⟩
      have HPL : Aside0 (wrap64 ((pre.length : Int) + 1) = (pre.length : Int) + 1) := ⟨w64 (by omega) (by omega)⟩
      refine Ev.step (f := fun k => courierref05_small.l1 k (pre ++ (⟨a, b, c, fs, vs, ms, ds⟩ : RD) :: l) dep u ((pre ++ (⟨a, b, c, fs, vs, ms, ds⟩ : RD) :: l).length : Int) (pre.length : Int) (fs.length : Int) 0 a b c.f0 c.f1 fs vs ms ds) (fun k => ?_) ?_
      · rw [courierref05_small.l0, if_pos (lt_len _ _ _), if_pos (Int.natCast_nonneg _), if_pos (lt_len _ _ _), rdRD, EC.out, if_neg h1]
      refine small_l1 _ dep _ _ a c.f0 c.f1 b vs ms ds _ fs [] u hgf (by simpa using hf8) (by omega) hu1 (fun fs' hfs => ?_)
      obtain rfl : fs' = fs := by simpa using hfs
      refine small_l2 _ dep _ _ a c.f0 c.f1 b fs' ms ds _ vs [] (u - nmF fs') hgv (by simpa using hv8) (by omega) (by omega) (fun vs' hvs => ?_)
      obtain rfl : vs' = vs := by simpa using hvs
      refine small_l3 _ dep _ _ a c.f0 c.f1 b fs' vs' ds _ ms [] (u - nmF fs' - nmV vs') hgm (by simpa using hm8) (by omega) (by omega) ?_
      rw [HDD.out, HPL.out]
      refine Ev.bind (small_f ds (dep + 1) (u - nmF fs' - nmV vs' - nmM ms) (fun hd2 => ?_)) ?_
      · have := ihd [] (dep + 1) (u - nmF fs' - nmV vs' - nmM ms) hgd (by omega) hd2 (by omega) (by omega) (by simp; omega)
        simpa using this
      · have hv : (if dep + 1 > 20 then -1 else smL ds (dep + 1) (u - nmF fs' - nmV vs' - nmM ms)) ≤ 1000 := by
          by_cases h2 : dep + 1 > 20
          · rw [if_pos h2]; decide
          · rw [if_neg h2]
            exact smL_le _ _ _ (by omega)
        clear EC q1 q2 q3
        generalize (if dep + 1 > 20 then -1 else smL ds (dep + 1) (u - nmF fs' - nmV vs' - nmM ms)) = v at hv ⊢
        by_cases h3 : v < 0
        · simp only [if_pos h3]
          exact Ev.now _
        · simp only [if_neg h3]
          rw [snoc_eq, ← snoc_len pre (⟨a, b, c, fs', vs', ms, ds⟩ : RD)]
          exact ihl _ dep v hgl hd0 hd hv (by omega) (by rw [List.length_append, List.length_singleton]; omega)
theorem small_all (l : List RD) (hg : GoodL l) (hl : l.length ≤ 140737488355328) : ∃ k, courierref05_Small.f k l = some (decide (0 ≤ smL l 0 800)) := by
  have h0 := small_l0 l [] 0 800 hg (by decide) (by decide) (by decide) (by decide) (by simp; omega)
  have h1 := small_f l 0 800 (fun _ => by simpa using h0)
  rw [if_neg (by decide)] at h1
  obtain ⟨k, hk⟩ := h1.rounds
  refine ⟨k, ?_⟩
  unfold courierref05_Small.f
  rw [hk]
  rfl
/-- What Small lets in. -/
def Sm (l : List RD) : Prop := szL l ≤ 800 ∧ depL l ≤ 20
theorem small_in {l : List RD} (h : 0 ≤ smL l 0 800) : Sm l := by
  have := smL_sz l 0 800 h
  have h3 := this.2.2 (by decide)
  constructor <;> omega
theorem len_le_sz : ∀ l : List RD, l.length ≤ szL l
  | [] => by simp [szL]
  | ⟨_, _, _, _, _, _, _⟩ :: l => by
    have := len_le_sz l
    rw [szL, List.length_cons]
    omega
/-! ### Theirs -/
def cvP (p : Ps) : Ps := ⟨p.f0, p.f1⟩
def cvF (f : RF) : PF := ⟨f.f0, f.f1, f.f2, f.f3, cvP f.f4⟩
def cvV (f : RV) : PV := ⟨f.f0, f.f1, cvP f.f2⟩
def cvM (f : RM) : PM := ⟨f.f0, f.f1, f.f2, cvP f.f3⟩
def cvL : List RD → List PD
  | [] => []
  | ⟨a, b, c, fs, vs, ms, ds⟩ :: l => ⟨a, b, cvP c, fs.map cvF, vs.map cvV, ms.map cvM, cvL ds⟩ :: cvL l
theorem theirs_l3 (x0 X : List RD) (x3 : List PD) (ix : Nat) (hix : ix < x0.length) (hX : rd_T60 x0 (ix : Int) = X.headD z60) (x10 x11 a c0 c1 : Int) (b : ByteArray) (fs : List PF) (vs : List PV) (ds : List PD) (r : List PD) : ∀ (ms pre : List RM) (acc : List PM), (X.headD z60).f5 = pre ++ ms → pre.length + ms.length ≤ 100000 → acc.length = pre.length → x3.length ≤ 100000 →
    Ev (fun k => courierlaw05_Theirs.l0 k x0 (x3 ++ [⟨a, b, ⟨c0, c1⟩, fs, vs, acc ++ ms.map cvM, ds⟩]) x10 (wrap64 (x11 + 1))) r →
    Ev (fun k => courierlaw05_Theirs.l3 k x0 x3 (ix : Int) x10 x11 ((pre ++ ms).length : Int) (pre.length : Int) a b c0 c1 fs vs acc ds) r
  | [], pre, acc, _, _, _, h3, hr => by
    refine Ev.step (fun k => ?_) hr
    rw [courierlaw05_Theirs.l3, if_neg (by simp), if_pos (Nat.lt_of_le_of_lt h3 (by decide)), List.map_nil, List.append_nil]
  | f :: ms, pre, acc, he, hl, ha, h3, hr => by
    rw [List.length_cons] at hl
    have ih := theirs_l3 x0 X x3 ix hix hX x10 x11 a c0 c1 b fs vs ds r ms (pre ++ [f]) (acc ++ [cvM f]) (by rw [he, snoc_eq]) (by rw [List.length_append, List.length_singleton]; omega) (by rw [List.length_append, List.length_append, ha]; rfl) h3 (by rw [List.append_assoc]; exact hr)
    refine Ev.step (fun k => ?_) ih
    have hi : (ix : Int) < (x0.length : Int) := Int.ofNat_lt.mpr hix
    rw [courierlaw05_Theirs.l3, if_pos (lt_len _ _ _), if_pos (Int.natCast_nonneg _), if_pos hi, if_pos (Int.natCast_nonneg _), hX, he, if_pos (lt_len _ _ _), if_pos (by omega), rdRM, ← snoc_eq, snoc_len, w64 (x := (pre.length : Int) + 1) (by omega) (by omega)]
    rfl
theorem theirs_l2 (x0 X : List RD) (x3 : List PD) (ix : Nat) (hix : ix < x0.length) (hX : rd_T60 x0 (ix : Int) = X.headD z60) (x10 x11 a c0 c1 : Int) (b : ByteArray) (fs : List PF) (ds : List PD) (r : List PD) : ∀ (vs pre : List RV) (acc : List PV), (X.headD z60).f4 = pre ++ vs → pre.length + vs.length ≤ 100000 → acc.length = pre.length →
    Ev (fun k => courierlaw05_Theirs.l3 k x0 x3 (ix : Int) x10 x11 ((X.headD z60).f5.length : Int) 0 a b c0 c1 fs (acc ++ vs.map cvV) [] ds) r →
    Ev (fun k => courierlaw05_Theirs.l2 k x0 x3 (ix : Int) x10 x11 ((pre ++ vs).length : Int) (pre.length : Int) a b c0 c1 fs acc ds) r
  | [], pre, acc, _, _, _, hr => by
    refine Ev.step (fun k => ?_) hr
    have hi : (ix : Int) < (x0.length : Int) := Int.ofNat_lt.mpr hix
    rw [courierlaw05_Theirs.l2, if_neg (by simp), if_pos (Int.natCast_nonneg _), if_pos hi, hX, List.map_nil, List.append_nil]
  | f :: ms, pre, acc, he, hl, ha, hr => by
    rw [List.length_cons] at hl
    have ih := theirs_l2 x0 X x3 ix hix hX x10 x11 a c0 c1 b fs ds r ms (pre ++ [f]) (acc ++ [cvV f]) (by rw [he, snoc_eq]) (by rw [List.length_append, List.length_singleton]; omega) (by rw [List.length_append, List.length_append, ha]; rfl) (by rw [List.append_assoc]; exact hr)
    refine Ev.step (fun k => ?_) ih
    have hi : (ix : Int) < (x0.length : Int) := Int.ofNat_lt.mpr hix
    rw [courierlaw05_Theirs.l2, if_pos (lt_len _ _ _), if_pos (Int.natCast_nonneg _), if_pos hi, if_pos (Int.natCast_nonneg _), hX, he, if_pos (lt_len _ _ _), if_pos (by omega), rdRV, ← snoc_eq, snoc_len, w64 (x := (pre.length : Int) + 1) (by omega) (by omega)]
    rfl
theorem theirs_l1 (x0 X : List RD) (x3 : List PD) (ix : Nat) (hix : ix < x0.length) (hX : rd_T60 x0 (ix : Int) = X.headD z60) (x10 x11 a c0 c1 : Int) (b : ByteArray) (ds : List PD) (r : List PD) : ∀ (vs pre : List RF) (acc : List PF), (X.headD z60).f3 = pre ++ vs → pre.length + vs.length ≤ 100000 → acc.length = pre.length →
    Ev (fun k => courierlaw05_Theirs.l2 k x0 x3 (ix : Int) x10 x11 ((X.headD z60).f4.length : Int) 0 a b c0 c1 (acc ++ vs.map cvF) [] ds) r →
    Ev (fun k => courierlaw05_Theirs.l1 k x0 x3 (ix : Int) x10 x11 ((pre ++ vs).length : Int) (pre.length : Int) a b c0 c1 acc ds) r
  | [], pre, acc, _, _, _, hr => by
    refine Ev.step (fun k => ?_) hr
    have hi : (ix : Int) < (x0.length : Int) := Int.ofNat_lt.mpr hix
    rw [courierlaw05_Theirs.l1, if_neg (by simp), if_pos (Int.natCast_nonneg _), if_pos hi, hX, List.map_nil, List.append_nil]
  | f :: ms, pre, acc, he, hl, ha, hr => by
    rw [List.length_cons] at hl
    have ih := theirs_l1 x0 X x3 ix hix hX x10 x11 a c0 c1 b ds r ms (pre ++ [f]) (acc ++ [cvF f]) (by rw [he, snoc_eq]) (by rw [List.length_append, List.length_singleton]; omega) (by rw [List.length_append, List.length_append, ha]; rfl) (by rw [List.append_assoc]; exact hr)
    refine Ev.step (fun k => ?_) ih
    have hi : (ix : Int) < (x0.length : Int) := Int.ofNat_lt.mpr hix
    rw [courierlaw05_Theirs.l1, if_pos (lt_len _ _ _), if_pos (Int.natCast_nonneg _), if_pos hi, if_pos (Int.natCast_nonneg _), hX, he, if_pos (lt_len _ _ _), if_pos (by omega), rdRF, ← snoc_eq, snoc_len, w64 (x := (pre.length : Int) + 1) (by omega) (by omega)]
    rfl
theorem theirs_l0 : ∀ (l pre : List RD) (acc : List PD), pre.length + szL l ≤ 100000 → acc.length = pre.length →
    Ev (fun k => courierlaw05_Theirs.l0 k (pre ++ l) acc ((pre ++ l).length : Int) (pre.length : Int)) (acc ++ cvL l) := by
  intro l
  induction l using rd_ind with
  | nil =>
    intro pre acc _ _
    refine Ev.step (f := fun _ => some acc) (fun k => ?_) (by rw [cvL, List.append_nil]; exact Ev.now _)
    rw [courierlaw05_Theirs.l0, if_neg (by simp)]
  | cons a b c fs vs ms ds l ihd ihl =>
    intro pre acc hl ha
    rw [szL] at hl
    have hdl := len_le_sz ds
    have HPL : Aside0 (wrap64 ((pre.length : Int) + 1) = (pre.length : Int) + 1) := ⟨w64 (by omega) (by omega)⟩
    refine Ev.step (f := fun k => (courierlaw05_Theirs.f k ds).bind fun t => courierlaw05_Theirs.l1 k (pre ++ (⟨a, b, c, fs, vs, ms, ds⟩ : RD) :: l) acc (pre.length : Int) ((pre ++ (⟨a, b, c, fs, vs, ms, ds⟩ : RD) :: l).length : Int) (pre.length : Int) (fs.length : Int) 0 a b c.f0 c.f1 [] t) (fun k => ?_) ?_
    · rw [courierlaw05_Theirs.l0, if_pos (lt_len _ _ _), if_pos (Int.natCast_nonneg _), if_pos (lt_len _ _ _), rdRD]
    refine Ev.bind (a := cvL ds) ?_ ?_
    · have h0 := ihd [] [] (by simp; omega) rfl
      refine Ev.step (fun k => by rw [courierlaw05_Theirs.f]) ?_
      simpa using h0
    · have hix : pre.length < (pre ++ (⟨a, b, c, fs, vs, ms, ds⟩ : RD) :: l).length := by simp
      have hX : rd_T60 (pre ++ (⟨a, b, c, fs, vs, ms, ds⟩ : RD) :: l) (pre.length : Int) = [(⟨a, b, c, fs, vs, ms, ds⟩ : RD)].headD z60 := rdRD _ _ _
      have h1 := theirs_l1 _ _ acc _ hix hX ((pre ++ (⟨a, b, c, fs, vs, ms, ds⟩ : RD) :: l).length : Int) (pre.length : Int) a c.f0 c.f1 b (cvL ds) (acc ++ cvL ((⟨a, b, c, fs, vs, ms, ds⟩ : RD) :: l)) fs [] [] rfl (by simp; omega) rfl
      refine h1 ?_
      have h2 := theirs_l2 _ _ acc _ hix hX ((pre ++ (⟨a, b, c, fs, vs, ms, ds⟩ : RD) :: l).length : Int) (pre.length : Int) a c.f0 c.f1 b ([] ++ fs.map cvF) (cvL ds) (acc ++ cvL ((⟨a, b, c, fs, vs, ms, ds⟩ : RD) :: l)) vs [] [] rfl (by simp; omega) rfl
      refine h2 ?_
      have h3 := theirs_l3 _ _ acc _ hix hX ((pre ++ (⟨a, b, c, fs, vs, ms, ds⟩ : RD) :: l).length : Int) (pre.length : Int) a c.f0 c.f1 b ([] ++ fs.map cvF) ([] ++ vs.map cvV) (cvL ds) (acc ++ cvL ((⟨a, b, c, fs, vs, ms, ds⟩ : RD) :: l)) ms [] [] rfl (by simp; omega) rfl (by omega)
      refine h3 ?_
      have e1 : acc ++ cvL ((⟨a, b, c, fs, vs, ms, ds⟩ : RD) :: l) = (acc ++ [(⟨a, b, cvP c, fs.map cvF, vs.map cvV, ms.map cvM, cvL ds⟩ : PD)]) ++ cvL l := by rw [cvL, List.append_assoc]; rfl
      have e2 : pre ++ (⟨a, b, c, fs, vs, ms, ds⟩ : RD) :: l = (pre ++ [(⟨a, b, c, fs, vs, ms, ds⟩ : RD)]) ++ l := snoc_eq _ _ _
      rw [HPL.out, e1, e2, ← snoc_len pre (⟨a, b, c, fs, vs, ms, ds⟩ : RD)]
      exact ihl (pre ++ [(⟨a, b, c, fs, vs, ms, ds⟩ : RD)]) (acc ++ [(⟨a, b, cvP c, fs.map cvF, vs.map cvV, ms.map cvM, cvL ds⟩ : PD)]) (by rw [List.length_append, List.length_singleton]; omega) (by rw [List.length_append, List.length_append, ha]; rfl)
theorem theirs_all {l : List RD} (h : Sm l) : ∃ k, courierlaw05_Theirs.f k l = some (cvL l) := by
  have h0 := theirs_l0 l [] [] (by have := h.1; simp; omega) rfl
  refine Ev.rounds (Ev.step (f := fun k => courierlaw05_Theirs.l0 k l [] (l.length : Int) 0) (fun k => by rw [courierlaw05_Theirs.f]) ?_)
  simpa using h0
end Go.Proofs.YtknbhbppofphpaaGreatDoor.X
