/- Part 7 of 8 of the proof: How a draft is read.  -/
import Derived.Test.YtipjldekiiojaaaPk1
import Derived.Test.YtipjldekiiojaaaPk2
import Derived.Test.YtipjldekiiojaaaPk3
import Derived.Test.YtipjldekiiojaaaPk4
import Derived.Test.YtipjldekiiojaaaPk5
import Derived.Test.YtipjldekiiojaaaPk6
/- Tokens that come from elsewhere, and a net that gives them: instants. -/
namespace Go.Proofs.Ytipjldekiiojaaa
set_option linter.all false
open Go Go.Proofs.Ytipjldekiiojaaa.Fw
set_option maxRecDepth 100000
set_option maxHeartbeats 4000000
set_option linter.unusedSimpArgs false

def zU (L k d : Nat) : List Int := List.replicate k 0 ++ List.replicate d 1
theorem zU_lt {L k d i : Nat} (h : i < k) : (zU L k d).getD i 0 = 0 := by
  unfold zU
  rw [List.getD_eq_getElem?_getD, List.getElem?_append_left (by simpa using h), List.getElem?_replicate, if_pos h]; rfl
theorem zU_at {L k d : Nat} : (zU L k (d + 1)).getD k 0 = 1 := by
  unfold zU
  rw [List.getD_eq_getElem?_getD, List.getElem?_append_right (by simp), List.length_replicate, Nat.sub_self, List.getElem?_replicate, if_pos (by omega)]; rfl
theorem zU_set {L k d : Nat} : (zU L k (d + 1)).set k 0 = zU L (k + 1) d := by
  unfold zU
  rw [List.set_append_right _ _ (by simp), List.length_replicate, Nat.sub_self, List.replicate_succ, List.set_cons_zero, List.replicate_succ', List.append_assoc]
  rfl
theorem u_fire {n : Net} {W : List Ev} (hC : NC n W) {d k : Nat} {S M : RS} (hkd : k + (d + 1) = W.length) (h : Sm n W (zU W.length k (d + 1)) (W.drop k) S M) (hI : InnC n W k S M) (ht : S.time = 0) :
    (fireV (comeN n W) (n.trans.length + k) M).2 = 5 ∨ ((fireV (comeN n W) (n.trans.length + k) M).2 = 0 ∧ Sm n W (zU W.length (k + 1) d) (W.drop (k + 1)) S (fireV (comeN n W) (n.trans.length + k) M).1 ∧ InnC n W (k + 1) S (fireV (comeN n W) (n.trans.length + k) M).1 ∧ (fireV (comeN n W) (n.trans.length + k) M).1.log.length = M.log.length + 1) := by
  have hk : k < W.length := by omega
  obtain ⟨e, he⟩ : ∃ e, W.getD k dEv = e := ⟨_, rfl⟩
  have hem : e ∈ W := by rw [← he]; exact getD_mem hk
  have h1 := hC.wp e hem
  have h2 := hC.wt e hem
  have h3 := hC.wn e hem
  have hlm := h.lm
  have hM0 : M.time = 0 := by rw [h.time, ht]
  unfold fireV
  rw [cm_ge hk, hI.zero k (Nat.le_refl _) hk, if_neg (by decide)]
  by_cases h5 : M.log.length = 2000
  · rw [if_pos h5]; exact .inl rfl
  rw [if_neg h5]
  have hdl : (uT n.places.length W k).delay = e.t := by rw [← he]; rfl
  have hol : (uT n.places.length W k).out.length = 1 := rfl
  have hog : (uT n.places.length W k).out.getD 0 dArc = ⟨e.p, e.n⟩ := by rw [← he]; rfl
  have hw : w64 (M.time + e.t) = e.t := by rw [hM0, Int.zero_add]; exact wrap_of (by omega) (by omega)
  rw [hol, hdl, hw, if_neg (by simp only [maxT]; omega)]
  rw [outK_succ _ _ 0 (by rw [hol]; omega), outK_zero, hog]
  unfold outS
  rw [hdl, if_pos (by omega)]
  dsimp only
  have hwf : (fire1 (uT n.places.length W k) (n.trans.length + k) M).time = M.time := rfl
  rw [hwf, hw]
  have hev : W.drop k = e :: W.drop (k + 1) := by
    rw [List.drop_eq_getElem_cons hk, ← he, List.getD_eq_getElem?_getD, List.getElem?_eq_getElem hk]; rfl
  obtain ⟨q, hq⟩ : ∃ q : Nat, e.p = (q : Int) := ⟨e.p.toNat, by omega⟩
  refine .inr ⟨rfl, ⟨?_, h.ml, h.sw, ?_, fun p hp => ?_, ?_, ?_, ?_, h.time⟩, ⟨hI.sl, ?_, fun i hi => ?_, fun j hj hj2 => ?_⟩, ?_⟩
  · show takeN M.marks [⟨((n.places.length + k : Nat) : Int), 1⟩] = S.marks ++ zU W.length (k + 1) d
    show subM M.marks ((n.places.length + k : Nat) : Int) 1 = _
    rw [h.marks, ← h.ml]
    unfold subM
    rw [Int.toNat_natCast, app_ge, zU_at, List.set_append_right _ _ (by omega), Nat.add_sub_cancel_left, show w64 (1 - 1) = 0 from rfl, zU_set]
  · show (addM M.way e.p e.n).length = _
    rw [addM_len]; exact h.mw
  · show S.way.getD p 0 = w64 ((addM M.way e.p e.n).getD p 0 + evSum (W.drop (k + 1)) p)
    rw [h.way p hp, hev, evSum_cons, add_get (by rw [h.mw]; omega) hq, hq]
    by_cases e1 : p = q
    · rw [if_pos e1, if_pos (by omega), w64_add]; congr 1; omega
    · rw [if_neg e1, if_neg (by omega)]; congr 1; omega
  · show ((M.wait ++ [(⟨e.t, e.p, e.n⟩ : Ev)]) ++ W.drop (k + 1)).Perm S.wait
    rw [List.append_assoc]
    have := h.wait
    rw [hev] at this
    exact this
  · show (M.log ++ [(⟨M.time, ((n.trans.length + k : Nat) : Int)⟩ : Fire)]).filter _ = S.log
    rw [List.filter_append, h.log, List.filter_cons_of_neg (by simp; omega)]
    simp
  · show (M.log ++ [(⟨M.time, ((n.trans.length + k : Nat) : Int)⟩ : Fire)]).length ≤ 2000
    rw [List.length_append, List.length_singleton]; omega
  · show (M.inn.set _ _).length = _
    rw [List.length_set]; exact hI.ml
  · show (M.inn.set (n.trans.length + k) _).getD i 0 = _
    rw [set_get2 (by rw [hI.ml]; omega), if_neg (by omega)]; exact hI.eq i hi
  · show (M.inn.set (n.trans.length + k) _).getD (n.trans.length + j) 0 = 0
    rw [set_get2 (by rw [hI.ml]; omega), if_neg (by omega)]; exact hI.zero j (by omega) hj2
  · show (M.log ++ [(⟨M.time, ((n.trans.length + k : Nat) : Int)⟩ : Fire)]).length = _
    rw [List.length_append, List.length_singleton]
theorem u_fires {n : Net} {W : List Ev} (hC : NC n W) {S : RS} (hb : bestT n S.marks < 0) (ht : S.time = 0) : ∀ (d k F : Nat) (M : RS), k + d = W.length → F + M.log.length = 2001 → Sm n W (zU W.length k d) (W.drop k) S M → InnC n W k S M →
    (firesV (comeN n W) F M).2 = 5 ∨ ((firesV (comeN n W) F M).2 = 0 ∧ Sm n W (zU W.length W.length 0) [] S (firesV (comeN n W) F M).1)
  | 0, k, F, M, hk, hF, h, hI => by
    have hkl : k = W.length := by omega
    subst hkl
    have := h.lm
    obtain ⟨f, rfl⟩ : ∃ f, F = f + 1 := ⟨F - 1, by omega⟩
    rw [firesV, h.marks, if_pos (bestT_none hC h.ml hb (fun i hi => by rw [zU_lt hi]; decide))]
    rw [List.drop_length] at h
    exact .inr ⟨rfl, h⟩
  | d + 1, k, F, M, hk, hF, h, hI => by
    have := h.lm
    obtain ⟨f, rfl⟩ : ∃ f, F = f + 1 := ⟨F - 1, by omega⟩
    rw [firesV, h.marks, bestT_u hC h.ml hb (show k < W.length by omega) (fun i hi => by rw [zU_lt hi]; decide) (by rw [zU_at]; decide), if_neg (by omega), Int.toNat_natCast]
    rcases u_fire hC hk h hI ht with g | ⟨g1, g2, g3, g4⟩
    · rw [if_neg (by rw [g]; decide)]; exact .inl g
    · rw [if_pos g1]
      exact u_fires hC hb ht d (k + 1) f _ (by omega) (by omega) g2 g3
theorem fire_time2 (n : Net) (i : Nat) (S : RS) : (fireV n i S).1.time = S.time := by
  have key : ∀ (t : Trans) (X : RS) k, k ≤ t.out.length → (outK t X k).1.time = X.time := fun t X k => by
    induction k with
    | zero => intro _; rfl
    | succ k ih =>
      intro hk
      rw [outK_succ t X k (by omega)]
      unfold outS
      have := ih (by omega)
      split <;> exact this
  unfold fireV
  split
  · rfl
  split
  · rfl
  split
  · rfl
  exact key _ _ _ (Nat.le_refl _)
theorem sm_fires0 {n : Net} {W : List Ev} (hC : NC n W) : ∀ (F : Nat) (S M : RS), F + M.log.length = 2001 → Sm n W (zU W.length 0 W.length) W S M → InnC n W 0 S M → S.time = 0 →
    (firesV (comeN n W) F M).2 = 5 ∨ ((firesV (comeN n W) F M).2 = (firesV n F S).2 ∧ ((firesV n F S).2 = 0 → Sm n W (zU W.length W.length 0) [] (firesV n F S).1 (firesV (comeN n W) F M).1))
  | 0, S, M, hF, h, hI, ht => by have := h.lm; omega
  | F + 1, S, M, hF, h, hI, ht => by
    by_cases hb : bestT n S.marks < 0
    · rw [show firesV n (F + 1) S = (S, 0) by rw [firesV, if_pos hb]]
      rcases u_fires hC hb ht W.length 0 (F + 1) M (by omega) hF h hI with g | ⟨g1, g2⟩
      · exact .inl g
      · exact .inr ⟨g1, fun _ => g2⟩
    · rw [firesV, firesV, h.marks]
      have hbi := bestT_in n S.marks
      rw [bestT_some hC h.ml (by omega), if_neg hb, if_neg hb]
      obtain ⟨i, hi⟩ : ∃ i, (bestT n S.marks).toNat = i := ⟨_, rfl⟩
      rw [hi]
      rcases sm_fire hC h hI (show i < n.trans.length by omega) with g | ⟨g1, g2, g3, g4⟩
      · rw [if_neg (by rw [g]; decide)]; exact .inl g
      · by_cases hz : (fireV n i S).2 = 0
        · rw [if_pos hz, if_pos (by rw [g1]; exact hz)]
          exact sm_fires0 hC F _ _ (by have := g4 hz; omega) g2 g3 (by rw [fire_time2]; exact ht)
        · rw [if_neg hz, if_neg (by rw [g1]; exact hz)]
          exact .inr ⟨g1, fun e => absurd e hz⟩
end Go.Proofs.Ytipjldekiiojaaa
/- Tokens that come from elsewhere, and a net that gives them: the runs. -/
namespace Go.Proofs.Ytipjldekiiojaaa
set_option linter.all false
open Go Go.Proofs.Ytipjldekiiojaaa.Fw
set_option maxRecDepth 100000
set_option maxHeartbeats 4000000
set_option linter.unusedSimpArgs false

theorem come_filter (S : RS) : (come S).left = S.wait.filter (isLate S.time) ∧ (come S).marks = bringM S.marks (S.wait.filter (fun e => !isLate S.time e)) ∧ (come S).way = bringW S.way (S.wait.filter (fun e => !isLate S.time e)) := by
  have := comeS_fold S.time S.wait ⟨[], S.marks, S.way, false⟩
  have e : come S = S.wait.foldl (comeS S.time) ⟨[], S.marks, S.way, false⟩ := by
    show (S.wait.take S.wait.length).foldl _ _ = _
    rw [List.take_length]
  rw [e]
  simpa using this
theorem bringM_app {Z : List Int} : ∀ (l : List Ev) (A : List Int), (∀ e ∈ l, e.p.toNat < A.length) → bringM (A ++ Z) l = bringM A l ++ Z
  | [], _, _ => rfl
  | e :: l, A, h => by
    show bringM (addM (A ++ Z) e.p e.n) l = bringM (addM A e.p e.n) l ++ Z
    rw [add_app (h e (by simp))]
    exact bringM_app l _ (fun b hb => by rw [addM_len]; exact h b (by simp [hb]))
theorem brM_len : ∀ (l : List Ev) (A : List Int), (bringM A l).length = A.length
  | [], _ => rfl
  | e :: l, A => by show (bringM (addM A e.p e.n) l).length = _; rw [brM_len l, addM_len]
theorem brW_len : ∀ (l : List Ev) (A : List Int), (bringW A l).length = A.length
  | [], _ => rfl
  | e :: l, A => by show (bringW (subM A e.p e.n) l).length = _; rw [brW_len l, subM_len]
theorem bringW_mod {P : Nat} : ∀ (l : List Ev) (A B : List Int), P ≤ A.length → P ≤ B.length → (∀ e ∈ l, 0 ≤ e.p) → (∀ p, p < P → A.getD p 0 = w64 (B.getD p 0)) → ∀ p, p < P → (bringW A l).getD p 0 = w64 ((bringW B l).getD p 0)
  | [], _, _, _, _, _, h => h
  | e :: l, A, B, hA, hB, he, h => by
    refine bringW_mod l (subM A e.p e.n) (subM B e.p e.n) (by rw [subM_len]; exact hA) (by rw [subM_len]; exact hB) (fun x hx => he x (by simp [hx])) fun p hp => ?_
    have h0 := he e (by simp)
    obtain ⟨q, hq⟩ : ∃ q : Nat, e.p = (q : Int) := ⟨e.p.toNat, by omega⟩
    rw [subM_add, subM_add, add_get (by omega) hq, add_get (by omega) hq, h p hp]
    split
    · have hw : ∀ x, w64 (w64 x) = w64 x := fun x => by have := w64_add x 0; rw [Int.add_zero, Int.add_zero] at this; exact this
      rw [w64_add, hw]
    · rfl
theorem bringM_get : ∀ (l : List Ev) (A : List Int) (p : Nat), p < A.length → (∀ e ∈ l, 0 ≤ e.p) → w64 (A.getD p 0) = A.getD p 0 → (bringM A l).getD p 0 = w64 (A.getD p 0 + evSum l p)
  | [], A, p, _, _, h => by show A.getD p 0 = w64 (A.getD p 0 + 0); rw [Int.add_zero, h]
  | e :: l, A, p, hp, he, h => by
    show (bringM (addM A e.p e.n) l).getD p 0 = _
    have h0 := he e (by simp)
    obtain ⟨q, hq⟩ : ∃ q : Nat, e.p = (q : Int) := ⟨e.p.toNat, by omega⟩
    have hw : ∀ x, w64 (w64 x) = w64 x := fun x => by have := w64_add x 0; rw [Int.add_zero, Int.add_zero] at this; exact this
    rw [bringM_get l _ p (by rw [addM_len]; exact hp) (fun x hx => he x (by simp [hx])) (by rw [add_get hp hq]; split; exact hw _; exact h), add_get hp hq, evSum_cons, hq]
    by_cases e1 : p = q
    · rw [if_pos e1, if_pos (by omega), w64_add]; congr 1; omega
    · rw [if_neg e1, if_neg (by omega)]; congr 1; omega
theorem sm_inst {n : Net} {W : List Ev} {Z : List Int} {S M : RS} (h : Sm n W Z [] S M) (hw : ∀ e ∈ S.wait, 0 ≤ e.p ∧ e.p < n.places.length) : Sm n W Z [] (inst1 n S) (inst1 (comeN n W) M) ∧ InnC n W W.length (inst1 n S) (inst1 (comeN n W) M) := by
  obtain ⟨s1, s2, s3⟩ := come_filter S
  obtain ⟨m1, m2, m3⟩ := come_filter M
  have hp : M.wait.Perm S.wait := by have := h.wait; rwa [List.append_nil] at this
  have hpf := hp.filter (fun e => !isLate S.time e)
  have hin : ∀ e ∈ S.wait.filter (fun e => !isLate S.time e), 0 ≤ e.p ∧ e.p < n.places.length := fun e he => hw e (List.mem_filter.1 he).1
  refine ⟨⟨?_, ?_, ?_, ?_, fun p hp2 => ?_, ?_, h.log, h.lm, h.time⟩, ⟨?_, ?_, fun i hi => ?_, fun j hj hj2 => by omega⟩⟩
  · show (come M).marks = (come S).marks ++ Z
    rw [m2, s2, h.time, bringM_perm hpf, h.marks, bringM_app _ _ (fun e he => by have := hin e he; rw [h.ml]; omega)]
  · show (come S).marks.length = _
    rw [s2, brM_len]; exact h.ml
  · show (come S).way.length = _
    rw [s3, brW_len]; exact h.sw
  · show (come M).way.length = _
    rw [m3, brW_len]; exact h.mw
  · show (come S).way.getD p 0 = w64 ((come M).way.getD p 0 + 0)
    rw [Int.add_zero, s3, m3, h.time, bringW_perm hpf]
    exact bringW_mod _ _ _ (by rw [h.sw]; exact Nat.le_refl _) (by rw [h.mw]; omega) (fun e he => (hin e he).1) (fun q hq => by have := h.way q hq; rw [this]; show w64 (_ + 0) = _; rw [Int.add_zero]) p hp2
  · show ((come M).left ++ []).Perm (come S).left
    rw [List.append_nil, m1, s1, h.time]
    exact hp.filter _
  · show (List.replicate n.trans.length (0 : Int)).length = _
    rw [List.length_replicate]
  · show (List.replicate (comeN n W).trans.length (0 : Int)).length = _
    rw [List.length_replicate, cm_len]
  · show (List.replicate _ (0 : Int)).getD i 0 = (List.replicate _ (0 : Int)).getD i 0
    rw [replicate_get, replicate_get]
/-- The engine's start, with tokens on their way. -/
def stE (n : Net) (W : List Ev) : RS := { startS n with wait := W, way := bringM (List.replicate n.places.length 0) W }
theorem late_all {W : List Ev} (h : ∀ e ∈ W, 1 ≤ e.t) : W.filter (isLate 0) = W ∧ W.filter (fun e => !isLate 0 e) = [] := by
  have key : ∀ e ∈ W, isLate 0 e = true := fun e he => decide_eq_true (by have := h e he; omega)
  exact ⟨List.filter_eq_self.2 key, List.filter_eq_nil_iff.2 (fun e he => by rw [key e he]; decide)⟩
theorem sm_start {n : Net} {W : List Ev} (hC : NC n W) : Sm n W (zU W.length 0 W.length) W (inst1 n (setT (stE n W) 0)) (inst1 (comeN n W) (setT (startS (comeN n W)) 0)) ∧ InnC n W 0 (inst1 n (setT (stE n W) 0)) (inst1 (comeN n W) (setT (startS (comeN n W)) 0)) := by
  obtain ⟨s1, s2, s3⟩ := come_filter (setT (stE n W) 0)
  obtain ⟨f1, f2⟩ := late_all (fun e he => (hC.wt e he).1)
  change (come (setT (stE n W) 0)).left = W.filter (isLate 0) at s1
  change (come (setT (stE n W) 0)).marks = bringM (n.places.map (·.tokens)) (W.filter (fun e => !isLate 0 e)) at s2
  change (come (setT (stE n W) 0)).way = bringW (bringM (List.replicate n.places.length 0) W) (W.filter (fun e => !isLate 0 e)) at s3
  rw [f1] at s1
  rw [f2] at s2 s3
  have hPm : (comeN n W).places.length = n.places.length + W.length := by
    show (n.places ++ sPs W.length).length = _
    rw [List.length_append, sPs_len]
  refine ⟨⟨?_, ?_, ?_, ?_, fun p hp => ?_, ?_, rfl, Nat.zero_le _, rfl⟩, ⟨?_, ?_, fun i hi => ?_, fun j hj hj2 => ?_⟩⟩
  · show (comeN n W).places.map (·.tokens) = (come (setT (stE n W) 0)).marks ++ _
    rw [s2]
    show (n.places ++ sPs W.length).map (·.tokens) = n.places.map (·.tokens) ++ zU W.length 0 W.length
    rw [List.map_append]
    congr 1
    unfold zU sPs
    rw [List.map_map, List.replicate_zero, List.nil_append]
    apply List.ext_getElem (by simp)
    intro i h1 h2
    simp [sP]
  · show (come (setT (stE n W) 0)).marks.length = _
    rw [s2]; simp [bringM]
  · show (come (setT (stE n W) 0)).way.length = _
    rw [s3, brW_len, brM_len]; simp
  · show (List.replicate (comeN n W).places.length (0 : Int)).length = _
    rw [List.length_replicate, hPm]
  · show (come (setT (stE n W) 0)).way.getD p 0 = w64 ((List.replicate (comeN n W).places.length (0 : Int)).getD p 0 + evSum W p)
    rw [s3]
    show (bringM (List.replicate n.places.length 0) W).getD p 0 = _
    rw [bringM_get W _ p (by simpa using hp) (fun e he => (hC.wp e he).1) (by rw [replicate_get]; rfl), replicate_get, replicate_get]
  · show ([] ++ W).Perm (come (setT (stE n W) 0)).left
    rw [s1]; exact List.Perm.refl _
  · show (List.replicate n.trans.length (0 : Int)).length = _
    rw [List.length_replicate]
  · show (List.replicate (comeN n W).trans.length (0 : Int)).length = _
    rw [List.length_replicate, cm_len]
  · show (List.replicate _ (0 : Int)).getD i 0 = (List.replicate _ (0 : Int)).getD i 0
    rw [replicate_get, replicate_get]
  · show (List.replicate _ (0 : Int)).getD _ 0 = 0
    rw [replicate_get]
theorem nextV_perm {l l' : List Ev} (h : l.Perm l') (h0 : ∀ e ∈ l, 0 ≤ e.t) : nextV l = nextV l' := by
  rcases nextV_in l h0 with ⟨g1, g2⟩ | ⟨g1, ⟨e, he, g2⟩, g3⟩
  · rcases nextV_in l' (fun e he => h0 e (h.mem_iff.2 he)) with ⟨k1, k2⟩ | ⟨k1, ⟨e', he', k2⟩, k3⟩
    · rw [g1, k1]
    · subst g2; have := h.symm.eq_nil; subst this; cases he'
  · rcases nextV_in l' (fun e he => h0 e (h.mem_iff.2 he)) with ⟨k1, k2⟩ | ⟨k1, ⟨e', he', k2⟩, k3⟩
    · subst k2; have := h.eq_nil; subst this; cases he
    · have := g3 e' (h.mem_iff.2 he')
      have := k3 e (h.mem_iff.1 he)
      omega
end Go.Proofs.Ytipjldekiiojaaa
/- Tokens that come from elsewhere, and a net that gives them: step by step. -/
namespace Go.Proofs.Ytipjldekiiojaaa
set_option linter.all false
open Go Go.Proofs.Ytipjldekiiojaaa.Fw
set_option maxRecDepth 100000
set_option maxHeartbeats 4000000
set_option linter.unusedSimpArgs false

/-- The net with asl many tokens more asl come. -/
def hatN (n : Net) (W : List Ev) : Net := ⟨(List.range n.places.length).map (fun p => ⟨(n.places.getD p dPlace).name, (n.places.getD p dPlace).tokens + evSum W p⟩), n.trans⟩
theorem hat_len (n : Net) (W : List Ev) : (hatN n W).places.length = n.places.length := by simp [hatN]
theorem hat_get {n : Net} {W : List Ev} {p : Nat} (h : p < n.places.length) : ((hatN n W).places.getD p dPlace).tokens = (n.places.getD p dPlace).tokens + evSum W p := by
  have : (hatN n W).places.getD p dPlace = ⟨(n.places.getD p dPlace).name, (n.places.getD p dPlace).tokens + evSum W p⟩ := gmap_range (fun p => (⟨(n.places.getD p dPlace).name, (n.places.getD p dPlace).tokens + evSum W p⟩ : Place)) dPlace h
  rw [this]
theorem evSum_le {p : Nat} : ∀ {W : List Ev}, (∀ e ∈ W, 1 ≤ e.n ∧ e.n ≤ 2) → 0 ≤ evSum W p ∧ evSum W p ≤ 2 * W.length
  | [], _ => by rw [evSum_nil]; simp
  | e :: W, h => by
    have := evSum_le (p := p) (W := W) (fun x hx => h x (by simp [hx]))
    have := h e (by simp)
    rw [evSum_cons, List.length_cons]
    split <;> omega
theorem hat_g {n : Net} {W : List Ev} (hC : NC n W) (ht : ∀ p ∈ n.places, p.tokens ≤ 900000) : NetG (hatN n W) := by
  have hl := hat_len n W
  refine ⟨by rw [hl]; exact hC.g.pl, hC.g.tr, hC.g.len, fun t h a ha => by rw [hl]; exact hC.g.inn t h a ha, fun t h a ha => by rw [hl]; exact hC.g.nott t h a ha, fun t h a ha => by rw [hl]; exact hC.g.out t h a ha, hC.g.del, fun p hp => ?_⟩
  obtain ⟨i, hi, rfl⟩ := List.getElem_of_mem hp
  rw [hl] at hi
  have h1 := hat_get (W := W) hi
  rw [List.getD_eq_getElem?_getD, List.getElem?_eq_getElem (by rw [hl]; exact hi), Option.getD_some] at h1
  have hm := getD_mem (d := dPlace) hi
  have h2 := hC.g.tok _ hm
  have h3 := ht _ hm
  have h4 := evSum_le (p := i) hC.wn
  have h5 := hC.wl
  rw [h1]; omega
theorem hat_bestK (n : Net) (W : List Ev) (m : List Int) : ∀ k, bestK (hatN n W) m k = bestK n m k
  | 0 => rfl
  | k + 1 => by rw [bestK, bestK, hat_bestK n W m k]; rfl
theorem hat_fires (n : Net) (W : List Ev) : ∀ (F : Nat) (S : RS), firesV (hatN n W) F S = firesV n F S
  | 0, _ => rfl
  | F + 1, S => by
    have hb : bestT (hatN n W) S.marks = bestT n S.marks := hat_bestK n W S.marks n.trans.length
    rw [firesV, firesV, hb]
    have hf : ∀ i, fireV (hatN n W) i S = fireV n i S := fun _ => rfl
    rw [hf, hat_fires n W F]
theorem hat_inst (n : Net) (W : List Ev) (S : RS) : instV (hatN n W) S = instV n S := by
  unfold instV
  rw [hat_fires]; rfl
theorem w64_mid {v : Int} (h0 : 0 ≤ v) (h1 : v ≤ 16001000000) : w64 v = v := wrap_of (by omega) (by omega)
theorem hat_pre {n : Net} {W : List Ev} (hC : NC n W) (ht : ∀ p ∈ n.places, p.tokens ≤ 900000) : Pre (hatN n W) (stE n W) 0 := by
  have hl := hat_len n W
  have hwl := hC.wl
  have hway : ∀ p, p < n.places.length → (stE n W).way.getD p 0 = evSum W p := fun p hp => by
    have h4 := evSum_le (p := p) hC.wn
    show (bringM (List.replicate n.places.length 0) W).getD p 0 = _
    rw [bringM_get W _ p (by simpa using hp) (fun e he => (hC.wp e he).1) (by rw [replicate_get]; rfl), replicate_get, Int.zero_add, w64_mid (by omega) (by omega)]
  have hmk : ∀ p, p < n.places.length → (stE n W).marks.getD p 0 = (n.places.getD p dPlace).tokens := fun p hp => by
    show (n.places.map (·.tokens)).getD p 0 = _
    rw [List.getD_eq_getElem?_getD, List.getElem?_map, List.getElem?_eq_getElem hp, List.getD_eq_getElem?_getD, List.getElem?_eq_getElem hp]; rfl
  refine ⟨⟨?_, ?_, Nat.zero_le _, ?_, fun e he => ?_, fun e he => ?_, ⟨Int.le_refl 0, by show (0 : Int) ≤ maxT; simp only [maxT]; omega⟩⟩, ⟨fun p hp => ?_, fun p hp => ?_, fun p hp => ?_, fun e he => ?_, fun e he => (by cases he), fun e he => (by cases he), List.Pairwise.nil, fun T b => Nat.zero_le _⟩, fun e he => (by cases he)⟩
  · show (n.places.map (·.tokens)).length = _
    rw [List.length_map, hl]
  · show (bringM (List.replicate n.places.length 0) W).length = _
    rw [brM_len, List.length_replicate, hl]
  · show W.length ≤ 8 * 0 + 16
    omega
  · rw [hl]; exact hC.wp e he
  · have := hC.wt e he
    exact ⟨by show (0 : Int) ≤ e.t; omega, by simp only [maxT]; omega⟩
  · rw [hl] at hp
    rw [hat_get hp]
    show (stE n W).marks.getD p 0 + (stE n W).way.getD p 0 = _ + 0
    rw [hmk p hp, hway p hp]; omega
  · rw [hl] at hp; exact hway p hp
  · rw [hl] at hp
    show 0 ≤ (stE n W).marks.getD p 0
    rw [hmk p hp]
    exact (hC.g.tok _ (getD_mem hp)).1
  · have := hC.wn e he; omega
/-- How an engine stands in front of a time, and a run of the net that gives. -/
structure CI (n : Net) (W : List Ev) (S : RS) (t : Int) : Prop where
  pre : 0 ≤ t → Pre (hatN n W) S t
  run : (plainV (comeN n W) 25).2 = 5 ∨ ∃ M, ∃ f : Nat, (0 ≤ t → 25 - t < f) ∧ plainV (comeN n W) 25 = runV (comeN n W) 25 f M t ∧ (0 ≤ t → Pre (comeN n W) M t) ∧ ((Sm n W (zU W.length W.length 0) [] S M ∧ ∀ p, w64 (M.way.getD p 0) = M.way.getD p 0) ∨ (t = 0 ∧ S = stE n W ∧ M = startS (comeN n W)))
theorem ci_start {n : Net} {W : List Ev} (hC : NC n W) (ht : ∀ p ∈ n.places, p.tokens ≤ 900000) (hchk : checkV (comeN n W) = 0) : CI n W (stE n W) 0 :=
  ⟨fun _ => hat_pre hC ht, .inr ⟨startS (comeN n W), 26, fun _ => by omega, rfl, fun _ => start_pre (check_good hchk), .inr ⟨rfl, rfl, rfl⟩⟩⟩
theorem sm_time {n : Net} {W : List Ev} {Z : List Int} {V : List Ev} {S M : RS} (h : Sm n W Z V S M) (t : Int) : Sm n W Z V (setT S t) (setT M t) := ⟨h.marks, h.ml, h.sw, h.mw, h.way, h.wait, h.log, h.lm, rfl⟩
theorem ci_step {n : Net} {W : List Ev} (hC : NC n W) (hA : NetA n) (ht : ∀ p ∈ n.places, p.tokens ≤ 900000) (hchk : checkV (comeN n W) = 0) {S : RS} {t : Int} (h : CI n W S t) (t0 : 0 ≤ t) (t1 : t ≤ 25) :
    ((instV n (setT S t)).2 = 0 → CI n W (instV n (setT S t)).1 (nextV (instV n (setT S t)).1.wait) ∧ (nextV (instV n (setT S t)).1.wait < 0 ∨ t < nextV (instV n (setT S t)).1.wait)) ∧ ((instV n (setT S t)).2 ≠ 0 → (plainV (comeN n W) 25).2 ≠ 0) := by
  have hGh := hat_g hC ht
  have hGm := check_good hchk
  have hAm := check_apart hchk
  obtain ⟨p1, p2, p3⟩ := h.pre t0
  have hAh : NetA (hatN n W) := hA
  obtain ⟨g1, g2⟩ := instV_good hGh p1
  have g3 := instV_mg hGh hAh p1 p2 p3
  have hov := come_over hGh p1 p2
  rw [hat_inst] at g1 g2 g3
  have g2 : (instV n (setT S t)).1.time = t := g2
  have hnext : nextV (instV n (setT S t)).1.wait < 0 ∨ t < nextV (instV n (setT S t)).1.wait := by
    rcases next_good g1 with h1 | ⟨h1, _⟩
    · exact .inl h1
    · exact .inr (by omega)
  have hpre : 0 ≤ nextV (instV n (setT S t)).1.wait → Pre (hatN n W) (instV n (setT S t)).1 (nextV (instV n (setT S t)).1.wait) := fun h0 => next_pre g1 g3 h0
  rcases h.run with h5 | ⟨M, f, hf, hpl, hpm, hs⟩
  · exact ⟨fun _ => ⟨⟨hpre, .inl h5⟩, hnext⟩, fun _ => by rw [h5]; decide⟩
  obtain ⟨q1, q2, q3⟩ := hpm t0
  obtain ⟨k1, k2⟩ := instV_good hGm q1
  have k3 := instV_mg hGm hAm q1 q2 q3
  have hovm := come_over hGm q1 q2
  have key : (instV (comeN n W) (setT M t)).2 = 5 ∨ ((instV (comeN n W) (setT M t)).2 = (instV n (setT S t)).2 ∧ ((instV n (setT S t)).2 = 0 → Sm n W (zU W.length W.length 0) [] (instV n (setT S t)).1 (instV (comeN n W) (setT M t)).1)) := by
    unfold instV
    rw [hov, hovm, if_neg (by decide), if_neg (by decide)]
    rcases hs with ⟨hsm, _⟩ | ⟨rfl, rfl, rfl⟩
    · obtain ⟨a1, a2⟩ := sm_inst (sm_time hsm t) (fun e he => by have := p1.wpl e he; rw [hat_len] at this; exact this)
      rcases sm_firesL hC (fun i hi => by rw [zU_lt hi]; decide) 2001 _ _ a1 a2 with b | ⟨b1, b2⟩
      · exact .inl b
      · exact .inr ⟨b1, fun _ => b2⟩
    · obtain ⟨a1, a2⟩ := sm_start hC
      rcases sm_fires0 hC 2001 _ _ rfl a1 a2 rfl with b | ⟨b1, b2⟩
      · exact .inl b
      · exact .inr ⟨b1, b2⟩
  have hft := hf t0
  obtain ⟨f', rfl⟩ : ∃ f', f = f' + 1 := ⟨f - 1, by omega⟩
  rw [runV_go _ _ _ _ _ ⟨t0, t1⟩] at hpl
  rcases key with b | ⟨b1, b2⟩
  · rw [if_neg (by rw [b]; decide)] at hpl
    have h5 : (plainV (comeN n W) 25).2 = 5 := by rw [hpl]; exact b
    exact ⟨fun _ => ⟨⟨hpre, .inl h5⟩, hnext⟩, fun _ => by rw [h5]; decide⟩
  · by_cases hz : (instV n (setT S t)).2 = 0
    · refine ⟨fun _ => ?_, fun hn => absurd hz hn⟩
      rw [if_pos (by rw [b1]; exact hz)] at hpl
      have hsm := b2 hz
      have hnv : nextV (instV (comeN n W) (setT M t)).1.wait = nextV (instV n (setT S t)).1.wait := by
        have := hsm.wait
        rw [List.append_nil] at this
        exact nextV_perm this (fun e he => by have := k1.wt e he; have := k1.time; omega)
      rw [hnv] at hpl
      refine ⟨⟨hpre, .inr ⟨_, f', ?_, hpl, fun h0 => by rw [← hnv] at h0 ⊢; exact next_pre k1 k3 h0, .inl ⟨hsm, fun p => ?_⟩⟩⟩, hnext⟩
      · intro h0; have := hf t0; rcases hnext with q | q <;> omega
      · have := (k3.bnd hGm k1.toRG).2 p
        exact w64_mid this.1 this.2
    · refine ⟨fun h0 => absurd h0 hz, fun _ => ?_⟩
      rw [if_neg (by rw [b1]; exact hz)] at hpl
      rw [hpl, b1]; exact hz
theorem ci_end {n : Net} {W : List Ev} {S : RS} {t : Int} (h : CI n W S t) (ht : ¬ (0 ≤ t ∧ t ≤ 25)) : ((plainV (comeN n W) 25).2 ≠ 0 → (plainV (comeN n W) 25).2 = 5) ∧ ((plainV (comeN n W) 25).2 = 0 → (plainV (comeN n W) 25).1.log.filter (fun f => decide (f.i < (n.trans.length : Int))) = S.log ∧ (∀ p, p < n.places.length → S.marks.getD p 0 = (plainV (comeN n W) 25).1.marks.getD p 0 ∧ S.way.getD p 0 = (plainV (comeN n W) 25).1.way.getD p 0)) := by
  rcases h.run with h5 | ⟨M, f, hf, hpl, hpm, hs⟩
  · exact ⟨fun _ => h5, fun h0 => by rw [h5] at h0; cases h0⟩
  rw [runV_stop _ _ _ _ _ ht] at hpl
  rw [hpl]
  refine ⟨fun h0 => absurd rfl h0, fun _ => ?_⟩
  rcases hs with ⟨hsm, hwy⟩ | ⟨rfl, _, _⟩
  · refine ⟨hsm.log, fun p hp => ⟨?_, ?_⟩⟩
    · rw [hsm.marks, app_lt (by rw [hsm.ml]; exact hp)]
    · rw [hsm.way p hp]
      show w64 (M.way.getD p 0 + 0) = _
      rw [Int.add_zero]; exact hwy p
  · exact absurd ⟨Int.le_refl 0, by omega⟩ ht
end Go.Proofs.Ytipjldekiiojaaa
/- The net that gives may be. -/
namespace Go.Proofs.Ytipjldekiiojaaa
set_option linter.all false
open Go Go.Proofs.Ytipjldekiiojaaa.Fw
set_option maxRecDepth 100000
set_option maxHeartbeats 4000000
set_option linter.unusedSimpArgs false

/-- The tokens that come. -/
def cmE (l : List Int) (P i : Nat) : Ev := ⟨1 + (l.getD i 0).tdiv 16, (l.getD i 0).tmod P, 1 + ((i % 2 : Nat) : Int)⟩
def cmW (l : List Int) (P k : Nat) : List Ev := (List.range k).map (cmE l P)
theorem cmW_len (l : List Int) (P k : Nat) : (cmW l P k).length = k := by simp [cmW]
theorem cmW_succ (l : List Int) (P k : Nat) : cmW l P (k + 1) = cmW l P k ++ [cmE l P k] := snoc_range _ k
theorem cmW_get {l : List Int} {P i k : Nat} (h : i < k) : (cmW l P k).getD i dEv = cmE l P i := gmap_range (cmE l P) dEv h
theorem cmE_in {l : List Int} {P i : Nat} (hl : ∀ a ∈ l, 0 ≤ a ∧ a < 256) (hi : i < l.length) (hP : 0 < P) : (0 ≤ (cmE l P i).p ∧ (cmE l P i).p < P) ∧ (1 ≤ (cmE l P i).t ∧ (cmE l P i).t ≤ 16) ∧ (1 ≤ (cmE l P i).n ∧ (cmE l P i).n ≤ 2) := by
  have h := hl _ (getD_mem (d := 0) hi)
  have h1 := Int.tmod_nonneg (P : Int) h.1
  have h2 := Int.tmod_lt_of_pos (l.getD i 0) (show (0 : Int) < P by omega)
  have h3 := Nat.mod_lt i (show 0 < 2 by omega)
  have h4 : (l.getD i 0).tdiv 16 = (l.getD i 0) / 16 := Int.tdiv_eq_ediv_of_nonneg h.1
  unfold cmE
  dsimp only
  rw [h4]
  omega
theorem make_nc {d : Draft} (hd : okDraft d) {l : List Int} (hl : ∀ a ∈ l, 0 ≤ a ∧ a < 256) (hl10 : l.length ≤ 10) : NC (makeN d) (cmW l (makeN d).places.length l.length) := by
  have hchk := makeN_check d hd
  have hG := check_good hchk
  have hP := makeN_places d
  have hM := mkM_pos d
  have hin : ∀ e ∈ cmW l (makeN d).places.length l.length, ∃ i, i < l.length ∧ e = cmE l (makeN d).places.length i := fun e he => by
    simp only [cmW, List.mem_map, List.mem_range] at he
    obtain ⟨i, hi, rfl⟩ := he
    exact ⟨i, hi, rfl⟩
  refine ⟨hG, fun t ht => ?_, fun e he => ?_, fun e he => ?_, fun e he => ?_, by rw [cmW_len]; exact hl10⟩
  · simp only [makeN, List.mem_map, List.mem_range] at ht
    obtain ⟨k, hk, rfl⟩ := ht
    have hx : okAct (gA d k) := hd.2 _ (getD_mem (d := dAct) (l := d.acts) (k := k) (by omega))
    have hpr := tmod_in5 (gA d k).p 3 hx.2.1.1 (by omega) (by omega)
    have hpr2 : (mkTr d k).prio = IntKind.i64.wrap ((gA d k).p.tmod 3) := rfl
    rw [hpr2]; omega
  · obtain ⟨i, hi, rfl⟩ := hin e he
    exact (cmE_in hl hi (by omega)).1
  · obtain ⟨i, hi, rfl⟩ := hin e he
    have := (cmE_in (P := (makeN d).places.length) hl hi (by omega)).2.1
    omega
  · obtain ⟨i, hi, rfl⟩ := hin e he
    exact (cmE_in hl hi (by omega)).2.2
theorem make_tok {d : Draft} (hd : okDraft d) : ∀ p ∈ (makeN d).places, p.tokens ≤ 900000 := fun p hp => by
  simp only [makeN, List.mem_map, List.mem_range] at hp
  obtain ⟨i, hi, rfl⟩ := hp
  show tokK d i ≤ 900000
  unfold tokK
  split
  · rename_i h
    have := hd.1 _ (getD_mem (d := 0) h)
    have := tmod_in5 (d.tokens.getD i 0) 5 this.1 (by omega) (by omega)
    omega
  · omega
theorem come_names : (∀ i, i < 10 → NameP (sName i)) ∧ (∀ i, i < 10 → NameP (uName i)) ∧ (∀ i, i < 10 → ∀ k, k < i → sName k ≠ sName i) ∧ (∀ i, i < 10 → ∀ k, k < i → uName k ≠ uName i) ∧ (∀ i, i < 10 → ∀ k, k < 10 → sName k ≠ uName i) ∧ (∀ i, i < 10 → ∀ k, k < 7 → plName k ≠ sName i) ∧ (∀ i, i < 10 → ∀ k, k < 7 → plName k ≠ uName i) ∧ (∀ i, i < 9 → ∀ k, k < 10 → sName k ≠ trName i) ∧ (∀ i, i < 10 → ∀ k, k < 9 → trName k ≠ uName i) := by decide
theorem names_of {f : Nat → ByteArray} {N : Nat} {n : Net} (hl : (namesL n).length = N) (hat : ∀ i, i < N → nameAt n i = f i) (h1 : ∀ i, i < N → NameP (f i)) (h2 : ∀ i, i < N → ∀ k, k < i → f k ≠ f i) : NamesP n := by
  intro i hi
  rw [hl] at hi
  refine ⟨by rw [hat i hi]; exact h1 i hi, fun k hk => ?_⟩
  rw [hat i hi, hat k (by omega)]
  exact h2 i hi k hk
def nmF (M L A : Nat) (i : Nat) : ByteArray := if i < M then plName i else if i < M + L then sName (i - M) else if i < M + L + A then trName (i - M - L) else uName (i - M - L - A)
theorem cm_names {d : Draft} {W : List Ev} (hL : W.length ≤ 10) : NamesP (comeN (makeN d) W) := by
  obtain ⟨g1, g2, g3, g4, g5⟩ := names_good
  obtain ⟨c1, c2, c3, c4, c5, c6, c7, c8, c9⟩ := come_names
  have hM := mkM_le d
  obtain ⟨M, hMM⟩ : ∃ M, mkM d = M := ⟨_, rfl⟩
  obtain ⟨A, hA⟩ : ∃ A, min d.acts.length 9 = A := ⟨_, rfl⟩
  obtain ⟨L, hLL⟩ : ∃ L, W.length = L := ⟨_, rfl⟩
  have hA9 : A ≤ 9 := by omega
  rw [hMM] at hM
  rw [hLL] at hL
  have hn : namesL (comeN (makeN d) W) = ((List.range M).map plName ++ (List.range L).map sName) ++ ((List.range A).map trName ++ (List.range L).map uName) := by
    unfold namesL comeN makeN sPs uTs
    rw [hMM, hA, hLL]
    simp only [List.map_append, List.map_map]
    rfl
  have hl : (namesL (comeN (makeN d) W)).length = M + L + A + L := by rw [hn]; simp; omega
  refine names_of (f := nmF M L A) hl (fun i hi => ?_) (fun i hi => ?_) (fun i hi k hk => ?_)
  · unfold nameAt nmF
    rw [hn, List.getD_eq_getElem?_getD]
    by_cases h1 : i < M
    · rw [if_pos h1, List.getElem?_append_left (by simp; omega), List.getElem?_append_left (by simpa using h1), List.getElem?_map, List.getElem?_range h1]; rfl
    rw [if_neg h1]
    by_cases h2 : i < M + L
    · rw [if_pos h2, List.getElem?_append_left (by simp; omega), List.getElem?_append_right (by simp; omega), List.getElem?_map]
      rw [show i - (List.map plName (List.range M)).length = i - M from by simp, List.getElem?_range (by omega)]; rfl
    rw [if_neg h2]
    by_cases h3 : i < M + L + A
    · rw [if_pos h3, List.getElem?_append_right (by simp; omega)]
      rw [show i - (List.map plName (List.range M) ++ List.map sName (List.range L)).length = i - M - L from by simp; omega]
      rw [List.getElem?_append_left (by simp; omega), List.getElem?_map, List.getElem?_range (by omega)]; rfl
    · rw [if_neg h3, List.getElem?_append_right (by simp; omega)]
      rw [show i - (List.map plName (List.range M) ++ List.map sName (List.range L)).length = i - M - L from by simp; omega]
      rw [List.getElem?_append_right (by simp; omega), List.getElem?_map]
      rw [show i - M - L - (List.map trName (List.range A)).length = i - M - L - A from by simp, List.getElem?_range (by omega)]; rfl
  · unfold nmF
    split
    · exact g1 _ (by omega)
    split
    · exact c1 _ (by omega)
    split
    · exact g2 _ (by omega)
    · exact c2 _ (by omega)
  · unfold nmF
    by_cases i1 : i < M
    · rw [if_pos (show k < M by omega), if_pos i1]; exact g3 _ (by omega) _ hk
    rw [if_neg i1]
    by_cases i2 : i < M + L
    · rw [if_pos i2]
      by_cases k1 : k < M
      · rw [if_pos k1]; exact c6 _ (by omega) _ (by omega)
      · rw [if_neg k1, if_pos (by omega)]; exact c3 _ (by omega) _ (by omega)
    rw [if_neg i2]
    by_cases i3 : i < M + L + A
    · rw [if_pos i3]
      by_cases k1 : k < M
      · rw [if_pos k1]; exact g5 _ (by omega) _ (by omega)
      rw [if_neg k1]
      by_cases k2 : k < M + L
      · rw [if_pos k2]; exact c8 _ (by omega) _ (by omega)
      · rw [if_neg k2, if_pos (by omega)]; exact g4 _ (by omega) _ (by omega)
    rw [if_neg i3]
    by_cases k1 : k < M
    · rw [if_pos k1]; exact c7 _ (by omega) _ (by omega)
    rw [if_neg k1]
    by_cases k2 : k < M + L
    · rw [if_pos k2]; exact c5 _ (by omega) _ (by omega)
    rw [if_neg k2]
    by_cases k3 : k < M + L + A
    · rw [if_pos k3]; exact c9 _ (by omega) _ (by omega)
    · rw [if_neg k3]; exact c4 _ (by omega) _ (by omega)
theorem arcV_more {l : List Arc} {P Q : Nat} (h : arcsV l P = 0) (hPQ : P ≤ Q) : arcsV l Q = 0 := by
  have h1 := fun i hi => firstV_all h i hi
  refine firstV_zero fun i hi => ?_
  have := h1 i hi
  unfold arcV at this ⊢
  split at this
  · cases this
  split at this
  · cases this
  split at this
  · cases this
  rename_i a1 a2 a3
  rw [if_neg a1, if_neg (by omega), if_neg a3]
theorem cm_check {d : Draft} (hd : okDraft d) {W : List Ev} (hC : NC (makeN d) W) : checkV (comeN (makeN d) W) = 0 := by
  have hchk := makeN_check d hd
  have hL := hC.wl
  have hM := mkM_le d
  have hPl := makeN_places d
  have hTl := makeN_trans d
  have hP : (comeN (makeN d) W).places.length = (makeN d).places.length + W.length := by
    show ((makeN d).places ++ sPs W.length).length = _
    rw [List.length_append, sPs_len]
  have hT := cm_len (makeN d) W
  unfold checkV at hchk ⊢
  split at hchk
  · cases hchk
  rename_i hlp
  split at hchk
  case isFalse => cases hchk
  unfold numV at hchk
  split at hchk
  case isFalse h0 => exact absurd hchk h0
  rename_i hp0
  have hpa := fun i hi => firstV_all hp0 i hi
  have hta := fun i hi => firstV_all hchk i hi
  rw [if_neg, if_pos (cm_names hL)]
  · unfold numV
    have h2 : firstV (plV (comeN (makeN d) W)) (comeN (makeN d) W).places.length = 0 := firstV_zero fun i hi => by
      rw [hP] at hi
      by_cases h : i < (makeN d).places.length
      · have := hpa i h
        unfold plV at this ⊢
        have e : (comeN (makeN d) W).places.getD i dPlace = (makeN d).places.getD i dPlace := by
          show ((makeN d).places ++ sPs W.length).getD i dPlace = _
          rw [List.getD_eq_getElem?_getD, List.getElem?_append_left h, ← List.getD_eq_getElem?_getD]
        rw [e]; exact this
      · unfold plV
        have e : (comeN (makeN d) W).places.getD i dPlace = sP (i - (makeN d).places.length) := by
          show ((makeN d).places ++ sPs W.length).getD i dPlace = _
          rw [List.getD_eq_getElem?_getD, List.getElem?_append_right (by omega), ← List.getD_eq_getElem?_getD]
          exact gmap_range sP dPlace (by omega)
        rw [e, if_neg]
        show ¬ badI 1 0
        unfold badI; omega
    rw [if_pos h2]
    refine firstV_zero fun k hk => ?_
    rw [hT] at hk
    by_cases h : k < (makeN d).trans.length
    · have := hta k h
      rw [cm_lt h]
      unfold trV at this ⊢
      split at this
      · cases this
      rename_i hb
      rw [if_neg hb]
      have h3 := fun i hi => firstV_all this i hi
      refine firstV_zero fun j hj => ?_
      have := h3 j hj
      exact arcV_more this (by omega)
    · obtain ⟨j, rfl⟩ : ∃ j, k = (makeN d).trans.length + j := ⟨k - (makeN d).trans.length, by omega⟩
      have hj : j < W.length := by omega
      rw [cm_ge hj]
      have hem := getD_mem (d := dEv) hj
      have w1 := hC.wp _ hem
      have w2 := hC.wt _ hem
      have w3 := hC.wn _ hem
      unfold trV
      rw [if_neg (by
        have e1 : (uT (makeN d).places.length W j).delay = (W.getD j dEv).t := rfl
        have e2 : (uT (makeN d).places.length W j).prio = 9 := rfl
        rw [e1, e2]; unfold badI; omega)]
      refine firstV_zero fun i hi => ?_
      unfold listOf
      rw [hP]
      split
      · refine arcsV_good (fun a ha => ?_) (fun i k hk h => by simp [uT] at h; omega)
        have : a = ⟨(((makeN d).places.length + j : Nat) : Int), 1⟩ := List.mem_singleton.1 ha
        subst this
        unfold ArcG
        first | omega | (dsimp only; omega)
      · split
        · rfl
        · refine arcsV_good (fun a ha => ?_) (fun i k hk h => by simp [uT] at h; omega)
          have : a = ⟨(W.getD j dEv).p, (W.getD j dEv).n⟩ := List.mem_singleton.1 ha
          subst this
          unfold ArcG
          first | omega | (dsimp only; omega)
  · rintro (h | h | ⟨k, hk, h⟩)
    · rw [hP] at h; omega
    · rw [hT] at h; omega
    · rw [hT] at hk
      by_cases h3 : k < (makeN d).trans.length
      · rw [cm_lt h3] at h
        exact hlp (.inr (.inr ⟨k, h3, h⟩))
      · obtain ⟨j, rfl⟩ : ∃ j, k = (makeN d).trans.length + j := ⟨k - (makeN d).trans.length, by omega⟩
        rw [cm_ge (by omega)] at h
        unfold longT at h
        simp [uT] at h
end Go.Proofs.Ytipjldekiiojaaa
/- Same and sameArcs, of package marblerunref05: are two nets one? -/
namespace Go.Proofs.Ytipjldekiiojaaa
set_option linter.all false
open Go Go.Proofs.Ytipjldekiiojaaa.Fw
set_option maxRecDepth 100000
set_option maxHeartbeats 4000000
set_option linter.unusedSimpArgs false

def ArcsL (n : Net) : Prop := ∀ t ∈ n.trans, t.inn.length ≤ 1000000 ∧ t.nott.length ≤ 1000000 ∧ t.out.length ≤ 1000000
end Go.Proofs.Ytipjldekiiojaaa
/- Equal, of package net. -/
namespace Go.Proofs.Ytipjldekiiojaaa
set_option linter.all false
open Go Go.Proofs.Ytipjldekiiojaaa.Fw
set_option maxRecDepth 100000
set_option maxHeartbeats 4000000
set_option linter.unusedSimpArgs false

end Go.Proofs.Ytipjldekiiojaaa
/- Clones that one has, and Copy, of package net. -/
namespace Go.Proofs.Ytipjldekiiojaaa
set_option linter.all false
open Go Go.Proofs.Ytipjldekiiojaaa.Fw
set_option maxRecDepth 100000
set_option maxHeartbeats 4000000
set_option linter.unusedSimpArgs false

structure Tri (a b c : Nat) : Prop where
  ab : ¬ a = b
  ac : ¬ a = c
  bc : ¬ b = c
theorem Tri.all {a b c : Nat} (h : Tri a b c) : ¬ a = b ∧ ¬ a = c ∧ ¬ b = c ∧ ¬ b = a ∧ ¬ c = a ∧ ¬ c = b := ⟨h.ab, h.ac, h.bc, fun e => h.ab e.symm, fun e => h.ac e.symm, fun e => h.bc e.symm⟩
abbrev cTr (q : Nat) (t : Trans) : List AV := [.str t.name, .int .i64 t.delay, .int .i64 t.prio, .sl q 0 t.inn.length, aArcs t.nott, aArcs t.out]
def cRow (q k : Nat) (l : List Trans) (i : Nat) : List AV := if i = 0 ∧ 0 < k then cTr q (l.getD 0 dTrans) else eTrans (l.getD i dTrans)
end Go.Proofs.Ytipjldekiiojaaa
/- Make, of package marblerunref05: what it made, asl one's own. -/
namespace Go.Proofs.Ytipjldekiiojaaa
set_option linter.all false
open Go Go.Proofs.Ytipjldekiiojaaa.Fw
open Nat renaming reduceAdd → zA, reduceBNe → zB, reduceMul → zC, reduceSub → zD, reduceBEq → zM, reduceEqDiff → zN, reduceLT → zO, reduceLeDiff → zP
open Int renaming reduceEq → zE, reduceNe → zF, reduceLT → zG, reduceLE → zH, reduceAdd → zI, reduceMul → zJ, reduceSub → zK, reduceNeg → zL, reduceToNat → zQ
set_option maxRecDepth 100000
set_option maxHeartbeats 4000000
set_option linter.unusedSimpArgs false

def qRow (d : Draft) (q I j i : Nat) : List AV := if i = q ∧ q < j then cTr I (mkTr d q) else eTrans (mkTr d i)
def qInn (d : Draft) (q j : Nat) : List Arc := if q < j then (mkTr d q).inn else []
theorem qRow_lt {d : Draft} {q I j i : Nat} (h : i < j) : qRow d q I j i = qRow d q I (j + 1) i := by
  unfold qRow
  by_cases e : i = q
  · subst e; rw [if_pos ⟨rfl, h⟩, if_pos ⟨rfl, by omega⟩]
  · rw [if_neg (fun g => e g.1), if_neg (fun g => e g.1)]
theorem qRow_q {d : Draft} {q I I' j i : Nat} (h : i < j) (hj : j = q) : qRow d q I j i = qRow d q I' (j + 1) i := by
  unfold qRow
  rw [if_neg (fun g => by omega), if_neg (fun g => by omega)]
theorem qRow_at {d : Draft} {q I j : Nat} (hj : ¬ j = q) : qRow d q I (j + 1) j = eTrans (mkTr d j) := if_neg (fun g => hj g.1)
theorem qRow_at0 {d : Draft} {q I j : Nat} (hj : j = q) : qRow d q I (j + 1) j = cTr I (mkTr d j) := by subst hj; exact if_pos ⟨rfl, by omega⟩
theorem qInn_ne {d : Draft} {q j : Nat} (hj : ¬ j = q) : qInn d q (j + 1) = qInn d q j := by
  unfold qInn
  by_cases h : q < j
  · rw [if_pos h, if_pos (by omega)]
  · rw [if_neg h, if_neg (by omega)]
theorem qInn_eq {d : Draft} {q j : Nat} (hj : j = q) : qInn d q (j + 1) = (mkTr d j).inn := by subst hj; exact if_pos (by omega)
theorem qRow_len (d : Draft) (q I j i : Nat) : (qRow d q I j i).length = 6 := by unfold qRow; split <;> rfl
theorem sub_del2 (st : Store) (a b : Nat) : Fw.Sub ((st.del a).del b) st := Fw.Sub.trans (del_sub _ b) (del_sub _ a)
theorem makew_ok (d : Draft) (q : Nat) (st : Store) (nx : Nat) (K : AV → Store → Nat → Prop) (hl : d.tokens.length ≤ 1000000000000)
    (hK : ∀ P T I st' nx', (nx ≤ P ∧ nx ≤ T ∧ nx ≤ I ∧ P < nx' ∧ T < nx' ∧ I < nx') → (¬ P = T ∧ ¬ P = I ∧ ¬ T = I) → Fw.Sub st st' → st' P = some (rowL 2 ePlace dPlace ((List.range (mkM d)).map (mkP d))) → st' T = some (.row 6 (min d.acts.length 9) (qRow d q I (min d.acts.length 9))) → st' I = some (.row 2 (qInn d q (min d.acts.length 9)).length (fun i => eArc ((qInn d q (min d.acts.length 9)).getD i dArc))) → K (.agg [.sl P 0 (mkM d), .sl T 0 (min d.acts.length 9)]) st' nx') : SCall Try.prog 13 [.agg (eDraft d)] st nx K := by
  refine SCall.enter' 176 Try.func13 rfl (by kernel_rfl) rfl (Nat.le_of_ble_eq_true rfl) ?_
  intro hfin
  have hM : IntKind.i64.wrap (1 + (d.tokens.length : Int).tmod 7) = ((mkM d : Nat) : Int) := by
    rw [Int.tmod_eq_emod_of_nonneg (by omega), wrap_of (by omega) (by omega)]; unfold mkM; omega
  have hM7 : mkM d ≤ 7 := by unfold mkM; omega
  have hM1 : 1 ≤ mkM d := by unfold mkM; omega
  refine SRun.run 100 ?_; simp -implicitDefEqProofs only [↓qx, qq, ↓reduceIte, zA, zB, zC, zD, zE, zF, zG, zH, zI, zJ, zK, zL, zM, zN, zO, zP, zQ, rs13,  tab]
  refine SRun.conv (ConvF.ghost 2 (fun i => ePlace (([] : List Place).getD i dPlace))) ?_
  refine SRun.conv (ConvF.ghost 6 (fun i => eTrans (([] : List Trans).getD i dTrans))) ?_
  refine SRun.conv (ConvF.box (b := nx + 2) (cs := [.emp, .emp]) (Sub.refl _) (by simp -implicitDefEqProofs only [↓qx, qq, ↓reduceIte, zA, zB, zC, zD, zE, zF, zG, zH, zI, zJ, zK, zL, zM, zN, zO, zP, zQ, rs13]) (TnL.cons (Tn.empSl _ _ (nx + 3) 0) (TnL.cons (Tn.empSl _ _ (nx + 4) 0) TnL.nil))) ?_
  obtain ⟨I1, hI1⟩ : ∃ I : Nat → Fr → Store → Nat → Prop, I = fun μ fr st1 nx1 => ∃ k : Nat, k ≤ mkM d ∧ μ = mkM d - k ∧ fr 1 = .bp nx 0 ∧ fr 2 = .bp (nx+1) 0 ∧ fr 3 = .bp (nx + 2) 0 ∧ fr 4 = .int .i64 (k : Int) ∧ (st1 nx = some (.box (eDraft d))) ∧ (st1 (nx + 1) = some (.box [.emp, .emp])) ∧ (Sub st st1) ∧ (∃ b, nx + 3 ≤ b ∧ nx1 = b + 2 ∧ st1 (nx + 2) = some (.box [.sl b 0 k, .sl (b + 1) 0 0]) ∧ st1 b = some (rowL 2 ePlace dPlace ((List.range k).map (mkP d))) ∧ st1 (b + 1) = some (rowL 6 eTrans dTrans [])) := ⟨_, rfl⟩
  refine SRun.loopC I1 (mkM d - 0) (by subst hI1; refine ⟨0, by omega, rfl, ?_, ?_, ?_, ?_, by simp -implicitDefEqProofs only [↓qx, qq, ↓reduceIte, zA, zB, zC, zD, zE, zF, zG, zH, zI, zJ, zK, zL, zM, zN, zO, zP, zQ, rs13], by simp -implicitDefEqProofs only [↓qx, qq, ↓reduceIte, zA, zB, zC, zD, zE, zF, zG, zH, zI, zJ, zK, zL, zM, zN, zO, zP, zQ, rs13], (((((((Sub.refl st).new (hfin _ (by omega))).new (hfin _ (by omega))).new (hfin _ (by omega))).new (hfin _ (by omega))).new (hfin _ (by omega))).new (hfin _ (by omega))), ⟨nx+3, by omega, by omega, by simp -implicitDefEqProofs only [↓qx, qq, ↓reduceIte, zA, zB, zC, zD, zE, zF, zG, zH, zI, zJ, zK, zL, zM, zN, zO, zP, zQ, rs13], by simp -implicitDefEqProofs only [↓qx, qq, ↓reduceIte, zA, zB, zC, zD, zE, zF, zG, zH, zI, zJ, zK, zL, zM, zN, zO, zP, zQ, rs13, rowL, List.range_zero], by simp -implicitDefEqProofs only [↓qx, qq, ↓reduceIte, zA, zB, zC, zD, zE, zF, zG, zH, zI, zJ, zK, zL, zM, zN, zO, zP, zQ, rs13, rowL]⟩⟩ <;> first | done | (simp -implicitDefEqProofs only [↓qx, qq, ↓reduceIte, zA, zB, zC, zD, zE, zF, zG, zH, zI, zJ, zK, zL, zM, zN, zO, zP, zQ, rs13, Int.natCast_zero, tab]; first | done | rfl)) ?_
  intro μ fr st1 nx1 hIn
  have hIn' := hIn
  rw [hI1] at hIn'
  obtain ⟨k, hk, hμ, h1, h2, h3, h4, hb, hr, hsub, hrow⟩ := hIn'
  obtain ⟨b, hb3, rfl, hm, hpl, htr⟩ := hrow
  have lt_0 : nx < b ∧ nx + 1 < b ∧ nx + 2 < b := by and_intros <;> omega
  
  refine SRun.run 100 ?_; simp -implicitDefEqProofs only [↓qx, qq, ↓reduceIte, zA, zB, zC, zD, zE, zF, zG, zH, zI, zJ, zK, zL, zM, zN, zO, zP, zQ, rs13, h1, h2, h3, h4, lt_0, hb, hr, hm, hpl, htr, rowL, hM,  tab]
  refine ⟨fun hlt => ⟨fun hin => ?_, fun hout => ?_⟩, fun hge => ?_⟩
  · refine ⟨by omega, hin, by simp, by omega, by omega, ?_⟩
    have htk : tokK d k = IntKind.i64.wrap ((d.tokens.getD k 0).tmod 5) := by rw [tokK, if_pos (by omega)]
    (try rw [wrap_succ (n := mkM d) (by omega) (by omega)])
    rw [hI1]
    refine ⟨_, _, _, (ConvF.push (id := b + 4) (sz := 2) (n := k) (enc := ePlace) (d := dPlace) (l := (List.range k).map (mkP d)) (mkP d k) (by simp -implicitDefEqProofs only [↓qx, qq, ↓reduceIte, zA, zB, zC, zD, zE, zF, zG, zH, zI, zJ, zK, zL, zM, zN, zO, zP, zQ, rs13, h1, h2, h3, h4, lt_0, hb, hr, hm, hpl, htr, rowL, hM]; rfl) (by simp) (by simp only [mkP, htk]; rfl)).trans ((ConvF.tag (b + 4) [nx + 2]).trans (ConvF.tag (b + 1) [nx + 2])), ?_⟩
    refine ⟨mkM d - (k + 1), by omega, k + 1, by omega, rfl, ?_, ?_, ?_, ?_, ?_, ?_, (by repeat first | exact hsub | refine sN hfin ?_ (by omega) | refine sD hfin ?_ (by omega) | refine sT hfin ?_ (by omega) (by omega) (by simp only [tgl, and_true] <;> omega)), ⟨b + 5, by omega, by omega, by simp -implicitDefEqProofs only [↓qx, qq, ↓reduceIte, zA, zB, zC, zD, zE, zF, zG, zH, zI, zJ, zK, zL, zM, zN, zO, zP, zQ, rs13, h1, h2, h3, h4, lt_0, hb, hr, hm, hpl, htr, rowL, hM], by rw [range_snoc]; simp -implicitDefEqProofs only [↓qx, qq, ↓reduceIte, zA, zB, zC, zD, zE, zF, zG, zH, zI, zJ, zK, zL, zM, zN, zO, zP, zQ, rs13, h1, h2, h3, h4, lt_0, hb, hr, hm, hpl, htr, rowL, hM], by simp -implicitDefEqProofs only [↓qx, qq, ↓reduceIte, zA, zB, zC, zD, zE, zF, zG, zH, zI, zJ, zK, zL, zM, zN, zO, zP, zQ, rs13, h1, h2, h3, h4, lt_0, hb, hr, hm, hpl, htr, rowL, hM]⟩⟩ <;> first | done | (simp -implicitDefEqProofs only [↓qx, qq, ↓reduceIte, zA, zB, zC, zD, zE, zF, zG, zH, zI, zJ, zK, zL, zM, zN, zO, zP, zQ, rs13, h1, h2, h3, h4, lt_0, hb, hr, hm, hpl, htr, rowL, hM]; first | done | rfl)
  · refine ⟨by simp, by omega, by omega, ?_⟩
    have htk : tokK d k = 0 := by rw [tokK, if_neg (by omega)]
    (try rw [wrap_succ (n := mkM d) (by omega) (by omega)])
    rw [hI1]
    refine ⟨_, _, _, (ConvF.push (id := b + 4) (sz := 2) (n := k) (enc := ePlace) (d := dPlace) (l := (List.range k).map (mkP d)) (mkP d k) (by simp -implicitDefEqProofs only [↓qx, qq, ↓reduceIte, zA, zB, zC, zD, zE, zF, zG, zH, zI, zJ, zK, zL, zM, zN, zO, zP, zQ, rs13, h1, h2, h3, h4, lt_0, hb, hr, hm, hpl, htr, rowL, hM]; rfl) (by simp) (by simp only [mkP, htk]; rfl)).trans ((ConvF.tag (b + 4) [nx + 2]).trans (ConvF.tag (b + 1) [nx + 2])), ?_⟩
    refine ⟨mkM d - (k + 1), by omega, k + 1, by omega, rfl, ?_, ?_, ?_, ?_, ?_, ?_, (by repeat first | exact hsub | refine sN hfin ?_ (by omega) | refine sD hfin ?_ (by omega) | refine sT hfin ?_ (by omega) (by omega) (by simp only [tgl, and_true] <;> omega)), ⟨b + 5, by omega, by omega, by simp -implicitDefEqProofs only [↓qx, qq, ↓reduceIte, zA, zB, zC, zD, zE, zF, zG, zH, zI, zJ, zK, zL, zM, zN, zO, zP, zQ, rs13, h1, h2, h3, h4, lt_0, hb, hr, hm, hpl, htr, rowL, hM], by rw [range_snoc]; simp -implicitDefEqProofs only [↓qx, qq, ↓reduceIte, zA, zB, zC, zD, zE, zF, zG, zH, zI, zJ, zK, zL, zM, zN, zO, zP, zQ, rs13, h1, h2, h3, h4, lt_0, hb, hr, hm, hpl, htr, rowL, hM], by simp -implicitDefEqProofs only [↓qx, qq, ↓reduceIte, zA, zB, zC, zD, zE, zF, zG, zH, zI, zJ, zK, zL, zM, zN, zO, zP, zQ, rs13, h1, h2, h3, h4, lt_0, hb, hr, hm, hpl, htr, rowL, hM]⟩⟩ <;> first | done | (simp -implicitDefEqProofs only [↓qx, qq, ↓reduceIte, zA, zB, zC, zD, zE, zF, zG, zH, zI, zJ, zK, zL, zM, zN, zO, zP, zQ, rs13, h1, h2, h3, h4, lt_0, hb, hr, hm, hpl, htr, rowL, hM]; first | done | rfl)
  · have hkM : k = mkM d := by omega
    subst hkM
    refine SRun.conv (ConvF.ghost 2 (fun i => eArc (([] : List Arc).getD i dArc))) ?_
    refine SRun.conv (ConvF.rowE (id := b + 1) (sz := 6) (n := 0) (f' := qRow d q (b + 2) 0) (by simp -implicitDefEqProofs only [↓qx, qq, ↓reduceIte, zA, zB, zC, zD, zE, zF, zG, zH, zI, zJ, zK, zL, zM, zN, zO, zP, zQ, rs13, h1, h2, h3, h4, lt_0, hb, hr, hm, hpl, htr, rowL, hM]; rfl) (fun i hi => absurd hi (by omega))) ?_
    refine SRun.conv (ConvF.tag (b + 1) [nx + 2]) ?_
    obtain ⟨I2, hI2⟩ : ∃ I : Nat → Fr → Store → Nat → Prop, I = fun μ fr st1 nx1 => ∃ j : Nat, j ≤ min d.acts.length 9 ∧ μ = min d.acts.length 9 - j ∧ fr 1 = .bp nx 0 ∧ fr 2 = .bp (nx+1) 0 ∧ fr 3 = .bp (nx + 2) 0 ∧ fr 6 = .int .i64 (mkM d : Nat) ∧ fr 7 = .int .i64 (j : Int) ∧ (st1 nx = some (.box (eDraft d))) ∧ (st1 (nx + 1) = some (.box [.emp, .emp])) ∧ (Sub st st1) ∧ (∃ P T I, nx + 3 ≤ P ∧ P < I ∧ I < T ∧ nx1 = T + 1 ∧ st1 (nx + 2) = some (.box [.sl P 0 (mkM d), .sl T 0 j]) ∧ st1 P = some (rowL 2 ePlace dPlace ((List.range (mkM d)).map (mkP d))) ∧ st1 T = some (.row 6 j (qRow d q I j)) ∧ st1 I = some (.row 2 (qInn d q j).length (fun i => eArc ((qInn d q j).getD i dArc)))) := ⟨_, rfl⟩
    refine SRun.loopC I2 (min d.acts.length 9 - 0) (by subst hI2; refine ⟨0, by omega, rfl, ?_, ?_, ?_, ?_, ?_, by simp -implicitDefEqProofs only [↓qx, qq, ↓reduceIte, zA, zB, zC, zD, zE, zF, zG, zH, zI, zJ, zK, zL, zM, zN, zO, zP, zQ, rs13, h1, h2, h3, h4, lt_0, hb, hr, hm, hpl, htr, rowL, hM], by simp -implicitDefEqProofs only [↓qx, qq, ↓reduceIte, zA, zB, zC, zD, zE, zF, zG, zH, zI, zJ, zK, zL, zM, zN, zO, zP, zQ, rs13, h1, h2, h3, h4, lt_0, hb, hr, hm, hpl, htr, rowL, hM], (by repeat first | exact hsub | refine sN hfin ?_ (by omega) | refine sD hfin ?_ (by omega) | refine sT hfin ?_ (by omega) (by omega) (by simp only [tgl, and_true] <;> omega)), ⟨b, b + 3, b + 2, by omega, by omega, by omega, by omega, by simp -implicitDefEqProofs only [↓qx, qq, ↓reduceIte, zA, zB, zC, zD, zE, zF, zG, zH, zI, zJ, zK, zL, zM, zN, zO, zP, zQ, rs13, h1, h2, h3, h4, lt_0, hb, hr, hm, hpl, htr, rowL, hM], by simp -implicitDefEqProofs only [↓qx, qq, ↓reduceIte, zA, zB, zC, zD, zE, zF, zG, zH, zI, zJ, zK, zL, zM, zN, zO, zP, zQ, rs13, h1, h2, h3, h4, lt_0, hb, hr, hm, hpl, htr, rowL, hM], by simp -implicitDefEqProofs only [↓qx, qq, ↓reduceIte, zA, zB, zC, zD, zE, zF, zG, zH, zI, zJ, zK, zL, zM, zN, zO, zP, zQ, rs13, h1, h2, h3, h4, lt_0, hb, hr, hm, hpl, htr, rowL, hM], by simp -implicitDefEqProofs only [↓qx, qq, ↓reduceIte, zA, zB, zC, zD, zE, zF, zG, zH, zI, zJ, zK, zL, zM, zN, zO, zP, zQ, rs13, h1, h2, h3, h4, lt_0, hb, hr, hm, hpl, htr, rowL, hM]; rfl⟩⟩ <;> first | done | (simp -implicitDefEqProofs only [↓qx, qq, ↓reduceIte, zA, zB, zC, zD, zE, zF, zG, zH, zI, zJ, zK, zL, zM, zN, zO, zP, zQ, rs13, h1, h2, h3, h4, lt_0, hb, hr, hm, hpl, htr, rowL, hM, Int.natCast_zero, tab]; first | done | rfl)) ?_
    intro μ fr st1 nx1 hIn
    have hIn' := hIn
    rw [hI2] at hIn'
    obtain ⟨j, hk, hμ, h1, h2, h3, h6, h7, hb, hr, hsub, hrow⟩ := hIn'
    obtain ⟨P, T, I, hP, hPI, hIT, hn1, hm, hpl, htr, hI⟩ := hrow
    have hT : P < T := by omega
    obtain ⟨c, hc⟩ : ∃ c, c = nx1 := ⟨_, rfl⟩
    rw [← hc] at hn1
    have lc0 : nx < c := by omega
    have lc1 : nx + 1 < c := by omega
    have lc2 : nx + 2 < c := by omega
    have lc3 : P < c := by omega
    have lc4 : T < c := by omega
    have lc5 : nx + 2 < T := by omega
    have lc6 : nx + 1 < T := by omega
    have lc7 : nx < T := by omega
    have lc8 : nx + 1 < P := by omega
    have lc9 : nx + 2 < P := by omega
    have lca : nx < P := by omega
    have ld0 : nx < I := by omega
    have ld1 : nx + 1 < I := by omega
    have ld2 : nx + 2 < I := by omega
    have ld3 : I < c := by omega
    rw [← hc]
    
    refine SRun.run 100 ?_; simp -implicitDefEqProofs only [↓qx, qq, ↓reduceIte, zA, zB, zC, zD, zE, zF, zG, zH, zI, zJ, zK, zL, zM, zN, zO, zP, zQ, rs13, h1, h2, h3, h6, h7, hb, hr, hm, hpl, htr, hI, ld0, ld1, ld2, ld3, hPI, hIT, rowL, lc0, lc1, lc2, lc3, lc4, lc5, lc6, lc7, hT, lc8, lc9, lca,  tab]
    
    refine ⟨fun hlt1 => ⟨fun hlt9 => ?_, fun hge9 => ?_⟩, fun hge => ?_⟩
    · refine ⟨by omega, hlt1, by simp -implicitDefEqProofs only [↓qx, qq, ↓reduceIte, zA, zB, zC, zD, zE, zF, zG, zH, zI, zJ, zK, zL, zM, zN, zO, zP, zQ, rs13, h1, h2, h3, h6, h7, hb, hr, hm, hpl, htr, hI, ld0, ld1, ld2, ld3, hPI, hIT, rowL, lc0, lc1, lc2, lc3, lc4, lc5, lc6, lc7, hT, lc8, lc9, lca, ByteArray.size_append], ?_⟩
      refine SRun.conv (ConvF.ghost 2 (fun i => eArc (([] : List Arc).getD i dArc))) ?_
      refine SRun.conv (ConvF.ghost 2 (fun i => eArc (([] : List Arc).getD i dArc))) ?_
      refine SRun.conv (ConvF.ghost 2 (fun i => eArc (([] : List Arc).getD i dArc))) ?_
      refine SRun.conv (ConvF.box (b := c + 2) (Sub.refl _) (by simp -implicitDefEqProofs only [↓qx, qq, ↓reduceIte, zA, zB, zC, zD, zE, zF, zG, zH, zI, zJ, zK, zL, zM, zN, zO, zP, zQ, rs13, h1, h2, h3, h6, h7, hb, hr, hm, hpl, htr, hI, ld0, ld1, ld2, ld3, hPI, hIT, rowL, lc0, lc1, lc2, lc3, lc4, lc5, lc6, lc7, hT, lc8, lc9, lca]; rfl) (TnL.cons (Tn.same (Sub.refl _) _) (TnL.cons (Tn.same (Sub.refl _) _) (TnL.cons (Tn.same (Sub.refl _) _) (TnL.cons (Tn.empSl _ _ (c + 3) 0) (TnL.cons (Tn.empSl _ _ (c + 4) 0) (TnL.cons (Tn.empSl _ _ (c + 5) 0) TnL.nil))))))) ?_
      obtain ⟨x, hx⟩ : ∃ x, x = gA d j := ⟨_, rfl⟩
      have hM0 : ¬ ((mkM d : Int) = 0) := by omega
      refine SRun.gen (fun fr st1 nx1 => fr 1 = .bp nx 0 ∧ fr 2 = .bp (nx+1) 0 ∧ fr 3 = .bp (nx + 2) 0 ∧ fr 6 = .int .i64 (mkM d : Nat) ∧ fr 7 = .int .i64 (j : Int) ∧ fr 8 = .bp c 0 ∧ fr 9 = .bp (c + 2) 0 ∧ (st1 nx = some (.box (eDraft d))) ∧ (st1 (nx + 1) = some (.box [.emp, .emp])) ∧ (Sub st st1) ∧ (st1 (nx + 2) = some (.box [.sl P 0 (mkM d), .sl T 0 j])) ∧ (st1 P = some (rowL 2 ePlace dPlace ((List.range (mkM d)).map (mkP d)))) ∧ (st1 T = some (.row 6 j (qRow d q I j))) ∧ (st1 I = some (.row 2 (qInn d q j).length (fun i => eArc ((qInn d q j).getD i dArc)))) ∧ (st1 c = some (.box (eAct x))) ∧ (∃ e, c + 3 ≤ e ∧ nx1 = e + 3 ∧ st1 (c + 2) = some (.box [.str (trName j), .int .i64 (tDel0 x), .int .i64 (tPrio x), .sl e 0 (([] : List Arc)).length, .sl (e + 1) 0 (([] : List Arc)).length, .sl (e + 2) 0 (([] : List Arc)).length]) ∧ st1 e = some (rArcs (([] : List Arc))) ∧ st1 (e + 1) = some (rArcs (([] : List Arc))) ∧ st1 (e + 2) = some (rArcs (([] : List Arc))))) (by refine ⟨_, _, _, ConvF.refl _ _ _, ?_⟩; refine ⟨?_, ?_, ?_, ?_, ?_, ?_, ?_, ?_, ?_, (by repeat first | exact hsub | refine sN hfin ?_ (by omega) | refine sD hfin ?_ (by omega) | refine sT hfin ?_ (by omega) (by omega) (by simp only [tgl, and_true] <;> omega)), ?_, ?_, ?_, ?_, by rw [hx, gA]; simp -implicitDefEqProofs only [↓qx, qq, ↓reduceIte, zA, zB, zC, zD, zE, zF, zG, zH, zI, zJ, zK, zL, zM, zN, zO, zP, zQ, rs13, h1, h2, h3, h6, h7, hb, hr, hm, hpl, htr, hI, ld0, ld1, ld2, ld3, hPI, hIT, rowL, lc0, lc1, lc2, lc3, lc4, lc5, lc6, lc7, hT, lc8, lc9, lca], ⟨c + 3, by omega, by omega, by rw [hx, gA]; simp -implicitDefEqProofs only [↓qx, qq, ↓reduceIte, zA, zB, zC, zD, zE, zF, zG, zH, zI, zJ, zK, zL, zM, zN, zO, zP, zQ, rs13, h1, h2, h3, h6, h7, hb, hr, hm, hpl, htr, hI, ld0, ld1, ld2, ld3, hPI, hIT, rowL, lc0, lc1, lc2, lc3, lc4, lc5, lc6, lc7, hT, lc8, lc9, lca, trName, tDel0, tPrio], by simp -implicitDefEqProofs only [↓qx, qq, ↓reduceIte, zA, zB, zC, zD, zE, zF, zG, zH, zI, zJ, zK, zL, zM, zN, zO, zP, zQ, rs13, h1, h2, h3, h6, h7, hb, hr, hm, hpl, htr, hI, ld0, ld1, ld2, ld3, hPI, hIT, rowL, lc0, lc1, lc2, lc3, lc4, lc5, lc6, lc7, hT, lc8, lc9, lca], by simp -implicitDefEqProofs only [↓qx, qq, ↓reduceIte, zA, zB, zC, zD, zE, zF, zG, zH, zI, zJ, zK, zL, zM, zN, zO, zP, zQ, rs13, h1, h2, h3, h6, h7, hb, hr, hm, hpl, htr, hI, ld0, ld1, ld2, ld3, hPI, hIT, rowL, lc0, lc1, lc2, lc3, lc4, lc5, lc6, lc7, hT, lc8, lc9, lca], by simp -implicitDefEqProofs only [↓qx, qq, ↓reduceIte, zA, zB, zC, zD, zE, zF, zG, zH, zI, zJ, zK, zL, zM, zN, zO, zP, zQ, rs13, h1, h2, h3, h6, h7, hb, hr, hm, hpl, htr, hI, ld0, ld1, ld2, ld3, hPI, hIT, rowL, lc0, lc1, lc2, lc3, lc4, lc5, lc6, lc7, hT, lc8, lc9, lca]⟩⟩ <;> first | done | (simp -implicitDefEqProofs only [↓qx, qq, ↓reduceIte, zA, zB, zC, zD, zE, zF, zG, zH, zI, zJ, zK, zL, zM, zN, zO, zP, zQ, rs13, h1, h2, h3, h6, h7, hb, hr, hm, hpl, htr, hI, ld0, ld1, ld2, ld3, hPI, hIT, rowL, lc0, lc1, lc2, lc3, lc4, lc5, lc6, lc7, hT, lc8, lc9, lca]; first | done | rfl)) ?_
      intro fr st1 nx1 hJ
      obtain ⟨h1, h2, h3, h6, h7, h8, h9, hb, hr, hsub, hm, hpl, htr, hI, hact, hS⟩ := hJ
      obtain ⟨e, he, rfl, ht, hra, hrb, hrc⟩ := hS
      have lt_3 : nx < e ∧ nx + 1 < e ∧ nx + 2 < e ∧ P < e ∧ T < e ∧ I < e ∧ c < e ∧ c + 1 < e ∧ c + 2 < e := by and_intros <;> omega
      
      refine SRun.draw' (.quiet 0 false (.quiet 1 false (.quiet 2 false (.quiet 3 false (.quiet 4 false (.quiet 5 false (.quiet 6 false (.quiet 7 false (.quiet 8 false (.quiet 9 false (.quiet 10 false (.quiet 11 false (.quiet 12 false (.heavy (.cons 13 [] (.quiet 14 false (.heavy (.cons 15 [] .done .nil))) .nil))))))))))))))) mixed (by kernel_rfl) ?_
      simp -implicitDefEqProofs only [↓qx, qq, ↓reduceIte, zA, zB, zC, zD, zE, zF, zG, zH, zI, zJ, zK, zL, zM, zN, zO, zP, zQ, rs13, h1, h2, h3, h6, h7, h8, h9, lt_3, lc0, lc1, lc2, lc3, lc4, lc5, lc6, lc7, hT, lc8, lc9, lca, ld0, ld1, ld2, ld3, hPI, hIT, hI, hb, hr, hm, hpl, htr, hact, ht, hra, hrb, hrc, rowL, tab]
      refine ⟨hM0, put_ok [] _ _ _ _ e _ hra (by simp) fun i g => ?_⟩
      have lt_12 : nx < i ∧ nx + 1 < i ∧ nx + 2 < i ∧ P < i ∧ T < i ∧ I < i ∧ c < i ∧ c + 2 < i ∧ e < i ∧ e + 1 < i ∧ e + 2 < i := by and_intros <;> omega
      unfold dwait
      simp -implicitDefEqProofs only [↓qx, qq, ↓reduceIte, zA, zB, zC, zD, zE, zF, zG, zH, zI, zJ, zK, zL, zM, zN, zO, zP, zQ, rs13, h1, h2, h3, h6, h7, h8, h9, lt_3, lc0, lc1, lc2, lc3, lc4, lc5, lc6, lc7, hT, lc8, lc9, lca, ld0, ld1, ld2, ld3, hPI, hIT, hI, hb, hr, hm, hpl, htr, hact, ht, hra, hrb, hrc, rowL, lt_12, tab]
      refine SRun.gen (fun fr st1 nx1 => fr 1 = .bp nx 0 ∧ fr 2 = .bp (nx+1) 0 ∧ fr 3 = .bp (nx + 2) 0 ∧ fr 6 = .int .i64 (mkM d : Nat) ∧ fr 7 = .int .i64 (j : Int) ∧ fr 8 = .bp c 0 ∧ fr 9 = .bp (c + 2) 0 ∧ (st1 nx = some (.box (eDraft d))) ∧ (st1 (nx + 1) = some (.box [.emp, .emp])) ∧ (Sub st st1) ∧ (st1 (nx + 2) = some (.box [.sl P 0 (mkM d), .sl T 0 j])) ∧ (st1 P = some (rowL 2 ePlace dPlace ((List.range (mkM d)).map (mkP d)))) ∧ (st1 T = some (.row 6 j (qRow d q I j))) ∧ (st1 I = some (.row 2 (qInn d q j).length (fun i => eArc ((qInn d q j).getD i dArc)))) ∧ (st1 c = some (.box (eAct x))) ∧ (∃ e, c + 3 ≤ e ∧ nx1 = e + 3 ∧ st1 (c + 2) = some (.box [.str (trName j), .int .i64 (tDel0 x), .int .i64 (tPrio x), .sl e 0 (tIn1 (mkM d) x).length, .sl (e + 1) 0 (([] : List Arc)).length, .sl (e + 2) 0 (([] : List Arc)).length]) ∧ st1 e = some (rArcs (tIn1 (mkM d) x)) ∧ st1 (e + 1) = some (rArcs (([] : List Arc))) ∧ st1 (e + 2) = some (rArcs (([] : List Arc))))) (by refine ⟨_, _, _, (ConvF.tag (i) [c + 2]).trans ((ConvF.tag (e + 1) [c + 2]).trans (ConvF.tag (e + 2) [c + 2])), ?_⟩; refine ⟨?_, ?_, ?_, ?_, ?_, ?_, ?_, ?_, ?_, (by repeat first | exact hsub | refine sN hfin ?_ (by omega) | refine sD hfin ?_ (by omega) | refine sT hfin ?_ (by omega) (by omega) (by simp only [tgl, and_true] <;> omega)), ?_, ?_, ?_, ?_, ?_, ⟨i + 1, by omega, by omega, by simp -implicitDefEqProofs only [↓qx, qq, ↓reduceIte, zA, zB, zC, zD, zE, zF, zG, zH, zI, zJ, zK, zL, zM, zN, zO, zP, zQ, rs13, h1, h2, h3, h6, h7, h8, h9, lt_3, lc0, lc1, lc2, lc3, lc4, lc5, lc6, lc7, hT, lc8, lc9, lca, ld0, ld1, ld2, ld3, hPI, hIT, hI, hb, hr, hm, hpl, htr, hact, ht, hra, hrb, hrc, rowL, lt_12, tIn1], by simp -implicitDefEqProofs only [↓qx, qq, ↓reduceIte, zA, zB, zC, zD, zE, zF, zG, zH, zI, zJ, zK, zL, zM, zN, zO, zP, zQ, rs13, h1, h2, h3, h6, h7, h8, h9, lt_3, lc0, lc1, lc2, lc3, lc4, lc5, lc6, lc7, hT, lc8, lc9, lca, ld0, ld1, ld2, ld3, hPI, hIT, hI, hb, hr, hm, hpl, htr, hact, ht, hra, hrb, hrc, rowL, lt_12, tIn1], by simp -implicitDefEqProofs only [↓qx, qq, ↓reduceIte, zA, zB, zC, zD, zE, zF, zG, zH, zI, zJ, zK, zL, zM, zN, zO, zP, zQ, rs13, h1, h2, h3, h6, h7, h8, h9, lt_3, lc0, lc1, lc2, lc3, lc4, lc5, lc6, lc7, hT, lc8, lc9, lca, ld0, ld1, ld2, ld3, hPI, hIT, hI, hb, hr, hm, hpl, htr, hact, ht, hra, hrb, hrc, rowL, lt_12], by simp -implicitDefEqProofs only [↓qx, qq, ↓reduceIte, zA, zB, zC, zD, zE, zF, zG, zH, zI, zJ, zK, zL, zM, zN, zO, zP, zQ, rs13, h1, h2, h3, h6, h7, h8, h9, lt_3, lc0, lc1, lc2, lc3, lc4, lc5, lc6, lc7, hT, lc8, lc9, lca, ld0, ld1, ld2, ld3, hPI, hIT, hI, hb, hr, hm, hpl, htr, hact, ht, hra, hrb, hrc, rowL, lt_12]⟩⟩ <;> first | done | (simp -implicitDefEqProofs only [↓qx, qq, ↓reduceIte, zA, zB, zC, zD, zE, zF, zG, zH, zI, zJ, zK, zL, zM, zN, zO, zP, zQ, rs13, h1, h2, h3, h6, h7, h8, h9, lt_3, lc0, lc1, lc2, lc3, lc4, lc5, lc6, lc7, hT, lc8, lc9, lca, ld0, ld1, ld2, ld3, hPI, hIT, hI, hb, hr, hm, hpl, htr, hact, ht, hra, hrb, hrc, rowL, lt_12]; first | done | rfl)) ?_
      intro fr st1 nx1 hJ
      obtain ⟨h1, h2, h3, h6, h7, h8, h9, hb, hr, hsub, hm, hpl, htr, hI, hact, hS⟩ := hJ
      obtain ⟨e, he, rfl, ht, hra, hrb, hrc⟩ := hS
      have lt_23 : nx < e ∧ nx + 1 < e ∧ nx + 2 < e ∧ P < e ∧ T < e ∧ I < e ∧ c < e ∧ c + 1 < e ∧ c + 2 < e := by and_intros <;> omega
      
      refine SRun.run 8 ?_; simp -implicitDefEqProofs only [↓qx, qq, ↓reduceIte, zA, zB, zC, zD, zE, zF, zG, zH, zI, zJ, zK, zL, zM, zN, zO, zP, zQ, rs13, h1, h2, h3, h6, h7, h8, h9, lt_23, lc0, lc1, lc2, lc3, lc4, lc5, lc6, lc7, hT, lc8, lc9, lca, ld0, ld1, ld2, ld3, hPI, hIT, hI, hb, hr, hm, hpl, htr, hact, ht, hra, hrb, hrc, rowL,  tab]
      obtain ⟨Q3, hQ3⟩ : ∃ Q : Fr → Store → Nat → Prop, Q = fun fr st1 nx1 => fr 1 = .bp nx 0 ∧ fr 2 = .bp (nx+1) 0 ∧ fr 3 = .bp (nx + 2) 0 ∧ fr 6 = .int .i64 (mkM d : Nat) ∧ fr 7 = .int .i64 (j : Int) ∧ fr 8 = .bp c 0 ∧ fr 9 = .bp (c + 2) 0 ∧ (st1 nx = some (.box (eDraft d))) ∧ (st1 (nx + 1) = some (.box [.emp, .emp])) ∧ (Sub st st1) ∧ (st1 (nx + 2) = some (.box [.sl P 0 (mkM d), .sl T 0 j])) ∧ (st1 P = some (rowL 2 ePlace dPlace ((List.range (mkM d)).map (mkP d)))) ∧ (st1 T = some (.row 6 j (qRow d q I j))) ∧ (st1 I = some (.row 2 (qInn d q j).length (fun i => eArc ((qInn d q j).getD i dArc)))) ∧ (st1 c = some (.box (eAct x))) ∧ (∃ e, c + 3 ≤ e ∧ nx1 = e + 3 ∧ st1 (c + 2) = some (.box [.str (trName j), .int .i64 (tDel0 x), .int .i64 (tPrio x), .sl e 0 (tIn (mkM d) x).length, .sl (e + 1) 0 (([] : List Arc)).length, .sl (e + 2) 0 (([] : List Arc)).length]) ∧ st1 e = some (rArcs (tIn (mkM d) x)) ∧ st1 (e + 1) = some (rArcs (([] : List Arc))) ∧ st1 (e + 2) = some (rArcs (([] : List Arc)))) := ⟨_, rfl⟩
      refine SRun.cutC Q3 ?_ ?_
      · refine SRun.run 1 ?_; simp -implicitDefEqProofs only [↓qx, qq, ↓reduceIte, zA, zB, zC, zD, zE, zF, zG, zH, zI, zJ, zK, zL, zM, zN, zO, zP, zQ, rs13, h1, h2, h3, h6, h7, h8, h9, lt_23, lc0, lc1, lc2, lc3, lc4, lc5, lc6, lc7, hT, lc8, lc9, lca, ld0, ld1, ld2, ld3, hPI, hIT, hI, hb, hr, hm, hpl, htr, hact, ht, hra, hrb, hrc, rowL,  tab]
        refine ⟨fun hy => ?_, fun hno => ?_⟩
        · 
          refine SRun.draw' (.quiet 0 false (.quiet 1 false (.quiet 2 false (.quiet 3 false (.quiet 4 false (.quiet 5 false (.quiet 6 false (.quiet 7 false (.heavy (.cons 8 [] (.quiet 9 false (.heavy (.cons 10 [] .done .nil))) .nil)))))))))) mixed (by kernel_rfl) ?_
          simp -implicitDefEqProofs only [↓qx, qq, ↓reduceIte, zA, zB, zC, zD, zE, zF, zG, zH, zI, zJ, zK, zL, zM, zN, zO, zP, zQ, rs13, h1, h2, h3, h6, h7, h8, h9, lt_23, lc0, lc1, lc2, lc3, lc4, lc5, lc6, lc7, hT, lc8, lc9, lca, ld0, ld1, ld2, ld3, hPI, hIT, hI, hb, hr, hm, hpl, htr, hact, ht, hra, hrb, hrc, rowL, tab]
          refine ⟨hM0, put_ok (tIn1 (mkM d) x) _ _ _ _ (e) _ hra (by have := tIn1_len (mkM d) x; omega) fun i g => ?_⟩
          have lt_32 : nx < i ∧ nx + 1 < i ∧ nx + 2 < i ∧ P < i ∧ T < i ∧ I < i ∧ c < i ∧ c + 2 < i ∧ e < i ∧ e + 1 < i ∧ e + 2 < i := by and_intros <;> omega
          unfold dwait
          simp -implicitDefEqProofs only [↓qx, qq, ↓reduceIte, zA, zB, zC, zD, zE, zF, zG, zH, zI, zJ, zK, zL, zM, zN, zO, zP, zQ, rs13, h1, h2, h3, h6, h7, h8, h9, lt_23, lc0, lc1, lc2, lc3, lc4, lc5, lc6, lc7, hT, lc8, lc9, lca, ld0, ld1, ld2, ld3, hPI, hIT, hI, hb, hr, hm, hpl, htr, hact, ht, hra, hrb, hrc, rowL, lt_32, tab]
          refine SRun.run 5 ?_; simp -implicitDefEqProofs only [↓qx, qq, ↓reduceIte, zA, zB, zC, zD, zE, zF, zG, zH, zI, zJ, zK, zL, zM, zN, zO, zP, zQ, rs13, h1, h2, h3, h6, h7, h8, h9, lt_23, lc0, lc1, lc2, lc3, lc4, lc5, lc6, lc7, hT, lc8, lc9, lca, ld0, ld1, ld2, ld3, hPI, hIT, hI, hb, hr, hm, hpl, htr, hact, ht, hra, hrb, hrc, rowL, lt_32,  tab]
          have hq : tIn (mkM d) x = putL (tIn1 (mkM d) x) _ _ := if_pos hy
          refine ⟨_, _, _, (ConvF.tag (i) [c + 2]).trans ((ConvF.tag (e + 1) [c + 2]).trans (ConvF.tag (e + 2) [c + 2])), ?_⟩
          rw [hQ3]
          refine ⟨?_, ?_, ?_, ?_, ?_, ?_, ?_, by simp -implicitDefEqProofs only [↓qx, qq, ↓reduceIte, zA, zB, zC, zD, zE, zF, zG, zH, zI, zJ, zK, zL, zM, zN, zO, zP, zQ, rs13, h1, h2, h3, h6, h7, h8, h9, lt_23, lc0, lc1, lc2, lc3, lc4, lc5, lc6, lc7, hT, lc8, lc9, lca, ld0, ld1, ld2, ld3, hPI, hIT, hI, hb, hr, hm, hpl, htr, hact, ht, hra, hrb, hrc, rowL, lt_32], by simp -implicitDefEqProofs only [↓qx, qq, ↓reduceIte, zA, zB, zC, zD, zE, zF, zG, zH, zI, zJ, zK, zL, zM, zN, zO, zP, zQ, rs13, h1, h2, h3, h6, h7, h8, h9, lt_23, lc0, lc1, lc2, lc3, lc4, lc5, lc6, lc7, hT, lc8, lc9, lca, ld0, ld1, ld2, ld3, hPI, hIT, hI, hb, hr, hm, hpl, htr, hact, ht, hra, hrb, hrc, rowL, lt_32], (by repeat first | exact hsub | refine sN hfin ?_ (by omega) | refine sD hfin ?_ (by omega) | refine sT hfin ?_ (by omega) (by omega) (by simp only [tgl, and_true] <;> omega)), by simp -implicitDefEqProofs only [↓qx, qq, ↓reduceIte, zA, zB, zC, zD, zE, zF, zG, zH, zI, zJ, zK, zL, zM, zN, zO, zP, zQ, rs13, h1, h2, h3, h6, h7, h8, h9, lt_23, lc0, lc1, lc2, lc3, lc4, lc5, lc6, lc7, hT, lc8, lc9, lca, ld0, ld1, ld2, ld3, hPI, hIT, hI, hb, hr, hm, hpl, htr, hact, ht, hra, hrb, hrc, rowL, lt_32], by simp -implicitDefEqProofs only [↓qx, qq, ↓reduceIte, zA, zB, zC, zD, zE, zF, zG, zH, zI, zJ, zK, zL, zM, zN, zO, zP, zQ, rs13, h1, h2, h3, h6, h7, h8, h9, lt_23, lc0, lc1, lc2, lc3, lc4, lc5, lc6, lc7, hT, lc8, lc9, lca, ld0, ld1, ld2, ld3, hPI, hIT, hI, hb, hr, hm, hpl, htr, hact, ht, hra, hrb, hrc, rowL, lt_32], by simp -implicitDefEqProofs only [↓qx, qq, ↓reduceIte, zA, zB, zC, zD, zE, zF, zG, zH, zI, zJ, zK, zL, zM, zN, zO, zP, zQ, rs13, h1, h2, h3, h6, h7, h8, h9, lt_23, lc0, lc1, lc2, lc3, lc4, lc5, lc6, lc7, hT, lc8, lc9, lca, ld0, ld1, ld2, ld3, hPI, hIT, hI, hb, hr, hm, hpl, htr, hact, ht, hra, hrb, hrc, rowL, lt_32], by simp -implicitDefEqProofs only [↓qx, qq, ↓reduceIte, zA, zB, zC, zD, zE, zF, zG, zH, zI, zJ, zK, zL, zM, zN, zO, zP, zQ, rs13, h1, h2, h3, h6, h7, h8, h9, lt_23, lc0, lc1, lc2, lc3, lc4, lc5, lc6, lc7, hT, lc8, lc9, lca, ld0, ld1, ld2, ld3, hPI, hIT, hI, hb, hr, hm, hpl, htr, hact, ht, hra, hrb, hrc, rowL, lt_32], by simp -implicitDefEqProofs only [↓qx, qq, ↓reduceIte, zA, zB, zC, zD, zE, zF, zG, zH, zI, zJ, zK, zL, zM, zN, zO, zP, zQ, rs13, h1, h2, h3, h6, h7, h8, h9, lt_23, lc0, lc1, lc2, lc3, lc4, lc5, lc6, lc7, hT, lc8, lc9, lca, ld0, ld1, ld2, ld3, hPI, hIT, hI, hb, hr, hm, hpl, htr, hact, ht, hra, hrb, hrc, rowL, lt_32], ⟨i + 1, by omega, by omega, by simp -implicitDefEqProofs only [↓qx, qq, ↓reduceIte, zA, zB, zC, zD, zE, zF, zG, zH, zI, zJ, zK, zL, zM, zN, zO, zP, zQ, rs13, h1, h2, h3, h6, h7, h8, h9, lt_23, lc0, lc1, lc2, lc3, lc4, lc5, lc6, lc7, hT, lc8, lc9, lca, ld0, ld1, ld2, ld3, hPI, hIT, hI, hb, hr, hm, hpl, htr, hact, ht, hra, hrb, hrc, rowL, lt_32, hq], by simp -implicitDefEqProofs only [↓qx, qq, ↓reduceIte, zA, zB, zC, zD, zE, zF, zG, zH, zI, zJ, zK, zL, zM, zN, zO, zP, zQ, rs13, h1, h2, h3, h6, h7, h8, h9, lt_23, lc0, lc1, lc2, lc3, lc4, lc5, lc6, lc7, hT, lc8, lc9, lca, ld0, ld1, ld2, ld3, hPI, hIT, hI, hb, hr, hm, hpl, htr, hact, ht, hra, hrb, hrc, rowL, lt_32, hq], by simp -implicitDefEqProofs only [↓qx, qq, ↓reduceIte, zA, zB, zC, zD, zE, zF, zG, zH, zI, zJ, zK, zL, zM, zN, zO, zP, zQ, rs13, h1, h2, h3, h6, h7, h8, h9, lt_23, lc0, lc1, lc2, lc3, lc4, lc5, lc6, lc7, hT, lc8, lc9, lca, ld0, ld1, ld2, ld3, hPI, hIT, hI, hb, hr, hm, hpl, htr, hact, ht, hra, hrb, hrc, rowL, lt_32, hq], by simp -implicitDefEqProofs only [↓qx, qq, ↓reduceIte, zA, zB, zC, zD, zE, zF, zG, zH, zI, zJ, zK, zL, zM, zN, zO, zP, zQ, rs13, h1, h2, h3, h6, h7, h8, h9, lt_23, lc0, lc1, lc2, lc3, lc4, lc5, lc6, lc7, hT, lc8, lc9, lca, ld0, ld1, ld2, ld3, hPI, hIT, hI, hb, hr, hm, hpl, htr, hact, ht, hra, hrb, hrc, rowL, lt_32, hq]⟩⟩ <;> first | done | (simp -implicitDefEqProofs only [↓qx, qq, ↓reduceIte, zA, zB, zC, zD, zE, zF, zG, zH, zI, zJ, zK, zL, zM, zN, zO, zP, zQ, rs13, h1, h2, h3, h6, h7, h8, h9, lt_23, lc0, lc1, lc2, lc3, lc4, lc5, lc6, lc7, hT, lc8, lc9, lca, ld0, ld1, ld2, ld3, hPI, hIT, hI, hb, hr, hm, hpl, htr, hact, ht, hra, hrb, hrc, rowL, lt_32, hq]; first | done | rfl)
        · 
          refine SRun.run 5 ?_; simp -implicitDefEqProofs only [↓qx, qq, ↓reduceIte, zA, zB, zC, zD, zE, zF, zG, zH, zI, zJ, zK, zL, zM, zN, zO, zP, zQ, rs13, h1, h2, h3, h6, h7, h8, h9, lt_23, lc0, lc1, lc2, lc3, lc4, lc5, lc6, lc7, hT, lc8, lc9, lca, ld0, ld1, ld2, ld3, hPI, hIT, hI, hb, hr, hm, hpl, htr, hact, ht, hra, hrb, hrc, rowL,  tab]
          have hq : tIn (mkM d) x = tIn1 (mkM d) x := if_neg hno
          refine ⟨_, _, _, ConvF.refl _ _ _, ?_⟩
          rw [hQ3]
          refine ⟨?_, ?_, ?_, ?_, ?_, ?_, ?_, hb, hr, hsub, hm, hpl, htr, hI, hact, ⟨e, by omega, rfl, by rw [hq]; exact ht, by (try rw [hq]); exact hra, by (try rw [hq]); exact hrb, by (try rw [hq]); exact hrc⟩⟩ <;> first | done | (simp -implicitDefEqProofs only [↓qx, qq, ↓reduceIte, zA, zB, zC, zD, zE, zF, zG, zH, zI, zJ, zK, zL, zM, zN, zO, zP, zQ, rs13, h1, h2, h3, h6, h7, h8, h9, lt_23, lc0, lc1, lc2, lc3, lc4, lc5, lc6, lc7, hT, lc8, lc9, lca, ld0, ld1, ld2, ld3, hPI, hIT, hI, hb, hr, hm, hpl, htr, hact, ht, hra, hrb, hrc, rowL]; first | done | rfl)
      intro fr st1 nx1 hJ
      rw [hQ3] at hJ
      obtain ⟨h1, h2, h3, h6, h7, h8, h9, hb, hr, hsub, hm, hpl, htr, hI, hact, hS⟩ := hJ
      obtain ⟨e, he, rfl, ht, hra, hrb, hrc⟩ := hS
      have lt_43 : nx < e ∧ nx + 1 < e ∧ nx + 2 < e ∧ P < e ∧ T < e ∧ I < e ∧ c < e ∧ c + 1 < e ∧ c + 2 < e := by and_intros <;> omega
      
      refine SRun.run 8 ?_; simp -implicitDefEqProofs only [↓qx, qq, ↓reduceIte, zA, zB, zC, zD, zE, zF, zG, zH, zI, zJ, zK, zL, zM, zN, zO, zP, zQ, rs13, h1, h2, h3, h6, h7, h8, h9, lt_43, lc0, lc1, lc2, lc3, lc4, lc5, lc6, lc7, hT, lc8, lc9, lca, ld0, ld1, ld2, ld3, hPI, hIT, hI, hb, hr, hm, hpl, htr, hact, ht, hra, hrb, hrc, rowL,  tab]
      obtain ⟨Q4, hQ4⟩ : ∃ Q : Fr → Store → Nat → Prop, Q = fun fr st1 nx1 => fr 1 = .bp nx 0 ∧ fr 2 = .bp (nx+1) 0 ∧ fr 3 = .bp (nx + 2) 0 ∧ fr 6 = .int .i64 (mkM d : Nat) ∧ fr 7 = .int .i64 (j : Int) ∧ fr 8 = .bp c 0 ∧ fr 9 = .bp (c + 2) 0 ∧ (st1 nx = some (.box (eDraft d))) ∧ (st1 (nx + 1) = some (.box [.emp, .emp])) ∧ (Sub st st1) ∧ (st1 (nx + 2) = some (.box [.sl P 0 (mkM d), .sl T 0 j])) ∧ (st1 P = some (rowL 2 ePlace dPlace ((List.range (mkM d)).map (mkP d)))) ∧ (st1 T = some (.row 6 j (qRow d q I j))) ∧ (st1 I = some (.row 2 (qInn d q j).length (fun i => eArc ((qInn d q j).getD i dArc)))) ∧ (st1 c = some (.box (eAct x))) ∧ (∃ e, c + 3 ≤ e ∧ nx1 = e + 3 ∧ st1 (c + 2) = some (.box [.str (trName j), .int .i64 (tDel0 x), .int .i64 (tPrio x), .sl e 0 (tIn (mkM d) x).length, .sl (e + 1) 0 (tNot (mkM d) x).length, .sl (e + 2) 0 (([] : List Arc)).length]) ∧ st1 e = some (rArcs (tIn (mkM d) x)) ∧ st1 (e + 1) = some (rArcs (tNot (mkM d) x)) ∧ st1 (e + 2) = some (rArcs (([] : List Arc)))) := ⟨_, rfl⟩
      refine SRun.cutC Q4 ?_ ?_
      · refine SRun.run 1 ?_; simp -implicitDefEqProofs only [↓qx, qq, ↓reduceIte, zA, zB, zC, zD, zE, zF, zG, zH, zI, zJ, zK, zL, zM, zN, zO, zP, zQ, rs13, h1, h2, h3, h6, h7, h8, h9, lt_43, lc0, lc1, lc2, lc3, lc4, lc5, lc6, lc7, hT, lc8, lc9, lca, ld0, ld1, ld2, ld3, hPI, hIT, hI, hb, hr, hm, hpl, htr, hact, ht, hra, hrb, hrc, rowL,  tab]
        refine ⟨fun hy => ?_, fun hno => ?_⟩
        · 
          refine SRun.draw' (.quiet 0 false (.quiet 1 false (.quiet 2 false (.quiet 3 false (.quiet 4 false (.quiet 5 false (.quiet 6 false (.quiet 7 false (.quiet 8 false (.quiet 9 false (.quiet 10 false (.quiet 11 false (.quiet 12 false (.heavy (.cons 13 [] (.quiet 14 false (.heavy (.cons 15 [] .done .nil))) .nil))))))))))))))) mixed (by kernel_rfl) ?_
          simp -implicitDefEqProofs only [↓qx, qq, ↓reduceIte, zA, zB, zC, zD, zE, zF, zG, zH, zI, zJ, zK, zL, zM, zN, zO, zP, zQ, rs13, h1, h2, h3, h6, h7, h8, h9, lt_43, lc0, lc1, lc2, lc3, lc4, lc5, lc6, lc7, hT, lc8, lc9, lca, ld0, ld1, ld2, ld3, hPI, hIT, hI, hb, hr, hm, hpl, htr, hact, ht, hra, hrb, hrc, rowL, tab]
          refine ⟨hM0, put_ok (([] : List Arc)) _ _ _ _ (e + 1) _ hrb (by simp) fun i g => ?_⟩
          have lt_52 : nx < i ∧ nx + 1 < i ∧ nx + 2 < i ∧ P < i ∧ T < i ∧ I < i ∧ c < i ∧ c + 2 < i ∧ e < i ∧ e + 1 < i ∧ e + 2 < i := by and_intros <;> omega
          unfold dwait
          simp -implicitDefEqProofs only [↓qx, qq, ↓reduceIte, zA, zB, zC, zD, zE, zF, zG, zH, zI, zJ, zK, zL, zM, zN, zO, zP, zQ, rs13, h1, h2, h3, h6, h7, h8, h9, lt_43, lc0, lc1, lc2, lc3, lc4, lc5, lc6, lc7, hT, lc8, lc9, lca, ld0, ld1, ld2, ld3, hPI, hIT, hI, hb, hr, hm, hpl, htr, hact, ht, hra, hrb, hrc, rowL, lt_52, tab]
          refine SRun.run 5 ?_; simp -implicitDefEqProofs only [↓qx, qq, ↓reduceIte, zA, zB, zC, zD, zE, zF, zG, zH, zI, zJ, zK, zL, zM, zN, zO, zP, zQ, rs13, h1, h2, h3, h6, h7, h8, h9, lt_43, lc0, lc1, lc2, lc3, lc4, lc5, lc6, lc7, hT, lc8, lc9, lca, ld0, ld1, ld2, ld3, hPI, hIT, hI, hb, hr, hm, hpl, htr, hact, ht, hra, hrb, hrc, rowL, lt_52,  tab]
          have hq : tNot (mkM d) x = putL (([] : List Arc)) _ _ := if_pos hy
          refine ⟨_, _, _, (ConvF.tag (e) [c + 2]).trans ((ConvF.tag (i) [c + 2]).trans (ConvF.tag (e + 2) [c + 2])), ?_⟩
          rw [hQ4]
          refine ⟨?_, ?_, ?_, ?_, ?_, ?_, ?_, by simp -implicitDefEqProofs only [↓qx, qq, ↓reduceIte, zA, zB, zC, zD, zE, zF, zG, zH, zI, zJ, zK, zL, zM, zN, zO, zP, zQ, rs13, h1, h2, h3, h6, h7, h8, h9, lt_43, lc0, lc1, lc2, lc3, lc4, lc5, lc6, lc7, hT, lc8, lc9, lca, ld0, ld1, ld2, ld3, hPI, hIT, hI, hb, hr, hm, hpl, htr, hact, ht, hra, hrb, hrc, rowL, lt_52], by simp -implicitDefEqProofs only [↓qx, qq, ↓reduceIte, zA, zB, zC, zD, zE, zF, zG, zH, zI, zJ, zK, zL, zM, zN, zO, zP, zQ, rs13, h1, h2, h3, h6, h7, h8, h9, lt_43, lc0, lc1, lc2, lc3, lc4, lc5, lc6, lc7, hT, lc8, lc9, lca, ld0, ld1, ld2, ld3, hPI, hIT, hI, hb, hr, hm, hpl, htr, hact, ht, hra, hrb, hrc, rowL, lt_52], (by repeat first | exact hsub | refine sN hfin ?_ (by omega) | refine sD hfin ?_ (by omega) | refine sT hfin ?_ (by omega) (by omega) (by simp only [tgl, and_true] <;> omega)), by simp -implicitDefEqProofs only [↓qx, qq, ↓reduceIte, zA, zB, zC, zD, zE, zF, zG, zH, zI, zJ, zK, zL, zM, zN, zO, zP, zQ, rs13, h1, h2, h3, h6, h7, h8, h9, lt_43, lc0, lc1, lc2, lc3, lc4, lc5, lc6, lc7, hT, lc8, lc9, lca, ld0, ld1, ld2, ld3, hPI, hIT, hI, hb, hr, hm, hpl, htr, hact, ht, hra, hrb, hrc, rowL, lt_52], by simp -implicitDefEqProofs only [↓qx, qq, ↓reduceIte, zA, zB, zC, zD, zE, zF, zG, zH, zI, zJ, zK, zL, zM, zN, zO, zP, zQ, rs13, h1, h2, h3, h6, h7, h8, h9, lt_43, lc0, lc1, lc2, lc3, lc4, lc5, lc6, lc7, hT, lc8, lc9, lca, ld0, ld1, ld2, ld3, hPI, hIT, hI, hb, hr, hm, hpl, htr, hact, ht, hra, hrb, hrc, rowL, lt_52], by simp -implicitDefEqProofs only [↓qx, qq, ↓reduceIte, zA, zB, zC, zD, zE, zF, zG, zH, zI, zJ, zK, zL, zM, zN, zO, zP, zQ, rs13, h1, h2, h3, h6, h7, h8, h9, lt_43, lc0, lc1, lc2, lc3, lc4, lc5, lc6, lc7, hT, lc8, lc9, lca, ld0, ld1, ld2, ld3, hPI, hIT, hI, hb, hr, hm, hpl, htr, hact, ht, hra, hrb, hrc, rowL, lt_52], by simp -implicitDefEqProofs only [↓qx, qq, ↓reduceIte, zA, zB, zC, zD, zE, zF, zG, zH, zI, zJ, zK, zL, zM, zN, zO, zP, zQ, rs13, h1, h2, h3, h6, h7, h8, h9, lt_43, lc0, lc1, lc2, lc3, lc4, lc5, lc6, lc7, hT, lc8, lc9, lca, ld0, ld1, ld2, ld3, hPI, hIT, hI, hb, hr, hm, hpl, htr, hact, ht, hra, hrb, hrc, rowL, lt_52], by simp -implicitDefEqProofs only [↓qx, qq, ↓reduceIte, zA, zB, zC, zD, zE, zF, zG, zH, zI, zJ, zK, zL, zM, zN, zO, zP, zQ, rs13, h1, h2, h3, h6, h7, h8, h9, lt_43, lc0, lc1, lc2, lc3, lc4, lc5, lc6, lc7, hT, lc8, lc9, lca, ld0, ld1, ld2, ld3, hPI, hIT, hI, hb, hr, hm, hpl, htr, hact, ht, hra, hrb, hrc, rowL, lt_52], ⟨i + 1, by omega, by omega, by simp -implicitDefEqProofs only [↓qx, qq, ↓reduceIte, zA, zB, zC, zD, zE, zF, zG, zH, zI, zJ, zK, zL, zM, zN, zO, zP, zQ, rs13, h1, h2, h3, h6, h7, h8, h9, lt_43, lc0, lc1, lc2, lc3, lc4, lc5, lc6, lc7, hT, lc8, lc9, lca, ld0, ld1, ld2, ld3, hPI, hIT, hI, hb, hr, hm, hpl, htr, hact, ht, hra, hrb, hrc, rowL, lt_52, hq], by simp -implicitDefEqProofs only [↓qx, qq, ↓reduceIte, zA, zB, zC, zD, zE, zF, zG, zH, zI, zJ, zK, zL, zM, zN, zO, zP, zQ, rs13, h1, h2, h3, h6, h7, h8, h9, lt_43, lc0, lc1, lc2, lc3, lc4, lc5, lc6, lc7, hT, lc8, lc9, lca, ld0, ld1, ld2, ld3, hPI, hIT, hI, hb, hr, hm, hpl, htr, hact, ht, hra, hrb, hrc, rowL, lt_52, hq], by simp -implicitDefEqProofs only [↓qx, qq, ↓reduceIte, zA, zB, zC, zD, zE, zF, zG, zH, zI, zJ, zK, zL, zM, zN, zO, zP, zQ, rs13, h1, h2, h3, h6, h7, h8, h9, lt_43, lc0, lc1, lc2, lc3, lc4, lc5, lc6, lc7, hT, lc8, lc9, lca, ld0, ld1, ld2, ld3, hPI, hIT, hI, hb, hr, hm, hpl, htr, hact, ht, hra, hrb, hrc, rowL, lt_52, hq], by simp -implicitDefEqProofs only [↓qx, qq, ↓reduceIte, zA, zB, zC, zD, zE, zF, zG, zH, zI, zJ, zK, zL, zM, zN, zO, zP, zQ, rs13, h1, h2, h3, h6, h7, h8, h9, lt_43, lc0, lc1, lc2, lc3, lc4, lc5, lc6, lc7, hT, lc8, lc9, lca, ld0, ld1, ld2, ld3, hPI, hIT, hI, hb, hr, hm, hpl, htr, hact, ht, hra, hrb, hrc, rowL, lt_52, hq]⟩⟩ <;> first | done | (simp -implicitDefEqProofs only [↓qx, qq, ↓reduceIte, zA, zB, zC, zD, zE, zF, zG, zH, zI, zJ, zK, zL, zM, zN, zO, zP, zQ, rs13, h1, h2, h3, h6, h7, h8, h9, lt_43, lc0, lc1, lc2, lc3, lc4, lc5, lc6, lc7, hT, lc8, lc9, lca, ld0, ld1, ld2, ld3, hPI, hIT, hI, hb, hr, hm, hpl, htr, hact, ht, hra, hrb, hrc, rowL, lt_52, hq]; first | done | rfl)
        · 
          refine SRun.run 5 ?_; simp -implicitDefEqProofs only [↓qx, qq, ↓reduceIte, zA, zB, zC, zD, zE, zF, zG, zH, zI, zJ, zK, zL, zM, zN, zO, zP, zQ, rs13, h1, h2, h3, h6, h7, h8, h9, lt_43, lc0, lc1, lc2, lc3, lc4, lc5, lc6, lc7, hT, lc8, lc9, lca, ld0, ld1, ld2, ld3, hPI, hIT, hI, hb, hr, hm, hpl, htr, hact, ht, hra, hrb, hrc, rowL,  tab]
          have hq : tNot (mkM d) x = ([] : List Arc) := if_neg hno
          refine ⟨_, _, _, ConvF.refl _ _ _, ?_⟩
          rw [hQ4]
          refine ⟨?_, ?_, ?_, ?_, ?_, ?_, ?_, hb, hr, hsub, hm, hpl, htr, hI, hact, ⟨e, by omega, rfl, by rw [hq]; exact ht, by (try rw [hq]); exact hra, by (try rw [hq]); exact hrb, by (try rw [hq]); exact hrc⟩⟩ <;> first | done | (simp -implicitDefEqProofs only [↓qx, qq, ↓reduceIte, zA, zB, zC, zD, zE, zF, zG, zH, zI, zJ, zK, zL, zM, zN, zO, zP, zQ, rs13, h1, h2, h3, h6, h7, h8, h9, lt_43, lc0, lc1, lc2, lc3, lc4, lc5, lc6, lc7, hT, lc8, lc9, lca, ld0, ld1, ld2, ld3, hPI, hIT, hI, hb, hr, hm, hpl, htr, hact, ht, hra, hrb, hrc, rowL]; first | done | rfl)
      intro fr st1 nx1 hJ
      rw [hQ4] at hJ
      obtain ⟨h1, h2, h3, h6, h7, h8, h9, hb, hr, hsub, hm, hpl, htr, hI, hact, hS⟩ := hJ
      obtain ⟨e, he, rfl, ht, hra, hrb, hrc⟩ := hS
      have lt_63 : nx < e ∧ nx + 1 < e ∧ nx + 2 < e ∧ P < e ∧ T < e ∧ I < e ∧ c < e ∧ c + 1 < e ∧ c + 2 < e := by and_intros <;> omega
      
      refine SRun.run 8 ?_; simp -implicitDefEqProofs only [↓qx, qq, ↓reduceIte, zA, zB, zC, zD, zE, zF, zG, zH, zI, zJ, zK, zL, zM, zN, zO, zP, zQ, rs13, h1, h2, h3, h6, h7, h8, h9, lt_63, lc0, lc1, lc2, lc3, lc4, lc5, lc6, lc7, hT, lc8, lc9, lca, ld0, ld1, ld2, ld3, hPI, hIT, hI, hb, hr, hm, hpl, htr, hact, ht, hra, hrb, hrc, rowL,  tab]
      obtain ⟨Q5, hQ5⟩ : ∃ Q : Fr → Store → Nat → Prop, Q = fun fr st1 nx1 => fr 1 = .bp nx 0 ∧ fr 2 = .bp (nx+1) 0 ∧ fr 3 = .bp (nx + 2) 0 ∧ fr 6 = .int .i64 (mkM d : Nat) ∧ fr 7 = .int .i64 (j : Int) ∧ fr 8 = .bp c 0 ∧ fr 9 = .bp (c + 2) 0 ∧ (st1 nx = some (.box (eDraft d))) ∧ (st1 (nx + 1) = some (.box [.emp, .emp])) ∧ (Sub st st1) ∧ (st1 (nx + 2) = some (.box [.sl P 0 (mkM d), .sl T 0 j])) ∧ (st1 P = some (rowL 2 ePlace dPlace ((List.range (mkM d)).map (mkP d)))) ∧ (st1 T = some (.row 6 j (qRow d q I j))) ∧ (st1 I = some (.row 2 (qInn d q j).length (fun i => eArc ((qInn d q j).getD i dArc)))) ∧ (st1 c = some (.box (eAct x))) ∧ (∃ e, c + 3 ≤ e ∧ nx1 = e + 3 ∧ st1 (c + 2) = some (.box [.str (trName j), .int .i64 (tDel0 x), .int .i64 (tPrio x), .sl e 0 (tIn (mkM d) x).length, .sl (e + 1) 0 (tNot (mkM d) x).length, .sl (e + 2) 0 (tOut1 (mkM d) x).length]) ∧ st1 e = some (rArcs (tIn (mkM d) x)) ∧ st1 (e + 1) = some (rArcs (tNot (mkM d) x)) ∧ st1 (e + 2) = some (rArcs (tOut1 (mkM d) x))) := ⟨_, rfl⟩
      refine SRun.cutC Q5 ?_ ?_
      · refine SRun.run 1 ?_; simp -implicitDefEqProofs only [↓qx, qq, ↓reduceIte, zA, zB, zC, zD, zE, zF, zG, zH, zI, zJ, zK, zL, zM, zN, zO, zP, zQ, rs13, h1, h2, h3, h6, h7, h8, h9, lt_63, lc0, lc1, lc2, lc3, lc4, lc5, lc6, lc7, hT, lc8, lc9, lca, ld0, ld1, ld2, ld3, hPI, hIT, hI, hb, hr, hm, hpl, htr, hact, ht, hra, hrb, hrc, rowL,  tab]
        refine ⟨fun hy => ?_, fun hno => ?_⟩
        · 
          refine SRun.draw' (.quiet 0 false (.quiet 1 false (.quiet 2 false (.quiet 3 false (.quiet 4 false (.quiet 5 false (.quiet 6 false (.quiet 7 false (.quiet 8 false (.quiet 9 false (.quiet 10 false (.quiet 11 false (.quiet 12 false (.heavy (.cons 13 [] (.quiet 14 false (.heavy (.cons 15 [] .done .nil))) .nil))))))))))))))) mixed (by kernel_rfl) ?_
          simp -implicitDefEqProofs only [↓qx, qq, ↓reduceIte, zA, zB, zC, zD, zE, zF, zG, zH, zI, zJ, zK, zL, zM, zN, zO, zP, zQ, rs13, h1, h2, h3, h6, h7, h8, h9, lt_63, lc0, lc1, lc2, lc3, lc4, lc5, lc6, lc7, hT, lc8, lc9, lca, ld0, ld1, ld2, ld3, hPI, hIT, hI, hb, hr, hm, hpl, htr, hact, ht, hra, hrb, hrc, rowL, tab]
          refine ⟨hM0, put_ok (([] : List Arc)) _ _ _ _ (e + 2) _ hrc (by simp) fun i g => ?_⟩
          have lt_72 : nx < i ∧ nx + 1 < i ∧ nx + 2 < i ∧ P < i ∧ T < i ∧ I < i ∧ c < i ∧ c + 2 < i ∧ e < i ∧ e + 1 < i ∧ e + 2 < i := by and_intros <;> omega
          unfold dwait
          simp -implicitDefEqProofs only [↓qx, qq, ↓reduceIte, zA, zB, zC, zD, zE, zF, zG, zH, zI, zJ, zK, zL, zM, zN, zO, zP, zQ, rs13, h1, h2, h3, h6, h7, h8, h9, lt_63, lc0, lc1, lc2, lc3, lc4, lc5, lc6, lc7, hT, lc8, lc9, lca, ld0, ld1, ld2, ld3, hPI, hIT, hI, hb, hr, hm, hpl, htr, hact, ht, hra, hrb, hrc, rowL, lt_72, tab]
          refine SRun.run 5 ?_; simp -implicitDefEqProofs only [↓qx, qq, ↓reduceIte, zA, zB, zC, zD, zE, zF, zG, zH, zI, zJ, zK, zL, zM, zN, zO, zP, zQ, rs13, h1, h2, h3, h6, h7, h8, h9, lt_63, lc0, lc1, lc2, lc3, lc4, lc5, lc6, lc7, hT, lc8, lc9, lca, ld0, ld1, ld2, ld3, hPI, hIT, hI, hb, hr, hm, hpl, htr, hact, ht, hra, hrb, hrc, rowL, lt_72,  tab]
          have hq : tOut1 (mkM d) x = putL (([] : List Arc)) _ _ := if_pos hy
          refine ⟨_, _, _, (ConvF.tag (e) [c + 2]).trans ((ConvF.tag (e + 1) [c + 2]).trans (ConvF.tag (i) [c + 2])), ?_⟩
          rw [hQ5]
          refine ⟨?_, ?_, ?_, ?_, ?_, ?_, ?_, by simp -implicitDefEqProofs only [↓qx, qq, ↓reduceIte, zA, zB, zC, zD, zE, zF, zG, zH, zI, zJ, zK, zL, zM, zN, zO, zP, zQ, rs13, h1, h2, h3, h6, h7, h8, h9, lt_63, lc0, lc1, lc2, lc3, lc4, lc5, lc6, lc7, hT, lc8, lc9, lca, ld0, ld1, ld2, ld3, hPI, hIT, hI, hb, hr, hm, hpl, htr, hact, ht, hra, hrb, hrc, rowL, lt_72], by simp -implicitDefEqProofs only [↓qx, qq, ↓reduceIte, zA, zB, zC, zD, zE, zF, zG, zH, zI, zJ, zK, zL, zM, zN, zO, zP, zQ, rs13, h1, h2, h3, h6, h7, h8, h9, lt_63, lc0, lc1, lc2, lc3, lc4, lc5, lc6, lc7, hT, lc8, lc9, lca, ld0, ld1, ld2, ld3, hPI, hIT, hI, hb, hr, hm, hpl, htr, hact, ht, hra, hrb, hrc, rowL, lt_72], (by repeat first | exact hsub | refine sN hfin ?_ (by omega) | refine sD hfin ?_ (by omega) | refine sT hfin ?_ (by omega) (by omega) (by simp only [tgl, and_true] <;> omega)), by simp -implicitDefEqProofs only [↓qx, qq, ↓reduceIte, zA, zB, zC, zD, zE, zF, zG, zH, zI, zJ, zK, zL, zM, zN, zO, zP, zQ, rs13, h1, h2, h3, h6, h7, h8, h9, lt_63, lc0, lc1, lc2, lc3, lc4, lc5, lc6, lc7, hT, lc8, lc9, lca, ld0, ld1, ld2, ld3, hPI, hIT, hI, hb, hr, hm, hpl, htr, hact, ht, hra, hrb, hrc, rowL, lt_72], by simp -implicitDefEqProofs only [↓qx, qq, ↓reduceIte, zA, zB, zC, zD, zE, zF, zG, zH, zI, zJ, zK, zL, zM, zN, zO, zP, zQ, rs13, h1, h2, h3, h6, h7, h8, h9, lt_63, lc0, lc1, lc2, lc3, lc4, lc5, lc6, lc7, hT, lc8, lc9, lca, ld0, ld1, ld2, ld3, hPI, hIT, hI, hb, hr, hm, hpl, htr, hact, ht, hra, hrb, hrc, rowL, lt_72], by simp -implicitDefEqProofs only [↓qx, qq, ↓reduceIte, zA, zB, zC, zD, zE, zF, zG, zH, zI, zJ, zK, zL, zM, zN, zO, zP, zQ, rs13, h1, h2, h3, h6, h7, h8, h9, lt_63, lc0, lc1, lc2, lc3, lc4, lc5, lc6, lc7, hT, lc8, lc9, lca, ld0, ld1, ld2, ld3, hPI, hIT, hI, hb, hr, hm, hpl, htr, hact, ht, hra, hrb, hrc, rowL, lt_72], by simp -implicitDefEqProofs only [↓qx, qq, ↓reduceIte, zA, zB, zC, zD, zE, zF, zG, zH, zI, zJ, zK, zL, zM, zN, zO, zP, zQ, rs13, h1, h2, h3, h6, h7, h8, h9, lt_63, lc0, lc1, lc2, lc3, lc4, lc5, lc6, lc7, hT, lc8, lc9, lca, ld0, ld1, ld2, ld3, hPI, hIT, hI, hb, hr, hm, hpl, htr, hact, ht, hra, hrb, hrc, rowL, lt_72], by simp -implicitDefEqProofs only [↓qx, qq, ↓reduceIte, zA, zB, zC, zD, zE, zF, zG, zH, zI, zJ, zK, zL, zM, zN, zO, zP, zQ, rs13, h1, h2, h3, h6, h7, h8, h9, lt_63, lc0, lc1, lc2, lc3, lc4, lc5, lc6, lc7, hT, lc8, lc9, lca, ld0, ld1, ld2, ld3, hPI, hIT, hI, hb, hr, hm, hpl, htr, hact, ht, hra, hrb, hrc, rowL, lt_72], ⟨i + 1, by omega, by omega, by simp -implicitDefEqProofs only [↓qx, qq, ↓reduceIte, zA, zB, zC, zD, zE, zF, zG, zH, zI, zJ, zK, zL, zM, zN, zO, zP, zQ, rs13, h1, h2, h3, h6, h7, h8, h9, lt_63, lc0, lc1, lc2, lc3, lc4, lc5, lc6, lc7, hT, lc8, lc9, lca, ld0, ld1, ld2, ld3, hPI, hIT, hI, hb, hr, hm, hpl, htr, hact, ht, hra, hrb, hrc, rowL, lt_72, hq], by simp -implicitDefEqProofs only [↓qx, qq, ↓reduceIte, zA, zB, zC, zD, zE, zF, zG, zH, zI, zJ, zK, zL, zM, zN, zO, zP, zQ, rs13, h1, h2, h3, h6, h7, h8, h9, lt_63, lc0, lc1, lc2, lc3, lc4, lc5, lc6, lc7, hT, lc8, lc9, lca, ld0, ld1, ld2, ld3, hPI, hIT, hI, hb, hr, hm, hpl, htr, hact, ht, hra, hrb, hrc, rowL, lt_72, hq], by simp -implicitDefEqProofs only [↓qx, qq, ↓reduceIte, zA, zB, zC, zD, zE, zF, zG, zH, zI, zJ, zK, zL, zM, zN, zO, zP, zQ, rs13, h1, h2, h3, h6, h7, h8, h9, lt_63, lc0, lc1, lc2, lc3, lc4, lc5, lc6, lc7, hT, lc8, lc9, lca, ld0, ld1, ld2, ld3, hPI, hIT, hI, hb, hr, hm, hpl, htr, hact, ht, hra, hrb, hrc, rowL, lt_72, hq], by simp -implicitDefEqProofs only [↓qx, qq, ↓reduceIte, zA, zB, zC, zD, zE, zF, zG, zH, zI, zJ, zK, zL, zM, zN, zO, zP, zQ, rs13, h1, h2, h3, h6, h7, h8, h9, lt_63, lc0, lc1, lc2, lc3, lc4, lc5, lc6, lc7, hT, lc8, lc9, lca, ld0, ld1, ld2, ld3, hPI, hIT, hI, hb, hr, hm, hpl, htr, hact, ht, hra, hrb, hrc, rowL, lt_72, hq]⟩⟩ <;> first | done | (simp -implicitDefEqProofs only [↓qx, qq, ↓reduceIte, zA, zB, zC, zD, zE, zF, zG, zH, zI, zJ, zK, zL, zM, zN, zO, zP, zQ, rs13, h1, h2, h3, h6, h7, h8, h9, lt_63, lc0, lc1, lc2, lc3, lc4, lc5, lc6, lc7, hT, lc8, lc9, lca, ld0, ld1, ld2, ld3, hPI, hIT, hI, hb, hr, hm, hpl, htr, hact, ht, hra, hrb, hrc, rowL, lt_72, hq]; first | done | rfl)
        · 
          refine SRun.run 5 ?_; simp -implicitDefEqProofs only [↓qx, qq, ↓reduceIte, zA, zB, zC, zD, zE, zF, zG, zH, zI, zJ, zK, zL, zM, zN, zO, zP, zQ, rs13, h1, h2, h3, h6, h7, h8, h9, lt_63, lc0, lc1, lc2, lc3, lc4, lc5, lc6, lc7, hT, lc8, lc9, lca, ld0, ld1, ld2, ld3, hPI, hIT, hI, hb, hr, hm, hpl, htr, hact, ht, hra, hrb, hrc, rowL,  tab]
          have hq : tOut1 (mkM d) x = ([] : List Arc) := if_neg hno
          refine ⟨_, _, _, ConvF.refl _ _ _, ?_⟩
          rw [hQ5]
          refine ⟨?_, ?_, ?_, ?_, ?_, ?_, ?_, hb, hr, hsub, hm, hpl, htr, hI, hact, ⟨e, by omega, rfl, by rw [hq]; exact ht, by (try rw [hq]); exact hra, by (try rw [hq]); exact hrb, by (try rw [hq]); exact hrc⟩⟩ <;> first | done | (simp -implicitDefEqProofs only [↓qx, qq, ↓reduceIte, zA, zB, zC, zD, zE, zF, zG, zH, zI, zJ, zK, zL, zM, zN, zO, zP, zQ, rs13, h1, h2, h3, h6, h7, h8, h9, lt_63, lc0, lc1, lc2, lc3, lc4, lc5, lc6, lc7, hT, lc8, lc9, lca, ld0, ld1, ld2, ld3, hPI, hIT, hI, hb, hr, hm, hpl, htr, hact, ht, hra, hrb, hrc, rowL]; first | done | rfl)
      intro fr st1 nx1 hJ
      rw [hQ5] at hJ
      obtain ⟨h1, h2, h3, h6, h7, h8, h9, hb, hr, hsub, hm, hpl, htr, hI, hact, hS⟩ := hJ
      obtain ⟨e, he, rfl, ht, hra, hrb, hrc⟩ := hS
      have lt_83 : nx < e ∧ nx + 1 < e ∧ nx + 2 < e ∧ P < e ∧ T < e ∧ I < e ∧ c < e ∧ c + 1 < e ∧ c + 2 < e := by and_intros <;> omega
      
      refine SRun.run 8 ?_; simp -implicitDefEqProofs only [↓qx, qq, ↓reduceIte, zA, zB, zC, zD, zE, zF, zG, zH, zI, zJ, zK, zL, zM, zN, zO, zP, zQ, rs13, h1, h2, h3, h6, h7, h8, h9, lt_83, lc0, lc1, lc2, lc3, lc4, lc5, lc6, lc7, hT, lc8, lc9, lca, ld0, ld1, ld2, ld3, hPI, hIT, hI, hb, hr, hm, hpl, htr, hact, ht, hra, hrb, hrc, rowL,  tab]
      obtain ⟨Q6, hQ6⟩ : ∃ Q : Fr → Store → Nat → Prop, Q = fun fr st1 nx1 => fr 1 = .bp nx 0 ∧ fr 2 = .bp (nx+1) 0 ∧ fr 3 = .bp (nx + 2) 0 ∧ fr 6 = .int .i64 (mkM d : Nat) ∧ fr 7 = .int .i64 (j : Int) ∧ fr 8 = .bp c 0 ∧ fr 9 = .bp (c + 2) 0 ∧ (st1 nx = some (.box (eDraft d))) ∧ (st1 (nx + 1) = some (.box [.emp, .emp])) ∧ (Sub st st1) ∧ (st1 (nx + 2) = some (.box [.sl P 0 (mkM d), .sl T 0 j])) ∧ (st1 P = some (rowL 2 ePlace dPlace ((List.range (mkM d)).map (mkP d)))) ∧ (st1 T = some (.row 6 j (qRow d q I j))) ∧ (st1 I = some (.row 2 (qInn d q j).length (fun i => eArc ((qInn d q j).getD i dArc)))) ∧ (st1 c = some (.box (eAct x))) ∧ (∃ e, c + 3 ≤ e ∧ nx1 = e + 3 ∧ st1 (c + 2) = some (.box [.str (trName j), .int .i64 (tDel0 x), .int .i64 (tPrio x), .sl e 0 (tIn (mkM d) x).length, .sl (e + 1) 0 (tNot (mkM d) x).length, .sl (e + 2) 0 (tOut (mkM d) x).length]) ∧ st1 e = some (rArcs (tIn (mkM d) x)) ∧ st1 (e + 1) = some (rArcs (tNot (mkM d) x)) ∧ st1 (e + 2) = some (rArcs (tOut (mkM d) x))) := ⟨_, rfl⟩
      refine SRun.cutC Q6 ?_ ?_
      · refine SRun.run 1 ?_; simp -implicitDefEqProofs only [↓qx, qq, ↓reduceIte, zA, zB, zC, zD, zE, zF, zG, zH, zI, zJ, zK, zL, zM, zN, zO, zP, zQ, rs13, h1, h2, h3, h6, h7, h8, h9, lt_83, lc0, lc1, lc2, lc3, lc4, lc5, lc6, lc7, hT, lc8, lc9, lca, ld0, ld1, ld2, ld3, hPI, hIT, hI, hb, hr, hm, hpl, htr, hact, ht, hra, hrb, hrc, rowL,  tab]
        refine ⟨fun hy => ?_, fun hno => ?_⟩
        · 
          refine SRun.draw' (.quiet 0 false (.quiet 1 false (.quiet 2 false (.quiet 3 false (.quiet 4 false (.quiet 5 false (.quiet 6 false (.quiet 7 false (.heavy (.cons 8 [] (.quiet 9 false (.heavy (.cons 10 [] .done .nil))) .nil)))))))))) mixed (by kernel_rfl) ?_
          simp -implicitDefEqProofs only [↓qx, qq, ↓reduceIte, zA, zB, zC, zD, zE, zF, zG, zH, zI, zJ, zK, zL, zM, zN, zO, zP, zQ, rs13, h1, h2, h3, h6, h7, h8, h9, lt_83, lc0, lc1, lc2, lc3, lc4, lc5, lc6, lc7, hT, lc8, lc9, lca, ld0, ld1, ld2, ld3, hPI, hIT, hI, hb, hr, hm, hpl, htr, hact, ht, hra, hrb, hrc, rowL, tab]
          refine ⟨hM0, put_ok (tOut1 (mkM d) x) _ _ _ _ (e + 2) _ hrc (by have := tOut1_len (mkM d) x; omega) fun i g => ?_⟩
          have lt_92 : nx < i ∧ nx + 1 < i ∧ nx + 2 < i ∧ P < i ∧ T < i ∧ I < i ∧ c < i ∧ c + 2 < i ∧ e < i ∧ e + 1 < i ∧ e + 2 < i := by and_intros <;> omega
          unfold dwait
          simp -implicitDefEqProofs only [↓qx, qq, ↓reduceIte, zA, zB, zC, zD, zE, zF, zG, zH, zI, zJ, zK, zL, zM, zN, zO, zP, zQ, rs13, h1, h2, h3, h6, h7, h8, h9, lt_83, lc0, lc1, lc2, lc3, lc4, lc5, lc6, lc7, hT, lc8, lc9, lca, ld0, ld1, ld2, ld3, hPI, hIT, hI, hb, hr, hm, hpl, htr, hact, ht, hra, hrb, hrc, rowL, lt_92, tab]
          refine SRun.run 5 ?_; simp -implicitDefEqProofs only [↓qx, qq, ↓reduceIte, zA, zB, zC, zD, zE, zF, zG, zH, zI, zJ, zK, zL, zM, zN, zO, zP, zQ, rs13, h1, h2, h3, h6, h7, h8, h9, lt_83, lc0, lc1, lc2, lc3, lc4, lc5, lc6, lc7, hT, lc8, lc9, lca, ld0, ld1, ld2, ld3, hPI, hIT, hI, hb, hr, hm, hpl, htr, hact, ht, hra, hrb, hrc, rowL, lt_92,  tab]
          have hq : tOut (mkM d) x = putL (tOut1 (mkM d) x) _ _ := if_pos hy
          refine ⟨_, _, _, (ConvF.tag (e) [c + 2]).trans ((ConvF.tag (e + 1) [c + 2]).trans (ConvF.tag (i) [c + 2])), ?_⟩
          rw [hQ6]
          refine ⟨?_, ?_, ?_, ?_, ?_, ?_, ?_, by simp -implicitDefEqProofs only [↓qx, qq, ↓reduceIte, zA, zB, zC, zD, zE, zF, zG, zH, zI, zJ, zK, zL, zM, zN, zO, zP, zQ, rs13, h1, h2, h3, h6, h7, h8, h9, lt_83, lc0, lc1, lc2, lc3, lc4, lc5, lc6, lc7, hT, lc8, lc9, lca, ld0, ld1, ld2, ld3, hPI, hIT, hI, hb, hr, hm, hpl, htr, hact, ht, hra, hrb, hrc, rowL, lt_92], by simp -implicitDefEqProofs only [↓qx, qq, ↓reduceIte, zA, zB, zC, zD, zE, zF, zG, zH, zI, zJ, zK, zL, zM, zN, zO, zP, zQ, rs13, h1, h2, h3, h6, h7, h8, h9, lt_83, lc0, lc1, lc2, lc3, lc4, lc5, lc6, lc7, hT, lc8, lc9, lca, ld0, ld1, ld2, ld3, hPI, hIT, hI, hb, hr, hm, hpl, htr, hact, ht, hra, hrb, hrc, rowL, lt_92], (by repeat first | exact hsub | refine sN hfin ?_ (by omega) | refine sD hfin ?_ (by omega) | refine sT hfin ?_ (by omega) (by omega) (by simp only [tgl, and_true] <;> omega)), by simp -implicitDefEqProofs only [↓qx, qq, ↓reduceIte, zA, zB, zC, zD, zE, zF, zG, zH, zI, zJ, zK, zL, zM, zN, zO, zP, zQ, rs13, h1, h2, h3, h6, h7, h8, h9, lt_83, lc0, lc1, lc2, lc3, lc4, lc5, lc6, lc7, hT, lc8, lc9, lca, ld0, ld1, ld2, ld3, hPI, hIT, hI, hb, hr, hm, hpl, htr, hact, ht, hra, hrb, hrc, rowL, lt_92], by simp -implicitDefEqProofs only [↓qx, qq, ↓reduceIte, zA, zB, zC, zD, zE, zF, zG, zH, zI, zJ, zK, zL, zM, zN, zO, zP, zQ, rs13, h1, h2, h3, h6, h7, h8, h9, lt_83, lc0, lc1, lc2, lc3, lc4, lc5, lc6, lc7, hT, lc8, lc9, lca, ld0, ld1, ld2, ld3, hPI, hIT, hI, hb, hr, hm, hpl, htr, hact, ht, hra, hrb, hrc, rowL, lt_92], by simp -implicitDefEqProofs only [↓qx, qq, ↓reduceIte, zA, zB, zC, zD, zE, zF, zG, zH, zI, zJ, zK, zL, zM, zN, zO, zP, zQ, rs13, h1, h2, h3, h6, h7, h8, h9, lt_83, lc0, lc1, lc2, lc3, lc4, lc5, lc6, lc7, hT, lc8, lc9, lca, ld0, ld1, ld2, ld3, hPI, hIT, hI, hb, hr, hm, hpl, htr, hact, ht, hra, hrb, hrc, rowL, lt_92], by simp -implicitDefEqProofs only [↓qx, qq, ↓reduceIte, zA, zB, zC, zD, zE, zF, zG, zH, zI, zJ, zK, zL, zM, zN, zO, zP, zQ, rs13, h1, h2, h3, h6, h7, h8, h9, lt_83, lc0, lc1, lc2, lc3, lc4, lc5, lc6, lc7, hT, lc8, lc9, lca, ld0, ld1, ld2, ld3, hPI, hIT, hI, hb, hr, hm, hpl, htr, hact, ht, hra, hrb, hrc, rowL, lt_92], by simp -implicitDefEqProofs only [↓qx, qq, ↓reduceIte, zA, zB, zC, zD, zE, zF, zG, zH, zI, zJ, zK, zL, zM, zN, zO, zP, zQ, rs13, h1, h2, h3, h6, h7, h8, h9, lt_83, lc0, lc1, lc2, lc3, lc4, lc5, lc6, lc7, hT, lc8, lc9, lca, ld0, ld1, ld2, ld3, hPI, hIT, hI, hb, hr, hm, hpl, htr, hact, ht, hra, hrb, hrc, rowL, lt_92], ⟨i + 1, by omega, by omega, by simp -implicitDefEqProofs only [↓qx, qq, ↓reduceIte, zA, zB, zC, zD, zE, zF, zG, zH, zI, zJ, zK, zL, zM, zN, zO, zP, zQ, rs13, h1, h2, h3, h6, h7, h8, h9, lt_83, lc0, lc1, lc2, lc3, lc4, lc5, lc6, lc7, hT, lc8, lc9, lca, ld0, ld1, ld2, ld3, hPI, hIT, hI, hb, hr, hm, hpl, htr, hact, ht, hra, hrb, hrc, rowL, lt_92, hq], by simp -implicitDefEqProofs only [↓qx, qq, ↓reduceIte, zA, zB, zC, zD, zE, zF, zG, zH, zI, zJ, zK, zL, zM, zN, zO, zP, zQ, rs13, h1, h2, h3, h6, h7, h8, h9, lt_83, lc0, lc1, lc2, lc3, lc4, lc5, lc6, lc7, hT, lc8, lc9, lca, ld0, ld1, ld2, ld3, hPI, hIT, hI, hb, hr, hm, hpl, htr, hact, ht, hra, hrb, hrc, rowL, lt_92, hq], by simp -implicitDefEqProofs only [↓qx, qq, ↓reduceIte, zA, zB, zC, zD, zE, zF, zG, zH, zI, zJ, zK, zL, zM, zN, zO, zP, zQ, rs13, h1, h2, h3, h6, h7, h8, h9, lt_83, lc0, lc1, lc2, lc3, lc4, lc5, lc6, lc7, hT, lc8, lc9, lca, ld0, ld1, ld2, ld3, hPI, hIT, hI, hb, hr, hm, hpl, htr, hact, ht, hra, hrb, hrc, rowL, lt_92, hq], by simp -implicitDefEqProofs only [↓qx, qq, ↓reduceIte, zA, zB, zC, zD, zE, zF, zG, zH, zI, zJ, zK, zL, zM, zN, zO, zP, zQ, rs13, h1, h2, h3, h6, h7, h8, h9, lt_83, lc0, lc1, lc2, lc3, lc4, lc5, lc6, lc7, hT, lc8, lc9, lca, ld0, ld1, ld2, ld3, hPI, hIT, hI, hb, hr, hm, hpl, htr, hact, ht, hra, hrb, hrc, rowL, lt_92, hq]⟩⟩ <;> first | done | (simp -implicitDefEqProofs only [↓qx, qq, ↓reduceIte, zA, zB, zC, zD, zE, zF, zG, zH, zI, zJ, zK, zL, zM, zN, zO, zP, zQ, rs13, h1, h2, h3, h6, h7, h8, h9, lt_83, lc0, lc1, lc2, lc3, lc4, lc5, lc6, lc7, hT, lc8, lc9, lca, ld0, ld1, ld2, ld3, hPI, hIT, hI, hb, hr, hm, hpl, htr, hact, ht, hra, hrb, hrc, rowL, lt_92, hq]; first | done | rfl)
        · 
          refine SRun.run 5 ?_; simp -implicitDefEqProofs only [↓qx, qq, ↓reduceIte, zA, zB, zC, zD, zE, zF, zG, zH, zI, zJ, zK, zL, zM, zN, zO, zP, zQ, rs13, h1, h2, h3, h6, h7, h8, h9, lt_83, lc0, lc1, lc2, lc3, lc4, lc5, lc6, lc7, hT, lc8, lc9, lca, ld0, ld1, ld2, ld3, hPI, hIT, hI, hb, hr, hm, hpl, htr, hact, ht, hra, hrb, hrc, rowL,  tab]
          have hq : tOut (mkM d) x = tOut1 (mkM d) x := if_neg hno
          refine ⟨_, _, _, ConvF.refl _ _ _, ?_⟩
          rw [hQ6]
          refine ⟨?_, ?_, ?_, ?_, ?_, ?_, ?_, hb, hr, hsub, hm, hpl, htr, hI, hact, ⟨e, by omega, rfl, by rw [hq]; exact ht, by (try rw [hq]); exact hra, by (try rw [hq]); exact hrb, by (try rw [hq]); exact hrc⟩⟩ <;> first | done | (simp -implicitDefEqProofs only [↓qx, qq, ↓reduceIte, zA, zB, zC, zD, zE, zF, zG, zH, zI, zJ, zK, zL, zM, zN, zO, zP, zQ, rs13, h1, h2, h3, h6, h7, h8, h9, lt_83, lc0, lc1, lc2, lc3, lc4, lc5, lc6, lc7, hT, lc8, lc9, lca, ld0, ld1, ld2, ld3, hPI, hIT, hI, hb, hr, hm, hpl, htr, hact, ht, hra, hrb, hrc, rowL]; first | done | rfl)
      intro fr st1 nx1 hJ
      rw [hQ6] at hJ
      obtain ⟨h1, h2, h3, h6, h7, h8, h9, hb, hr, hsub, hm, hpl, htr, hI, hact, hS⟩ := hJ
      obtain ⟨e, he, rfl, ht, hra, hrb, hrc⟩ := hS
      have lt_103 : nx < e ∧ nx + 1 < e ∧ nx + 2 < e ∧ P < e ∧ T < e ∧ I < e ∧ c < e ∧ c + 1 < e ∧ c + 2 < e := by and_intros <;> omega
      
      by_cases hdl : tDel0 x = 0 ∧ x.d < 128
      · have hdq : tDel x = 1 := if_pos hdl
        obtain ⟨hd1, hd2⟩ := hdl
        have hdx : tDel (gA d j) = 1 := by rw [← hx, hdq]
        refine SRun.run 100 ?_; simp -implicitDefEqProofs only [↓qx, qq, ↓reduceIte, zA, zB, zC, zD, zE, zF, zG, zH, zI, zJ, zK, zL, zM, zN, zO, zP, zQ, rs13, h1, h2, h3, h6, h7, h8, h9, lt_103, lc0, lc1, lc2, lc3, lc4, lc5, lc6, lc7, hT, lc8, lc9, lca, ld0, ld1, ld2, ld3, hPI, hIT, hI, hb, hr, hm, hpl, htr, hact, ht, hra, hrb, hrc, rowL,  tab, hd1, hd2]
        refine ⟨by simp, by omega, by omega, ?_⟩
        
        by_cases hjq : j = q
        · (try rw [wrap_succ (n := min d.acts.length 9) (by omega) (by omega)])
          rw [hI2]
          refine ⟨_, _, _, (ConvF.rowT (id := e + 4) (sz := 6) (n := j + 1) (f' := qRow d q e (j + 1)) (sub_del2 _ (e + 1) (e + 2)) (by simp -implicitDefEqProofs only [↓qx, qq, ↓reduceIte, zA, zB, zC, zD, zE, zF, zG, zH, zI, zJ, zK, zL, zM, zN, zO, zP, zQ, rs13, h1, h2, h3, h6, h7, h8, h9, lt_103, lc0, lc1, lc2, lc3, lc4, lc5, lc6, lc7, hT, lc8, lc9, lca, ld0, ld1, ld2, ld3, hPI, hIT, hI, hb, hr, hm, hpl, htr, hact, ht, hra, hrb, hrc, rowL]; rfl) ?hg (fun i _ => qRow_len d q e (j + 1) i)).trans (ConvF.tag (e + 4) [nx + 2]), ?_⟩; case hg => (
          intro i hi
          by_cases e1 : i < j
          · simp only [appF, if_pos e1]
            rw [← qRow_q (I := I) e1 hjq]
            exact TnL.same (sub_del2 _ _ _) _
          · obtain rfl : i = j := by omega
            rw [qRow_at0 hjq]
            simp only [appF, Nat.lt_irrefl, if_false, Nat.sub_self]
            exact (TnL.cons (Tn.same (sub_del2 _ _ _) _) (TnL.cons (Tn.eq (Tn.same (sub_del2 _ _ _) _) (by simp only [mkTr, hdx])) (TnL.cons (Tn.eq (Tn.same (sub_del2 _ _ _) _) (by rw [hx]; rfl)) (TnL.cons (Tn.eq (Tn.same (sub_del2 _ _ _) _) (by rw [hx]; rfl)) (TnL.cons (Tn.eq (Tn.frz0 (id := e + 1) (sz := 2) (n := (tNot (mkM d) x).length) (f := fun i => eArc ((tNot (mkM d) x).getD i dArc)) (sub_del2 _ _ _) (by simp -implicitDefEqProofs only [↓qx, qq, ↓reduceIte, zA, zB, zC, zD, zE, zF, zG, zH, zI, zJ, zK, zL, zM, zN, zO, zP, zQ, rs13, h1, h2, h3, h6, h7, h8, h9, lt_103, lc0, lc1, lc2, lc3, lc4, lc5, lc6, lc7, hT, lc8, lc9, lca, ld0, ld1, ld2, ld3, hPI, hIT, hI, hb, hr, hm, hpl, htr, hact, ht, hra, hrb, hrc, rowL]) (by simp -implicitDefEqProofs only [↓qx, qq, ↓reduceIte, zA, zB, zC, zD, zE, zF, zG, zH, zI, zJ, zK, zL, zM, zN, zO, zP, zQ, rs13, h1, h2, h3, h6, h7, h8, h9, lt_103, lc0, lc1, lc2, lc3, lc4, lc5, lc6, lc7, hT, lc8, lc9, lca, ld0, ld1, ld2, ld3, hPI, hIT, hI, hb, hr, hm, hpl, htr, hact, ht, hra, hrb, hrc, rowL])) (by rw [hx]; rfl)) (TnL.cons (Tn.eq (Tn.frz0 (id := e + 2) (sz := 2) (n := (tOut (mkM d) x).length) (f := fun i => eArc ((tOut (mkM d) x).getD i dArc)) (sub_del2 _ _ _) (by simp -implicitDefEqProofs only [↓qx, qq, ↓reduceIte, zA, zB, zC, zD, zE, zF, zG, zH, zI, zJ, zK, zL, zM, zN, zO, zP, zQ, rs13, h1, h2, h3, h6, h7, h8, h9, lt_103, lc0, lc1, lc2, lc3, lc4, lc5, lc6, lc7, hT, lc8, lc9, lca, ld0, ld1, ld2, ld3, hPI, hIT, hI, hb, hr, hm, hpl, htr, hact, ht, hra, hrb, hrc, rowL]) (by simp -implicitDefEqProofs only [↓qx, qq, ↓reduceIte, zA, zB, zC, zD, zE, zF, zG, zH, zI, zJ, zK, zL, zM, zN, zO, zP, zQ, rs13, h1, h2, h3, h6, h7, h8, h9, lt_103, lc0, lc1, lc2, lc3, lc4, lc5, lc6, lc7, hT, lc8, lc9, lca, ld0, ld1, ld2, ld3, hPI, hIT, hI, hb, hr, hm, hpl, htr, hact, ht, hra, hrb, hrc, rowL])) (by rw [hx]; rfl)) TnL.nil)))))))
          refine ⟨min d.acts.length 9 - (j + 1), by omega, j + 1, by omega, rfl, ?_, ?_, ?_, ?_, ?_, ?_, ?_, (by repeat first | exact hsub | refine sN hfin ?_ (by omega) | refine sD hfin ?_ (by omega) | refine sT hfin ?_ (by omega) (by omega) (by simp only [tgl, and_true] <;> omega)), ⟨P, e + 5, e, hP, by omega, by omega, by omega, by simp -implicitDefEqProofs only [↓qx, qq, ↓reduceIte, zA, zB, zC, zD, zE, zF, zG, zH, zI, zJ, zK, zL, zM, zN, zO, zP, zQ, rs13, h1, h2, h3, h6, h7, h8, h9, lt_103, lc0, lc1, lc2, lc3, lc4, lc5, lc6, lc7, hT, lc8, lc9, lca, ld0, ld1, ld2, ld3, hPI, hIT, hI, hb, hr, hm, hpl, htr, hact, ht, hra, hrb, hrc, rowL], by simp -implicitDefEqProofs only [↓qx, qq, ↓reduceIte, zA, zB, zC, zD, zE, zF, zG, zH, zI, zJ, zK, zL, zM, zN, zO, zP, zQ, rs13, h1, h2, h3, h6, h7, h8, h9, lt_103, lc0, lc1, lc2, lc3, lc4, lc5, lc6, lc7, hT, lc8, lc9, lca, ld0, ld1, ld2, ld3, hPI, hIT, hI, hb, hr, hm, hpl, htr, hact, ht, hra, hrb, hrc, rowL], by simp -implicitDefEqProofs only [↓qx, qq, ↓reduceIte, zA, zB, zC, zD, zE, zF, zG, zH, zI, zJ, zK, zL, zM, zN, zO, zP, zQ, rs13, h1, h2, h3, h6, h7, h8, h9, lt_103, lc0, lc1, lc2, lc3, lc4, lc5, lc6, lc7, hT, lc8, lc9, lca, ld0, ld1, ld2, ld3, hPI, hIT, hI, hb, hr, hm, hpl, htr, hact, ht, hra, hrb, hrc, rowL], by simp -implicitDefEqProofs only [↓qx, qq, ↓reduceIte, zA, zB, zC, zD, zE, zF, zG, zH, zI, zJ, zK, zL, zM, zN, zO, zP, zQ, rs13, h1, h2, h3, h6, h7, h8, h9, lt_103, lc0, lc1, lc2, lc3, lc4, lc5, lc6, lc7, hT, lc8, lc9, lca, ld0, ld1, ld2, ld3, hPI, hIT, hI, hb, hr, hm, hpl, htr, hact, ht, hra, hrb, hrc, rowL]; rw [qInn_eq hjq, hx]; rfl⟩⟩ <;> first | done | (simp -implicitDefEqProofs only [↓qx, qq, ↓reduceIte, zA, zB, zC, zD, zE, zF, zG, zH, zI, zJ, zK, zL, zM, zN, zO, zP, zQ, rs13, h1, h2, h3, h6, h7, h8, h9, lt_103, lc0, lc1, lc2, lc3, lc4, lc5, lc6, lc7, hT, lc8, lc9, lca, ld0, ld1, ld2, ld3, hPI, hIT, hI, hb, hr, hm, hpl, htr, hact, ht, hra, hrb, hrc, rowL]; first | done | rfl)
        
        (try rw [wrap_succ (n := min d.acts.length 9) (by omega) (by omega)])
        rw [hI2]
        refine ⟨_, _, _, (ConvF.rowT (id := e + 4) (sz := 6) (n := j + 1) (f' := qRow d q I (j + 1)) (sub_del3 _ e (e + 1) (e + 2)) (by simp -implicitDefEqProofs only [↓qx, qq, ↓reduceIte, zA, zB, zC, zD, zE, zF, zG, zH, zI, zJ, zK, zL, zM, zN, zO, zP, zQ, rs13, h1, h2, h3, h6, h7, h8, h9, lt_103, lc0, lc1, lc2, lc3, lc4, lc5, lc6, lc7, hT, lc8, lc9, lca, ld0, ld1, ld2, ld3, hPI, hIT, hI, hb, hr, hm, hpl, htr, hact, ht, hra, hrb, hrc, rowL]; rfl) ?hg (fun i _ => qRow_len d q I (j + 1) i)).trans (ConvF.tag (e + 4) [nx + 2]), ?_⟩; case hg => (
          intro i hi
          by_cases e1 : i < j
          · simp only [appF, if_pos e1]
            rw [← qRow_lt e1]
            exact TnL.same (sub_del3 _ _ _ _) _
          · obtain rfl : i = j := by omega
            rw [qRow_at hjq]
            simp only [appF, Nat.lt_irrefl, if_false, Nat.sub_self]
            exact (TnL.cons (Tn.same (sub_del3 _ _ _ _) _) (TnL.cons (Tn.eq (Tn.same (sub_del3 _ _ _ _) _) (by simp only [mkTr, hdx])) (TnL.cons (Tn.eq (Tn.same (sub_del3 _ _ _ _) _) (by rw [hx]; rfl)) (TnL.cons (Tn.eq (Tn.frz0 (id := e) (sz := 2) (n := (tIn (mkM d) x).length) (f := fun i => eArc ((tIn (mkM d) x).getD i dArc)) (sub_del3 _ _ _ _) (by simp -implicitDefEqProofs only [↓qx, qq, ↓reduceIte, zA, zB, zC, zD, zE, zF, zG, zH, zI, zJ, zK, zL, zM, zN, zO, zP, zQ, rs13, h1, h2, h3, h6, h7, h8, h9, lt_103, lc0, lc1, lc2, lc3, lc4, lc5, lc6, lc7, hT, lc8, lc9, lca, ld0, ld1, ld2, ld3, hPI, hIT, hI, hb, hr, hm, hpl, htr, hact, ht, hra, hrb, hrc, rowL]) (by simp -implicitDefEqProofs only [↓qx, qq, ↓reduceIte, zA, zB, zC, zD, zE, zF, zG, zH, zI, zJ, zK, zL, zM, zN, zO, zP, zQ, rs13, h1, h2, h3, h6, h7, h8, h9, lt_103, lc0, lc1, lc2, lc3, lc4, lc5, lc6, lc7, hT, lc8, lc9, lca, ld0, ld1, ld2, ld3, hPI, hIT, hI, hb, hr, hm, hpl, htr, hact, ht, hra, hrb, hrc, rowL])) (by rw [hx]; rfl)) (TnL.cons (Tn.eq (Tn.frz0 (id := e + 1) (sz := 2) (n := (tNot (mkM d) x).length) (f := fun i => eArc ((tNot (mkM d) x).getD i dArc)) (sub_del3 _ _ _ _) (by simp -implicitDefEqProofs only [↓qx, qq, ↓reduceIte, zA, zB, zC, zD, zE, zF, zG, zH, zI, zJ, zK, zL, zM, zN, zO, zP, zQ, rs13, h1, h2, h3, h6, h7, h8, h9, lt_103, lc0, lc1, lc2, lc3, lc4, lc5, lc6, lc7, hT, lc8, lc9, lca, ld0, ld1, ld2, ld3, hPI, hIT, hI, hb, hr, hm, hpl, htr, hact, ht, hra, hrb, hrc, rowL]) (by simp -implicitDefEqProofs only [↓qx, qq, ↓reduceIte, zA, zB, zC, zD, zE, zF, zG, zH, zI, zJ, zK, zL, zM, zN, zO, zP, zQ, rs13, h1, h2, h3, h6, h7, h8, h9, lt_103, lc0, lc1, lc2, lc3, lc4, lc5, lc6, lc7, hT, lc8, lc9, lca, ld0, ld1, ld2, ld3, hPI, hIT, hI, hb, hr, hm, hpl, htr, hact, ht, hra, hrb, hrc, rowL])) (by rw [hx]; rfl)) (TnL.cons (Tn.eq (Tn.frz0 (id := e + 2) (sz := 2) (n := (tOut (mkM d) x).length) (f := fun i => eArc ((tOut (mkM d) x).getD i dArc)) (sub_del3 _ _ _ _) (by simp -implicitDefEqProofs only [↓qx, qq, ↓reduceIte, zA, zB, zC, zD, zE, zF, zG, zH, zI, zJ, zK, zL, zM, zN, zO, zP, zQ, rs13, h1, h2, h3, h6, h7, h8, h9, lt_103, lc0, lc1, lc2, lc3, lc4, lc5, lc6, lc7, hT, lc8, lc9, lca, ld0, ld1, ld2, ld3, hPI, hIT, hI, hb, hr, hm, hpl, htr, hact, ht, hra, hrb, hrc, rowL]) (by simp -implicitDefEqProofs only [↓qx, qq, ↓reduceIte, zA, zB, zC, zD, zE, zF, zG, zH, zI, zJ, zK, zL, zM, zN, zO, zP, zQ, rs13, h1, h2, h3, h6, h7, h8, h9, lt_103, lc0, lc1, lc2, lc3, lc4, lc5, lc6, lc7, hT, lc8, lc9, lca, ld0, ld1, ld2, ld3, hPI, hIT, hI, hb, hr, hm, hpl, htr, hact, ht, hra, hrb, hrc, rowL])) (by rw [hx]; rfl)) TnL.nil)))))))
        refine ⟨min d.acts.length 9 - (j + 1), by omega, j + 1, by omega, rfl, ?_, ?_, ?_, ?_, ?_, ?_, ?_, (by repeat first | exact hsub | refine sN hfin ?_ (by omega) | refine sD hfin ?_ (by omega) | refine sT hfin ?_ (by omega) (by omega) (by simp only [tgl, and_true] <;> omega)), ⟨P, e + 5, I, hP, hPI, by omega, by omega, by simp -implicitDefEqProofs only [↓qx, qq, ↓reduceIte, zA, zB, zC, zD, zE, zF, zG, zH, zI, zJ, zK, zL, zM, zN, zO, zP, zQ, rs13, h1, h2, h3, h6, h7, h8, h9, lt_103, lc0, lc1, lc2, lc3, lc4, lc5, lc6, lc7, hT, lc8, lc9, lca, ld0, ld1, ld2, ld3, hPI, hIT, hI, hb, hr, hm, hpl, htr, hact, ht, hra, hrb, hrc, rowL], by simp -implicitDefEqProofs only [↓qx, qq, ↓reduceIte, zA, zB, zC, zD, zE, zF, zG, zH, zI, zJ, zK, zL, zM, zN, zO, zP, zQ, rs13, h1, h2, h3, h6, h7, h8, h9, lt_103, lc0, lc1, lc2, lc3, lc4, lc5, lc6, lc7, hT, lc8, lc9, lca, ld0, ld1, ld2, ld3, hPI, hIT, hI, hb, hr, hm, hpl, htr, hact, ht, hra, hrb, hrc, rowL], by simp -implicitDefEqProofs only [↓qx, qq, ↓reduceIte, zA, zB, zC, zD, zE, zF, zG, zH, zI, zJ, zK, zL, zM, zN, zO, zP, zQ, rs13, h1, h2, h3, h6, h7, h8, h9, lt_103, lc0, lc1, lc2, lc3, lc4, lc5, lc6, lc7, hT, lc8, lc9, lca, ld0, ld1, ld2, ld3, hPI, hIT, hI, hb, hr, hm, hpl, htr, hact, ht, hra, hrb, hrc, rowL], by rw [qInn_ne hjq]; simp -implicitDefEqProofs only [↓qx, qq, ↓reduceIte, zA, zB, zC, zD, zE, zF, zG, zH, zI, zJ, zK, zL, zM, zN, zO, zP, zQ, rs13, h1, h2, h3, h6, h7, h8, h9, lt_103, lc0, lc1, lc2, lc3, lc4, lc5, lc6, lc7, hT, lc8, lc9, lca, ld0, ld1, ld2, ld3, hPI, hIT, hI, hb, hr, hm, hpl, htr, hact, ht, hra, hrb, hrc, rowL]⟩⟩ <;> first | done | (simp -implicitDefEqProofs only [↓qx, qq, ↓reduceIte, zA, zB, zC, zD, zE, zF, zG, zH, zI, zJ, zK, zL, zM, zN, zO, zP, zQ, rs13, h1, h2, h3, h6, h7, h8, h9, lt_103, lc0, lc1, lc2, lc3, lc4, lc5, lc6, lc7, hT, lc8, lc9, lca, ld0, ld1, ld2, ld3, hPI, hIT, hI, hb, hr, hm, hpl, htr, hact, ht, hra, hrb, hrc, rowL]; first | done | rfl)
      · have hdq : tDel x = tDel0 x := if_neg hdl
        by_cases hd1 : tDel0 x = 0
        · have hd2 : ¬ x.d < 128 := fun h => hdl ⟨hd1, h⟩
          have hdx : tDel (gA d j) = 0 := by rw [← hx, hdq, hd1]
          refine SRun.run 100 ?_; simp -implicitDefEqProofs only [↓qx, qq, ↓reduceIte, zA, zB, zC, zD, zE, zF, zG, zH, zI, zJ, zK, zL, zM, zN, zO, zP, zQ, rs13, h1, h2, h3, h6, h7, h8, h9, lt_103, lc0, lc1, lc2, lc3, lc4, lc5, lc6, lc7, hT, lc8, lc9, lca, ld0, ld1, ld2, ld3, hPI, hIT, hI, hb, hr, hm, hpl, htr, hact, ht, hra, hrb, hrc, rowL,  tab, hd1, hd2]
          refine ⟨by simp, by omega, by omega, ?_⟩
          
          by_cases hjq : j = q
          · (try rw [wrap_succ (n := min d.acts.length 9) (by omega) (by omega)])
            rw [hI2]
            refine ⟨_, _, _, (ConvF.rowT (id := e + 4) (sz := 6) (n := j + 1) (f' := qRow d q e (j + 1)) (sub_del2 _ (e + 1) (e + 2)) (by simp -implicitDefEqProofs only [↓qx, qq, ↓reduceIte, zA, zB, zC, zD, zE, zF, zG, zH, zI, zJ, zK, zL, zM, zN, zO, zP, zQ, rs13, h1, h2, h3, h6, h7, h8, h9, lt_103, lc0, lc1, lc2, lc3, lc4, lc5, lc6, lc7, hT, lc8, lc9, lca, ld0, ld1, ld2, ld3, hPI, hIT, hI, hb, hr, hm, hpl, htr, hact, ht, hra, hrb, hrc, rowL]; rfl) ?hg (fun i _ => qRow_len d q e (j + 1) i)).trans (ConvF.tag (e + 4) [nx + 2]), ?_⟩; case hg => (
            intro i hi
            by_cases e1 : i < j
            · simp only [appF, if_pos e1]
              rw [← qRow_q (I := I) e1 hjq]
              exact TnL.same (sub_del2 _ _ _) _
            · obtain rfl : i = j := by omega
              rw [qRow_at0 hjq]
              simp only [appF, Nat.lt_irrefl, if_false, Nat.sub_self]
              exact (TnL.cons (Tn.same (sub_del2 _ _ _) _) (TnL.cons (Tn.eq (Tn.same (sub_del2 _ _ _) _) (by simp only [mkTr, hdx])) (TnL.cons (Tn.eq (Tn.same (sub_del2 _ _ _) _) (by rw [hx]; rfl)) (TnL.cons (Tn.eq (Tn.same (sub_del2 _ _ _) _) (by rw [hx]; rfl)) (TnL.cons (Tn.eq (Tn.frz0 (id := e + 1) (sz := 2) (n := (tNot (mkM d) x).length) (f := fun i => eArc ((tNot (mkM d) x).getD i dArc)) (sub_del2 _ _ _) (by simp -implicitDefEqProofs only [↓qx, qq, ↓reduceIte, zA, zB, zC, zD, zE, zF, zG, zH, zI, zJ, zK, zL, zM, zN, zO, zP, zQ, rs13, h1, h2, h3, h6, h7, h8, h9, lt_103, lc0, lc1, lc2, lc3, lc4, lc5, lc6, lc7, hT, lc8, lc9, lca, ld0, ld1, ld2, ld3, hPI, hIT, hI, hb, hr, hm, hpl, htr, hact, ht, hra, hrb, hrc, rowL]) (by simp -implicitDefEqProofs only [↓qx, qq, ↓reduceIte, zA, zB, zC, zD, zE, zF, zG, zH, zI, zJ, zK, zL, zM, zN, zO, zP, zQ, rs13, h1, h2, h3, h6, h7, h8, h9, lt_103, lc0, lc1, lc2, lc3, lc4, lc5, lc6, lc7, hT, lc8, lc9, lca, ld0, ld1, ld2, ld3, hPI, hIT, hI, hb, hr, hm, hpl, htr, hact, ht, hra, hrb, hrc, rowL])) (by rw [hx]; rfl)) (TnL.cons (Tn.eq (Tn.frz0 (id := e + 2) (sz := 2) (n := (tOut (mkM d) x).length) (f := fun i => eArc ((tOut (mkM d) x).getD i dArc)) (sub_del2 _ _ _) (by simp -implicitDefEqProofs only [↓qx, qq, ↓reduceIte, zA, zB, zC, zD, zE, zF, zG, zH, zI, zJ, zK, zL, zM, zN, zO, zP, zQ, rs13, h1, h2, h3, h6, h7, h8, h9, lt_103, lc0, lc1, lc2, lc3, lc4, lc5, lc6, lc7, hT, lc8, lc9, lca, ld0, ld1, ld2, ld3, hPI, hIT, hI, hb, hr, hm, hpl, htr, hact, ht, hra, hrb, hrc, rowL]) (by simp -implicitDefEqProofs only [↓qx, qq, ↓reduceIte, zA, zB, zC, zD, zE, zF, zG, zH, zI, zJ, zK, zL, zM, zN, zO, zP, zQ, rs13, h1, h2, h3, h6, h7, h8, h9, lt_103, lc0, lc1, lc2, lc3, lc4, lc5, lc6, lc7, hT, lc8, lc9, lca, ld0, ld1, ld2, ld3, hPI, hIT, hI, hb, hr, hm, hpl, htr, hact, ht, hra, hrb, hrc, rowL])) (by rw [hx]; rfl)) TnL.nil)))))))
            refine ⟨min d.acts.length 9 - (j + 1), by omega, j + 1, by omega, rfl, ?_, ?_, ?_, ?_, ?_, ?_, ?_, (by repeat first | exact hsub | refine sN hfin ?_ (by omega) | refine sD hfin ?_ (by omega) | refine sT hfin ?_ (by omega) (by omega) (by simp only [tgl, and_true] <;> omega)), ⟨P, e + 5, e, hP, by omega, by omega, by omega, by simp -implicitDefEqProofs only [↓qx, qq, ↓reduceIte, zA, zB, zC, zD, zE, zF, zG, zH, zI, zJ, zK, zL, zM, zN, zO, zP, zQ, rs13, h1, h2, h3, h6, h7, h8, h9, lt_103, lc0, lc1, lc2, lc3, lc4, lc5, lc6, lc7, hT, lc8, lc9, lca, ld0, ld1, ld2, ld3, hPI, hIT, hI, hb, hr, hm, hpl, htr, hact, ht, hra, hrb, hrc, rowL], by simp -implicitDefEqProofs only [↓qx, qq, ↓reduceIte, zA, zB, zC, zD, zE, zF, zG, zH, zI, zJ, zK, zL, zM, zN, zO, zP, zQ, rs13, h1, h2, h3, h6, h7, h8, h9, lt_103, lc0, lc1, lc2, lc3, lc4, lc5, lc6, lc7, hT, lc8, lc9, lca, ld0, ld1, ld2, ld3, hPI, hIT, hI, hb, hr, hm, hpl, htr, hact, ht, hra, hrb, hrc, rowL], by simp -implicitDefEqProofs only [↓qx, qq, ↓reduceIte, zA, zB, zC, zD, zE, zF, zG, zH, zI, zJ, zK, zL, zM, zN, zO, zP, zQ, rs13, h1, h2, h3, h6, h7, h8, h9, lt_103, lc0, lc1, lc2, lc3, lc4, lc5, lc6, lc7, hT, lc8, lc9, lca, ld0, ld1, ld2, ld3, hPI, hIT, hI, hb, hr, hm, hpl, htr, hact, ht, hra, hrb, hrc, rowL], by simp -implicitDefEqProofs only [↓qx, qq, ↓reduceIte, zA, zB, zC, zD, zE, zF, zG, zH, zI, zJ, zK, zL, zM, zN, zO, zP, zQ, rs13, h1, h2, h3, h6, h7, h8, h9, lt_103, lc0, lc1, lc2, lc3, lc4, lc5, lc6, lc7, hT, lc8, lc9, lca, ld0, ld1, ld2, ld3, hPI, hIT, hI, hb, hr, hm, hpl, htr, hact, ht, hra, hrb, hrc, rowL]; rw [qInn_eq hjq, hx]; rfl⟩⟩ <;> first | done | (simp -implicitDefEqProofs only [↓qx, qq, ↓reduceIte, zA, zB, zC, zD, zE, zF, zG, zH, zI, zJ, zK, zL, zM, zN, zO, zP, zQ, rs13, h1, h2, h3, h6, h7, h8, h9, lt_103, lc0, lc1, lc2, lc3, lc4, lc5, lc6, lc7, hT, lc8, lc9, lca, ld0, ld1, ld2, ld3, hPI, hIT, hI, hb, hr, hm, hpl, htr, hact, ht, hra, hrb, hrc, rowL]; first | done | rfl)
          
          (try rw [wrap_succ (n := min d.acts.length 9) (by omega) (by omega)])
          rw [hI2]
          refine ⟨_, _, _, (ConvF.rowT (id := e + 4) (sz := 6) (n := j + 1) (f' := qRow d q I (j + 1)) (sub_del3 _ e (e + 1) (e + 2)) (by simp -implicitDefEqProofs only [↓qx, qq, ↓reduceIte, zA, zB, zC, zD, zE, zF, zG, zH, zI, zJ, zK, zL, zM, zN, zO, zP, zQ, rs13, h1, h2, h3, h6, h7, h8, h9, lt_103, lc0, lc1, lc2, lc3, lc4, lc5, lc6, lc7, hT, lc8, lc9, lca, ld0, ld1, ld2, ld3, hPI, hIT, hI, hb, hr, hm, hpl, htr, hact, ht, hra, hrb, hrc, rowL]; rfl) ?hg (fun i _ => qRow_len d q I (j + 1) i)).trans (ConvF.tag (e + 4) [nx + 2]), ?_⟩; case hg => (
            intro i hi
            by_cases e1 : i < j
            · simp only [appF, if_pos e1]
              rw [← qRow_lt e1]
              exact TnL.same (sub_del3 _ _ _ _) _
            · obtain rfl : i = j := by omega
              rw [qRow_at hjq]
              simp only [appF, Nat.lt_irrefl, if_false, Nat.sub_self]
              exact (TnL.cons (Tn.same (sub_del3 _ _ _ _) _) (TnL.cons (Tn.eq (Tn.same (sub_del3 _ _ _ _) _) (by simp only [mkTr, hdx])) (TnL.cons (Tn.eq (Tn.same (sub_del3 _ _ _ _) _) (by rw [hx]; rfl)) (TnL.cons (Tn.eq (Tn.frz0 (id := e) (sz := 2) (n := (tIn (mkM d) x).length) (f := fun i => eArc ((tIn (mkM d) x).getD i dArc)) (sub_del3 _ _ _ _) (by simp -implicitDefEqProofs only [↓qx, qq, ↓reduceIte, zA, zB, zC, zD, zE, zF, zG, zH, zI, zJ, zK, zL, zM, zN, zO, zP, zQ, rs13, h1, h2, h3, h6, h7, h8, h9, lt_103, lc0, lc1, lc2, lc3, lc4, lc5, lc6, lc7, hT, lc8, lc9, lca, ld0, ld1, ld2, ld3, hPI, hIT, hI, hb, hr, hm, hpl, htr, hact, ht, hra, hrb, hrc, rowL]) (by simp -implicitDefEqProofs only [↓qx, qq, ↓reduceIte, zA, zB, zC, zD, zE, zF, zG, zH, zI, zJ, zK, zL, zM, zN, zO, zP, zQ, rs13, h1, h2, h3, h6, h7, h8, h9, lt_103, lc0, lc1, lc2, lc3, lc4, lc5, lc6, lc7, hT, lc8, lc9, lca, ld0, ld1, ld2, ld3, hPI, hIT, hI, hb, hr, hm, hpl, htr, hact, ht, hra, hrb, hrc, rowL])) (by rw [hx]; rfl)) (TnL.cons (Tn.eq (Tn.frz0 (id := e + 1) (sz := 2) (n := (tNot (mkM d) x).length) (f := fun i => eArc ((tNot (mkM d) x).getD i dArc)) (sub_del3 _ _ _ _) (by simp -implicitDefEqProofs only [↓qx, qq, ↓reduceIte, zA, zB, zC, zD, zE, zF, zG, zH, zI, zJ, zK, zL, zM, zN, zO, zP, zQ, rs13, h1, h2, h3, h6, h7, h8, h9, lt_103, lc0, lc1, lc2, lc3, lc4, lc5, lc6, lc7, hT, lc8, lc9, lca, ld0, ld1, ld2, ld3, hPI, hIT, hI, hb, hr, hm, hpl, htr, hact, ht, hra, hrb, hrc, rowL]) (by simp -implicitDefEqProofs only [↓qx, qq, ↓reduceIte, zA, zB, zC, zD, zE, zF, zG, zH, zI, zJ, zK, zL, zM, zN, zO, zP, zQ, rs13, h1, h2, h3, h6, h7, h8, h9, lt_103, lc0, lc1, lc2, lc3, lc4, lc5, lc6, lc7, hT, lc8, lc9, lca, ld0, ld1, ld2, ld3, hPI, hIT, hI, hb, hr, hm, hpl, htr, hact, ht, hra, hrb, hrc, rowL])) (by rw [hx]; rfl)) (TnL.cons (Tn.eq (Tn.frz0 (id := e + 2) (sz := 2) (n := (tOut (mkM d) x).length) (f := fun i => eArc ((tOut (mkM d) x).getD i dArc)) (sub_del3 _ _ _ _) (by simp -implicitDefEqProofs only [↓qx, qq, ↓reduceIte, zA, zB, zC, zD, zE, zF, zG, zH, zI, zJ, zK, zL, zM, zN, zO, zP, zQ, rs13, h1, h2, h3, h6, h7, h8, h9, lt_103, lc0, lc1, lc2, lc3, lc4, lc5, lc6, lc7, hT, lc8, lc9, lca, ld0, ld1, ld2, ld3, hPI, hIT, hI, hb, hr, hm, hpl, htr, hact, ht, hra, hrb, hrc, rowL]) (by simp -implicitDefEqProofs only [↓qx, qq, ↓reduceIte, zA, zB, zC, zD, zE, zF, zG, zH, zI, zJ, zK, zL, zM, zN, zO, zP, zQ, rs13, h1, h2, h3, h6, h7, h8, h9, lt_103, lc0, lc1, lc2, lc3, lc4, lc5, lc6, lc7, hT, lc8, lc9, lca, ld0, ld1, ld2, ld3, hPI, hIT, hI, hb, hr, hm, hpl, htr, hact, ht, hra, hrb, hrc, rowL])) (by rw [hx]; rfl)) TnL.nil)))))))
          refine ⟨min d.acts.length 9 - (j + 1), by omega, j + 1, by omega, rfl, ?_, ?_, ?_, ?_, ?_, ?_, ?_, (by repeat first | exact hsub | refine sN hfin ?_ (by omega) | refine sD hfin ?_ (by omega) | refine sT hfin ?_ (by omega) (by omega) (by simp only [tgl, and_true] <;> omega)), ⟨P, e + 5, I, hP, hPI, by omega, by omega, by simp -implicitDefEqProofs only [↓qx, qq, ↓reduceIte, zA, zB, zC, zD, zE, zF, zG, zH, zI, zJ, zK, zL, zM, zN, zO, zP, zQ, rs13, h1, h2, h3, h6, h7, h8, h9, lt_103, lc0, lc1, lc2, lc3, lc4, lc5, lc6, lc7, hT, lc8, lc9, lca, ld0, ld1, ld2, ld3, hPI, hIT, hI, hb, hr, hm, hpl, htr, hact, ht, hra, hrb, hrc, rowL], by simp -implicitDefEqProofs only [↓qx, qq, ↓reduceIte, zA, zB, zC, zD, zE, zF, zG, zH, zI, zJ, zK, zL, zM, zN, zO, zP, zQ, rs13, h1, h2, h3, h6, h7, h8, h9, lt_103, lc0, lc1, lc2, lc3, lc4, lc5, lc6, lc7, hT, lc8, lc9, lca, ld0, ld1, ld2, ld3, hPI, hIT, hI, hb, hr, hm, hpl, htr, hact, ht, hra, hrb, hrc, rowL], by simp -implicitDefEqProofs only [↓qx, qq, ↓reduceIte, zA, zB, zC, zD, zE, zF, zG, zH, zI, zJ, zK, zL, zM, zN, zO, zP, zQ, rs13, h1, h2, h3, h6, h7, h8, h9, lt_103, lc0, lc1, lc2, lc3, lc4, lc5, lc6, lc7, hT, lc8, lc9, lca, ld0, ld1, ld2, ld3, hPI, hIT, hI, hb, hr, hm, hpl, htr, hact, ht, hra, hrb, hrc, rowL], by rw [qInn_ne hjq]; simp -implicitDefEqProofs only [↓qx, qq, ↓reduceIte, zA, zB, zC, zD, zE, zF, zG, zH, zI, zJ, zK, zL, zM, zN, zO, zP, zQ, rs13, h1, h2, h3, h6, h7, h8, h9, lt_103, lc0, lc1, lc2, lc3, lc4, lc5, lc6, lc7, hT, lc8, lc9, lca, ld0, ld1, ld2, ld3, hPI, hIT, hI, hb, hr, hm, hpl, htr, hact, ht, hra, hrb, hrc, rowL]⟩⟩ <;> first | done | (simp -implicitDefEqProofs only [↓qx, qq, ↓reduceIte, zA, zB, zC, zD, zE, zF, zG, zH, zI, zJ, zK, zL, zM, zN, zO, zP, zQ, rs13, h1, h2, h3, h6, h7, h8, h9, lt_103, lc0, lc1, lc2, lc3, lc4, lc5, lc6, lc7, hT, lc8, lc9, lca, ld0, ld1, ld2, ld3, hPI, hIT, hI, hb, hr, hm, hpl, htr, hact, ht, hra, hrb, hrc, rowL]; first | done | rfl)
        · have hdx : tDel (gA d j) = tDel0 x := by rw [← hx, hdq]
          refine SRun.run 100 ?_; simp -implicitDefEqProofs only [↓qx, qq, ↓reduceIte, zA, zB, zC, zD, zE, zF, zG, zH, zI, zJ, zK, zL, zM, zN, zO, zP, zQ, rs13, h1, h2, h3, h6, h7, h8, h9, lt_103, lc0, lc1, lc2, lc3, lc4, lc5, lc6, lc7, hT, lc8, lc9, lca, ld0, ld1, ld2, ld3, hPI, hIT, hI, hb, hr, hm, hpl, htr, hact, ht, hra, hrb, hrc, rowL,  tab, hd1]
          refine ⟨by simp, by omega, by omega, ?_⟩
          
          by_cases hjq : j = q
          · (try rw [wrap_succ (n := min d.acts.length 9) (by omega) (by omega)])
            rw [hI2]
            refine ⟨_, _, _, (ConvF.rowT (id := e + 4) (sz := 6) (n := j + 1) (f' := qRow d q e (j + 1)) (sub_del2 _ (e + 1) (e + 2)) (by simp -implicitDefEqProofs only [↓qx, qq, ↓reduceIte, zA, zB, zC, zD, zE, zF, zG, zH, zI, zJ, zK, zL, zM, zN, zO, zP, zQ, rs13, h1, h2, h3, h6, h7, h8, h9, lt_103, lc0, lc1, lc2, lc3, lc4, lc5, lc6, lc7, hT, lc8, lc9, lca, ld0, ld1, ld2, ld3, hPI, hIT, hI, hb, hr, hm, hpl, htr, hact, ht, hra, hrb, hrc, rowL]; rfl) ?hg (fun i _ => qRow_len d q e (j + 1) i)).trans (ConvF.tag (e + 4) [nx + 2]), ?_⟩; case hg => (
            intro i hi
            by_cases e1 : i < j
            · simp only [appF, if_pos e1]
              rw [← qRow_q (I := I) e1 hjq]
              exact TnL.same (sub_del2 _ _ _) _
            · obtain rfl : i = j := by omega
              rw [qRow_at0 hjq]
              simp only [appF, Nat.lt_irrefl, if_false, Nat.sub_self]
              exact (TnL.cons (Tn.same (sub_del2 _ _ _) _) (TnL.cons (Tn.eq (Tn.same (sub_del2 _ _ _) _) (by simp only [mkTr, hdx])) (TnL.cons (Tn.eq (Tn.same (sub_del2 _ _ _) _) (by rw [hx]; rfl)) (TnL.cons (Tn.eq (Tn.same (sub_del2 _ _ _) _) (by rw [hx]; rfl)) (TnL.cons (Tn.eq (Tn.frz0 (id := e + 1) (sz := 2) (n := (tNot (mkM d) x).length) (f := fun i => eArc ((tNot (mkM d) x).getD i dArc)) (sub_del2 _ _ _) (by simp -implicitDefEqProofs only [↓qx, qq, ↓reduceIte, zA, zB, zC, zD, zE, zF, zG, zH, zI, zJ, zK, zL, zM, zN, zO, zP, zQ, rs13, h1, h2, h3, h6, h7, h8, h9, lt_103, lc0, lc1, lc2, lc3, lc4, lc5, lc6, lc7, hT, lc8, lc9, lca, ld0, ld1, ld2, ld3, hPI, hIT, hI, hb, hr, hm, hpl, htr, hact, ht, hra, hrb, hrc, rowL]) (by simp -implicitDefEqProofs only [↓qx, qq, ↓reduceIte, zA, zB, zC, zD, zE, zF, zG, zH, zI, zJ, zK, zL, zM, zN, zO, zP, zQ, rs13, h1, h2, h3, h6, h7, h8, h9, lt_103, lc0, lc1, lc2, lc3, lc4, lc5, lc6, lc7, hT, lc8, lc9, lca, ld0, ld1, ld2, ld3, hPI, hIT, hI, hb, hr, hm, hpl, htr, hact, ht, hra, hrb, hrc, rowL])) (by rw [hx]; rfl)) (TnL.cons (Tn.eq (Tn.frz0 (id := e + 2) (sz := 2) (n := (tOut (mkM d) x).length) (f := fun i => eArc ((tOut (mkM d) x).getD i dArc)) (sub_del2 _ _ _) (by simp -implicitDefEqProofs only [↓qx, qq, ↓reduceIte, zA, zB, zC, zD, zE, zF, zG, zH, zI, zJ, zK, zL, zM, zN, zO, zP, zQ, rs13, h1, h2, h3, h6, h7, h8, h9, lt_103, lc0, lc1, lc2, lc3, lc4, lc5, lc6, lc7, hT, lc8, lc9, lca, ld0, ld1, ld2, ld3, hPI, hIT, hI, hb, hr, hm, hpl, htr, hact, ht, hra, hrb, hrc, rowL]) (by simp -implicitDefEqProofs only [↓qx, qq, ↓reduceIte, zA, zB, zC, zD, zE, zF, zG, zH, zI, zJ, zK, zL, zM, zN, zO, zP, zQ, rs13, h1, h2, h3, h6, h7, h8, h9, lt_103, lc0, lc1, lc2, lc3, lc4, lc5, lc6, lc7, hT, lc8, lc9, lca, ld0, ld1, ld2, ld3, hPI, hIT, hI, hb, hr, hm, hpl, htr, hact, ht, hra, hrb, hrc, rowL])) (by rw [hx]; rfl)) TnL.nil)))))))
            refine ⟨min d.acts.length 9 - (j + 1), by omega, j + 1, by omega, rfl, ?_, ?_, ?_, ?_, ?_, ?_, ?_, (by repeat first | exact hsub | refine sN hfin ?_ (by omega) | refine sD hfin ?_ (by omega) | refine sT hfin ?_ (by omega) (by omega) (by simp only [tgl, and_true] <;> omega)), ⟨P, e + 5, e, hP, by omega, by omega, by omega, by simp -implicitDefEqProofs only [↓qx, qq, ↓reduceIte, zA, zB, zC, zD, zE, zF, zG, zH, zI, zJ, zK, zL, zM, zN, zO, zP, zQ, rs13, h1, h2, h3, h6, h7, h8, h9, lt_103, lc0, lc1, lc2, lc3, lc4, lc5, lc6, lc7, hT, lc8, lc9, lca, ld0, ld1, ld2, ld3, hPI, hIT, hI, hb, hr, hm, hpl, htr, hact, ht, hra, hrb, hrc, rowL], by simp -implicitDefEqProofs only [↓qx, qq, ↓reduceIte, zA, zB, zC, zD, zE, zF, zG, zH, zI, zJ, zK, zL, zM, zN, zO, zP, zQ, rs13, h1, h2, h3, h6, h7, h8, h9, lt_103, lc0, lc1, lc2, lc3, lc4, lc5, lc6, lc7, hT, lc8, lc9, lca, ld0, ld1, ld2, ld3, hPI, hIT, hI, hb, hr, hm, hpl, htr, hact, ht, hra, hrb, hrc, rowL], by simp -implicitDefEqProofs only [↓qx, qq, ↓reduceIte, zA, zB, zC, zD, zE, zF, zG, zH, zI, zJ, zK, zL, zM, zN, zO, zP, zQ, rs13, h1, h2, h3, h6, h7, h8, h9, lt_103, lc0, lc1, lc2, lc3, lc4, lc5, lc6, lc7, hT, lc8, lc9, lca, ld0, ld1, ld2, ld3, hPI, hIT, hI, hb, hr, hm, hpl, htr, hact, ht, hra, hrb, hrc, rowL], by simp -implicitDefEqProofs only [↓qx, qq, ↓reduceIte, zA, zB, zC, zD, zE, zF, zG, zH, zI, zJ, zK, zL, zM, zN, zO, zP, zQ, rs13, h1, h2, h3, h6, h7, h8, h9, lt_103, lc0, lc1, lc2, lc3, lc4, lc5, lc6, lc7, hT, lc8, lc9, lca, ld0, ld1, ld2, ld3, hPI, hIT, hI, hb, hr, hm, hpl, htr, hact, ht, hra, hrb, hrc, rowL]; rw [qInn_eq hjq, hx]; rfl⟩⟩ <;> first | done | (simp -implicitDefEqProofs only [↓qx, qq, ↓reduceIte, zA, zB, zC, zD, zE, zF, zG, zH, zI, zJ, zK, zL, zM, zN, zO, zP, zQ, rs13, h1, h2, h3, h6, h7, h8, h9, lt_103, lc0, lc1, lc2, lc3, lc4, lc5, lc6, lc7, hT, lc8, lc9, lca, ld0, ld1, ld2, ld3, hPI, hIT, hI, hb, hr, hm, hpl, htr, hact, ht, hra, hrb, hrc, rowL]; first | done | rfl)
          
          (try rw [wrap_succ (n := min d.acts.length 9) (by omega) (by omega)])
          rw [hI2]
          refine ⟨_, _, _, (ConvF.rowT (id := e + 4) (sz := 6) (n := j + 1) (f' := qRow d q I (j + 1)) (sub_del3 _ e (e + 1) (e + 2)) (by simp -implicitDefEqProofs only [↓qx, qq, ↓reduceIte, zA, zB, zC, zD, zE, zF, zG, zH, zI, zJ, zK, zL, zM, zN, zO, zP, zQ, rs13, h1, h2, h3, h6, h7, h8, h9, lt_103, lc0, lc1, lc2, lc3, lc4, lc5, lc6, lc7, hT, lc8, lc9, lca, ld0, ld1, ld2, ld3, hPI, hIT, hI, hb, hr, hm, hpl, htr, hact, ht, hra, hrb, hrc, rowL]; rfl) ?hg (fun i _ => qRow_len d q I (j + 1) i)).trans (ConvF.tag (e + 4) [nx + 2]), ?_⟩; case hg => (
            intro i hi
            by_cases e1 : i < j
            · simp only [appF, if_pos e1]
              rw [← qRow_lt e1]
              exact TnL.same (sub_del3 _ _ _ _) _
            · obtain rfl : i = j := by omega
              rw [qRow_at hjq]
              simp only [appF, Nat.lt_irrefl, if_false, Nat.sub_self]
              exact (TnL.cons (Tn.same (sub_del3 _ _ _ _) _) (TnL.cons (Tn.eq (Tn.same (sub_del3 _ _ _ _) _) (by simp only [mkTr, hdx])) (TnL.cons (Tn.eq (Tn.same (sub_del3 _ _ _ _) _) (by rw [hx]; rfl)) (TnL.cons (Tn.eq (Tn.frz0 (id := e) (sz := 2) (n := (tIn (mkM d) x).length) (f := fun i => eArc ((tIn (mkM d) x).getD i dArc)) (sub_del3 _ _ _ _) (by simp -implicitDefEqProofs only [↓qx, qq, ↓reduceIte, zA, zB, zC, zD, zE, zF, zG, zH, zI, zJ, zK, zL, zM, zN, zO, zP, zQ, rs13, h1, h2, h3, h6, h7, h8, h9, lt_103, lc0, lc1, lc2, lc3, lc4, lc5, lc6, lc7, hT, lc8, lc9, lca, ld0, ld1, ld2, ld3, hPI, hIT, hI, hb, hr, hm, hpl, htr, hact, ht, hra, hrb, hrc, rowL]) (by simp -implicitDefEqProofs only [↓qx, qq, ↓reduceIte, zA, zB, zC, zD, zE, zF, zG, zH, zI, zJ, zK, zL, zM, zN, zO, zP, zQ, rs13, h1, h2, h3, h6, h7, h8, h9, lt_103, lc0, lc1, lc2, lc3, lc4, lc5, lc6, lc7, hT, lc8, lc9, lca, ld0, ld1, ld2, ld3, hPI, hIT, hI, hb, hr, hm, hpl, htr, hact, ht, hra, hrb, hrc, rowL])) (by rw [hx]; rfl)) (TnL.cons (Tn.eq (Tn.frz0 (id := e + 1) (sz := 2) (n := (tNot (mkM d) x).length) (f := fun i => eArc ((tNot (mkM d) x).getD i dArc)) (sub_del3 _ _ _ _) (by simp -implicitDefEqProofs only [↓qx, qq, ↓reduceIte, zA, zB, zC, zD, zE, zF, zG, zH, zI, zJ, zK, zL, zM, zN, zO, zP, zQ, rs13, h1, h2, h3, h6, h7, h8, h9, lt_103, lc0, lc1, lc2, lc3, lc4, lc5, lc6, lc7, hT, lc8, lc9, lca, ld0, ld1, ld2, ld3, hPI, hIT, hI, hb, hr, hm, hpl, htr, hact, ht, hra, hrb, hrc, rowL]) (by simp -implicitDefEqProofs only [↓qx, qq, ↓reduceIte, zA, zB, zC, zD, zE, zF, zG, zH, zI, zJ, zK, zL, zM, zN, zO, zP, zQ, rs13, h1, h2, h3, h6, h7, h8, h9, lt_103, lc0, lc1, lc2, lc3, lc4, lc5, lc6, lc7, hT, lc8, lc9, lca, ld0, ld1, ld2, ld3, hPI, hIT, hI, hb, hr, hm, hpl, htr, hact, ht, hra, hrb, hrc, rowL])) (by rw [hx]; rfl)) (TnL.cons (Tn.eq (Tn.frz0 (id := e + 2) (sz := 2) (n := (tOut (mkM d) x).length) (f := fun i => eArc ((tOut (mkM d) x).getD i dArc)) (sub_del3 _ _ _ _) (by simp -implicitDefEqProofs only [↓qx, qq, ↓reduceIte, zA, zB, zC, zD, zE, zF, zG, zH, zI, zJ, zK, zL, zM, zN, zO, zP, zQ, rs13, h1, h2, h3, h6, h7, h8, h9, lt_103, lc0, lc1, lc2, lc3, lc4, lc5, lc6, lc7, hT, lc8, lc9, lca, ld0, ld1, ld2, ld3, hPI, hIT, hI, hb, hr, hm, hpl, htr, hact, ht, hra, hrb, hrc, rowL]) (by simp -implicitDefEqProofs only [↓qx, qq, ↓reduceIte, zA, zB, zC, zD, zE, zF, zG, zH, zI, zJ, zK, zL, zM, zN, zO, zP, zQ, rs13, h1, h2, h3, h6, h7, h8, h9, lt_103, lc0, lc1, lc2, lc3, lc4, lc5, lc6, lc7, hT, lc8, lc9, lca, ld0, ld1, ld2, ld3, hPI, hIT, hI, hb, hr, hm, hpl, htr, hact, ht, hra, hrb, hrc, rowL])) (by rw [hx]; rfl)) TnL.nil)))))))
          refine ⟨min d.acts.length 9 - (j + 1), by omega, j + 1, by omega, rfl, ?_, ?_, ?_, ?_, ?_, ?_, ?_, (by repeat first | exact hsub | refine sN hfin ?_ (by omega) | refine sD hfin ?_ (by omega) | refine sT hfin ?_ (by omega) (by omega) (by simp only [tgl, and_true] <;> omega)), ⟨P, e + 5, I, hP, hPI, by omega, by omega, by simp -implicitDefEqProofs only [↓qx, qq, ↓reduceIte, zA, zB, zC, zD, zE, zF, zG, zH, zI, zJ, zK, zL, zM, zN, zO, zP, zQ, rs13, h1, h2, h3, h6, h7, h8, h9, lt_103, lc0, lc1, lc2, lc3, lc4, lc5, lc6, lc7, hT, lc8, lc9, lca, ld0, ld1, ld2, ld3, hPI, hIT, hI, hb, hr, hm, hpl, htr, hact, ht, hra, hrb, hrc, rowL], by simp -implicitDefEqProofs only [↓qx, qq, ↓reduceIte, zA, zB, zC, zD, zE, zF, zG, zH, zI, zJ, zK, zL, zM, zN, zO, zP, zQ, rs13, h1, h2, h3, h6, h7, h8, h9, lt_103, lc0, lc1, lc2, lc3, lc4, lc5, lc6, lc7, hT, lc8, lc9, lca, ld0, ld1, ld2, ld3, hPI, hIT, hI, hb, hr, hm, hpl, htr, hact, ht, hra, hrb, hrc, rowL], by simp -implicitDefEqProofs only [↓qx, qq, ↓reduceIte, zA, zB, zC, zD, zE, zF, zG, zH, zI, zJ, zK, zL, zM, zN, zO, zP, zQ, rs13, h1, h2, h3, h6, h7, h8, h9, lt_103, lc0, lc1, lc2, lc3, lc4, lc5, lc6, lc7, hT, lc8, lc9, lca, ld0, ld1, ld2, ld3, hPI, hIT, hI, hb, hr, hm, hpl, htr, hact, ht, hra, hrb, hrc, rowL], by rw [qInn_ne hjq]; simp -implicitDefEqProofs only [↓qx, qq, ↓reduceIte, zA, zB, zC, zD, zE, zF, zG, zH, zI, zJ, zK, zL, zM, zN, zO, zP, zQ, rs13, h1, h2, h3, h6, h7, h8, h9, lt_103, lc0, lc1, lc2, lc3, lc4, lc5, lc6, lc7, hT, lc8, lc9, lca, ld0, ld1, ld2, ld3, hPI, hIT, hI, hb, hr, hm, hpl, htr, hact, ht, hra, hrb, hrc, rowL]⟩⟩ <;> first | done | (simp -implicitDefEqProofs only [↓qx, qq, ↓reduceIte, zA, zB, zC, zD, zE, zF, zG, zH, zI, zJ, zK, zL, zM, zN, zO, zP, zQ, rs13, h1, h2, h3, h6, h7, h8, h9, lt_103, lc0, lc1, lc2, lc3, lc4, lc5, lc6, lc7, hT, lc8, lc9, lca, ld0, ld1, ld2, ld3, hPI, hIT, hI, hb, hr, hm, hpl, htr, hact, ht, hra, hrb, hrc, rowL]; first | done | rfl)
    · 
      have hjl : j = min d.acts.length 9 := by omega
      subst hjl
      exact fin_sub (Fw.Sub.refl _) (hK P T I _ _ ⟨by omega, by omega, by omega, by omega, by omega, by omega⟩ ⟨by omega, by omega, by omega⟩ (by repeat first | exact hsub | refine sN hfin ?_ (by omega) | refine sD hfin ?_ (by omega) | refine sT hfin ?_ (by omega) (by omega) (by simp only [tgl, and_true] <;> omega)) (by simp -implicitDefEqProofs only [↓qx, qq, ↓reduceIte, zA, zB, zC, zD, zE, zF, zG, zH, zI, zJ, zK, zL, zM, zN, zO, zP, zQ, rs13, h1, h2, h3, h6, h7, hb, hr, hm, hpl, htr, hI, ld0, ld1, ld2, ld3, hPI, hIT, rowL, lc0, lc1, lc2, lc3, lc4, lc5, lc6, lc7, hT, lc8, lc9, lca, List.length_map, List.length_range]) (by simp -implicitDefEqProofs only [↓qx, qq, ↓reduceIte, zA, zB, zC, zD, zE, zF, zG, zH, zI, zJ, zK, zL, zM, zN, zO, zP, zQ, rs13, h1, h2, h3, h6, h7, hb, hr, hm, hpl, htr, hI, ld0, ld1, ld2, ld3, hPI, hIT, rowL, lc0, lc1, lc2, lc3, lc4, lc5, lc6, lc7, hT, lc8, lc9, lca]) (by simp -implicitDefEqProofs only [↓qx, qq, ↓reduceIte, zA, zB, zC, zD, zE, zF, zG, zH, zI, zJ, zK, zL, zM, zN, zO, zP, zQ, rs13, h1, h2, h3, h6, h7, hb, hr, hm, hpl, htr, hI, ld0, ld1, ld2, ld3, hPI, hIT, rowL, lc0, lc1, lc2, lc3, lc4, lc5, lc6, lc7, hT, lc8, lc9, lca]))
    · 
      have hjl : j = min d.acts.length 9 := by omega
      subst hjl
      exact fin_sub (Fw.Sub.refl _) (hK P T I _ _ ⟨by omega, by omega, by omega, by omega, by omega, by omega⟩ ⟨by omega, by omega, by omega⟩ (by repeat first | exact hsub | refine sN hfin ?_ (by omega) | refine sD hfin ?_ (by omega) | refine sT hfin ?_ (by omega) (by omega) (by simp only [tgl, and_true] <;> omega)) (by simp -implicitDefEqProofs only [↓qx, qq, ↓reduceIte, zA, zB, zC, zD, zE, zF, zG, zH, zI, zJ, zK, zL, zM, zN, zO, zP, zQ, rs13, h1, h2, h3, h6, h7, hb, hr, hm, hpl, htr, hI, ld0, ld1, ld2, ld3, hPI, hIT, rowL, lc0, lc1, lc2, lc3, lc4, lc5, lc6, lc7, hT, lc8, lc9, lca, List.length_map, List.length_range]) (by simp -implicitDefEqProofs only [↓qx, qq, ↓reduceIte, zA, zB, zC, zD, zE, zF, zG, zH, zI, zJ, zK, zL, zM, zN, zO, zP, zQ, rs13, h1, h2, h3, h6, h7, hb, hr, hm, hpl, htr, hI, ld0, ld1, ld2, ld3, hPI, hIT, rowL, lc0, lc1, lc2, lc3, lc4, lc5, lc6, lc7, hT, lc8, lc9, lca]) (by simp -implicitDefEqProofs only [↓qx, qq, ↓reduceIte, zA, zB, zC, zD, zE, zF, zG, zH, zI, zJ, zK, zL, zM, zN, zO, zP, zQ, rs13, h1, h2, h3, h6, h7, hb, hr, hm, hpl, htr, hI, ld0, ld1, ld2, ld3, hPI, hIT, rowL, lc0, lc1, lc2, lc3, lc4, lc5, lc6, lc7, hT, lc8, lc9, lca]))
end Go.Proofs.Ytipjldekiiojaaa
/- SwiftComes. -/
namespace Go.Proofs.Ytipjldekiiojaaa
set_option linter.all false
open Go Go.Proofs.Ytipjldekiiojaaa.Fw
open Nat renaming reduceAdd → zA, reduceBNe → zB, reduceMul → zC, reduceSub → zD, reduceBEq → zM, reduceEqDiff → zN, reduceLT → zO, reduceLeDiff → zP
open Int renaming reduceEq → zE, reduceNe → zF, reduceLT → zG, reduceLE → zH, reduceAdd → zI, reduceMul → zJ, reduceSub → zK, reduceNeg → zL, reduceToNat → zQ
set_option maxRecDepth 100000
set_option maxHeartbeats 8000000
set_option linter.unusedSimpArgs false

theorem EAt.subs {rest : Store} {C : EC} {xb rd mk wy hp lg ou mp : Nat} {inn : AV} {S : RS} {told : List Ev} {R : List Bool} {hl : List Key} {cnt : Int} {mo : Option Ob} {st st' : Store} {nx nx' : Nat} (h : EAt rest C xb rd mk wy hp lg ou mp inn S told R hl cnt mo st nx) (hs : Fw.Sub st st') (hn : nx ≤ nx') : EAt rest C xb rd mk wy hp lg ou mp inn S told R hl cnt (st' mp) st' nx' :=
  ⟨h.no, by have := h.lt; omega, h.ne, hs _ _ h.box, hs _ _ h.rdy, hs _ _ h.marks, hs _ _ h.way, hs _ _ h.heap, hs _ _ h.log, hs _ _ h.out, rfl, h.sub.trans hs⟩
theorem EAt.put {rest : Store} {C : EC} {xb rd mk wy hp lg ou mp : Nat} {inn : AV} {S : RS} {told : List Ev} {R : List Bool} {hl : List Key} {cnt : Int} {mo : Option Ob} {st : Store} {nx id : Nat} {o : Ob} (h : EAt rest C xb rd mk wy hp lg ou mp inn S told R hl cnt mo st nx) (hs : st id = some o) (hne : ¬ xb = id ∧ ¬ rd = id ∧ ¬ mk = id ∧ ¬ wy = id ∧ ¬ hp = id ∧ ¬ lg = id ∧ ¬ ou = id ∧ ¬ mp = id) : EAt (rest.set id o) C xb rd mk wy hp lg ou mp inn S told R hl cnt mo st nx := by
  obtain ⟨n1, n2, n3, n4, n5, n6, n7, n8⟩ := h.no
  obtain ⟨e1, e2, e3, e4, e5, e6, e7, e8⟩ := hne
  refine ⟨⟨by rw [Store.get_set_ne e1]; exact n1, by rw [Store.get_set_ne e2]; exact n2, by rw [Store.get_set_ne e3]; exact n3, by rw [Store.get_set_ne e4]; exact n4, by rw [Store.get_set_ne e5]; exact n5, by rw [Store.get_set_ne e6]; exact n6, by rw [Store.get_set_ne e7]; exact n7, by rw [Store.get_set_ne e8]; exact n8⟩, h.lt, h.ne, h.box, h.rdy, h.marks, h.way, h.heap, h.log, h.out, h.map, fun j p hj => ?_⟩
  by_cases e : j = id
  · subst e; rw [Store.get_set_same] at hj; cases hj; exact hs
  · rw [Store.get_set_ne e] at hj; exact h.sub j p hj
theorem EAt.keep {rest : Store} {C : EC} {xb rd mk wy hp lg ou mp : Nat} {inn : AV} {S : RS} {told : List Ev} {R : List Bool} {hl : List Key} {cnt : Int} {mo : Option Ob} {st st' : Store} {nx nx' : Nat} (h : EAt rest C xb rd mk wy hp lg ou mp inn S told R hl cnt mo st nx) (hk : st' xb = st xb ∧ st' rd = st rd ∧ st' mk = st mk ∧ st' wy = st wy ∧ st' hp = st hp ∧ st' lg = st lg ∧ st' ou = st ou ∧ st' mp = st mp) (hs : Fw.Sub rest st') (hn : nx ≤ nx') : EAt rest C xb rd mk wy hp lg ou mp inn S told R hl cnt mo st' nx' := by
  obtain ⟨e1, e2, e3, e4, e5, e6, e7, e8⟩ := hk
  exact ⟨h.no, by have := h.lt; omega, h.ne, e1.trans h.box, e2.trans h.rdy, e3.trans h.marks, e4.trans h.way, e5.trans h.heap, e6.trans h.log, e7.trans h.out, e8.trans h.map, hs⟩
theorem EAt.ne_of {rest : Store} {C : EC} {xb rd mk wy hp lg ou mp : Nat} {inn : AV} {S : RS} {told : List Ev} {R : List Bool} {hl : List Key} {cnt : Int} {mo : Option Ob} {st : Store} {nx id : Nat} {o : Ob} (h : EAt rest C xb rd mk wy hp lg ou mp inn S told R hl cnt mo st nx) (hr : rest id = some o) : ¬ hp = id := fun e => by
  have := h.no.2.2.2.2.1
  rw [e, hr] at this; cases this
theorem stE_come {n : Net} {W : List Ev} (e : Ev) : ({ stE n W with wait := (stE n W).wait ++ [e], way := addM (stE n W).way e.p e.n } : RS) = stE n (W ++ [e]) := by
  have : bringM (List.replicate n.places.length 0) (W ++ [e]) = addM (bringM (List.replicate n.places.length 0) W) e.p e.n := by
    unfold bringM; rw [List.foldl_append]; rfl
  unfold stE
  rw [this]
theorem srun_join2 {C : Ctx} {k : List KI} {goal : Prop} (I : Fr → Store → Nat → Prop) (h : (∀ fr st nx, I fr st nx → SRun C k fr st nx) → goal) (r : ∀ fr st nx, I fr st nx → SRun C k fr st nx) : goal := h r
theorem ci_len {n : Net} {W : List Ev} {S : RS} {t : Int} (h : CI n W S t) (ht : ¬ (0 ≤ t ∧ t ≤ 25)) : ((plainV (comeN n W) 25).2 = 0 → S.marks.length = n.places.length) ∧ ((plainV (comeN n W) 25).2 = 0 → S.way.length = n.places.length) ∧ ((plainV (comeN n W) 25).2 = 0 → S.log.length ≤ 2000) := by
  rcases h.run with h5 | ⟨M, f, hf, hpl, hpm, hs⟩
  · exact ⟨fun h0 => (by rw [h5] at h0; cases h0), fun h0 => (by rw [h5] at h0; cases h0), fun h0 => (by rw [h5] at h0; cases h0)⟩
  rcases hs with ⟨hsm, hwy⟩ | ⟨rfl, _, _⟩
  · refine ⟨fun _ => hsm.ml, fun _ => hsm.sw, fun _ => ?_⟩
    rw [← hsm.log]
    exact Nat.le_trans (List.length_filter_le _ _) hsm.lm
  · exact absurd ⟨Int.le_refl 0, by omega⟩ ht
theorem esub2 (st : Store) (a b : Nat) : Fw.Sub ((st.del a).del b) st := Fw.Sub.trans (del_sub _ b) (del_sub _ a)
theorem scomes_ok (d : Draft) (l : List Int) (st : Store) (nx : Nat) (K : AV → Store → Nat → Prop) (hd : okDraft d) (hl : ∀ a ∈ l, 0 ≤ a ∧ a < 256) (hK : ∀ nx', nx ≤ nx' → K (.bool true) st nx') : SCall Try.prog 9 [.agg (eDraft d), tab 1 eU8 0 l] st nx K := by
  obtain ⟨L, hL⟩ : ∃ L, l.length = L := ⟨_, rfl⟩
  refine SCall.enter' 202 Try.func9 rfl (by kernel_rfl) rfl (Nat.le_of_ble_eq_true rfl) ?_
  intro hfin
  have hsub := Fw.Sub.refl st
  refine SRun.run 100 ?_; simp -implicitDefEqProofs only [↓qx, qq, ↓reduceIte, zA, zB, zC, zD, zE, zF, zG, zH, zI, zJ, zK, zL, zM, zN, zO, zP, zQ, rs9,  tab]
  refine awake10_ok _ _ _ fun b hb => ?_
  have lt_0 : nx < b := by omega
  refine SRun.run 100 ?_; simp -implicitDefEqProofs only [↓qx, qq, ↓reduceIte, zA, zB, zC, zD, zE, zF, zG, zH, zI, zJ, zK, zL, zM, zN, zO, zP, zQ, rs9, lt_0,  tab]
  refine few10_ok d _ _ _ fun b0 hb0 => ?_
  have lt_1 : nx < b0 := by omega
  by_cases hfew : d.tokens.length ≤ 60 ∧ d.acts.length ≤ 12
  case neg =>
    rw [decide_eq_false hfew]
    refine SRun.run 100 ?_; simp -implicitDefEqProofs only [↓qx, qq, ↓reduceIte, zA, zB, zC, zD, zE, zF, zG, zH, zI, zJ, zK, zL, zM, zN, zO, zP, zQ, rs9, lt_0, lt_1,  tab]
    refine awake10_ok _ _ _ fun b3 hb3 => ?_
    refine SRun.run 100 ?_; simp -implicitDefEqProofs only [↓qx, qq, ↓reduceIte, zA, zB, zC, zD, zE, zF, zG, zH, zI, zJ, zK, zL, zM, zN, zO, zP, zQ, rs9, lt_0, lt_1,  tab]
    refine fin_sub (by repeat first | exact hsub | refine sN hfin ?_ (by omega) | refine sD hfin ?_ (by omega) | refine sT hfin ?_ (by omega) (by omega) (by simp only [tgl, and_true] <;> omega)) (hK _ ?_)
    omega
  rw [decide_eq_true hfew]
  by_cases h10 : (10 : Int) < (L : Int)
  · refine SRun.run 100 ?_; simp -implicitDefEqProofs only [↓qx, qq, ↓reduceIte, zA, zB, zC, zD, zE, zF, zG, zH, zI, zJ, zK, zL, zM, zN, zO, zP, zQ, rs9, lt_0, lt_1,  tab, hL, h10]
    refine awake10_ok _ _ _ fun b3 hb3 => ?_
    refine SRun.run 100 ?_; simp -implicitDefEqProofs only [↓qx, qq, ↓reduceIte, zA, zB, zC, zD, zE, zF, zG, zH, zI, zJ, zK, zL, zM, zN, zO, zP, zQ, rs9, lt_0, lt_1,  tab]
    refine fin_sub (by repeat first | exact hsub | refine sN hfin ?_ (by omega) | refine sD hfin ?_ (by omega) | refine sT hfin ?_ (by omega) (by omega) (by simp only [tgl, and_true] <;> omega)) (hK _ ?_)
    omega
  refine SRun.run 100 ?_; simp -implicitDefEqProofs only [↓qx, qq, ↓reduceIte, zA, zB, zC, zD, zE, zF, zG, zH, zI, zJ, zK, zL, zM, zN, zO, zP, zQ, rs9, lt_0, lt_1,  tab, hL, h10]
  refine make_ok d _ _ _ (by omega) fun b2 hb2 => ?_
  have lt_2 : nx < b2 := by omega
  have hP := makeN_places d
  have hTn := makeN_trans d
  have hM := mkM_le d
  have hM1 := mkM_pos d
  have hchk := makeN_check d hd
  have hnl := makeN_netL d
  have hNC := make_nc hd hl (by omega)
  have hcm := cm_check hd hNC
  have htk := make_tok hd
  obtain ⟨N, hN⟩ : ∃ N, N = makeN d := ⟨_, rfl⟩
  rw [← hN] at hP hTn hchk hnl hNC hcm htk ⊢
  have hG := check_good hchk
  have hNA := check_apart hchk
  refine SRun.run 100 ?_; simp -implicitDefEqProofs only [↓qx, qq, ↓reduceIte, zA, zB, zC, zD, zE, zF, zG, zH, zI, zJ, zK, zL, zM, zN, zO, zP, zQ, rs9, lt_0, lt_1, lt_2,  tab]
  have hPl := hG.pl
  have hTl := hG.tr
  refine SRun.draw' (.quiet 0 false (.quiet 1 false (.quiet 2 false (.quiet 3 false (.heavy (.cons 4 [0] (.heavy (.cons 5 [] (.quiet 6 false .done) .nil)) .nil)))))) mixed (by kernel_rfl) ?_
  simp -implicitDefEqProofs only [↓qx, qq, ↓reduceIte, zA, zB, zC, zD, zE, zF, zG, zH, zI, zJ, zK, zL, zM, zN, zO, zP, zQ, rs9, lt_0, lt_1, lt_2, tab]
  refine all_ok N.trans.length _ _ _ (by omega) fun b3 hb3 => ?_
  have lt_3 : nx < b3 ∧ b2 < b3 := by and_intros <;> omega
  unfold dwait
  simp -implicitDefEqProofs only [↓qx, qq, ↓reduceIte, zA, zB, zC, zD, zE, zF, zG, zH, zI, zJ, zK, zL, zM, zN, zO, zP, zQ, rs9, lt_0, lt_1, lt_2, lt_3, tab]
  obtain ⟨rest, hrs⟩ : ∃ rest, rest = (st.set nx (.box (eDraft d))).set b2 (.box (eNet N)) := ⟨_, rfl⟩
  rw [← hrs]
  have hrest : ∀ id, b2 + 1 ≤ id → rest id = none := fun id hid => by rw [hrs, Store.get_set_ne (by omega), Store.get_set_ne (by omega)]; exact hfin _ (by omega)
  have hrd : rest nx = some (.box (eDraft d)) := by rw [hrs]; simp -implicitDefEqProofs only [↓qx, qq, ↓reduceIte, zA, zB, zC, zD, zE, zF, zG, zH, zI, zJ, zK, zL, zM, zN, zO, zP, zQ, rs9, lt_0, lt_1, lt_2, lt_3]
  have hrn : rest b2 = some (.box (eNet N)) := by rw [hrs]; simp -implicitDefEqProofs only [↓qx, qq, ↓reduceIte, zA, zB, zC, zD, zE, zF, zG, zH, zI, zJ, zK, zL, zM, zN, zO, zP, zQ, rs9, lt_0, lt_1, lt_2, lt_3]
  have hsr : Fw.Sub st rest := by rw [hrs]; exact Fw.Sub.new (Fw.Sub.new (Fw.Sub.refl _) (hfin _ (by omega))) (hfin _ (by omega))
  obtain ⟨mine, hmine⟩ : ∃ mine, mine = List.replicate N.trans.length true := ⟨_, rfl⟩
  have hml : mine.length = N.trans.length := by rw [hmine]; simp
  have hmt : ∀ i, i < N.trans.length → mine.getD i false = true := fun i hi => by rw [hmine]; exact rep_true _ _ hi
  rw [← hmine]
  refine SCall.turn (st' := rest) (Fw.Sub.refl _) (args' := [.agg (eNet N), aBools mine, aBools []]) (TnL.cons (Tn.same (Fw.Sub.refl _) _) (TnL.cons (Tn.same (Fw.Sub.refl _) _) (TnL.cons (Tn.emp _ _ _ _) TnL.nil))) (enew_ok N mine [] _ _ _ hG fun near xb rd mk wy hp lg ou mp inn st2 c2 hc2 hnear hA2 => ?_)
  have hrd2 := hA2.sub _ _ hrd
  have hrn2 := hA2.sub _ _ hrn
  obtain ⟨l1, l2, l3, l4, l5, l6, l7, l8⟩ := hA2.lt
  have lt_5 : nx < c2 ∧ b2 < c2 ∧ xb < c2 := by and_intros <;> omega
  
  unfold dwait
  simp -implicitDefEqProofs only [↓qx, qq, ↓reduceIte, zA, zB, zC, zD, zE, zF, zG, zH, zI, zJ, zK, zL, zM, zN, zO, zP, zQ, rs9, lt_0, lt_1, lt_2, lt_3, lt_5, hrd2, hrn2, tab]
  refine SRun.run 100 ?_; simp -implicitDefEqProofs only [↓qx, qq, ↓reduceIte, zA, zB, zC, zD, zE, zF, zG, zH, zI, zJ, zK, zL, zM, zN, zO, zP, zQ, rs9, lt_0, lt_1, lt_2, lt_3, lt_5, hrd2, hrn2,  tab]
  obtain ⟨A, hAd⟩ : ∃ A, min d.acts.length 9 = A := ⟨_, rfl⟩
  obtain ⟨P0, hP0⟩ : ∃ P0, mkM d = P0 := ⟨_, rfl⟩
  refine makew_ok d A _ _ _ (by omega) fun Pr Tr Ir st3 c3 hlt3 hne3 hsub3 hPr hTr _ => ?_
  have hA3 := hA2.subs hsub3 (show c2 ≤ c3 by omega)
  have hrd3 := hsub3 _ _ hrd2
  have hrn3 := hsub3 _ _ hrn2
  obtain ⟨mo3, hmo3⟩ : ∃ mo3, st3 mp = mo3 := ⟨_, rfl⟩
  rw [hmo3] at hA3
  rw [hP0] at hP hM hM1 hPr ⊢
  rw [hAd] at hTn hTr ⊢
  have hPl3 : st3 Pr = some (rowL 2 ePlace dPlace (N.places ++ sPs 0)) := by
    rw [hPr, hN]
    show _ = some (rowL 2 ePlace dPlace ((List.range (mkM d)).map (mkP d) ++ []))
    rw [List.append_nil, hP0]
  have htg : ∀ i, i < A → N.trans.getD i dTrans = mkTr d i := fun i hi => by
    rw [hN]; show ((List.range (min d.acts.length 9)).map (mkTr d)).getD i dTrans = _
    exact gmap_range _ _ (by omega)
  obtain ⟨W, hW⟩ : ∃ W, cmW l P0 L = W := ⟨_, rfl⟩
  have hWl : W.length = L := by rw [← hW, cmW_len]
  have hWg : ∀ i, i < L → W.getD i dEv = cmE l P0 i := fun i hi => by rw [← hW, cmW_get hi]
  rw [hP, hL, hW] at hNC hcm
  
  have lt_8 : nx < c3 ∧ b2 < c3 ∧ xb < c3 ∧ Pr < c3 ∧ Tr < c3 := by and_intros <;> omega
  
  refine SRun.run 100 ?_; simp -implicitDefEqProofs only [↓qx, qq, ↓reduceIte, zA, zB, zC, zD, zE, zF, zG, zH, zI, zJ, zK, zL, zM, zN, zO, zP, zQ, rs9, lt_8, hrd3, hrn3,  tab]
  refine SRun.conv (ConvF.rowE (id := Tr) (sz := 6) (n := A) (f' := fun i => eTrans ((N.trans ++ uTs P0 W 0).getD i dTrans)) (by simp -implicitDefEqProofs only [↓qx, qq, ↓reduceIte, zA, zB, zC, zD, zE, zF, zG, zH, zI, zJ, zK, zL, zM, zN, zO, zP, zQ, rs9, lt_8, hrd3, hrn3]; exact hTr) (fun i hi => by
    unfold qRow
    rw [if_neg (by omega), ← htg i hi]
    show _ = eTrans ((N.trans ++ []).getD i dTrans)
    rw [List.append_nil])) ?_
  obtain ⟨bm, hbm⟩ : ∃ bm, bm = c3 := ⟨_, rfl⟩
  rw [← hbm]
  have hTl3 : ¬ Tr = bm := by omega
  have hPl4 : ¬ Pr = bm := by omega
  have hPT : ¬ Pr = Tr := hne3.1
  have hTP : ¬ Tr = Pr := fun e => hPT e.symm
  have hpA : ∀ k, (N.places ++ sPs k).length = P0 + k := fun k => by rw [List.length_append, sPs_len, hP]
  have htA : ∀ k, (N.trans ++ uTs P0 W k).length = A + k := fun k => by rw [List.length_append, uTs_len, hTn]
  have lt_13 : nx < bm ∧ b2 < bm ∧ xb < bm ∧ Pr < bm ∧ Tr < bm := by and_intros <;> omega
  
  have hkp : ∀ (o1 o2 : Ob) (x : Nat), x < c2 → ((st3.set bm o1).set Tr o2) x = st3 x := fun o1 o2 x hx => by rw [Store.get_set_ne (by omega), Store.get_set_ne (by omega)]
  have hA0 : EAt rest (EC.mk N (aBools mine) near []) xb rd mk wy hp lg ou mp inn (stE N (cmW l P0 0)) [] (readyL N mine (firstL N)) [] 0 mo3 ((st3.set bm (.box [.sl Pr 0 P0, .sl Tr 0 A])).set Tr (.row 6 A fun i => eTrans ((N.trans ++ uTs P0 W 0).getD i dTrans))) (bm + 1) :=
    hA3.keep ⟨hkp _ _ _ l1, hkp _ _ _ l2, hkp _ _ _ l3, hkp _ _ _ l4, hkp _ _ _ l5, hkp _ _ _ l6, hkp _ _ _ l7, hkp _ _ _ l8⟩ (Fw.Sub.new (Fw.Sub.new hA3.sub (hrest _ (by omega))) (hrest _ (by omega))) (by omega)
  obtain ⟨I1, hI1⟩ : ∃ I : Nat → Fr → Store → Nat → Prop, I = fun μ fr st1 nx1 => ∃ k : Nat, k ≤ L ∧ μ = L - k ∧ fr 1 = .fz 1 L (fun i => eU8 (l.getD i 0)) ∧ fr 5 = .bp b2 0 ∧ fr 6 = .bp xb 0 ∧ fr 7 = .bp bm 0 ∧ fr 8 = .int .i64 (k : Int) ∧ (∃ (hp P T : Nat) (hl : List Key) (cnt : Int), EAt rest (EC.mk N (aBools mine) near []) xb rd mk wy hp lg ou mp inn (stE N (cmW l P0 k)) [] (readyL N mine (firstL N)) hl cnt mo3 st1 nx1 ∧ HW hl (cmW l P0 k) ∧ ¬ P = T ∧ (¬ hp = bm ∧ ¬ hp = P ∧ ¬ hp = T) ∧ (c2 ≤ P ∧ c2 ≤ T ∧ ¬ P = bm ∧ ¬ T = bm) ∧ P < nx1 ∧ T < nx1 ∧ st1 bm = some (.box [.sl P 0 (P0 + k), .sl T 0 (A + k)]) ∧ st1 P = some (rowL 2 ePlace dPlace (N.places ++ sPs k)) ∧ st1 T = some (rowL 6 eTrans dTrans (N.trans ++ uTs P0 W k))) ∧ (bm < nx1) := ⟨_, rfl⟩
  refine SRun.loopC I1 (L - 0) (by subst hI1; refine ⟨0, by omega, rfl, ?_, ?_, ?_, ?_, ?_, ⟨hp, Pr, Tr, [], 0, hA0, ⟨fun j _ h => absurd h (by simp), List.Perm.refl _⟩, hPT, by omega, by omega, by omega, by omega, by simp -implicitDefEqProofs only [↓qx, qq, ↓reduceIte, zA, zB, zC, zD, zE, zF, zG, zH, zI, zJ, zK, zL, zM, zN, zO, zP, zQ, rs9, lt_8, hrd3, hrn3, lt_13, hTl3, hPl4, hPT, hTP], by simp -implicitDefEqProofs only [↓qx, qq, ↓reduceIte, zA, zB, zC, zD, zE, zF, zG, zH, zI, zJ, zK, zL, zM, zN, zO, zP, zQ, rs9, lt_8, hrd3, hrn3, lt_13, hTl3, hPl4, hPT, hTP]; exact hPl3, by simp -implicitDefEqProofs only [↓qx, qq, ↓reduceIte, zA, zB, zC, zD, zE, zF, zG, zH, zI, zJ, zK, zL, zM, zN, zO, zP, zQ, rs9, lt_8, hrd3, hrn3, lt_13, hTl3, hPl4, hPT, hTP]; rw [rowL, htA]; rfl⟩, by omega⟩ <;> first | done | (simp -implicitDefEqProofs only [↓qx, qq, ↓reduceIte, zA, zB, zC, zD, zE, zF, zG, zH, zI, zJ, zK, zL, zM, zN, zO, zP, zQ, rs9, lt_8, hrd3, hrn3, lt_13, hTl3, hPl4, hPT, hTP, Int.natCast_zero, tab]; first | done | rfl)) ?_
  intro μ fr st1 nx1 hIn
  have hIn' := hIn
  rw [hI1] at hIn'
  obtain ⟨k, hk, hμ, h1, h5, h6, h7, h8, hA, hnx⟩ := hIn'
  obtain ⟨hp, P, T, hl2, cnt, hA, hHW, hPT, hph, hPTc, hPn, hTn2, hbx, hPr, hTr⟩ := hA
  obtain ⟨u, hu⟩ : ∃ u, u = nx1 := ⟨_, rfl⟩
  rw [← hu] at hnx hA hPn hTn2 ⊢
  have hrd4 := hA.sub _ _ hrd
  have hrn4 := hA.sub _ _ hrn
  have hTP : ¬ T = P := fun e => hPT e.symm
  have hx1 : ¬ bm = P ∧ ¬ bm = T := ⟨fun e => hPTc.2.2.1 e.symm, fun e => hPTc.2.2.2 e.symm⟩
  have lt_18 : nx < u ∧ b2 < u ∧ xb < u ∧ bm < u ∧ P < u ∧ T < u := by and_intros <;> omega
  
  by_cases hlt : (k : Int) < (L : Int)
  case neg =>
    have hkL : k = L := by omega
    rw [hkL] at hA hHW hbx hPr hTr
    rw [hW] at hA hHW
    have hPr2 : st1 P = some (.row 2 (P0 + L) (fun a => ePlace ((N.places ++ sPs L).getD a dPlace))) := by rw [hPr, rowL, hpA]
    have hTr2 : st1 T = some (.row 6 (A + L) (fun a => eTrans ((N.trans ++ uTs P0 W L).getD a dTrans))) := by rw [hTr, rowL, htA]
    have hfA : ((st1.del P).del T) P = none := by rw [Store.get_del_ne hPT, Store.get_del_same]
    have hfB : ((st1.del P).del T) T = none := by rw [Store.get_del_same]
    refine SRun.conv (ConvF.box (b := bm) (cs := [.sl P 0 (P0 + L), .sl T 0 (A + L)]) (cs' := [.fz 2 (P0 + L) (fun a => ePlace ((N.places ++ sPs L).getD a dPlace)), .fz 6 (A + L) (fun a => eTrans ((N.trans ++ uTs P0 W L).getD a dTrans))]) (esub2 st1 P T) (by rw [Store.get_del_ne (by omega), Store.get_del_ne (by omega)]; exact hbx) (TnL.cons (Tn.frz0 (id := P) (sz := 2) (n := P0 + L) (esub2 _ P T) hPr2 hfA) (TnL.cons (Tn.frz0 (id := T) (sz := 6) (n := A + L) (esub2 _ P T) hTr2 hfB) TnL.nil))) ?_
    obtain ⟨CN, hCN⟩ : ∃ CN, comeN N W = CN := ⟨_, rfl⟩
    have hCe : ([.fz 2 (P0 + L) (fun a => ePlace ((N.places ++ sPs L).getD a dPlace)), .fz 6 (A + L) (fun a => eTrans ((N.trans ++ uTs P0 W L).getD a dTrans))] : List AV) = eNet CN := by
      rw [← hCN]
      simp only [eNet, comeN, tab, hWl, hP, hpA, htA]
    rw [hCe]
    obtain ⟨k1, k2, k3, k4, k5, k6, k7, k8⟩ := hA.lt
    have hA5 := hA.keep (st' := ((st1.del P).del T).set bm (.box (eNet CN))) (nx' := u) ⟨(by repeat first | rw [Store.get_set_ne (by omega)] | rw [Store.get_del_ne (by omega)]), (by repeat first | rw [Store.get_set_ne (by omega)] | rw [Store.get_del_ne (by omega)]), (by repeat first | rw [Store.get_set_ne (by omega)] | rw [Store.get_del_ne (by omega)]), (by repeat first | rw [Store.get_set_ne (by omega)] | rw [Store.get_del_ne (by omega)]), (by repeat first | rw [Store.get_set_ne (by omega)] | rw [Store.get_del_ne (by omega)]), (by repeat first | rw [Store.get_set_ne (by omega)] | rw [Store.get_del_ne (by omega)]), (by repeat first | rw [Store.get_set_ne (by omega)] | rw [Store.get_del_ne (by omega)]), (by repeat first | rw [Store.get_set_ne (by omega)] | rw [Store.get_del_ne (by omega)])⟩ (by repeat first | exact hA.sub | refine Fw.Sub.new ?_ (hrest _ (by omega)) | refine Fw.Sub.del ?_ (hrest _ (by omega))) (by omega)
    have hA6 := hA5.put (Store.get_set_same _ _ _) ⟨by omega, by omega, by omega, by omega, hph.1, by omega, by omega, by omega⟩
    obtain ⟨rest2, hr2⟩ : ∃ rest2, rest2 = rest.set bm (.box (eNet CN)) := ⟨_, rfl⟩
    rw [← hr2] at hA6
    have hrest2 : ∀ id, u ≤ id → rest2 id = none := fun id hid => by rw [hr2, Store.get_set_ne (by omega)]; exact hrest _ (by omega)
    have hsr2 : Fw.Sub st rest2 := by rw [hr2]; exact Fw.Sub.new hsr (hfin _ (by omega))
    have hrd7 : rest2 nx = some (.box (eDraft d)) := by rw [hr2, Store.get_set_ne (by omega)]; exact hrd
    have hrn7 : rest2 b2 = some (.box (eNet N)) := by rw [hr2, Store.get_set_ne (by omega)]; exact hrn
    have hrm7 : rest2 bm = some (.box (eNet CN)) := by rw [hr2, Store.get_set_same]
    obtain ⟨st6, hst6⟩ : ∃ st6, ((st1.del P).del T).set bm (.box (eNet CN)) = st6 := ⟨_, rfl⟩
    rw [hst6] at hA6 ⊢
    have hci := ci_start hNC htk hcm
    have hGh := hat_g hNC htk
    rw [hCN] at hcm
    refine SRun.run 100 ?_; simp -implicitDefEqProofs only [↓qx, qq, ↓reduceIte, zA, zB, zC, zD, zE, zF, zG, zH, zI, zJ, zK, zL, zM, zN, zO, zP, zQ, rs9, h1, h5, h6, h7, h8, lt_18, hrd4, hrn4, hbx, hPr, hTr, hPT, hTP, hPTc, hx1, rowL, hpA, htA,  tab, hlt]
    obtain ⟨I2, hI2⟩ : ∃ I : Nat → Fr → Store → Nat → Prop, I = fun μ fr st1 nx1 => ∃ i : Nat, i ≤ 60 ∧ μ = 60 - i ∧ fr 5 = .bp b2 0 ∧ fr 6 = .bp xb 0 ∧ fr 7 = .bp bm 0 ∧ fr 12 = .int .i64 (i : Int) ∧ (∃ (S : RS) (hp lg ou mp : Nat) (inn : AV) (mo : Option Ob) (hl : List Key) (cnt t : Int), fr 11 = .int .i64 t ∧ EAt rest2 (EC.mk N (aBools mine) near []) xb rd mk wy hp lg ou mp inn S [] (readyL N mine S.marks) hl cnt mo st1 nx1 ∧ HW hl S.wait ∧ CI N W S t ∧ (t < 0 ∨ (i : Int) ≤ t)) ∧ (u ≤ nx1) := ⟨_, rfl⟩
    refine SRun.loopC I2 (60 - 0) (by subst hI2; refine ⟨0, by omega, rfl, ?_, ?_, ?_, ?_, ⟨stE N W, hp, lg, ou, mp, inn, mo3, hl2, cnt, 0, by simp -implicitDefEqProofs only [↓qx, qq, ↓reduceIte, zA, zB, zC, zD, zE, zF, zG, zH, zI, zJ, zK, zL, zM, zN, zO, zP, zQ, rs9, h1, h5, h6, h7, h8, lt_18, hrd4, hrn4, hbx, hPr, hTr, hPT, hTP, hPTc, hx1, rowL, hpA, htA], hA6, hHW, hci, .inr (Int.le_refl 0)⟩, by omega⟩ <;> first | done | (simp -implicitDefEqProofs only [↓qx, qq, ↓reduceIte, zA, zB, zC, zD, zE, zF, zG, zH, zI, zJ, zK, zL, zM, zN, zO, zP, zQ, rs9, h1, h5, h6, h7, h8, lt_18, hrd4, hrn4, hbx, hPr, hTr, hPT, hTP, hPTc, hx1, rowL, hpA, htA, Int.natCast_zero]; first | done | rfl)) ?_
    intro μ fr st1 nx1 hIn
    have hIn' := hIn
    rw [hI2] at hIn'
    obtain ⟨i, hk, hμ, h5, h6, h7, h12, hA, hnx⟩ := hIn'
    obtain ⟨S, hp, lg, ou, mp, inn, mo, hl3, cnt, t, h11, hA, hHW, hCI, hti⟩ := hA
    obtain ⟨v, hv⟩ : ∃ v, v = nx1 := ⟨_, rfl⟩
    rw [← hv] at hnx hA ⊢
    have hrd8 := hA.sub _ _ hrd7
    have hrn8 := hA.sub _ _ hrn7
    have hrm8 := hA.sub _ _ hrm7
    obtain ⟨q1, q2, q3, q4, q5, q6, q7, q8⟩ := hA.lt
    have lt_24 : nx < v ∧ b2 < v ∧ xb < v ∧ bm < v := by and_intros <;> omega
    
    by_cases hgo : 0 ≤ t ∧ t ≤ 25
    case neg =>
      apply srun_join2 (fun fr2 st2' nx2 => fr2 5 = .bp b2 0 ∧ fr2 6 = .bp xb 0 ∧ fr2 7 = .bp bm 0 ∧ fr2 121 = .bool false ∧ st2' = st1 ∧ nx2 = v)
      · intro go
        by_cases hi60 : (i : Int) < 60
        · by_cases t0 : 0 ≤ t
          · have t1 : ¬ t ≤ 25 := fun h => hgo ⟨t0, h⟩
            refine SRun.run 14 ?_; simp -implicitDefEqProofs only [↓qx, qq, ↓reduceIte, zA, zB, zC, zD, zE, zF, zG, zH, zI, zJ, zK, zL, zM, zN, zO, zP, zQ, rs9, h5, h6, h7, h12, lt_24, h11, hrd8, hrn8, hrm8,  tab, hi60, t0, t1]
            exact go _ _ _ ⟨by simp -implicitDefEqProofs only [↓qx, qq, ↓reduceIte, zA, zB, zC, zD, zE, zF, zG, zH, zI, zJ, zK, zL, zM, zN, zO, zP, zQ, rs9, h5, h6, h7, h12, lt_24, h11, hrd8, hrn8, hrm8], by simp -implicitDefEqProofs only [↓qx, qq, ↓reduceIte, zA, zB, zC, zD, zE, zF, zG, zH, zI, zJ, zK, zL, zM, zN, zO, zP, zQ, rs9, h5, h6, h7, h12, lt_24, h11, hrd8, hrn8, hrm8], by simp -implicitDefEqProofs only [↓qx, qq, ↓reduceIte, zA, zB, zC, zD, zE, zF, zG, zH, zI, zJ, zK, zL, zM, zN, zO, zP, zQ, rs9, h5, h6, h7, h12, lt_24, h11, hrd8, hrn8, hrm8], by simp -implicitDefEqProofs only [↓qx, qq, ↓reduceIte, zA, zB, zC, zD, zE, zF, zG, zH, zI, zJ, zK, zL, zM, zN, zO, zP, zQ, rs9, h5, h6, h7, h12, lt_24, h11, hrd8, hrn8, hrm8], rfl, rfl⟩
          · refine SRun.run 14 ?_; simp -implicitDefEqProofs only [↓qx, qq, ↓reduceIte, zA, zB, zC, zD, zE, zF, zG, zH, zI, zJ, zK, zL, zM, zN, zO, zP, zQ, rs9, h5, h6, h7, h12, lt_24, h11, hrd8, hrn8, hrm8,  tab, hi60, t0]
            exact go _ _ _ ⟨by simp -implicitDefEqProofs only [↓qx, qq, ↓reduceIte, zA, zB, zC, zD, zE, zF, zG, zH, zI, zJ, zK, zL, zM, zN, zO, zP, zQ, rs9, h5, h6, h7, h12, lt_24, h11, hrd8, hrn8, hrm8], by simp -implicitDefEqProofs only [↓qx, qq, ↓reduceIte, zA, zB, zC, zD, zE, zF, zG, zH, zI, zJ, zK, zL, zM, zN, zO, zP, zQ, rs9, h5, h6, h7, h12, lt_24, h11, hrd8, hrn8, hrm8], by simp -implicitDefEqProofs only [↓qx, qq, ↓reduceIte, zA, zB, zC, zD, zE, zF, zG, zH, zI, zJ, zK, zL, zM, zN, zO, zP, zQ, rs9, h5, h6, h7, h12, lt_24, h11, hrd8, hrn8, hrm8], by simp -implicitDefEqProofs only [↓qx, qq, ↓reduceIte, zA, zB, zC, zD, zE, zF, zG, zH, zI, zJ, zK, zL, zM, zN, zO, zP, zQ, rs9, h5, h6, h7, h12, lt_24, h11, hrd8, hrn8, hrm8], rfl, rfl⟩
        · refine SRun.run 14 ?_; simp -implicitDefEqProofs only [↓qx, qq, ↓reduceIte, zA, zB, zC, zD, zE, zF, zG, zH, zI, zJ, zK, zL, zM, zN, zO, zP, zQ, rs9, h5, h6, h7, h12, lt_24, h11, hrd8, hrn8, hrm8,  tab, hi60]
          exact go _ _ _ ⟨by simp -implicitDefEqProofs only [↓qx, qq, ↓reduceIte, zA, zB, zC, zD, zE, zF, zG, zH, zI, zJ, zK, zL, zM, zN, zO, zP, zQ, rs9, h5, h6, h7, h12, lt_24, h11, hrd8, hrn8, hrm8], by simp -implicitDefEqProofs only [↓qx, qq, ↓reduceIte, zA, zB, zC, zD, zE, zF, zG, zH, zI, zJ, zK, zL, zM, zN, zO, zP, zQ, rs9, h5, h6, h7, h12, lt_24, h11, hrd8, hrn8, hrm8], by simp -implicitDefEqProofs only [↓qx, qq, ↓reduceIte, zA, zB, zC, zD, zE, zF, zG, zH, zI, zJ, zK, zL, zM, zN, zO, zP, zQ, rs9, h5, h6, h7, h12, lt_24, h11, hrd8, hrn8, hrm8], by simp -implicitDefEqProofs only [↓qx, qq, ↓reduceIte, zA, zB, zC, zD, zE, zF, zG, zH, zI, zJ, zK, zL, zM, zN, zO, zP, zQ, rs9, h5, h6, h7, h12, lt_24, h11, hrd8, hrn8, hrm8], rfl, rfl⟩
      rintro fr2 st2' nx2 ⟨h5, h6, h7, h121, hs2, hn2⟩
      rw [hs2, hn2]
      
      have lt_28 : nx < v ∧ b2 < v ∧ xb < v ∧ bm < v := by and_intros <;> omega
      
      refine SRun.run 100 ?_; simp -implicitDefEqProofs only [↓qx, qq, ↓reduceIte, zA, zB, zC, zD, zE, zF, zG, zH, zI, zJ, zK, zL, zM, zN, zO, zP, zQ, rs9, h5, h6, h7, h121, lt_28, hrd8, hrn8, hrm8,  tab]
      refine rrun_ok CN 25 _ _ _ hcm (by omega) fun c8 hc8 => ?_
      obtain ⟨ce1, ce2⟩ := ci_end hCI hgo
      obtain ⟨cl1, cl2, cl3⟩ := ci_len hCI hgo
      rw [hCN] at ce1 ce2 cl1 cl2 cl3
      have hin := (plainV_mg (check_good hcm) (check_apart hcm) (show (0 : Int) ≤ 25 by omega)).1.idx
      have hpl := plainV_len (check_good hcm) 25
      have hlg := plainV_log (check_good hcm) 25
      obtain ⟨MR, hMR⟩ : ∃ MR, plainV CN 25 = MR := ⟨_, rfl⟩
      rw [hMR] at ce1 ce2 cl1 cl2 cl3 hin hpl hlg ⊢
      obtain ⟨fe, hfe⟩ : ∃ fe, MR.2 = fe := ⟨_, rfl⟩
      rw [hfe] at ce1 ce2 cl1 cl2 cl3 ⊢
      have lt_32 : nx < c8 ∧ b2 < c8 ∧ xb < c8 ∧ bm < c8 := by and_intros <;> omega
      
      by_cases hf0 : fe = 0
      case neg =>
        have hne := ce1 hf0
        refine SRun.run 100 ?_; simp -implicitDefEqProofs only [↓qx, qq, ↓reduceIte, zA, zB, zC, zD, zE, zF, zG, zH, zI, zJ, zK, zL, zM, zN, zO, zP, zQ, rs9, h5, h6, h7, h121, lt_28, hrd8, hrn8, hrm8, lt_32,  tab, hf0, hne]
        have hsub := hsr2.trans hA.sub
        exact fin_sub (by repeat first | exact hsub | refine sN hfin ?_ (by omega) | refine sD hfin ?_ (by omega) | refine sT hfin ?_ (by omega) (by omega) (by simp only [tgl, and_true] <;> omega)) (hK _ (by omega))
      case pos =>
        have hml := cl1 hf0
        have hwl := cl2 hf0
        have hll := cl3 hf0
        obtain ⟨hfl, hmw⟩ := ce2 hf0
        have hCT : CN.trans.length = A + L := by rw [← hCN]; show (N.trans ++ uTs N.places.length W W.length).length = _; rw [hP, hWl, htA]
        have hCP : CN.places.length = P0 + L := by rw [← hCN]; show (N.places ++ sPs W.length).length = _; rw [hWl, hpA]
        have hA3 := (hA.up hc8).new (o := .box [aFires MR.1.log, aInts MR.1.marks, aInts MR.1.way, .int .i64 MR.1.time]) (hrest2 _ (by omega))
        refine SRun.run 100 ?_; simp -implicitDefEqProofs only [↓qx, qq, ↓reduceIte, zA, zB, zC, zD, zE, zF, zG, zH, zI, zJ, zK, zL, zM, zN, zO, zP, zQ, rs9, h5, h6, h7, h121, lt_28, hrd8, hrn8, hrm8, lt_32,  tab, hf0]
        refine result_ok rest2 (EC.mk N (aBools mine) near []) xb rd mk wy hp lg ou mp inn S [] _ hl3 cnt _ _ _ _ (fun id hid => hrest2 _ (by omega)) hA3 hml hwl (by show N.places.length ≤ _; omega) (by omega) fun c9 hc9 => ?_
        have lt_36 : nx < c9 ∧ b2 < c9 ∧ xb < c9 ∧ bm < c9 ∧ c8 < c9 := by and_intros <;> omega
        have hsub := hsr2.trans hA3.sub
        refine SRun.run 100 ?_; simp -implicitDefEqProofs only [↓qx, qq, ↓reduceIte, zA, zB, zC, zD, zE, zF, zG, zH, zI, zJ, zK, zL, zM, zN, zO, zP, zQ, rs9, h5, h6, h7, h121, lt_28, hrd8, hrn8, hrm8, lt_32, lt_36,  tab, hCT]
        repeat (with_reducible refine And.intro ?_ ?_; focus (first | omega | (simp; done)))
        rw [hCT] at hin
        obtain ⟨m2, hm2⟩ : ∃ m2, m2 = (List.range (A + L)).map (fun i => decide (i < A)) := ⟨_, rfl⟩
        have hsm : someV MR.1.log m2 = S.log := by
          rw [← hfl]
          refine List.filter_congr fun f hf => ?_
          have hfi := hin f hf
          rw [hm2, gmap_range (fun i => decide (i < A)) _ (by omega), hTn]
          exact decide_eq_decide.2 ⟨fun h => by omega, fun h => by omega⟩
        obtain ⟨I3, hI3⟩ : ∃ I : Nat → Fr → Store → Nat → Prop, I = fun μ fr st1 nx1 => ∃ j : Nat, j ≤ A ∧ μ = A - j ∧ fr 5 = .bp b2 0 ∧ fr 16 = .bp c8 0 ∧ fr 18 = .bp c9 0 ∧ fr 19 = .sl (c9 + 1) 0 (A + L) ∧ fr 20 = .int .i64 (j : Int) ∧ (st1 (c9 + 1) = some (.row 1 (A + L) (fun i => [.bool (trueF A j i)]))) ∧ (st1 b2 = some (.box (eNet N))) ∧ (st1 c8 = some (.box [aFires MR.1.log, aInts MR.1.marks, aInts MR.1.way, .int .i64 MR.1.time])) ∧ (st1 c9 = some (.box [aFires S.log, aInts S.marks, aInts S.way, .int .i64 S.time])) ∧ (Fw.Sub st st1) ∧ (c9 + 1 < nx1) := ⟨_, rfl⟩
        refine SRun.loopC I3 (A - 0) (by subst hI3; refine ⟨0, by omega, rfl, ?_, ?_, ?_, ?_, ?_, (by simp -implicitDefEqProofs only [↓qx, qq, ↓reduceIte, zA, zB, zC, zD, zE, zF, zG, zH, zI, zJ, zK, zL, zM, zN, zO, zP, zQ, rs9, h5, h6, h7, h121, lt_28, hrd8, hrn8, hrm8, lt_32, lt_36, trueF, Nat.not_lt_zero]; first | done | rfl), by simp -implicitDefEqProofs only [↓qx, qq, ↓reduceIte, zA, zB, zC, zD, zE, zF, zG, zH, zI, zJ, zK, zL, zM, zN, zO, zP, zQ, rs9, h5, h6, h7, h121, lt_28, hrd8, hrn8, hrm8, lt_32, lt_36], (by simp -implicitDefEqProofs only [↓qx, qq, ↓reduceIte, zA, zB, zC, zD, zE, zF, zG, zH, zI, zJ, zK, zL, zM, zN, zO, zP, zQ, rs9, h5, h6, h7, h121, lt_28, hrd8, hrn8, hrm8, lt_32, lt_36]; first | done | rfl), (by simp -implicitDefEqProofs only [↓qx, qq, ↓reduceIte, zA, zB, zC, zD, zE, zF, zG, zH, zI, zJ, zK, zL, zM, zN, zO, zP, zQ, rs9, h5, h6, h7, h121, lt_28, hrd8, hrn8, hrm8, lt_32, lt_36]; first | done | rfl), (by repeat first | exact hsub | refine sN hfin ?_ (by omega) | refine sD hfin ?_ (by omega) | refine sT hfin ?_ (by omega) (by omega) (by simp only [tgl, and_true] <;> omega)), by omega⟩ <;> first | done | (simp -implicitDefEqProofs only [↓qx, qq, ↓reduceIte, zA, zB, zC, zD, zE, zF, zG, zH, zI, zJ, zK, zL, zM, zN, zO, zP, zQ, rs9, h5, h6, h7, h121, lt_28, hrd8, hrn8, hrm8, lt_32, lt_36, Int.natCast_zero, tab]; first | done | rfl)) ?_
        intro μ fr st1 nx1 hIn
        have hIn' := hIn
        rw [hI3] at hIn'
        obtain ⟨j, hk, hμ, h5, h16, h18, h19, h20, hrow, hb, hw, hg, hsub, hnx⟩ := hIn'
        have hd9 : (¬ b2 = c9 + 1) ∧ (¬ c8 = c9 + 1) ∧ (¬ c9 = c9 + 1) := ⟨by omega, by omega, by omega⟩
        have lt_41 : nx < nx1 ∧ b2 < nx1 ∧ c8 < nx1 ∧ c9 < nx1 ∧ c9 + 1 < nx1 := by and_intros <;> omega
        
        by_cases hltj : (j : Int) < (A : Int)
        case pos =>
          refine SRun.run 100 ?_; simp -implicitDefEqProofs only [↓qx, qq, ↓reduceIte, zA, zB, zC, zD, zE, zF, zG, zH, zI, zJ, zK, zL, zM, zN, zO, zP, zQ, rs9, h5, h16, h18, h19, h20, lt_41, hrow, hb, hw, hg, hd9,  tab, hTn, hltj]
          repeat (with_reducible refine And.intro ?_ ?_; focus (first | omega | (simp; done)))
          (try rw [wrap_succ (n := A) (by omega) (by omega)])
          rw [hI3]
          refine ⟨_, _, _, ConvF.rowE (id := c9 + 1) (sz := 1) (n := A + L) (f' := fun i => [.bool (trueF A (j + 1) i)]) (by simp -implicitDefEqProofs only [↓qx, qq, ↓reduceIte, zA, zB, zC, zD, zE, zF, zG, zH, zI, zJ, zK, zL, zM, zN, zO, zP, zQ, rs9, h5, h16, h18, h19, h20, lt_41, hrow, hb, hw, hg, hd9]; rfl) (fun i hi => by
            unfold trueF
            by_cases e : i = j
            · subst e; rw [if_pos rfl, if_pos (by omega)]
            · rw [if_neg e]
              by_cases e2 : i < j
              · rw [if_pos e2, if_pos (by omega)]
              · rw [if_neg e2, if_neg (by omega)]), ?_⟩
          refine ⟨A - (j + 1), by omega, j + 1, by omega, rfl, ?_, ?_, ?_, ?_, ?_, by simp -implicitDefEqProofs only [↓qx, qq, ↓reduceIte, zA, zB, zC, zD, zE, zF, zG, zH, zI, zJ, zK, zL, zM, zN, zO, zP, zQ, rs9, h5, h16, h18, h19, h20, lt_41, hrow, hb, hw, hg, hd9], by simp -implicitDefEqProofs only [↓qx, qq, ↓reduceIte, zA, zB, zC, zD, zE, zF, zG, zH, zI, zJ, zK, zL, zM, zN, zO, zP, zQ, rs9, h5, h16, h18, h19, h20, lt_41, hrow, hb, hw, hg, hd9], by simp -implicitDefEqProofs only [↓qx, qq, ↓reduceIte, zA, zB, zC, zD, zE, zF, zG, zH, zI, zJ, zK, zL, zM, zN, zO, zP, zQ, rs9, h5, h16, h18, h19, h20, lt_41, hrow, hb, hw, hg, hd9], by simp -implicitDefEqProofs only [↓qx, qq, ↓reduceIte, zA, zB, zC, zD, zE, zF, zG, zH, zI, zJ, zK, zL, zM, zN, zO, zP, zQ, rs9, h5, h16, h18, h19, h20, lt_41, hrow, hb, hw, hg, hd9], (by repeat first | exact hsub | refine sN hfin ?_ (by omega) | refine sD hfin ?_ (by omega) | refine sT hfin ?_ (by omega) (by omega) (by simp only [tgl, and_true] <;> omega)), by omega⟩ <;> first | done | (simp -implicitDefEqProofs only [↓qx, qq, ↓reduceIte, zA, zB, zC, zD, zE, zF, zG, zH, zI, zJ, zK, zL, zM, zN, zO, zP, zQ, rs9, h5, h16, h18, h19, h20, lt_41, hrow, hb, hw, hg, hd9, tab]; first | done | rfl)
        case neg =>
          have hjA : j = A := by omega
          rw [hjA] at hrow
          have hrow2 : st1 (c9 + 1) = some (.row 1 (A + L) (fun i => [.bool (trueF A A i)])) := hrow
          have hre : (.row 1 (A + L) (fun i => [.bool (trueF A A i)]) : Ob) = rB (A + L) m2 := by
            refine congrArg _ (funext fun i => congrArg (fun b => [AV.bool b]) ?_)
            have hmi : m2.getD i false = decide (i < A) := by
              by_cases hi : i < A + L
              · rw [hm2, gmap_range (fun i => decide (i < A)) _ hi]
              · rw [hm2, List.getD_eq_getElem?_getD, List.getElem?_eq_none (by simp; omega), decide_eq_false (by omega)]; rfl
            rw [hmi]
            unfold trueF
            by_cases hiA : i < A
            · rw [if_pos hiA, decide_eq_true hiA]
            · rw [if_neg hiA, decide_eq_false hiA]
          have hrow3 := hrow2
          rw [hre] at hrow3
          refine SRun.run 100 ?_; simp -implicitDefEqProofs only [↓qx, qq, ↓reduceIte, zA, zB, zC, zD, zE, zF, zG, zH, zI, zJ, zK, zL, zM, zN, zO, zP, zQ, rs9, h5, h16, h18, h19, h20, lt_41, hrow, hb, hw, hg, hd9,  tab, hTn, hltj]
          refine SRun.draw' (.quiet 0 false (.quiet 1 false (.quiet 2 false (.quiet 3 false (.quiet 4 false (.heavy (.cons 5 [1] (.heavy (.cons 6 [] (.quiet 7 false .done) .nil)) .nil))))))) mixed (by kernel_rfl) ?_
          simp -implicitDefEqProofs only [↓qx, qq, ↓reduceIte, zA, zB, zC, zD, zE, zF, zG, zH, zI, zJ, zK, zL, zM, zN, zO, zP, zQ, rs9, h5, h16, h18, h19, h20, lt_41, hrow, hb, hw, hg, hd9, tab]
          refine some_ok MR.1.log m2 (c9 + 1) (A + L) _ _ _ hrow3 hin (by omega) fun d1 hd1 => ?_
          rw [hsm]
          have lt_46 : nx < d1 ∧ b2 < d1 ∧ c8 < d1 ∧ c9 < d1 := by and_intros <;> omega
          
          unfold dwait
          simp -implicitDefEqProofs only [↓qx, qq, ↓reduceIte, zA, zB, zC, zD, zE, zF, zG, zH, zI, zJ, zK, zL, zM, zN, zO, zP, zQ, rs9, h5, h16, h18, h19, h20, lt_41, hrow, hb, hw, hg, hd9, lt_46, tab]
          refine samelog_ok S.log S.log S.log.length S.log.length _ _ _ (by omega) ?_
          rw [decide_eq_true (⟨rfl, fun _ _ => rfl⟩ : S.log.length = S.log.length ∧ ∀ i, i < S.log.length → S.log.getD i dFire = S.log.getD i dFire)]
          unfold dwait
          simp -implicitDefEqProofs only [↓qx, qq, ↓reduceIte, zA, zB, zC, zD, zE, zF, zG, zH, zI, zJ, zK, zL, zM, zN, zO, zP, zQ, rs9, h5, h16, h18, h19, h20, lt_41, hrow, hb, hw, hg, hd9, lt_46, tab]
          refine SRun.run 100 ?_; simp -implicitDefEqProofs only [↓qx, qq, ↓reduceIte, zA, zB, zC, zD, zE, zF, zG, zH, zI, zJ, zK, zL, zM, zN, zO, zP, zQ, rs9, h5, h16, h18, h19, h20, lt_41, hrow, hb, hw, hg, hd9, lt_46,  tab]
          obtain ⟨I4, hI4⟩ : ∃ I : Nat → Fr → Store → Nat → Prop, I = fun μ fr st1 nx1 => ∃ p : Nat, p ≤ P0 ∧ μ = P0 - p ∧ fr 5 = .bp b2 0 ∧ fr 16 = .bp c8 0 ∧ fr 18 = .bp c9 0 ∧ fr 21 = .int .i64 (p : Int) ∧ (st1 b2 = some (.box (eNet N))) ∧ (st1 c8 = some (.box [aFires MR.1.log, aInts MR.1.marks, aInts MR.1.way, .int .i64 MR.1.time])) ∧ (st1 c9 = some (.box [aFires S.log, aInts S.marks, aInts S.way, .int .i64 S.time])) ∧ (Fw.Sub st st1) ∧ (c9 < nx1) := ⟨_, rfl⟩
          refine SRun.loopC I4 (P0 - 0) (by subst hI4; refine ⟨0, by omega, rfl, ?_, ?_, ?_, ?_, by simp -implicitDefEqProofs only [↓qx, qq, ↓reduceIte, zA, zB, zC, zD, zE, zF, zG, zH, zI, zJ, zK, zL, zM, zN, zO, zP, zQ, rs9, h5, h16, h18, h19, h20, lt_41, hrow, hb, hw, hg, hd9, lt_46], (by simp -implicitDefEqProofs only [↓qx, qq, ↓reduceIte, zA, zB, zC, zD, zE, zF, zG, zH, zI, zJ, zK, zL, zM, zN, zO, zP, zQ, rs9, h5, h16, h18, h19, h20, lt_41, hrow, hb, hw, hg, hd9, lt_46]; first | done | rfl), (by simp -implicitDefEqProofs only [↓qx, qq, ↓reduceIte, zA, zB, zC, zD, zE, zF, zG, zH, zI, zJ, zK, zL, zM, zN, zO, zP, zQ, rs9, h5, h16, h18, h19, h20, lt_41, hrow, hb, hw, hg, hd9, lt_46]; first | done | rfl), (by repeat first | exact hsub | refine sN hfin ?_ (by omega) | refine sD hfin ?_ (by omega) | refine sT hfin ?_ (by omega) (by omega) (by simp only [tgl, and_true] <;> omega)), by omega⟩ <;> first | done | (simp -implicitDefEqProofs only [↓qx, qq, ↓reduceIte, zA, zB, zC, zD, zE, zF, zG, zH, zI, zJ, zK, zL, zM, zN, zO, zP, zQ, rs9, h5, h16, h18, h19, h20, lt_41, hrow, hb, hw, hg, hd9, lt_46, Int.natCast_zero, tab]; first | done | rfl)) ?_
          intro μ fr st1 nx1 hIn
          have hIn' := hIn
          rw [hI4] at hIn'
          obtain ⟨p, hk, hμ, h5, h16, h18, h21, hb, hw, hg, hsub, hnx⟩ := hIn'
          have lt_50 : nx < nx1 ∧ b2 < nx1 ∧ c8 < nx1 ∧ c9 < nx1 := by and_intros <;> omega
          
          by_cases hltp : (p : Int) < (P0 : Int)
          case pos =>
            obtain ⟨hma, hwa⟩ := hmw p (by omega)
            have hpl1 := hpl.1
            have hpl2 := hpl.2
            rw [hCP] at hpl1 hpl2
            refine SRun.run 100 ?_; simp -implicitDefEqProofs only [↓qx, qq, ↓reduceIte, zA, zB, zC, zD, zE, zF, zG, zH, zI, zJ, zK, zL, zM, zN, zO, zP, zQ, rs9, h5, h16, h18, h21, lt_50, hb, hw, hg,  tab, hP, hltp]
            refine SRun.draw' (.quiet 0 false (.quiet 1 false (.quiet 2 false (.quiet 3 false (.quiet 4 false (.quiet 5 false (.quiet 6 false (.quiet 7 false (.quiet 8 false (.quiet 9 false (.quiet 10 false (.quiet 11 true (.quiet 12 false (.quiet 13 false (.quiet 14 false (.quiet 15 false (.quiet 16 false (.quiet 17 false (.quiet 18 false (.quiet 19 false (.quiet 20 false (.quiet 21 false (.quiet 22 false (.quiet 23 false .done)))))))))))))))))))))))) mixed (by kernel_rfl) ?_
            simp -implicitDefEqProofs only [↓qx, qq, ↓reduceIte, zA, zB, zC, zD, zE, zF, zG, zH, zI, zJ, zK, zL, zM, zN, zO, zP, zQ, rs9, h5, h16, h18, h21, lt_50, hb, hw, hg, tab, hml, hwl, hpl1, hpl2, hP, hma, hwa]
            repeat' (first | (with_reducible refine And.intro ?_ ?_) | omega)
            refine SRun.run 100 ?_; simp -implicitDefEqProofs only [↓qx, qq, ↓reduceIte, zA, zB, zC, zD, zE, zF, zG, zH, zI, zJ, zK, zL, zM, zN, zO, zP, zQ, rs9, h5, h16, h18, h21, lt_50, hb, hw, hg,  tab]
            (try rw [wrap_succ (n := P0) (by omega) (by omega)])
            rw [hI4]
            refine ⟨_, _, _, ConvF.refl _ _ _, ?_⟩
            refine ⟨P0 - (p + 1), by omega, p + 1, by omega, rfl, ?_, ?_, ?_, ?_, by simp -implicitDefEqProofs only [↓qx, qq, ↓reduceIte, zA, zB, zC, zD, zE, zF, zG, zH, zI, zJ, zK, zL, zM, zN, zO, zP, zQ, rs9, h5, h16, h18, h21, lt_50, hb, hw, hg], (by simp -implicitDefEqProofs only [↓qx, qq, ↓reduceIte, zA, zB, zC, zD, zE, zF, zG, zH, zI, zJ, zK, zL, zM, zN, zO, zP, zQ, rs9, h5, h16, h18, h21, lt_50, hb, hw, hg]; first | done | rfl), (by simp -implicitDefEqProofs only [↓qx, qq, ↓reduceIte, zA, zB, zC, zD, zE, zF, zG, zH, zI, zJ, zK, zL, zM, zN, zO, zP, zQ, rs9, h5, h16, h18, h21, lt_50, hb, hw, hg]; first | done | rfl), (by repeat first | exact hsub | refine sN hfin ?_ (by omega) | refine sD hfin ?_ (by omega) | refine sT hfin ?_ (by omega) (by omega) (by simp only [tgl, and_true] <;> omega)), by omega⟩ <;> first | done | (simp -implicitDefEqProofs only [↓qx, qq, ↓reduceIte, zA, zB, zC, zD, zE, zF, zG, zH, zI, zJ, zK, zL, zM, zN, zO, zP, zQ, rs9, h5, h16, h18, h21, lt_50, hb, hw, hg, tab]; first | done | rfl)
          case neg =>
            refine SRun.run 100 ?_; simp -implicitDefEqProofs only [↓qx, qq, ↓reduceIte, zA, zB, zC, zD, zE, zF, zG, zH, zI, zJ, zK, zL, zM, zN, zO, zP, zQ, rs9, h5, h16, h18, h21, lt_50, hb, hw, hg,  tab, hP, hltp]
            exact fin_sub (by repeat first | exact hsub | refine sN hfin ?_ (by omega) | refine sD hfin ?_ (by omega) | refine sT hfin ?_ (by omega) (by omega) (by simp only [tgl, and_true] <;> omega)) (hK _ (by omega))
    case pos =>
      obtain ⟨t0, t1⟩ := hgo
      have hi60 : (i : Int) < 60 := by omega
      obtain ⟨p1, p2, p3⟩ := hCI.pre t0
      obtain ⟨cs1, cs2⟩ := ci_step hNC hNA htk (by rw [hCN]; exact hcm) hCI t0 t1
      have hie := instE_plain N (mine := mine) hmt (X := (setT S t, [])) (come_over hGh p1 p2)
      refine SRun.run 100 ?_; simp -implicitDefEqProofs only [↓qx, qq, ↓reduceIte, zA, zB, zC, zD, zE, zF, zG, zH, zI, zJ, zK, zL, zM, zN, zO, zP, zQ, rs9, h5, h6, h7, h12, lt_24, h11, hrd8, hrn8, hrm8,  tab, hi60, t0, t1]
      refine einst_ok rest2 (EC.mk N (aBools mine) near []) mine xb rd mk wy hp lg ou mp inn S [] hl3 cnt mo t _ _ _ (fun id hid => hrest2 _ (by omega)) hG hnear hA (by have := eb_of p1; exact ⟨this.marks.trans (hat_len N W), this.way.trans (hat_len N W), this.log, this.wl, this.tl⟩) (by have := calm_of (S := setT S t) hGh p1 p2; rw [hat_len] at this; exact this) hHW fun hp2 lg2 ou2 mp2 hl4 cnt2 m2 st7 c7 hc7 hA7 hW7 _ => ?_
      rw [hie] at hA7 hW7 ⊢
      dsimp only at hA7 hW7 ⊢
      obtain ⟨S2, hS2⟩ : ∃ S2, (instV N (setT S t)).1 = S2 := ⟨_, rfl⟩
      obtain ⟨e2, he2⟩ : ∃ e2, (instV N (setT S t)).2 = e2 := ⟨_, rfl⟩
      rw [hS2] at hA7 hW7 cs1
      rw [he2] at cs1 cs2 ⊢
      have hrd9 := hA7.sub _ _ hrd7
      have hrn9 := hA7.sub _ _ hrn7
      have hrm9 := hA7.sub _ _ hrm7
      obtain ⟨w1, w2, w3, w4, w5, w6, w7, w8⟩ := hA7.lt
      
      have lt_54 : nx < c7 ∧ b2 < c7 ∧ xb < c7 ∧ bm < c7 := by and_intros <;> omega
      
      by_cases hz2 : e2 = 0
      case neg =>
        have hne := cs2 hz2
        rw [hCN] at hne
        refine SRun.run 100 ?_; simp -implicitDefEqProofs only [↓qx, qq, ↓reduceIte, zA, zB, zC, zD, zE, zF, zG, zH, zI, zJ, zK, zL, zM, zN, zO, zP, zQ, rs9, h5, h6, h7, h12, lt_54, hrd9, hrn9, hrm9,  tab, hz2]
        refine rrun_ok CN 25 _ _ _ hcm (by omega) fun c8 hc8 => ?_
        obtain ⟨fe, hfe⟩ : ∃ fe, (plainV CN 25).2 = fe := ⟨_, rfl⟩
        rw [hfe] at hne ⊢
        have lt_58 : nx < c8 ∧ b2 < c8 ∧ xb < c8 ∧ bm < c8 := by and_intros <;> omega
        refine SRun.run 100 ?_; simp -implicitDefEqProofs only [↓qx, qq, ↓reduceIte, zA, zB, zC, zD, zE, zF, zG, zH, zI, zJ, zK, zL, zM, zN, zO, zP, zQ, rs9, h5, h6, h7, h12, lt_54, hrd9, hrn9, hrm9, lt_58,  tab, hne]
        have hsub := hsr2.trans hA7.sub
        exact fin_sub (by repeat first | exact hsub | refine sN hfin ?_ (by omega) | refine sD hfin ?_ (by omega) | refine sT hfin ?_ (by omega) (by omega) (by simp only [tgl, and_true] <;> omega)) (hK _ (by omega))
      case pos =>
        obtain ⟨n1, n2⟩ := cs1 hz2
        obtain ⟨g1, _⟩ := instV_good hGh p1
        rw [hat_inst, hS2] at g1
        have hnk : nextK hl4 = nextV S2.wait := nextK_eq hW7 (fun e he => by have := g1.wt e he; have := g1.time; omega)
        refine SRun.run 100 ?_; simp -implicitDefEqProofs only [↓qx, qq, ↓reduceIte, zA, zB, zC, zD, zE, zF, zG, zH, zI, zJ, zK, zL, zM, zN, zO, zP, zQ, rs9, h5, h6, h7, h12, lt_54, hrd9, hrn9, hrm9,  tab, hz2]
        refine enext_ok rest2 (EC.mk N (aBools mine) near []) xb rd mk wy hp2 lg2 ou2 mp2 _ S2 [] _ hl4 cnt2 _ _ _ _ (fun id hid => hrest2 _ (by omega)) hA7 fun c8 hc8 => ?_
        rw [hnk]
        have lt_62 : nx < c8 ∧ b2 < c8 ∧ xb < c8 ∧ bm < c8 := by and_intros <;> omega
        have hti2 : nextV S2.wait < 0 ∨ ((i + 1 : Nat) : Int) ≤ nextV S2.wait := by omega
        refine SRun.run 100 ?_; simp -implicitDefEqProofs only [↓qx, qq, ↓reduceIte, zA, zB, zC, zD, zE, zF, zG, zH, zI, zJ, zK, zL, zM, zN, zO, zP, zQ, rs9, h5, h6, h7, h12, lt_54, hrd9, hrn9, hrm9, lt_62,  tab]
        (try rw [wrap_succ (n := 60) (by omega) (by omega)])
        rw [hI2]
        refine ⟨_, _, _, ConvF.refl _ _ _, ?_⟩
        refine ⟨60 - (i + 1), by omega, i + 1, by omega, rfl, ?_, ?_, ?_, ?_, ⟨S2, hp2, lg2, ou2, mp2, _, _, hl4, cnt2, nextV S2.wait, by simp -implicitDefEqProofs only [↓qx, qq, ↓reduceIte, zA, zB, zC, zD, zE, zF, zG, zH, zI, zJ, zK, zL, zM, zN, zO, zP, zQ, rs9, h5, h6, h7, h12, lt_54, hrd9, hrn9, hrm9, lt_62], hA7.up (by omega), hW7, n1, hti2⟩, by omega⟩ <;> first | done | (simp -implicitDefEqProofs only [↓qx, qq, ↓reduceIte, zA, zB, zC, zD, zE, zF, zG, zH, zI, zJ, zK, zL, zM, zN, zO, zP, zQ, rs9, h5, h6, h7, h12, lt_54, hrd9, hrn9, hrm9, lt_62, tab]; first | done | rfl)
  case pos =>
    have hkL : k < L := by omega
    have hev := cmE_in (P := P0) hl (show k < l.length by omega) (by omega)
    have hes := cmW_succ l P0 k
    obtain ⟨e, he⟩ : ∃ e, cmE l P0 k = e := ⟨_, rfl⟩
    obtain ⟨lk, hlk⟩ : ∃ lk, l.getD k 0 = lk := ⟨_, rfl⟩
    have hlb := hl _ (getD_mem (d := 0) (l := l) (k := k) (by omega))
    rw [hlk] at hlb
    have het : e.t = 1 + lk.tdiv 16 := by rw [← he, ← hlk]; rfl
    have hep : e.p = lk.tmod (P0 : Int) := by rw [← he, ← hlk]; rfl
    have hen : e.n = 1 + ((k % 2 : Nat) : Int) := by rw [← he]; rfl
    rw [he] at hev hes
    obtain ⟨hev1, hev2, hev3⟩ := hev
    have hq := tdiv_in lk 16 hlb (by omega)
    have hw1 : IntKind.i64.wrap lk = lk := wrap_of (by omega) (by omega)
    have hw2 : IntKind.i64.wrap (lk.tdiv 16) = lk.tdiv 16 := wrap_of (by omega) (by omega)
    have hw3 : IntKind.i64.wrap (1 + lk.tdiv 16) = e.t := by rw [het]; exact wrap_of (by omega) (by omega)
    have hw4 : IntKind.i64.wrap (lk.tmod (P0 : Int)) = e.p := by rw [hep]; exact wrap_of (by omega) (by omega)
    have hw5 : (k : Int).tmod 2 = ((k % 2 : Nat) : Int) := (Int.ofNat_tmod _ _).symm
    have hw6 : IntKind.i64.wrap (1 + ((k % 2 : Nat) : Int)) = e.n := by rw [hen]; exact wrap_of (by omega) (by omega)
    have hP0z : ¬ (P0 : Int) = 0 := by omega
    refine SRun.run 100 ?_; simp -implicitDefEqProofs only [↓qx, qq, ↓reduceIte, zA, zB, zC, zD, zE, zF, zG, zH, zI, zJ, zK, zL, zM, zN, zO, zP, zQ, rs9, h1, h5, h6, h7, h8, lt_18, hrd4, hrn4, hbx, hPr, hTr, hPT, hTP, hPTc, hx1, rowL, hpA, htA,  tab, hlt, hlk]
    refine SRun.draw' (.quiet 0 false (.quiet 1 false (.quiet 2 false (.quiet 3 false (.quiet 4 false (.quiet 5 false (.quiet 6 false (.quiet 7 false (.quiet 8 false (.quiet 9 false .done)))))))))) mixed (by kernel_rfl) ?_
    simp -implicitDefEqProofs only [↓qx, qq, ↓reduceIte, zA, zB, zC, zD, zE, zF, zG, zH, zI, zJ, zK, zL, zM, zN, zO, zP, zQ, rs9, h1, h5, h6, h7, h8, lt_18, hrd4, hrn4, hbx, hPr, hTr, hPT, hTP, hPTc, hx1, rowL, hpA, htA, tab, hlk, hP, hw1, hP0z]
    repeat (with_reducible refine And.intro ?_ ?_; focus (first | omega | (simp; done)))
    have hw7 : IntKind.u8.wrap (lk.tdiv 16) = lk.tdiv 16 := by
      unfold IntKind.wrap
      simp only [IntKind.signed, IntKind.bits, Bool.false_and, Bool.false_eq_true, if_false]
      exact Int.emod_eq_of_lt hq.1 (by omega)
    refine SRun.run 100 ?_; simp -implicitDefEqProofs only [↓qx, qq, ↓reduceIte, zA, zB, zC, zD, zE, zF, zG, zH, zI, zJ, zK, zL, zM, zN, zO, zP, zQ, rs9, h1, h5, h6, h7, h8, lt_18, hrd4, hrn4, hbx, hPr, hTr, hPT, hTP, hPTc, hx1, rowL, hpA, htA,  tab, hlk, hw1, hw2, hw3, hw4, hw5, hw6, hw7, hep.symm]
    repeat (with_reducible refine And.intro ?_ ?_; focus (first | omega | (simp; done)))
    have hwlen : (stE N (cmW l P0 k)).way.length = N.places.length := by
      show (bringM (List.replicate N.places.length 0) (cmW l P0 k)).length = _
      rw [brM_len, List.length_replicate]
    have hA1 := ((hA.put hbx ⟨by omega, by omega, by omega, by omega, hph.1, by omega, by omega, by omega⟩).put hPr ⟨by omega, by omega, by omega, by omega, hph.2.1, by omega, by omega, by omega⟩).put hTr ⟨by omega, by omega, by omega, by omega, hph.2.2, by omega, by omega, by omega⟩
    obtain ⟨rest1, hr1⟩ : ∃ rest1, rest1 = ((rest.set bm (.box [.sl P 0 (P0 + k), .sl T 0 (A + k)])).set P (rowL 2 ePlace dPlace (N.places ++ sPs k))).set T (rowL 6 eTrans dTrans (N.trans ++ uTs P0 W k)) := ⟨_, rfl⟩
    rw [← hr1] at hA1
    have hr1n : ∀ id, u ≤ id → rest1 id = none := fun id hid => by rw [hr1, Store.get_set_ne (by omega), Store.get_set_ne (by omega), Store.get_set_ne (by omega)]; exact hrest _ (by omega)
    have hr1s : Fw.Sub rest rest1 := by rw [hr1]; exact Fw.Sub.new (Fw.Sub.new (Fw.Sub.new (Fw.Sub.refl _) (hrest _ (by omega))) (hrest _ (by omega))) (hrest _ (by omega))
    have hr1b : rest1 bm = some (.box [.sl P 0 (P0 + k), .sl T 0 (A + k)]) := by rw [hr1, Store.get_set_ne (by omega), Store.get_set_ne (by omega), Store.get_set_same]
    have hr1p : rest1 P = some (rowL 2 ePlace dPlace (N.places ++ sPs k)) := by rw [hr1, Store.get_set_ne (by omega), Store.get_set_same]
    have hr1t : rest1 T = some (rowL 6 eTrans dTrans (N.trans ++ uTs P0 W k)) := by rw [hr1, Store.get_set_same]
    refine come_ok rest1 (EC.mk N (aBools mine) near []) xb rd mk wy hp lg ou mp inn (stE N (cmW l P0 k)) [] (readyL N mine (firstL N)) hl2 cnt mo3 e _ _ _ hr1n hA1 (by show 0 ≤ e.p ∧ e.p < (N.places.length : Int); rw [hP]; exact hev1) hwlen hHW.heap (by rw [hHW.len, cmW_len]; omega) fun hp' hl' st4 c4 hc4 hh' hpm hA4 => ?_
    rw [stE_come, ← hes] at hA4
    have hHW' := hHW.push hh' hpm
    rw [← hes] at hHW'
    have hb4 := hA4.sub _ _ hr1b
    have hp4 := hA4.sub _ _ hr1p
    have ht4 := hA4.sub _ _ hr1t
    have hq1 := hA4.ne_of hr1b
    have hq2 := hA4.ne_of hr1p
    have hq3 := hA4.ne_of hr1t
    have hA5 := hA4.weak hr1s
    have hrd5 := hA5.sub _ _ hrd
    have hrn5 := hA5.sub _ _ hrn
    obtain ⟨k1, k2, k3, k4, k5, k6, k7, k8⟩ := hA5.lt
    
    have lt_66 : nx < c4 ∧ b2 < c4 ∧ xb < c4 ∧ bm < c4 ∧ P < c4 ∧ T < c4 := by and_intros <;> omega
    
    have hw8 : IntKind.i64.wrap (((P0 + (k + 1) : Nat) : Int) - 1) = ((P0 + k : Nat) : Int) := by rw [wrap_of (by omega) (by omega)]; omega
    have hs1 : N.places ++ sPs (k + 1) = (N.places ++ sPs k) ++ [sP k] := by rw [List.append_assoc]; unfold sPs; rw [snoc_range]
    have hs2 : N.trans ++ uTs P0 W (k + 1) = (N.trans ++ uTs P0 W k) ++ [uT P0 W k] := by rw [List.append_assoc]; unfold uTs; rw [snoc_range]
    have huT : uT P0 W k = ⟨uName k, e.t, 9, [⟨((P0 + k : Nat) : Int), 1⟩], [], [⟨e.p, e.n⟩]⟩ := by unfold uT; rw [hWg k hkL, he]
    rw [huT] at hs2
    refine SRun.run 100 ?_; simp -implicitDefEqProofs only [↓qx, qq, ↓reduceIte, zA, zB, zC, zD, zE, zF, zG, zH, zI, zJ, zK, zL, zM, zN, zO, zP, zQ, rs9, h1, h5, h6, h7, h8, lt_66, hrd5, hrn5, hb4, hp4, ht4, hPT, hTP, hPTc, hx1, rowL, hpA, htA,  tab, hw8, hw5, hw6]
    repeat (with_reducible refine And.intro ?_ ?_; focus (first | omega | (simp; done)))
    (try rw [wrap_succ (n := L) (by omega) (by omega)])
    rw [hI1]
    refine ⟨_, _, _, (ConvF.push (id := c4 + 2) (sz := 2) (n := P0 + k) (enc := ePlace) (d := dPlace) (l := N.places ++ sPs k) (sP k) (by simp -implicitDefEqProofs only [↓qx, qq, ↓reduceIte, zA, zB, zC, zD, zE, zF, zG, zH, zI, zJ, zK, zL, zM, zN, zO, zP, zQ, rs9, h1, h5, h6, h7, h8, lt_66, hrd5, hrn5, hb4, hp4, ht4, hPT, hTP, hPTc, hx1, rowL, hpA, htA]; rfl) (hpA k) rfl).trans (ConvF.pushT (id := c4 + 7) (sz := 6) (n := A + k) (enc := eTrans) (d := dTrans) (l := N.trans ++ uTs P0 W k) ⟨uName k, e.t, 9, [⟨((P0 + k : Nat) : Int), 1⟩], [], [⟨e.p, e.n⟩]⟩ (esub2 _ (c4 + 4) (c4 + 5)) (by simp -implicitDefEqProofs only [↓qx, qq, ↓reduceIte, zA, zB, zC, zD, zE, zF, zG, zH, zI, zJ, zK, zL, zM, zN, zO, zP, zQ, rs9, h1, h5, h6, h7, h8, lt_66, hrd5, hrn5, hb4, hp4, ht4, hPT, hTP, hPTc, hx1, rowL, hpA, htA]; rfl) (htA k) ?hg2 (fun _ => rfl)), ?_⟩; (case hg2 => exact TnL.cons (Tn.eq (Tn.same (esub2 _ (c4 + 4) (c4 + 5)) _) (by rfl)) (TnL.cons (Tn.same (esub2 _ (c4 + 4) (c4 + 5)) _) (TnL.cons (Tn.same (esub2 _ (c4 + 4) (c4 + 5)) _) (TnL.cons (one_arc (a := ⟨((P0 + k : Nat) : Int), 1⟩) (esub2 _ (c4 + 4) (c4 + 5)) (by simp -implicitDefEqProofs only [↓qx, qq, ↓reduceIte, zA, zB, zC, zD, zE, zF, zG, zH, zI, zJ, zK, zL, zM, zN, zO, zP, zQ, rs9, h1, h5, h6, h7, h8, lt_66, hrd5, hrn5, hb4, hp4, ht4, hPT, hTP, hPTc, hx1, rowL, hpA, htA]; rfl) (by simp -implicitDefEqProofs only [↓qx, qq, ↓reduceIte, zA, zB, zC, zD, zE, zF, zG, zH, zI, zJ, zK, zL, zM, zN, zO, zP, zQ, rs9, h1, h5, h6, h7, h8, lt_66, hrd5, hrn5, hb4, hp4, ht4, hPT, hTP, hPTc, hx1, rowL, hpA, htA]) rfl) (TnL.cons (Tn.emp _ _ _ _) (TnL.cons (one_arc (a := ⟨e.p, e.n⟩) (esub2 _ (c4 + 4) (c4 + 5)) (by simp -implicitDefEqProofs only [↓qx, qq, ↓reduceIte, zA, zB, zC, zD, zE, zF, zG, zH, zI, zJ, zK, zL, zM, zN, zO, zP, zQ, rs9, h1, h5, h6, h7, h8, lt_66, hrd5, hrn5, hb4, hp4, ht4, hPT, hTP, hPTc, hx1, rowL, hpA, htA]; rfl) (by simp -implicitDefEqProofs only [↓qx, qq, ↓reduceIte, zA, zB, zC, zD, zE, zF, zG, zH, zI, zJ, zK, zL, zM, zN, zO, zP, zQ, rs9, h1, h5, h6, h7, h8, lt_66, hrd5, hrn5, hb4, hp4, ht4, hPT, hTP, hPTc, hx1, rowL, hpA, htA]) rfl) TnL.nil))))))
    refine ⟨L - (k + 1), by omega, k + 1, by omega, rfl, ?_, ?_, ?_, ?_, ?_, ⟨hp', c4 + 2, c4 + 7, hl', _, hA5.keep ⟨(by repeat first | rw [Store.get_set_ne (by omega)] | rw [Store.get_del_ne (by omega)]), (by repeat first | rw [Store.get_set_ne (by omega)] | rw [Store.get_del_ne (by omega)]), (by repeat first | rw [Store.get_set_ne (by omega)] | rw [Store.get_del_ne (by omega)]), (by repeat first | rw [Store.get_set_ne (by omega)] | rw [Store.get_del_ne (by omega)]), (by repeat first | rw [Store.get_set_ne (by omega)] | rw [Store.get_del_ne (by omega)]), (by repeat first | rw [Store.get_set_ne (by omega)] | rw [Store.get_del_ne (by omega)]), (by repeat first | rw [Store.get_set_ne (by omega)] | rw [Store.get_del_ne (by omega)]), (by repeat first | rw [Store.get_set_ne (by omega)] | rw [Store.get_del_ne (by omega)])⟩ (by repeat first | exact hA5.sub | refine Fw.Sub.new ?_ (hrest _ (by omega)) | refine Fw.Sub.del ?_ (hrest _ (by omega))) (by omega), hHW', by omega, ⟨hq1, by omega, by omega⟩, by omega, by omega, by omega, by simp -implicitDefEqProofs only [↓qx, qq, ↓reduceIte, zA, zB, zC, zD, zE, zF, zG, zH, zI, zJ, zK, zL, zM, zN, zO, zP, zQ, rs9, h1, h5, h6, h7, h8, lt_66, hrd5, hrn5, hb4, hp4, ht4, hPT, hTP, hPTc, hx1, rowL, hpA, htA], by rw [hs1]; simp -implicitDefEqProofs only [↓qx, qq, ↓reduceIte, zA, zB, zC, zD, zE, zF, zG, zH, zI, zJ, zK, zL, zM, zN, zO, zP, zQ, rs9, h1, h5, h6, h7, h8, lt_66, hrd5, hrn5, hb4, hp4, ht4, hPT, hTP, hPTc, hx1, rowL, hpA, htA], by rw [hs2]; simp -implicitDefEqProofs only [↓qx, qq, ↓reduceIte, zA, zB, zC, zD, zE, zF, zG, zH, zI, zJ, zK, zL, zM, zN, zO, zP, zQ, rs9, h1, h5, h6, h7, h8, lt_66, hrd5, hrn5, hb4, hp4, ht4, hPT, hTP, hPTc, hx1, rowL, hpA, htA]⟩, by omega⟩ <;> first | done | (simp -implicitDefEqProofs only [↓qx, qq, ↓reduceIte, zA, zB, zC, zD, zE, zF, zG, zH, zI, zJ, zK, zL, zM, zN, zO, zP, zQ, rs9, h1, h5, h6, h7, h8, lt_66, hrd5, hrn5, hb4, hp4, ht4, hPT, hTP, hPTc, hx1, rowL, hpA, htA, tab]; first | done | rfl)
end Go.Proofs.Ytipjldekiiojaaa
/- How arguments are read. -/
namespace Go.Proofs.Ytipjldekiiojaaa
set_option linter.all false
open Go Go.Proofs.Ytipjldekiiojaaa.Fw
set_option maxRecDepth 100000
set_option maxHeartbeats 1000000
theorem rdU8 : Rd Try.prog 5 1 (fun l => ∃ n : Int, (0 ≤ n ∧ n < 256) ∧ l = [.int .u8 n]) := (Rd.int (k := .u8) (by kernel_rfl) (by kernel_rfl)).imp fun l ⟨n, h, e⟩ => ⟨n, (by rw [show IntKind.u8.min = 0 from rfl, show IntKind.u8.max = 255 from rfl] at h; omega), e⟩
end Go.Proofs.Ytipjldekiiojaaa
/- How a draft is read. -/
namespace Go.Proofs.Ytipjldekiiojaaa
set_option linter.all false
open Go Go.Proofs.Ytipjldekiiojaaa.Fw
set_option maxRecDepth 100000
set_option maxHeartbeats 1000000
theorem rdU8s : Rd Try.prog 22 1 (fun l => ∃ xs : List Int, ((∀ a ∈ xs, 0 ≤ a ∧ a < 256) ∧ xs.length ≤ maxLen) ∧ l = [tab 1 eU8 0 xs]) := Rd.slice 0 (by kernel_rfl) (by kernel_rfl) (by omega) rdU8
abbrev pU8 : List AV → Prop := fun l => ∃ n : Int, (0 ≤ n ∧ n < 256) ∧ l = [.int .u8 n]
theorem rdAct : Rd Try.prog 87 7 (fun l => ∃ a : Act, okAct a ∧ l = eAct a) :=
  (Rd.struct (ps := [(1, pU8), (1, pU8), (1, pU8), (1, pU8), (1, pU8), (1, pU8), (1, pU8)]) Try.underlying87 (by kernel_rfl) ⟨rfl, rdU8, rfl, rdU8, rfl, rdU8, rfl, rdU8, rfl, rdU8, rfl, rdU8, rfl, rdU8, rfl⟩).imp fun l h => by
    obtain ⟨l1, r1, rfl, _, ⟨a, ha, rfl⟩, l2, r2, rfl, _, ⟨b, hb, rfl⟩, l3, r3, rfl, _, ⟨c, hc, rfl⟩, l4, r4, rfl, _, ⟨d, hd, rfl⟩, l5, r5, rfl, _, ⟨e, he, rfl⟩, l6, r6, rfl, _, ⟨f, hf, rfl⟩, l7, r7, rfl, _, ⟨g, hg, rfl⟩, rfl⟩ := h
    exact ⟨⟨a, b, c, d, e, f, g⟩, ⟨ha, hb, hc, hd, he, hf, hg⟩, rfl⟩
theorem rdActs : Rd Try.prog 23 1 (fun l => ∃ xs : List Act, ((∀ a ∈ xs, okAct a) ∧ xs.length ≤ maxLen) ∧ l = [tab 7 eAct dAct xs]) := Rd.slice dAct (by kernel_rfl) (by kernel_rfl) (by omega) rdAct
theorem rdDraft : Rd Try.prog 25 2 (fun l => ∃ d : Draft, okDraft d ∧ l = eDraft d) :=
  (Rd.struct (ps := [(1, _), (1, _)]) Try.underlying25 (by kernel_rfl) ⟨rfl, rdU8s, rfl, rdActs, rfl⟩).imp fun l h => by
    obtain ⟨l1, r1, rfl, _, ⟨a, ha, rfl⟩, l2, r2, rfl, _, ⟨b, hb, rfl⟩, rfl⟩ := h
    exact ⟨⟨a, b⟩, ⟨ha.1, hb.1⟩, rfl⟩
end Go.Proofs.Ytipjldekiiojaaa
