/- Pairs with a key's value, or without the key; a tree and pairs behind acts. -/
import Derived.Test.YtohhoojcgcbmcaaLawE
set_option maxRecDepth 4000
set_option linter.unusedVariables false
set_option linter.unusedSimpArgs false
namespace Go.Proofs.Ytohhoojcgcbmcaa
open Go Go.Vc Go.Sl Go.Tr Go.Proofs Go.RowKit

variable {g w : World} {F : List HP}

/-- A part of a slice, to be read. -/
theorem src_part {P : Program} {T : TypeId} {sz : Nat} {p : Option Addr} {l c : Nat} {cs : List Value} (H : Sat g w (Sl T sz p l c cs :: F)) (hone : ∀ x ∈ cs, oneCell x = true) {lo hi : Nat} (h1 : lo ≤ hi) (h2 : hi ≤ l) :
    Src P w sz (.slice (slAt p lo c sz) (hi - lo) (c - lo)) (hi - lo) ((cs.drop (lo * sz)).take ((hi - lo) * sz)) := by
  rcases H.open_Sl with ⟨rfl, rfl, rfl, rfl, _⟩ | ⟨b, all, rfl, h3, h4, rfl, H'⟩
  · obtain rfl : hi = 0 := by omega
    obtain rfl : lo = 0 := by omega
    have e : slAt none 0 0 sz = none := by unfold slAt; rfl
    rw [e, Nat.sub_self, Nat.zero_mul, List.take_zero]
    exact Src.none P w sz
  · by_cases hc : lo = c
    · obtain rfl : hi = lo := by omega
      have e : slAt (some ⟨b, 0, none⟩) hi c sz = some ⟨b, 0, none⟩ := by unfold slAt; rw [if_pos hc.symm]
      rw [e, Nat.sub_self, Nat.zero_mul, List.take_zero]
      have := H'.src (P := P) (o := 0) sz 0 (c - hi) (by omega) (by simp)
      simpa using this
    · rw [slAt_some (.inl hc)]
      have hm : hi * sz ≤ l * sz := Nat.mul_le_mul_right _ h2
      have hm2 : lo * sz + (hi - lo) * sz = hi * sz := by rw [← Nat.add_mul]; congr 1; omega
      have hm3 : l * sz ≤ c * sz := Nat.mul_le_mul_right _ h3
      have e : ((all.take (l * sz)).drop (lo * sz)).take ((hi - lo) * sz) = (all.drop (lo * sz)).take ((hi - lo) * sz) := by
        rw [List.drop_take, List.take_take, Nat.min_eq_left (by omega)]
      rw [e]
      refine H'.src (P := P) (o := lo * sz) sz (hi - lo) (c - lo) (by omega) fun x hx => hone x ?_
      rw [← e] at hx
      exact List.mem_of_mem_drop (List.mem_of_mem_take hx)

theorem prs_part {p : Option Addr} {c : Nat} {es : List (Key × Int)} (H : Sat g w (Prs p c es :: F)) {lo hi : Nat} (h1 : lo ≤ hi) (h2 : hi ≤ es.length) :
    Src prog w 2 (.slice (slAt p lo c 2) (hi - lo) (c - lo)) (hi - lo) (enc_int ((es.drop lo).take (hi - lo))) := by
  have := src_part (P := prog) H (enc_one_int es) h1 h2
  have e : ((enc_int es).drop (lo * 2)).take ((hi - lo) * 2) = enc_int ((es.drop lo).take (hi - lo)) := by
    show ((row2 _ _ es).drop (lo * 2)).take ((hi - lo) * 2) = row2 _ _ _
    rw [row2_drop, row2_take]
  rw [e] at this
  exact this

theorem prs_append {p : Option Addr} {c n : Nat} {es xs : List (Key × Int)} {src : Value} {K : Option Addr → Nat → Nat → World → Prop} (H : Sat g w (Prs p c es :: F)) (S : Src prog w 2 src n (enc_int xs)) (hn : n = xs.length) (hb : es.length + xs.length < 1048576)
    (h : ∀ p' c' w', Sat g w' (Prs p' c' (es ++ xs) :: F) → K p' (es ++ xs).length c' w') :
    Run prog (Builtin.append_ #[26, 26] 26 #[.slice p es.length c, src]) w fun v w2 => ∃ p' l' c', v = .slice p' l' c' ∧ K p' l' c' w2 := by
  subst hn
  obtain ⟨p', c', w2, hrun, H2, _⟩ := run_append (rt := 26) elem_pair notInt_pair H (enc_one_int es) S (by omega)
  refine run_of hrun ⟨p', _, c', rfl, ?_⟩
  have e : enc_int es ++ enc_int xs = enc_int (es ++ xs) := (row2_append _ _ es xs).symm
  rw [e, ← List.length_append] at H2
  rw [← List.length_append]
  exact h p' c' w2 H2

def withL (es : List (Key × Int)) (k : Key) (v : Int) (gone : Bool) : List (Key × Int) := (es.take (idx es k) ++ if gone then [] else [(k, v)]) ++ es.drop (if has es k then idx es k + 1 else idx es k)

theorem withL_eq (es : List (Key × Int)) (k : Key) (v : Int) (gone : Bool) : withL es k v gone = if gone then del k es else ins k v es := by
  unfold withL del ins
  cases hh : has es k with
  | false => cases gone <;> simp
  | true =>
    obtain ⟨x, hx, _⟩ := has_some hh
    have hn := (List.getElem?_eq_some_iff.1 hx).1
    cases gone
    · simp only [if_true, Bool.false_eq_true, if_false]
      rw [List.set_eq_take_append_cons_drop, if_pos hn]; simp
    · simp

theorem spec.affluxlaw08_with {p : Option Addr} {c : Nat} {es : List (Key × Int)} {k : Key} {v : Int} {gone : Bool} (H : Sat g w (Prs p c es :: F)) (hl : es.length < 100000) :
    Calls prog f_affluxlaw08_with #[.slice p es.length c, .string k, .int .i64 v, .bool gone] w
      fun e w' => ∃ p' c', e = .returned (.slice p' (withL es k v gone).length c') ∧ Sat g w' (Prs p' c' (withL es k v gone) :: F) := by
  have hle := idx_le es k
  have hc := Sat.Sl_le H
  refine ok.affluxlaw08_with ?_
  unfold V.affluxlaw08_with
  refine (spec.affluxlaw08_find H (by omega)).mono ?_
  rintro e w1 ⟨rfl, H1⟩
  refine ⟨_, _, rfl, al H1 fun b w2 H2 => ?_⟩
  have H3 : Sat g w2 (Prs (some ⟨b, 0, none⟩) 0 [] :: Prs p c es :: F) := by
    have := H2.shut_Sl (all := []) (l := 0) (c := 0) (sz := 2) (by omega) (by simp)
    rw [List.take_nil] at this
    exact this
  refine slb trivial ⟨by omega, by simp only [bnd]; omega⟩ trivial fun _ _ _ e1 e2 e3 => ?_
  simp only [bnd, Int.toNat_natCast] at e1 e2 e3
  subst e1 e2 e3
  have S1 := prs_part (H3.pull 1 rfl) (lo := 0) (hi := idx es k) (Nat.zero_le _) hle
  refine prs_append (p := some ⟨b, 0, none⟩) (c := 0) (es := []) H3 S1 (by simp; omega) (by simp; omega) fun p3 c3 w3 H4 => ?_
  have e4 : [] ++ (es.drop 0).take (idx es k - 0) = es.take (idx es k) := by simp
  rw [e4] at H4 ⊢
  have hbig : (es.take (idx es k)).length ≤ idx es k := by simp; omega
  -- the last part
  have fin : ∀ {p5 : Option Addr} {c5 : Nat} {out : List (Key × Int)} {w5 : World} {j : Nat}, Sat g w5 (Prs p5 c5 out :: Prs p c es :: F) → out.length ≤ idx es k + 1 → j ≤ es.length → (out ++ es.drop j = withL es k v gone) →
      SlB es.length c (some (j : Int)) none none fun lo37 hi37 mx37 =>
        Run prog (Builtin.append_ #[26, 26] 26 #[.slice p5 out.length c5, .slice (slAt p lo37 mx37 2) (hi37 - lo37) (mx37 - lo37)]) w5 fun v38 w_6 => ∃ p38 l38 c38, v38 = .slice p38 l38 c38 ∧
          ∃ p' c', Ending.returned (.slice p38 l38 c38) = .returned (.slice p' (withL es k v gone).length c') ∧ Sat g w_6 (Prs p' c' (withL es k v gone) :: F) := by
    intro p5 c5 out w5 j H5 ho hj he
    refine slb trivial trivial ⟨by omega, by simp only [bnd]; omega⟩ fun _ _ _ e1 e2 e3 => ?_
    simp only [bnd, Int.toNat_natCast] at e1 e2 e3
    subst e1 e2 e3
    have S2 := prs_part (H5.pull 1 rfl) (lo := j) (hi := es.length) hj (Nat.le_refl _)
    refine prs_append H5 S2 (by simp) (by simp; omega) fun p6 c6 w6 H6 => ?_
    have e5 : (es.drop j).take (es.length - j) = es.drop j := List.take_of_length_le (by simp)
    rw [e5, he] at H6 ⊢
    exact ⟨p6, c6, rfl, (H6.pull 1 rfl).drop⟩
  have hnx : has es k = true → idx es k + 1 ≤ es.length := by
    intro hh
    obtain ⟨x, hx, _⟩ := has_some hh
    exact (List.getElem?_eq_some_iff.1 hx).1
  have hw : IntKind.wrap .i64 (((idx es k : Nat) : Int) + (1 : Int)) = ((idx es k + 1 : Nat) : Int) := by rw [wrap_id (by omega) (by omega)]; omega
  cases gone with
  | false =>
    refine br_t rfl (al H4 fun b2 w4 H5 => ?_)
    have S2 := Sat.src (P := prog) (o := 0) (all := [Value.string k, .int .i64 v]) H5 2 1 1 (by simp) (by simp [oneCell])
    refine prs_append (xs := [(k, v)]) (H5.pull 1 rfl) S2 rfl (by simp; omega) fun p5 c5 w5 H6 => ?_
    have H7 : Sat g w5 (Prs p5 c5 (es.take (idx es k) ++ [(k, v)]) :: Prs p c es :: F) := (H6.pull 1 rfl).drop.ord [0, 1] rfl rfl rfl
    refine br (fun hh => ?_) (fun hh => ?_)
    · refine lt' hw (fin H7 (by simp; omega) (hnx hh) ?_)
      unfold withL; rw [hh]; rfl
    · refine fin H7 (by simp; omega) hle ?_
      unfold withL; rw [hh]; rfl
  | true =>
    refine br_f rfl (br (fun hh => ?_) (fun hh => ?_))
    · refine lt' hw (fin H4 (by omega) (hnx hh) ?_)
      unfold withL; rw [hh]; simp
    · refine fin H4 (by omega) hle ?_
      unfold withL; rw [hh]; simp

end Go.Proofs.Ytohhoojcgcbmcaa
