/-
  Printed by a program of this session out of the loaded functions: models and their proofs. Own text.
-/
import Derived.Test.YtkondhigbbgidaaGreatPL5
/-
  Plain laws of lex: the scanner, step by step, told by lists. Own text.
-/
namespace Go.Proofs.YtkondhigbbgidaaGreat.M
open Go Go.Proofs Go.Proofs.YtkondhigbbgidaaGreat.V
set_option linter.unusedVariables false
set_option linter.unusedSimpArgs false
theorem ss_mid {s : ByteArray} {i n : Nat} (h1 : i≤n) (h : n≤s.size) : V.ss s (some (i : Int)) (some (n : Int)) = some (s.extract i n):=by
  unfold V.ss
  rw [if_pos ⟨⟨by simp,by simp⟩,by simpa [lowN,highN] using h1,by simpa [highN] using h⟩]
  simp [lowN,highN]
theorem cnt_headL (p : Int→Bool) : ∀ (k : Nat) (l : List Int),l.length≤k→cnt (l.take (headL p l).1)≠none:=by
  intro k
  induction k with
  | zero =>
    intro l h
    obtain rfl:=List.eq_nil_of_length_eq_zero (Nat.le_zero.1 h)
    rw [headL_nil,List.take_nil,cnt_nil]; simp
  | succ k ih =>
    intro l h
    by_cases hl : l = []
    · subst hl; rw [headL_nil,List.take_nil,cnt_nil]; simp
    cases hr : rl l with
    | none =>rw [headL_none hl hr,List.take_zero,cnt_nil]; simp
    | some q =>
      obtain ⟨c,w⟩:=q
      have hw:=rl_some hr
      cases hp : p c with
      | false =>rw [headL_stop hr hp,List.take_zero,cnt_nil]; simp
      | true =>
        rw [headL_go hr hp]
        have hi:=ih (l.drop w) (by rw [List.length_drop]; omega)
        have e : l.take ((headL p (l.drop w)).1 + w) = l.take w++(l.drop w).take (headL p (l.drop w)).1:=by rw [Nat.add_comm,List.take_add]
        simp only [e]
        rw [cnt_go (rl_take hr),List.drop_append_of_le_length (by rw [List.length_take]; omega),List.drop_eq_nil_of_le (by rw [List.length_take]; omega),List.nil_append]
        simpa using hi
theorem textL_ok : ∀ (k : Nat) (t x : List Int) (n : Nat),t.length≤k→By t→textL t = .ok (x,n)→1≤n∧n≤t.length∧cnt (t.take n)≠none∧By x∧x.length≤n:=by
  intro k
  induction k with
  | zero =>
    intro t x n h hb hu
    obtain rfl:=List.eq_nil_of_length_eq_zero (Nat.le_zero.1 h)
    rw [textL_nil] at hu; cases hu
  | succ k ih =>
    intro t x n h hb hu
    by_cases hl : t = []
    · subst hl; rw [textL_nil] at hu; cases hu
    cases hr : rl t with
    | none =>rw [textL_none hl hr] at hu; cases hu
    | some q =>
      obtain ⟨c,w⟩:=q
      have hw:=rl_some hr
      cases hc : ctl c with
      | true =>rw [textL_ctl hr hc] at hu; cases hu
      | false =>
        by_cases h1 : c = 34
        · subst h1
          rcases hw.2.2 with ⟨t',rfl,_,rfl⟩ | ⟨h,_⟩
          · rw [textL_end] at hu
            cases hu
            refine ⟨Nat.le_refl _,by simp,?_,fun b hb =>by simp at hb,Nat.zero_le _⟩
            simp only [List.take_succ_cons,List.take_zero]
            rw [cnt_go (rl_ascii (by decide))]; simp [cnt_nil]
          · omega
        · by_cases h2 : c = 92
          · subst h2
            rcases hw.2.2 with ⟨t',rfl,_,rfl⟩ | ⟨h,_⟩
            · cases t' with
              | nil =>rw [textL_esc0] at hu; cases hu
              | cons d t' =>
                rw [textL_esc] at hu
                cases hm : mask d with
                | none =>rw [hm] at hu; cases hu
                | some e =>
                  rw [hm] at hu
                  simp only at hu
                  cases hq : textL t' with
                  | err e =>rw [hq] at hu; cases hu
                  | ok q =>
                    obtain ⟨y,m⟩:=q
                    rw [hq] at hu
                    simp only [Res.map,Res.ok.injEq,Prod.mk.injEq] at hu
                    obtain ⟨rfl,rfl⟩:=hu
                    simp only [List.length_cons] at h ⊢
                    obtain ⟨k1,k2,k3,k4,k5⟩:=ih t' y m (by omega) hb.tail.tail hq
                    have hd : d < 128∧0≤e∧e < 256:=by
                      unfold mask at hm
                      split at hm
                      · cases hm; omega
                      · split at hm
                        · cases hm; omega
                        · cases hm
                    refine ⟨by omega,by omega,?_,?_,by omega⟩
                    · simp only [List.take_succ_cons]
                      rw [cnt_go (rl_ascii (by decide))]
                      simp only [List.drop_succ_cons,List.drop_zero]
                      rw [cnt_go (rl_ascii hd.1)]
                      simpa using k3
                    · intro b hb
                      rcases List.mem_cons.1 hb with rfl | hb
                      · omega
                      · exact k4 b hb
            · omega
          · rw [textL_go hr hc h1 h2] at hu
            cases hq : textL (t.drop w) with
            | err e =>rw [hq] at hu; cases hu
            | ok q =>
              obtain ⟨y,m⟩:=q
              rw [hq] at hu
              simp only [Res.map,Res.ok.injEq,Prod.mk.injEq] at hu
              obtain ⟨rfl,rfl⟩:=hu
              obtain ⟨k1,k2,k3,k4,k5⟩:=ih (t.drop w) y m (by rw [List.length_drop]; omega) (hb.drop w) hq
              rw [List.length_drop] at k2
              refine ⟨by omega,by omega,?_,(hb.take w).append k4,by rw [List.length_append,List.length_take]; omega⟩
              rw [Nat.add_comm m w,List.take_add,cnt_go (rl_take hr),List.drop_append_of_le_length (by rw [List.length_take]; omega),List.drop_eq_nil_of_le (by rw [List.length_take]; omega),List.nil_append]
              simpa using k3
end Go.Proofs.YtkondhigbbgidaaGreat.M
/-
  Plain laws of lex: what the scanner does. Own text.
-/
namespace Go.Proofs.YtkondhigbbgidaaGreat.M
open Go Go.Proofs Go.Proofs.YtkondhigbbgidaaGreat.V
set_option linter.unusedVariables false
set_option linter.unusedSimpArgs false
theorem scanL_nil : scanL [] = .ok []:=by rw [scanL]
theorem scanL_blank {b : Int} {t : List Int} (h : blankB b = true) : scanL (b :: t) = scanL t:=by rw [scanL.eq_def]; simp only [h,if_true]
theorem scanL_rem (t : List Int) : scanL (59 :: t) = if (headL nlB (59 :: t)).2 = true then scanL (t.drop ((headL nlB (59 :: t)).1 - 1)) else .err 2:=by
 rw [scanL.eq_def]; simp only [show blankB 59 = false from rfl,Bool.false_eq_true,if_false,if_true]
theorem scanL_open (t : List Int) : scanL (40 :: t) = (scanL t).map ((1,[40]) :: ·):=by
 rw [scanL.eq_def]; simp only [show blankB 40 = false from rfl,Bool.false_eq_true,if_false,if_true,show ¬ (40 : Int) = 59 by decide]
theorem scanL_close (t : List Int) : scanL (41 :: t) = (scanL t).map ((2,[41]) :: ·):=by
 rw [scanL.eq_def]; simp only [show blankB 41 = false from rfl,Bool.false_eq_true,if_false,if_true,show ¬ (41 : Int) = 59 by decide,show ¬ (41 : Int) = 40 by decide]
theorem scanL_text (t : List Int) : scanL (34 :: t) = match textL t with | .err e =>.err e | .ok (x,n) =>(scanL (t.drop n)).map ((4,x) :: ·):=by
 rw [scanL.eq_def]; simp only [show blankB 34 = false from rfl,Bool.false_eq_true,if_false,if_true,show ¬ (34 : Int) = 59 by decide,show ¬ (34 : Int) = 40 by decide,show ¬ (34 : Int) = 41 by decide]
 cases textL t<;>rfl
def wrdB (b : Int) : Bool:=!blankB b && b != 59 && b != 40 && b != 41 && b != 34
theorem scanL_word {b : Int} {t : List Int} (h : wrdB b = true) : scanL (b :: t) = if (headL plainB (b :: t)).1 = 0 then .err 2
  else if longB (cnt ((b :: t).take (headL plainB (b :: t)).1)) = true then .err 4
  else (scanL ((b :: t).drop (headL plainB (b :: t)).1)).map ((3,(b :: t).take (headL plainB (b :: t)).1) :: ·):=by
 unfold wrdB at h
 simp only [Bool.and_eq_true,bne_iff_ne,ne_eq,Bool.not_eq_true'] at h
 obtain ⟨⟨⟨⟨h1,h2⟩,h3⟩,h4⟩,h5⟩:=h
 rw [scanL.eq_def]
 simp only [h1,h2,h3,h4,h5,Bool.false_eq_true,if_false]
 by_cases h0 : (headL plainB (b :: t)).1 = 0
 ·simp only [h0,if_true]
 ·simp only [h0,if_false]
  rw [drop_tail (b:=b) (by omega)]
end Go.Proofs.YtkondhigbbgidaaGreat.M
/-
  Plain laws of lex: tokens, and a text's scan, told by lists. Own text.
-/
namespace Go.Proofs.YtkondhigbbgidaaGreat.M
open Go Go.Proofs Go.Proofs.YtkondhigbbgidaaGreat.V
set_option linter.unusedVariables false
set_option linter.unusedSimpArgs false
def tk (t : T_api_Token) : Int × List Int:=(t.Kind,bytesL t.Text)
end Go.Proofs.YtkondhigbbgidaaGreat.M
