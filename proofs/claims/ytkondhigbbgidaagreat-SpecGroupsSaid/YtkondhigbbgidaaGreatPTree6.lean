/-
  Printed by a program of this session out of the loaded functions: models and their proofs. Own text.
-/
import Derived.Test.YtkondhigbbgidaaGreatPTree3
/-
  Plain laws of trees: how deep lists stand in one another. Own text.
-/
namespace Go.Proofs.YtkondhigbbgidaaGreat.M
open Go Go.Proofs Go.Proofs.YtkondhigbbgidaaGreat.V
set_option linter.unusedVariables false
set_option linter.unusedSimpArgs false
def nrm : List Nat→List Nat
 | [] =>[]
 | v :: S =>if v = 1 then (match S with | [] =>[] | u :: T =>nrm ((u - 1) :: T)) else v :: S
termination_by S =>S.length
def aft : List Nat→Nat→List Nat
 | [],_ =>[]
 | v :: S,c =>nrm ((v - c) :: S)
theorem cnt_zero {f : Fo} (h : f.cnt = 0) : f = .nil:=by
 cases f with
 | nil =>rfl
 | nd =>simp [Fo.cnt] at h
end Go.Proofs.YtkondhigbbgidaaGreat.M
/-
  Plain laws of trees: a forest as text, and what its tokens are. Own text.
-/
namespace Go.Proofs.YtkondhigbbgidaaGreat.M
open Go Go.Proofs Go.Proofs.YtkondhigbbgidaaGreat.V
set_option linter.unusedVariables false
set_option linter.unusedSimpArgs false
theorem Res.map_map {α β γ : Type} (f : α→β) (g : β→γ) (r : Res α) : (r.map f).map g = r.map (fun x =>g (f x)):=by cases r<;>rfl
theorem scan_body {t : Int × List Int} (ht : GT t) {m : List Int} (hm : stops plainB m) : scanL (body t++m) = (scanL m).map (t :: ·):=by
 cases ht with
 | opn =>show scanL (40 :: m) = _; rw [scanL_open]
 | cls =>show scanL (41 :: m) = _; rw [scanL_close]
 | word x h hx hl =>
  show scanL (x++m) = _
  have e:=headL_app hm _ x x.length (Nat.le_refl _) h
  cases hr : rl x with
  | none =>rw [headL_none hx hr] at h; exact absurd (congrArg Prod.snd h) (by simp)
  | some q =>
   obtain ⟨c,w⟩:=q
   have hp : plainB c = true:=by
    cases hp : plainB c with
    | true =>rfl
    | false =>
     rw [headL_stop hr hp] at h
     have:=congrArg Prod.fst h
     simp only at this
     exact absurd (List.eq_nil_of_length_eq_zero this.symm) hx
   obtain ⟨b,t,rfl,hb⟩:=plain_first hr hp
   have e1 : (b :: (t++m)).take (b :: t).length = b :: t:=by rw [← List.cons_append,List.take_left']; rfl
   have e2 : (b :: (t++m)).drop (b :: t).length = m:=by rw [← List.cons_append,List.drop_left']; rfl
   rw [List.cons_append] at e
   rw [List.cons_append,scanL_word hb,e]
   simp only
   rw [if_neg (by simp),e1,e2,hl]
   rfl
 | text x h =>
  show scanL (34 :: (quoteL x++[34])++m) = _
  rw [List.cons_append,List.append_assoc,scanL_text]
  have:=text_quote _ x m (Nat.le_refl _) h
  rw [show [34]++m = 34 :: m from rfl,this]
  simp only
  rw [show quoteL x++34 :: m = (quoteL x++[34])++m by simp,List.drop_left' (by simp)]
def Fo.kidsT : Fo→List Int
 | .nil =>[]
 | .nd k s _ c r =>(if k = 5 then 40 :: (c.kidsT++[41]) else body (k,bytesL s))++(if r.cnt = 0 then [] else 32 :: r.kidsT)
theorem stops_c {b : Int} {m : List Int} (h1 : b < 128) (h2 : plainB b = false) : stops plainB (b :: m):=.inr ⟨b,m,rfl,h1,h2⟩
theorem scan_kids : ∀ (f : Fo),f.wf→(∀ t,t ∈ f.toks→GT t)→∀ (m : List Int),stops plainB m→scanL (f.kidsT++m) = (scanL m).map (f.toks++·)
 | .nil,_,_,m,_ =>by rw [Fo.kidsT,Fo.toks,List.nil_append]; cases scanL m<;>rfl
 | .nd k s a c r,hw,hg,m,hm =>by
  rw [Fo.kidsT,Fo.toks]
  rw [Fo.toks] at hg
  -- what stands behind the first tree
  have hrest : ∀ (hgr : ∀ t,t ∈ r.toks→GT t),stops plainB ((if r.cnt = 0 then [] else 32 :: r.kidsT)++m)∧scanL ((if r.cnt = 0 then [] else 32 :: r.kidsT)++m) = (scanL m).map (r.toks++·):=fun hgr =>by
   by_cases hr : r.cnt = 0
   ·have:=cnt_zero hr
    subst this
    refine ⟨by simpa [Fo.cnt] using hm,?_⟩
    simp only [Fo.cnt,if_true,List.nil_append,Fo.toks]
    cases scanL m<;>rfl
   ·rw [if_neg hr,List.cons_append]
    refine ⟨stops_c (by decide) rfl,?_⟩
    rw [scanL_blank (by rfl)]
    exact scan_kids r hw.2.2 hgr m hm
  by_cases h5 : k = 5
  ·rw [if_pos h5] at hg ⊢
   obtain ⟨q1,q2⟩:=hrest (fun t ht =>hg t (by simp [ht]))
   rw [if_pos h5,List.cons_append,List.cons_append,scanL_open]
   have ih:=scan_kids c hw.2.1 (fun t ht =>hg t (by simp [ht])) (41 :: ((if r.cnt = 0 then [] else 32 :: r.kidsT)++m)) (stops_c (by decide) rfl)
   rw [show c.kidsT++[41]++(if r.cnt = 0 then [] else 32 :: r.kidsT)++m = c.kidsT++41 :: ((if r.cnt = 0 then [] else 32 :: r.kidsT)++m) by simp,ih,scanL_close,q2]
   cases scanL m with
   | err e =>rfl
   | ok ts =>simp [Res.map]
  ·rw [if_neg h5] at hg ⊢
   obtain ⟨q1,q2⟩:=hrest (fun t ht =>hg t (by simp [ht]))
   rw [if_neg h5,List.append_assoc,scan_body (hg _ (by simp)) q1,q2]
   cases scanL m with
   | err e =>rfl
   | ok ts =>simp [Res.map]
theorem Kids_flat {k : Int} {s : ByteArray} {a : Int} {c : Fo} {pre post l : List T_api_Node} (hl : l = pre++((Fo.nd k s a c .nil).flat++post)) (h1 : l.length≤1000000) : tree_Kids l (pre.length : Int) = some (posF (pre.length + 1) c):=by
 unfold tree_Kids
 have hlen : l.length = pre.length + (c.flat.length + 1) + post.length:=by rw [hl]; simp [Fo.flat]; omega
 rw [End_tree hl h1]
 simp only [Option.bind_some]
 rw [if_neg (by rw [decide_eq_true_eq]; omega),wk1 (by omega)]
 unfold tree_places tree_walk_tree_places_1
 have hcc:=Fo.cnt_flat c
 have e2 : l = (pre++[⟨k,s,(c.cnt : Int),a⟩])++(c.flat++post):=by rw [hl]; simp [Fo.flat]
 have hp1 : (pre++[(⟨k,s,(c.cnt : Int),a⟩ : T_api_Node)]).length = pre.length + 1:=by simp
 have:=walk_pos c (pre++[⟨k,s,(c.cnt : Int),a⟩]) post l FU [] e2 h1 (by simp; omega) (by unfold FU; omega)
 rw [hp1,show pre.length + 1 + c.flat.length = pre.length + (c.flat.length + 1) by omega] at this
 rw [this]
 rfl
theorem b_cat (a b : ByteArray) : bytesL (a++b) = bytesL a++bytesL b:=bytesL_append a b
theorem b1 (x : UInt8) : bytesL (⟨#[x]⟩ : ByteArray) = [(x.toNat : Int)]:=rfl
end Go.Proofs.YtkondhigbbgidaaGreat.M
/-
  Plain laws of trees: what the document's lexer makes of a text in quotes; a node has what its kind asks. Own text.
-/
namespace Go.Proofs.YtkondhigbbgidaaGreat.M
open Go Go.Proofs Go.Proofs.YtkondhigbbgidaaGreat.V
set_option linter.unusedVariables false
set_option linter.unusedSimpArgs false
def textE : List Int→Nat
  | [] =>0
  | b :: t =>match rl (b :: t) with
    | none =>0
    | some (c,w) =>
      if ctl c = true then 0 else if c = 34 then 0
      else if c = 92 then (match t with
        | [] =>0
        | d :: t' =>match mask d with | none =>0 | some e =>textE t' + 2)
      else textE (t.drop (w - 1)) + w
termination_by l =>l.length
decreasing_by all_goals (simp only [List.length_drop,List.length_cons]; omega)
theorem textE_none {l : List Int} (hl : l≠[]) (h : rl l = none) : textE l = 0:=by
  cases l with
  | nil =>exact absurd rfl hl
  | cons b t =>rw [textE.eq_def]; simp only [h]
theorem textE_ctl {l : List Int} {c : Int} {w : Nat} (h : rl l = some (c,w)) (hc : ctl c = true) : textE l = 0:=by
  cases l with
  | nil =>cases h
  | cons b t =>rw [textE.eq_def]; simp only [h,hc,if_true]
theorem textE_esc0 : textE [92] = 0:=by
  rw [textE.eq_def]; simp only [rl_ascii (show (92 : Int) < 128 by decide)]; rfl
theorem textE_esc (d : Int) (t : List Int) : textE (92 :: d :: t) = match mask d with | none =>0 | some e =>textE t + 2:=by
  rw [textE.eq_def]; simp only [rl_ascii (show (92 : Int) < 128 by decide)]; rfl
theorem textE_go {l : List Int} {c : Int} {w : Nat} (h : rl l = some (c,w)) (hc : ctl c = false) (h1 : c≠34) (h2 : c≠92) : textE l = textE (l.drop w) + w:=by
  cases l with
  | nil =>cases h
  | cons b t =>
    have hw:=(rl_some h).1
    rw [textE.eq_def]; simp only [h,hc,Bool.false_eq_true,if_false,h1,h2]
    rw [drop_tail (b:=b) hw]
theorem rquoted_l1 {s : ByteArray} (hs : s.size < 1000000000) : ∀ (k i f : Nat) (b : List Int),s.size - i≤k→k < f→i≤s.size→b.length≤i →
    (textL ((bytesL s).drop i) = .err 3∧ref01_quoted.l1 s f b (i : Int) = some (Out.go ())) ∨
    (textL ((bytesL s).drop i) = .err 2∧i + textE ((bytesL s).drop i)≤s.size∧ref01_quoted.l1 s f b (i : Int) = some (Out.ret (⟨#[]⟩,0,2,((i + textE ((bytesL s).drop i) : Nat) : Int)))) ∨
    (∃ y n,textL ((bytesL s).drop i) = .ok (y,n)∧i + n≤s.size∧ref01_quoted.l1 s f b (i : Int) = some (Out.ret (strOfNums (b++y),((i + n : Nat) : Int),0,0))):=by
  intro k
  induction k using Nat.strongRecOn with
  | _ k ih =>
    intro i f b h1 h2 h3 h4
    obtain ⟨f,rfl⟩ : ∃ q,f = q + 1:=⟨f - 1,by omega⟩
    by_cases hp : i < s.size
    · have hne : (bytesL s).drop i≠[]:=by rw [drop_cons_bt hp]; simp
      rw [ref01_quoted.l1,if_pos (by simp; omega),Rune_eq hp (by omega),rune_rl hp]
      simp only [Option.bind_some]
      cases hr : rl ((bytesL s).drop i) with
      | none =>
        refine .inr (.inl ⟨textL_none hne hr,by rw [textE_none hne hr]; omega,?_⟩)
        rw [textE_none hne hr]
        simp [rv]
      | some q =>
        obtain ⟨c,w⟩:=q
        have hw:=rl_some hr
        have hw1:=hw.1
        have hwl:=hw.2.1
        rw [List.length_drop,bytesL_length] at hwl
        rw [show rv (some (c,w)) = (c,(w : Int)) from rfl]
        dsimp only
        have ew : ((w : Int) == 0) = false:=by simp; omega
        rw [ew,Bool.false_or]
        have hctl : (((decide (c < 32)) && (c != 9)) && (c != 10) || (c == 127)) = ctl c:=rfl
        rw [hctl]
        cases hct : ctl c with
        | true =>
          refine .inr (.inl ⟨textL_ctl hr hct,by rw [textE_ctl hr hct]; omega,?_⟩)
          rw [textE_ctl hr hct,if_pos rfl]; rfl
        | false =>
          rw [if_neg (by simp)]
          by_cases q1 : c = 34
          · subst q1
            rcases hw.2.2 with ⟨t,ht,_,rfl⟩ | ⟨h,_⟩
            · refine .inr (.inr ⟨[],1,by rw [ht,textL_end],by omega,?_⟩)
              rw [if_pos (by rfl),List.append_nil,wk1 (by omega)]
            · omega
          · have e1 : (c == 34) = false:=by simpa using q1
            rw [e1,if_neg (by simp)]
            by_cases q2 : c = 92
            · subst q2
              rcases hw.2.2 with ⟨t,ht,_,rfl⟩ | ⟨h,_⟩
              · rw [if_pos (by rfl),wk1 (by omega)]
                by_cases hend : i + 1 = s.size
                · have ht0 : t = []:=by
                    have:=congrArg List.length ht
                    rw [List.length_drop,bytesL_length,List.length_cons] at this
                    exact List.eq_nil_of_length_eq_zero (by omega)
                  subst ht0
                  refine .inr (.inl ⟨by rw [ht,textL_esc0],by rw [ht,textE_esc0]; omega,?_⟩)
                  rw [if_pos (show ((((i + 1 : Nat) : Int) == (s.size : Int)) = true) by simp; omega),ht,textE_esc0]
                  rfl
                · have hp1 : i + 1 < s.size:=by omega
                  rw [if_neg (show ¬ ((((i + 1 : Nat) : Int) == (s.size : Int)) = true) by simp; omega)]
                  have ht1 : t = bt s (i + 1) :: (bytesL s).drop (i + 2):=by
                    have e:=drop_cons_bt hp
                    rw [ht,drop_cons_bt hp1] at e
                    simpa using (List.cons.inj e).2
                  rw [gi_nat hp1,ht,ht1,textL_esc,textE_esc]
                  simp only [Option.bind_some]
                  generalize hd : bt s (i + 1) = d at *
                  have hi2 : IntKind.i64.wrap ((i : Int) + 2) = ((i + 2 : Nat) : Int):=by rw [w_eq (by omega) (by omega)]; omega
                  have ap1 : ∀ e : Int,V.ap 1 b [e] = some (b++[e]):=fun e =>by
                    unfold V.ap
                    rw [if_pos]
                    unfold maxLen
                    simp only [List.length_cons,List.length_nil]
                    omega
                  have go : ∀ e : Int,
                      (((textL ((bytesL s).drop (i + 2))).map fun q : List Int × Nat =>(e :: q.1,q.2 + 2)) = Res.err 3∧ref01_quoted.l1 s f (b++[e]) ((i + 2 : Nat) : Int) = some (Out.go ())) ∨
                      (((textL ((bytesL s).drop (i + 2))).map fun q : List Int × Nat =>(e :: q.1,q.2 + 2)) = Res.err 2∧i + (textE ((bytesL s).drop (i + 2)) + 2)≤s.size∧ref01_quoted.l1 s f (b++[e]) ((i + 2 : Nat) : Int) = some (Out.ret (⟨#[]⟩,0,2,((i + (textE ((bytesL s).drop (i + 2)) + 2) : Nat) : Int)))) ∨
                      (∃ y n,((textL ((bytesL s).drop (i + 2))).map fun q : List Int × Nat =>(e :: q.1,q.2 + 2)) = Res.ok (y,n)∧i + n≤s.size∧ref01_quoted.l1 s f (b++[e]) ((i + 2 : Nat) : Int) = some (Out.ret (strOfNums (b++y),((i + n : Nat) : Int),0,0))):=fun e =>by
                    rcases ih (k - 2) (by omega) (i + 2) f (b++[e]) (by omega) (by omega) (by omega) (by simp; omega) with ⟨g1,g2⟩ | ⟨g1,g2,g3⟩ | ⟨y,n,g1,g2,g3⟩
                    · exact .inl ⟨by rw [g1]; rfl,g2⟩
                    · refine .inr (.inl ⟨by rw [g1]; rfl,by omega,?_⟩)
                      rw [g3,show i + 2 + textE ((bytesL s).drop (i + 2)) = i + (textE ((bytesL s).drop (i + 2)) + 2) by omega]
                    · refine .inr (.inr ⟨e :: y,n + 2,by rw [g1]; rfl,by omega,?_⟩)
                      rw [g3,show i + 2 + n = i + (n + 2) by omega,List.append_assoc]; rfl
                  have hC : ((if (d != 110) = true then some (d != 34) else some false).bind fun c =>(if c = true then some (d != 92) else some false).bind fun c2 =>some c2) = some (d != 110 && d != 34 && d != 92):=by
                    cases (d != 110)<;>cases (d != 34)<;>cases (d != 92)<;>rfl
                  rw [hC]
                  simp only [Option.bind_some]
                  by_cases m1 : d = 110
                  · subst m1
                    rw [show mask 110 = some 10 by rfl,if_neg (by simp),if_pos (by rfl),ap1,hi2]
                    exact go 10
                  · have n1' : (d == 110) = false:=by simpa using m1
                    by_cases m2 : d = 34∨d = 92
                    · have hm : mask d = some d:=by unfold mask; rw [if_neg m1,if_pos m2]
                      rw [hm,if_neg (by rcases m2 with rfl | rfl<;>simp),n1',if_neg (by simp),ap1,hi2]
                      exact go d
                    · have hm : mask d = none:=by unfold mask; rw [if_neg m1,if_neg m2]
                      rw [hm]
                      refine .inr (.inl ⟨rfl,by simp only; omega,?_⟩)
                      rw [if_pos]
                      · rfl
                      · have a1 : ¬ d = 34:=fun h =>m2 (.inl h)
                        have a2 : ¬ d = 92:=fun h =>m2 (.inr h)
                        simp [m1,a1,a2]
              · omega
            · have e2 : (c == 92) = false:=by simpa using q2
              rw [e2,if_neg (by simp),w_eq (x:=(i : Int) + (w : Int)) (by omega) (by omega),show (i : Int) + (w : Int) = ((i + w : Nat) : Int) by omega,ss_mid (by omega) (by omega)]
              simp only [Option.bind_some]
              have hv : V.bytesL (s.extract i (i + w)) = ((bytesL s).drop i).take w:=by
                rw [show V.bytesL (s.extract i (i + w)) = bytesL (s.extract i (i + w)) from rfl,extract_bytes,List.drop_take,show i + w - i = w by omega]
              rw [hv]
              have hl : (((bytesL s).drop i).take w).length≤w:=List.length_take_le _ _
              have hap : V.ap 1 b (((bytesL s).drop i).take w) = some (b++((bytesL s).drop i).take w):=by
                unfold V.ap
                rw [if_pos]
                unfold maxLen
                clear hw
                omega
              rw [hap]
              simp only [Option.bind_some]
              rw [textL_go hr hct q1 q2,textE_go hr hct q1 q2,List.drop_drop]
              rcases ih (k - 1) (by omega) (i + w) f (b++((bytesL s).drop i).take w) (by omega) (by omega) (by omega) (by rw [List.length_append]; omega) with ⟨g1,g2⟩ | ⟨g1,g2,g3⟩ | ⟨y,n,g1,g2,g3⟩
              · exact .inl ⟨by rw [g1]; rfl,g2⟩
              · refine .inr (.inl ⟨by rw [g1]; rfl,by omega,?_⟩)
                rw [g3,show i + w + textE ((bytesL s).drop (i + w)) = i + (textE ((bytesL s).drop (i + w)) + w) by omega]
              · refine .inr (.inr ⟨((bytesL s).drop i).take w++y,n + w,by rw [g1]; rfl,by omega,?_⟩)
                rw [g3,show i + w + n = i + (n + w) by omega,List.append_assoc]
    · refine .inl ⟨?_,by rw [ref01_quoted.l1,if_neg (by simp; omega)]⟩
      rw [List.drop_eq_nil_of_le (by rw [bytesL_length]; omega),textL_nil]
theorem seq_nil (a : ByteArray) : V.seq a ⟨#[]⟩ = true↔a = ⟨#[]⟩:=by
  rw [seq_iff,decide_eq_true_eq]
  exact ⟨bytesL_inj,fun h =>by rw [h]⟩
end Go.Proofs.YtkondhigbbgidaaGreat.M
