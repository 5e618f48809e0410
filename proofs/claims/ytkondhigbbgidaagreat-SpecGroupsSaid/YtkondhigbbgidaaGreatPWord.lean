/-
  Printed by a program of this session out of the loaded functions: models and their proofs. Own text.
-/
import Derived.Test.YtkondhigbbgidaaGreatPTree6
import Derived.Test.YtkondhigbbgidaaGreatSGF
/-
  Plain laws of the document's scan: told by the bytes, as the program's is. Own text.
-/
namespace Go.Proofs.YtkondhigbbgidaaGreat.M
open Go Go.Proofs Go.Proofs.YtkondhigbbgidaaGreat.V
open Go.IntKind (i64)
set_option linter.unusedVariables false
set_option linter.unusedSimpArgs false
theorem rword_l1 {s : ByteArray} (hs : s.size < 1000000000) : ∀ (k i f : Nat),s.size - i≤k→k < f→i≤s.size →
    ref01_word.l1 s f (i : Int) = some ((i + (headL plainB ((bytesL s).drop i)).1 : Nat) : Int):=by
  intro k
  induction k using Nat.strongRecOn with
  | _ k ih =>
    intro i f h1 h2 h3
    obtain ⟨f,rfl⟩ : ∃ q,f = q + 1:=⟨f - 1,by omega⟩
    by_cases hp : i < s.size
    · have hne : (bytesL s).drop i≠[]:=by rw [drop_cons_bt hp]; simp
      rw [ref01_word.l1,if_pos (by simp; omega),Rune_eq hp (by omega),rune_rl hp]
      simp only [Option.bind_some]
      cases hr : rl ((bytesL s).drop i) with
      | none =>
        rw [headL_none hne hr]
        rfl
      | some q =>
        obtain ⟨c,w⟩:=q
        have hw:=rl_some hr
        have hw1:=hw.1
        have hwl:=hw.2.1
        rw [List.length_drop,bytesL_length] at hwl
        rw [show rv (some (c,w)) = (c,(w : Int)) from rfl]
        dsimp only
        have ew : ((w : Int) == 0) = false:=by simp; omega
        rw [ew,if_neg (by simp),show ref01_plain c = some (plainB c) from rfl]
        simp only [Option.bind_some]
        cases hpl : plainB c with
        | true =>
          rw [if_neg (by simp),headL_go hr hpl,List.drop_drop,show IntKind.i64.wrap ((i : Int) + (w : Int)) = ((i + w : Nat) : Int) by rw [w_eq (by omega) (by omega)]; omega]
          rw [ih (k - w) (by omega) (i + w) f (by omega) (by omega) (by omega)]
          congr 1; omega
        | false =>
          rw [if_pos (by simp),headL_stop hr hpl]
          rfl
    · have : i = s.size:=by omega
      subst this
      rw [ref01_word.l1,if_neg (by simp),List.drop_eq_nil_of_le (by rw [bytesL_length]; omega),headL_nil]
      rfl
theorem rremark_l1 {s : ByteArray} (hs : s.size < 1000000000) : ∀ (k i f : Nat),s.size - i≤k→k < f→i≤s.size→(headL nlB ((bytesL s).drop i)).2 = true →
    ref01_remark.l1 s f (i : Int) = some (Out.go ((i + (headL nlB ((bytesL s).drop i)).1 : Nat) : Int)):=by
  intro k
  induction k using Nat.strongRecOn with
  | _ k ih =>
    intro i f h1 h2 h3 hok
    obtain ⟨f,rfl⟩ : ∃ q,f = q + 1:=⟨f - 1,by omega⟩
    by_cases hp : i < s.size
    · have hd:=drop_cons_bt hp
      have hne : (bytesL s).drop i≠[]:=by rw [hd]; simp
      rw [ref01_remark.l1,if_pos (by simp; omega),gi_nat hp]
      simp only [Option.bind_some]
      by_cases h10 : bt s i = 10
      · have hr : rl ((bytesL s).drop i) = some (10,1):=by rw [hd,h10]; exact rl_ascii (by decide)
        rw [if_neg (by simp [h10]),headL_stop hr (by decide)]
        rfl
      · rw [if_pos (by simpa using h10),Rune_eq hp (by omega),rune_rl hp]
        simp only [Option.bind_some]
        cases hr : rl ((bytesL s).drop i) with
        | none =>rw [headL_none hne hr] at hok; cases hok
        | some q =>
          obtain ⟨c,w⟩:=q
          have hw:=rl_some hr
          have hw1:=hw.1
          have hwl:=hw.2.1
          rw [List.length_drop,bytesL_length] at hwl
          have hc : nlB c = true:=by
            unfold nlB
            rcases hw.2.2 with ⟨t,ht,_,_⟩ | ⟨h,_⟩
            · rw [hd] at ht
              have:=(List.cons.inj ht).1
              simp; omega
            · simp; omega
          rw [headL_go hr hc] at hok ⊢
          rw [List.drop_drop] at hok ⊢
          rw [show rv (some (c,w)) = (c,(w : Int)) from rfl]
          dsimp only
          have ew : ((w : Int) == 0) = false:=by simp; omega
          rw [ew,if_neg (by simp),show IntKind.i64.wrap ((i : Int) + (w : Int)) = ((i + w : Nat) : Int) by rw [w_eq (by omega) (by omega)]; omega]
          rw [ih (k - w) (by omega) (i + w) f (by omega) (by omega) (by omega) hok]
          congr 2; omega
    · have : i = s.size:=by omega
      subst this
      rw [ref01_remark.l1,if_neg (by simp)]
      simp only [Option.bind_some]
      rw [if_neg (by simp),List.drop_eq_nil_of_le (by rw [bytesL_length]; omega),headL_nil]
      rfl
theorem rwhere_l1 {s : ByteArray} {a : Nat} (ha : a≤s.size) (hs : s.size < 1000000000) : ∀ (k i m f : Nat) (l : Int),a - i≤k→k < f→i≤a→m≤i→0≤l→l + k≤1000000000→∃ (l' : Int) (m' : Nat),m'≤a∧ref01_where.l1 s (a : Int) f l (m : Int) (i : Int) = some (l',(m' : Int)):=by
  intro k
  induction k with
  | zero =>
    intro i m f l h1 h2 h3 h4 h5 h6
    obtain ⟨f,rfl⟩ : ∃ q,f = q + 1:=⟨f - 1,by omega⟩
    exact ⟨l,m,by omega,by rw [ref01_where.l1,if_neg (by simp; omega)]⟩
  | succ k ih =>
    intro i m f l h1 h2 h3 h4 h5 h6
    obtain ⟨f,rfl⟩ : ∃ q,f = q + 1:=⟨f - 1,by omega⟩
    by_cases hp : i < a
    · rw [ref01_where.l1,if_pos (by simp; omega),gi_nat (by omega)]
      simp only [Option.bind_some]
      rw [wk1 (by omega)]
      by_cases h10 : bt s i = 10
      · rw [if_pos (by simpa using h10),w_eq (by omega) (by omega)]
        exact ih (i + 1) (i + 1) f (l + 1) (by omega) (by omega) (by omega) (by omega) (by omega) (by omega)
      · rw [if_neg (by simpa using h10)]
        exact ih (i + 1) m f l (by omega) (by omega) (by omega) (by omega) (by omega) (by omega)
    · exact ⟨l,m,by omega,by rw [ref01_where.l1,if_neg (by simp; omega)]⟩
theorem rwhere_some {s : ByteArray} {a : Nat} (ha : a≤s.size) (hs : s.size≤65536) : ∃ p,ref01_where s (a : Int) = some p:=by
  unfold ref01_where
  obtain ⟨l,m,h1,h2⟩:=rwhere_l1 ha (by omega) a 0 0 FU 1 (by omega) (by unfold FU; omega) (by omega) (by omega) (by omega) (by omega)
  rw [show ((0 : Nat) : Int) = (0 : Int) from rfl] at h2
  rw [h2]
  simp only [Option.bind_some]
  rw [ss_mid h1 ha]
  simp only [Option.bind_some]
  obtain ⟨n,_,hn⟩:=Runes_eq (s:=s.extract m a) (by rw [ByteArray.size_extract]; omega)
  rw [hn]
  exact ⟨_,rfl⟩
theorem rword_ok {s : ByteArray} (hs : s.size≤65536) {i : Nat} (hi : i < s.size) (h0 : (headL plainB ((bytesL s).drop i)).1≠0) (hl : longB (cnt (((bytesL s).drop i).take (headL plainB ((bytesL s).drop i)).1)) = false) :
    ref01_word s (i : Int) = some (((i + (headL plainB ((bytesL s).drop i)).1 : Nat) : Int),0,0):=by
  unfold ref01_word
  rw [rword_l1 (by omega) s.size i FU (by omega) (by unfold FU; omega) (by omega)]
  have hle:=headL_le plainB _ ((bytesL s).drop i) (Nat.le_refl _)
  rw [List.length_drop,bytesL_length] at hle
  simp only [Option.bind_some]
  rw [if_neg (by simp; omega),ss_mid (by omega) (by omega)]
  simp only [Option.bind_some]
  obtain ⟨n,hn1,hn⟩:=Runes_eq (s:=s.extract i (i + (headL plainB ((bytesL s).drop i)).1)) (by rw [ByteArray.size_extract]; omega)
  rw [Runes_cnt (by rw [ByteArray.size_extract]; omega),extract_bytes,List.drop_take,Nat.add_sub_cancel_left] at hn1
  rw [hn]
  simp only [Option.bind_some]
  rw [if_neg]
  cases hc : cnt (((bytesL s).drop i).take (headL plainB ((bytesL s).drop i)).1) with
  | none =>rw [hc] at hn1; simp [runesI] at hn1; simp; omega
  | some q =>
    rw [hc] at hn1 hl
    simp [runesI] at hn1
    simp [longB] at hl
    simp; omega
theorem Res.map_ok {α β : Type} {f : α→β} {r : Res α} {b : β} (h : r.map f = .ok b) : ∃ a,r = .ok a∧f a = b:=by
  cases r with
  | ok a =>exact ⟨a,rfl,by simpa [Res.map] using h⟩
  | err e =>cases h
theorem ap48 {l : List T_api_Token} {t : T_api_Token} (h : l.length≤1000000) : V.ap 48 l [t] = some (l++[t]):=by
  unfold V.ap
  rw [if_pos ⟨by simp only [List.length_cons,List.length_nil]; unfold maxLen; omega,by simp only [List.length_cons,List.length_nil]; omega⟩]
theorem rscan_l1 {s : ByteArray} (hs : s.size≤65536) : ∀ (k i f : Nat) (out : List T_api_Token) (ts : List (Int × List Int)),s.size - i≤k→k < f→i≤s.size→out.length≤i→scanL ((bytesL s).drop i) = .ok ts →
    ∃ us : List T_api_Token,us.map tk = ts∧us.length≤s.size - i∧ref01_Scan.l1 s f out (i : Int) = some (Out.go (out++us)):=by
  intro k
  induction k using Nat.strongRecOn with
  | _ k ih =>
    intro i f out ts h1 h2 h3 h4 hsc
    obtain ⟨f,rfl⟩ : ∃ q,f = q + 1:=⟨f - 1,by omega⟩
    by_cases hp : i < s.size
    · have hd:=drop_cons_bt hp
      obtain ⟨p,hw⟩:=rwhere_some (s:=s) (a:=i) (by omega) hs
      have hb0:=bt_range s i
      rw [ref01_Scan.l1,if_pos (by simp; omega),gi_nat hp]
      simp only [Option.bind_some]
      rw [hw]
      simp only [Option.bind_some]
      rw [w_eq (by omega) (by omega),show ref01_blank (bt s i) = some (blankB (bt s i)) from rfl]
      simp only [Option.bind_some]
      rw [hd] at hsc
      have step : ∀ (n : Nat) (t : T_api_Token) (ts' : List (Int × List Int)),1≤n→i + n≤s.size→scanL ((bytesL s).drop (i + n)) = .ok ts'→tk t :: ts' = ts →
          ∃ us : List T_api_Token,us.map tk = ts∧us.length≤s.size - i∧((V.ap 48 out [t]).bind fun out4 =>ref01_Scan.l1 s f out4 ((i + n : Nat) : Int)) = some (Out.go (out++us)):=by
        intro n t ts' hn1 hn2 hsc' e
        obtain ⟨us,u1,u2,u3⟩:=ih (k - n) (by omega) (i + n) f (out++[t]) ts' (by omega) (by omega) hn2 (by simp; omega) hsc'
        refine ⟨t :: us,by rw [List.map_cons,u1,e],by simp; omega,?_⟩
        rw [ap48 (by omega)]
        simp only [Option.bind_some]
        rw [u3]; simp
      cases hbl : blankB (bt s i) with
      | true =>
        rw [scanL_blank hbl] at hsc
        rw [if_pos rfl,wk1 (by omega)]
        obtain ⟨us,u1,u2,u3⟩:=ih (k - 1) (by omega) (i + 1) f out ts (by omega) (by omega) (by omega) (by omega) hsc
        exact ⟨us,u1,by omega,u3⟩
      | false =>
        rw [if_neg (by simp)]
        by_cases c59 : bt s i = 59
        · rw [c59,scanL_rem] at hsc
          split at hsc
          · rename_i hok
            rw [← c59,← hd] at hok hsc
            have hr:=rremark_l1 (s:=s) (by omega) s.size i FU (by omega) (by unfold FU; omega) (by omega) hok
            have hle:=headL_le nlB _ ((bytesL s).drop i) (Nat.le_refl _)
            rw [List.length_drop,bytesL_length] at hle
            have h1' : 1≤(headL nlB ((bytesL s).drop i)).1:=by
              have hr1 : rl ((bytesL s).drop i) = some (59,1):=by rw [hd,c59]; exact rl_ascii (by decide)
              rw [headL_go hr1 (by decide)]; omega
            rw [if_pos (by simp [c59])]
            unfold ref01_remark
            rw [hr]
            simp only [Option.bind_some,Out.on]
            rw [if_neg (by simp)]
            rw [List.drop_drop,show i + 1 + ((headL nlB ((bytesL s).drop i)).1 - 1) = i + (headL nlB ((bytesL s).drop i)).1 by omega] at hsc
            obtain ⟨us,u1,u2,u3⟩:=ih (k - (headL nlB ((bytesL s).drop i)).1) (by omega) (i + (headL nlB ((bytesL s).drop i)).1) f out ts (by omega) (by omega) (by omega) (by omega) hsc
            exact ⟨us,u1,by omega,u3⟩
          · cases hsc
        · rw [if_neg (by simpa using c59)]
          have hx : bytesL (s.extract i (i + 1)) = [bt s i]:=by rw [extract_bytes,List.drop_take,Nat.add_sub_cancel_left,hd]; rfl
          by_cases c40 : bt s i = 40
          · rw [c40,scanL_open] at hsc
            obtain ⟨ts',e1,e2⟩:=Res.map_ok hsc
            rw [if_pos (by simp [c40]),if_neg (by simp [c40]),wk1 (by omega),ss_mid (by omega) (by omega)]
            simp only [Option.bind_some]
            exact step 1 _ ts' (by omega) (by omega) e1 (by rw [← e2]; unfold tk; simp only; rw [hx,c40])
          · by_cases c41 : bt s i = 41
            · rw [c41,scanL_close] at hsc
              obtain ⟨ts',e1,e2⟩:=Res.map_ok hsc
              rw [if_pos (by simp [c41]),if_pos (by simp [c41]),wk1 (by omega),ss_mid (by omega) (by omega)]
              simp only [Option.bind_some]
              exact step 1 _ ts' (by omega) (by omega) e1 (by rw [← e2]; unfold tk; simp only; rw [hx,c41])
            · rw [if_neg (by simp [c40,c41])]
              by_cases c34 : bt s i = 34
              · rw [c34,scanL_text] at hsc
                rw [if_pos (by simp [c34])]
                rcases rquoted_l1 (s:=s) (by omega) s.size (i + 1) FU [] (by omega) (by unfold FU; omega) (by omega) (by simp) with ⟨g1,g2⟩ | ⟨g1,g2,g3⟩ | ⟨y,n,g1,g2,g3⟩
                · rw [g1] at hsc; cases hsc
                · rw [g1] at hsc; cases hsc
                · rw [g1] at hsc
                  obtain ⟨ts',e1,e2⟩:=Res.map_ok hsc
                  unfold ref01_quoted
                  rw [wk1 (by omega),g3]
                  simp only [Option.bind_some,Out.on,List.nil_append]
                  rw [if_neg (by simp),show ((i + 1 + n : Nat) : Int) = ((i + (1 + n) : Nat) : Int) by omega]
                  rw [List.drop_drop] at e1
                  refine step (1 + n) _ ts' (by omega) (by omega) (by rw [show i + (1 + n) = i + 1 + n by omega]; exact e1) ?_
                  rw [← e2]
                  unfold tk
                  simp only
                  rw [strOfNums_bytes]
                  exact (textL_ok _ _ _ _ (Nat.le_refl _) ((bytesL_by s).drop _) g1).2.2.2.1
              · have hwb : wrdB (bt s i) = true:=by
                  unfold wrdB
                  simp [hbl,c59,c40,c41,c34]
                rw [scanL_word hwb] at hsc
                split at hsc
                · cases hsc
                · rename_i h0
                  split at hsc
                  · cases hsc
                  · rename_i hlong
                    obtain ⟨ts',e1,e2⟩:=Res.map_ok hsc
                    rw [← hd] at h0 hlong e1 e2
                    have hle:=headL_le plainB _ ((bytesL s).drop i) (Nat.le_refl _)
                    rw [List.length_drop,bytesL_length] at hle
                    rw [if_neg (by simp [c34]),rword_ok hs hp h0 (by simpa using hlong)]
                    simp only [Option.bind_some]
                    rw [if_neg (by simp),ss_mid (by omega) (by omega)]
                    simp only [Option.bind_some]
                    rw [List.drop_drop] at e1
                    refine step _ _ ts' (by omega) (by omega) e1 ?_
                    rw [← e2]
                    unfold tk
                    simp only
                    rw [extract_bytes,List.drop_take,Nat.add_sub_cancel_left]
    · have : i = s.size:=by omega
      subst this
      rw [List.drop_eq_nil_of_le (by rw [bytesL_length]; omega),scanL_nil] at hsc
      injection hsc with hsc
      refine ⟨[],by rw [← hsc]; rfl,by simp,?_⟩
      rw [ref01_Scan.l1,if_neg (by simp)]
      simp
theorem rScan_of {s : ByteArray} (hs : s.size≤65536) {ts : List (Int × List Int)} (h : scanL (bytesL s) = .ok ts) : ∃ us : List T_api_Token,us.map tk = ts∧us.length≤s.size∧ref01_Scan s = some (us,0,0):=by
  unfold ref01_Scan
  rw [if_neg (by simp; omega)]
  obtain ⟨us,u1,u2,u3⟩:=rscan_l1 hs s.size 0 FU [] ts (by omega) (by unfold FU; omega) (by omega) (by simp) (by simpa using h)
  refine ⟨us,u1,by omega,?_⟩
  rw [show ((0 : Nat) : Int) = (0 : Int) from rfl] at u3
  rw [u3]
  rfl
end Go.Proofs.YtkondhigbbgidaaGreat.M
/-
  Plain laws of the document's parse: the forest of a text. Own text.
-/
namespace Go.Proofs.YtkondhigbbgidaaGreat.M
open Go Go.Proofs Go.Proofs.YtkondhigbbgidaaGreat.V
open Go.IntKind (i64)
set_option linter.unusedVariables false
set_option linter.unusedSimpArgs false
theorem rparse_l1 (r : List T_api_Token × Int × Int) : ∀ (ts : List T_api_Token) (k n : Nat) (Z : List (Fo × Int)) (f : Fo) (Z' : List (Fo × Int)) (f' : Fo),r.1.drop k = ts→ts.length < n→(encR Z f 0).length + ts.length≤1000000→Z.length≤20→r.1.length≤1000000 →
    prun ts Z f = some (Z',f')→ref02_Parse.l1 r n (encR Z f 0) (openR Z) (k : Int) = some (Out.go (encR Z' f' 0,openR Z')):=by
  intro ts
  induction ts with
  | nil =>
    intro k n Z f Z' f' hd hn hl hZ hr hp
    obtain ⟨n,rfl⟩ : ∃ q,n = q + 1:=⟨n - 1,by omega⟩
    have : r.1.length≤k:=List.drop_eq_nil_iff.1 hd
    simp only [prun,Option.some.injEq,Prod.mk.injEq] at hp
    obtain ⟨rfl,rfl⟩:=hp
    rw [ref02_Parse.l1,if_neg (by simp; omega)]
  | cons t ts ih =>
    intro k n Z f Z' f' hd hn hl hZ hr hp
    obtain ⟨n,rfl⟩ : ∃ q,n = q + 1:=⟨n - 1,by omega⟩
    rw [List.length_cons] at hn hl
    have hk : k < r.1.length:=by
      have:=congrArg List.length hd
      rw [List.length_drop,List.length_cons] at this
      omega
    have hx : r.1[k] = t:=by
      rw [List.drop_eq_getElem_cons hk] at hd
      exact (List.cons.inj hd).1
    have hd2 : r.1.drop (k + 1) = ts:=by
      rw [List.drop_eq_getElem_cons hk] at hd
      exact (List.cons.inj hd).2
    have hol:=openR_len Z
    have hgl : V.gl r.1 (k : Int) = some t:=by rw [glk hk,hx]
    rw [ref02_Parse.l1,if_pos (dlt hk)]
    simp only [hgl,Option.bind_some]
    rw [wk1 (by omega)]
    rw [prun] at hp
    unfold pstep at hp
    by_cases h2 : t.Kind = 2
    · rw [if_pos h2] at hp
      rw [if_pos (by simp [h2])]
      cases Z with
      | nil =>cases hp
      | cons p Z =>
        obtain ⟨g,a⟩:=p
        have hz : ((openR ((g,a) :: Z)).length : Int) = (Z.length : Int) + 1:=by rw [hol]; simp
        rw [if_neg (by rw [hz]; simp; omega),hz]
        have hsl : V.sl (openR ((g,a) :: Z)) none (some (IntKind.i64.wrap ((Z.length : Int) + 1 - 1))) = some (openR Z):=by
          rw [List.length_cons] at hZ
          rw [w_eq (by omega) (by omega),show (Z.length : Int) + 1 - 1 = (Z.length : Int) by omega]
          unfold V.sl
          rw [if_pos ⟨⟨by simp,by simp⟩,by simp [lowN,highN],by simp only [highN]; rw [hol]; simp⟩]
          simp [lowN,highN,openR,← openR_len Z]
        rw [hsl]
        simp only [Option.bind_some]
        rw [close_enc]
        simp only [List.length_cons] at hZ
        exact ih (k + 1) n Z (g.app (.nd 5 ⟨#[]⟩ a f .nil)) Z' f' hd2 (by omega) (by rw [← close_enc]; omega) (by omega) hr hp
    · have b2 : (t.Kind == 2) = false:=by simpa using h2
      rw [if_neg h2] at hp
      rw [b2,if_neg (by simp)]
      by_cases hbig : (encR Z f 0).length = 4000∨(t.Kind = 1∧Z.length = 20)
      · rw [if_pos hbig] at hp; cases hp
      · rw [if_neg hbig] at hp
        have hb : ((if (((encR Z f 0).length : Int) == (4000 : Int)) = true then some true else some ((t.Kind == (1 : Int)) && (((openR Z).length : Int) == (20 : Int))))) = some false:=by
          by_cases q1 : (encR Z f 0).length = 4000
          · exact absurd (.inl q1) hbig
          · rw [if_neg (by simp; omega),hol]
            congr 1
            rw [← Bool.not_eq_true]
            intro q
            simp only [Bool.and_eq_true,beq_iff_eq] at q
            exact hbig (.inr ⟨q.1,by omega⟩)
        rw [hb]
        simp only [Option.bind_some,Bool.false_eq_true,if_false]
        have hset : (if (decide (((openR Z).length : Int) > (0 : Int))) = true then
            (V.gl (openR Z) (IntKind.i64.wrap (((openR Z).length : Int) - (1 : Int)))).bind fun x2 =>(V.gl (encR Z f 0) x2).bind fun x3 =>(V.gl (encR Z f 0) x2).bind fun x4 =>
            some (List.set (encR Z f 0) (x2).toNat (⟨x4.Kind,x4.Text,(IntKind.i64.wrap (x3.Kids + (1 : Int))),x4.At⟩ : T_api_Node)) else some (encR Z f 0)) = some (encR Z f 1):=by
          cases Z with
          | nil =>rw [if_neg (by simp [openR])]; rfl
          | cons p Z =>
            obtain ⟨g,a⟩:=p
            have hz : ((openR ((g,a) :: Z)).length : Int) = (Z.length : Int) + 1:=by rw [hol]; simp
            rw [if_pos (by rw [hz,decide_eq_true_eq]; omega),hz]
            rw [List.length_cons] at hZ
            rw [w_eq (by omega) (by omega),show (Z.length : Int) + 1 - 1 = ((openR Z).length : Int) by rw [openR_len]; omega]
            have g1 : V.gl (openR ((g,a) :: Z)) ((openR Z).length : Int) = some ((encR Z g 1).length : Int):=by
              rw [glk (by rw [openR]; simp)]
              simp [openR]
            have hlen : (encR Z g 1).length < (encR ((g,a) :: Z) f 0).length:=by simp [encR]
            have g2 : V.gl (encR ((g,a) :: Z) f 0) ((encR Z g 1).length : Int) = some ⟨5,⟨#[]⟩,((f.cnt + 0 : Nat) : Int),a⟩:=by
              rw [glk hlen]
              simp [encR]
            rw [g1]
            simp only [Option.bind_some,g2]
            have hcf:=Fo.cnt_flat f
            have hfl : f.flat.length < (encR ((g,a) :: Z) f 0).length:=by simp [encR]; omega
            rw [show ((encR Z g 1).length : Int).toNat = (encR Z g 1).length by omega,encR,set_mid,w_eq (by omega) (by omega),encR]
            congr 4
        have hset':=hset
        rw [hset']
        simp only [Option.bind_some]
        have hl1 : (encR Z f 1).length = (encR Z f 0).length:=encR_len ..
        by_cases h1 : t.Kind = 1
        · rw [if_pos h1] at hp
          rw [if_pos (by simpa using h1)]
          have hap1 : V.ap 8 (openR Z) [((encR Z f 1).length : Int)] = some (openR ((f,t.At) :: Z)):=by
            unfold V.ap
            rw [if_pos ⟨by simp only [List.length_cons,List.length_nil]; unfold maxLen; omega,by simp only [List.length_cons,List.length_nil]; omega⟩,openR]
          have hap2 : V.ap 40 (encR Z f 1) [(⟨(5 : Int),(⟨#[]⟩ : ByteArray),(0 : Int),t.At⟩ : T_api_Node)] = some (encR ((f,t.At) :: Z) .nil 0):=by
            unfold V.ap
            rw [if_pos ⟨by simp only [List.length_cons,List.length_nil]; unfold maxLen; omega,by simp only [List.length_cons,List.length_nil]; omega⟩,encR]
            rfl
          rw [hap1]
          simp only [Option.bind_some]
          rw [hap2]
          simp only [Option.bind_some]
          have hZ20 : Z.length≠20:=fun q =>hbig (.inr ⟨h1,q⟩)
          exact ih (k + 1) n ((f,t.At) :: Z) .nil Z' f' hd2 (by omega) (by simp [encR,hl1,Fo.flat]; omega) (by simp; omega) hr hp
        · rw [if_neg h1] at hp
          rw [if_neg (by simpa using h1)]
          have hap2 : V.ap 40 (encR Z f 1) [(⟨t.Kind,t.Text,(0 : Int),t.At⟩ : T_api_Node)] = some (encR Z (f.app (.nd t.Kind t.Text t.At .nil .nil)) 0):=by
            unfold V.ap
            rw [if_pos ⟨by simp only [List.length_cons,List.length_nil]; unfold maxLen; omega,by simp only [List.length_cons,List.length_nil]; omega⟩,encR_snoc Z f _ (by simp [Fo.cnt])]
            rfl
          rw [hap2]
          simp only [Option.bind_some]
          exact ih (k + 1) n Z (f.app (.nd t.Kind t.Text t.At .nil .nil)) Z' f' hd2 (by omega) (by rw [encR_snoc Z f _ (by simp [Fo.cnt])]; simp [Fo.flat,encR_len Z f (0 + 1) 0]; omega) hZ hr hp
theorem rParse_of {s : ByteArray} (hs : s.size≤65536) {φ : Fo} (h : scanL (bytesL s) = .ok φ.toks) (hw : φ.wf) (hd : φ.dep≤20) (hl : φ.flat.length≤4000) : ∃ φ' : Fo,φ'.strip = φ.strip∧ref02_Parse s = some (φ'.flat,0,0):=by
  obtain ⟨us,u1,u2,u3⟩:=rScan_of hs h
  obtain ⟨φ',r1,r2⟩:=prun_complete φ hw us [] .nil u1 (by simpa using hd) (by simpa [encR,Fo.flat] using hl)
  refine ⟨φ',r1,?_⟩
  unfold ref02_Parse
  rw [u3]
  simp only [Option.bind_some]
  rw [if_neg (by simp)]
  have p3:=rparse_l1 (us,0,0) us 0 FU [] .nil [] (Fo.nil.app φ') (by simp) (by unfold FU; omega) (by simp [encR,Fo.flat]; omega) (by simp) (by show us.length≤1000000; omega) r2
  have p3' : ref02_Parse.l1 (us,0,0) FU [] [] 0 = some (Out.go (φ'.flat,[])):=p3
  rw [p3']
  rfl
end Go.Proofs.YtkondhigbbgidaaGreat.M
/-
  Plain laws of words: the document's runes and words. Own text.
-/
namespace Go.Proofs.YtkondhigbbgidaaGreat.M
open Go Go.Proofs Go.Proofs.YtkondhigbbgidaaGreat.V
set_option linter.unusedVariables false
set_option linter.unusedSimpArgs false
theorem Word_tot {s : ByteArray} (hs : s.size < 281474976710656) : ∃ b,ref01_Word s = some b:=by
  have key : ∀ (k pos : Nat) (n : Int) (f : Nat),s.size - pos≤k→k < f→pos≤s.size→∃ o,ref01_Word.l1 s f n (pos : Int) = some o:=by
    intro k
    induction k with
    | zero =>
      intro pos n f h1 h2 h3
      obtain ⟨f,rfl⟩ : ∃ q,f = q + 1:=⟨f - 1,by omega⟩
      exact ⟨_,by rw [ref01_Word.l1,if_neg (by simp; omega)]⟩
    | succ k ih =>
      intro pos n f h1 h2 h3
      obtain ⟨f,rfl⟩ : ∃ q,f = q + 1:=⟨f - 1,by omega⟩
      by_cases hp : pos < s.size
      · rw [ref01_Word.l1,if_pos (show (decide ((pos : Int) < (s.size : Int))) = true by simp; omega),Rune_eq hp hs]
        cases hr : rune s pos with
        | none =>exact ⟨_,rfl⟩
        | some p =>
          obtain ⟨c,w⟩:=p
          have hw:=rune_some hp hr
          have e : IntKind.i64.wrap ((pos : Int) + (w : Int)) = ((pos + w : Nat) : Int):=by rw [w_eq (by omega) (by omega)]; omega
          simp only [rv,Option.bind_some,rv2 hp hr,Bool.false_eq_true,if_false,e]
          obtain ⟨b,hb⟩ : ∃ b,ref01_plain c = some b:=⟨_,rfl⟩
          simp only [hb,Option.bind_some]
          cases b with
          | false =>exact ⟨_,rfl⟩
          | true =>
            simp only [Bool.not_true,Bool.false_eq_true,if_false]
            exact ih (pos + w) _ f (by omega) (by omega) (by omega)
      · exact ⟨_,by rw [ref01_Word.l1,if_neg (by simp; omega)]⟩
  obtain ⟨o,ho⟩:=key s.size 0 0 FU (by omega) (by unfold FU; omega) (by omega)
  have ho' : ref01_Word.l1 s FU 0 0 = some o:=ho
  unfold ref01_Word
  rw [ho']
  cases o with
  | ret r =>exact ⟨_,rfl⟩
  | go j =>exact ⟨_,rfl⟩
end Go.Proofs.YtkondhigbbgidaaGreat.M
