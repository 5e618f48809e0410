/-
  Printed by a program of this session out of the loaded functions: models and their proofs. Own text.
-/
import Derived.Test.YtkondhigbbgidaaGreatPNum
/-
  Plain laws: whether labels and terms can be is told alike by the program and the document. Own text.
-/
namespace Go.Proofs.YtkondhigbbgidaaGreat.M
open Go Go.Proofs Go.Proofs.YtkondhigbbgidaaGreat.V
set_option linter.unusedVariables false
set_option linter.unusedSimpArgs false
theorem LabelsRight_same {l : List T_api_Label} (h : LL l) : labels_Right l = ref05_Right l:=by
  obtain ⟨hl,hs⟩:=h
  -- the rounds are alike
  have key : ∀ (l2 : List T_api_Label) (k : Nat) (had : List (ByteArray × Int)) (f : Nat),l.drop k = l2→l2.length < f→(∀ key,V.mg had key = if (∃ j,∃ hj : j < l.length,j < k∧l[j].Key = key) then some 1 else none) →
      (∀ j (hj : j < l.length) (hk : 0 < k) (hkl : k - 1 < l.length),j < k→l[j].Key = l[k - 1].Key∨V.slt l[j].Key l[k - 1].Key = true) →
      labels_Right.l1 l l2 k had = ref05_Right.l1 l f (k : Int):=by
    intro l2
    induction l2 with
    | nil =>
      intro k had f hd hf hm ho
      obtain ⟨f,rfl⟩ : ∃ q,f = q + 1:=⟨f - 1,by simp at hf; omega⟩
      have : l.length≤k:=List.drop_eq_nil_iff.1 hd
      rw [labels_Right.l1,ref05_Right.l1,if_neg (by simp; omega)]
    | cons x l2 ih =>
      intro k had f hd hf hm ho
      obtain ⟨f,rfl⟩ : ∃ q,f = q + 1:=⟨f - 1,by simp at hf; omega⟩
      have hk : k < l.length:=by
        have:=congrArg List.length hd
        rw [List.length_drop,List.length_cons] at this
        omega
      have hx : l[k] = x:=by
        rw [List.drop_eq_getElem_cons hk] at hd
        exact (List.cons.inj hd).1
      have hd2 : l.drop (k + 1) = l2:=by
        rw [List.drop_eq_getElem_cons hk] at hd
        exact (List.cons.inj hd).2
      have hsx:=hs k hk
      rw [hx] at hsx
      obtain ⟨w,hw⟩:=Word_tot (s:=x.Key) (by omega)
      obtain ⟨mb,hmb⟩:=maybe5_tot hsx.2
      rw [labels_Right.l1,ref05_Right.l1,if_pos (dlt hk),glk hk,wk1 (by omega),hx,Word_same hsx.1,lmaybe_same hsx.2,hw,hmb]
      simp only [Option.bind_some,mg_mp,if_true,Option.getD_some]
      -- what stands ahead
      by_cases hdup : ∃ j,∃ hj : j < l.length,j < k∧l[j].Key = x.Key
      · -- twice
        have hm1 : V.mg had x.Key = some 1:=by rw [hm,if_pos hdup]
        rw [hm1]
        simp only [Option.getD_some]
        obtain ⟨j,hj,hjk,hje⟩:=hdup
        have hk0 : 0 < k:=by omega
        rw [if_pos (show (decide (IntKind.i64.wrap ((1 : Int) + 1) > 1)) = true by decide)]
        simp only [Option.bind_some,if_true]
        -- the document: not less
        have hnl : V.slt l[k - 1].Key x.Key = false:=by
          rcases ho j hj hk0 (by omega) hjk with e | e
          · rw [← e,hje]; exact slt_irr _
          · cases hc : V.slt l[k - 1].Key x.Key with
            | false =>rfl
            | true =>
              rw [hje] at e
              have:=slt_trans e hc
              rw [slt_irr] at this; cases this
        rw [if_pos (show (decide ((k : Int) > 0)) = true by simp; omega),glp hk hk0 (by omega)]
        simp only [Option.bind_some]
        rw [Less_eq (hs (k - 1) (by omega)).1 hsx.1,hnl,hw]
        simp only [Option.bind_some,hmb]
        cases w<;>cases mb<;>rfl
      · have hm1 : V.mg had x.Key = none:=by rw [hm,if_neg hdup]
        rw [hm1]
        simp only [Option.getD_none]
        rw [if_neg (show ¬ (decide (IntKind.i64.wrap ((0 : Int) + 1) > 1)) = true by decide)]
        have hnext : ∀ (hlt : k = 0∨∃ h0 : 0 < k,V.slt (l[k - 1]'(by omega)).Key x.Key = true),labels_Right.l1 l l2 (k + 1) (V.mp had x.Key (IntKind.i64.wrap ((0 : Int) + 1))) = ref05_Right.l1 l f ((k + 1 : Nat) : Int):=by
          intro hlt
          refine ih (k + 1) _ f hd2 (by simp only [List.length_cons] at hf; omega) (fun key =>?_) (fun j hj h0 hkl hjk =>?_)
          · rw [mg_mp]
            by_cases hkey : key = x.Key
            · subst hkey
              rw [if_pos rfl,if_pos ⟨k,hk,by omega,by rw [hx]⟩]
              rfl
            · rw [if_neg hkey,hm]
              have : (∃ j,∃ hj : j < l.length,j < k + 1∧l[j].Key = key)↔(∃ j,∃ hj : j < l.length,j < k∧l[j].Key = key):=by
                constructor
                · rintro ⟨j,hj,hjk,e⟩
                  by_cases ejk : j = k
                  · subst ejk; rw [hx] at e; exact absurd e.symm hkey
                  · exact ⟨j,hj,by omega,e⟩
                · rintro ⟨j,hj,hjk,e⟩; exact ⟨j,hj,by omega,e⟩
              by_cases hc : ∃ j,∃ hj : j < l.length,j < k∧l[j].Key = key
              · rw [if_pos hc,if_pos (this.2 hc)]
              · rw [if_neg hc,if_neg (fun q =>hc (this.1 q))]
          · simp only [Nat.add_sub_cancel,hx]
            by_cases ejk : j = k
            · subst ejk; rw [hx]; exact .inl rfl
            · right
              rcases hlt with h | ⟨h0,h⟩
              · omega
              · rcases ho j hj h0 (by omega) (by omega) with e | e
                · rw [e]; exact h
                · exact slt_trans e h
        rw [hw]
        simp only [Option.bind_some,hmb]
        by_cases hk0 : 0 < k
        · simp only [show (decide ((k : Int) > 0)) = true by simp; omega,if_true,glp hk hk0 (by omega),Option.bind_some]
          rw [Less_eq (hs (k - 1) (by omega)).1 hsx.1,seq_eq]
          have hne : ¬ l[k - 1].Key = x.Key:=fun e =>hdup ⟨k - 1,by omega,by omega,e⟩
          have hdec : decide (l[k - 1].Key = x.Key) = false:=by simpa using hne
          rw [hdec,Bool.or_false]
          cases hlt : V.slt l[k - 1].Key x.Key with
          | false =>cases w<;>cases mb<;>rfl
          | true =>
            have hn:=hnext (.inr ⟨hk0,hlt⟩)
            cases w with
            | false =>rfl
            | true =>
              cases mb with
              | false =>rfl
              | true =>exact hn
        · simp only [show (decide ((k : Int) > 0)) = false by simp; omega,Bool.false_eq_true,if_false,Option.bind_some]
          have hn:=hnext (.inl (by omega))
          cases w with
          | false =>rfl
          | true =>
            cases mb with
            | false =>rfl
            | true =>exact hn
  have hk:=key l 0 [] FU rfl (by unfold FU; omega) (fun key =>by
    rw [if_neg]
    · rfl
    · rintro ⟨j,_,hj,_⟩; omega) (fun j hj h0 =>by omega)
  have hk' : labels_Right.l1 l l 0 [] = ref05_Right.l1 l FU 0:=hk
  unfold labels_Right ref05_Right
  rw [hk']
  by_cases h16 : (l.length : Int) > 16
  · rw [if_pos (by simpa using h16)]
    obtain ⟨o,ho⟩ : isS (ref05_Right.l1 l FU 0):=by
      refine T.loop (F:=fun n i =>ref05_Right.l1 l n i) (len:=l.length) (by omega) (fun n k hk ih =>?_) (fun n =>?_)
      · have hsk:=hs k hk
        rw [ref05_Right.l1,if_pos (dlt hk),glk hk,wk1 (by omega)]
        simp only [Option.bind_some]
        refine T.bind (Word_tot (by omega)) fun r _ =>T.bind (T.ite (fun _ =>T.pure _) fun _ =>T.bind (maybe5_tot hsk.2) fun _ _ =>T.pure _) fun c _ =>?_
        refine T.bind (T.ite (fun _ =>T.pure _) fun _ =>T.bind (T.ite (fun h0 =>?_) fun _ =>T.pure _) fun _ _ =>T.pure _) fun _ _ =>T.ite (fun _ =>T.pure _) fun _ =>ih
        have h0' : 0 < k:=by simpa using h0
        rw [glp hk h0' (by omega)]
        simp only [Option.bind_some]
        exact T.bind (Less_tot (hs (k - 1) (by omega)).1 hsk.1) fun _ _ =>T.pure _
      · rw [ref05_Right.l1,if_neg dnl]; exact T.pure _
    rw [ho]
    have hret : ∀ r,ref05_Right.l1 l FU 0 = some (Out.ret r)→r = false:=by
      intro r hr
      have key2 : ∀ (m k f : Nat),l.length - k≤m→m < f→∀ r,ref05_Right.l1 l f (k : Int) = some (Out.ret r)→r = false:=by
        intro m
        induction m with
        | zero =>
          intro k f h1 h2 r hr
          obtain ⟨f,rfl⟩ : ∃ q,f = q + 1:=⟨f - 1,by omega⟩
          rw [ref05_Right.l1,if_neg (by simp; omega)] at hr
          cases hr
        | succ m ih =>
          intro k f h1 h2 r hr
          obtain ⟨f,rfl⟩ : ∃ q,f = q + 1:=⟨f - 1,by omega⟩
          by_cases hk : k < l.length
          · rw [ref05_Right.l1,if_pos (dlt hk),wk1 (by omega)] at hr
            obtain ⟨_,_,hr⟩:=Option.bind_eq_some_iff.1 hr
            obtain ⟨_,_,hr⟩:=Option.bind_eq_some_iff.1 hr
            obtain ⟨_,_,hr⟩:=Option.bind_eq_some_iff.1 hr
            obtain ⟨_,_,hr⟩:=Option.bind_eq_some_iff.1 hr
            split at hr
            · cases hr; rfl
            · exact ih (k + 1) f (by omega) (by omega) r hr
          · rw [ref05_Right.l1,if_neg (by simp; omega)] at hr
            cases hr
      exact key2 l.length 0 FU (by omega) (by unfold FU; omega) r hr
    cases o with
    | ret r =>
      rw [hret r ho]; rfl
    | go j =>
      show some (decide ((l.length : Int)≤16)) = some false
      congr 1
      simp; omega
  · rw [if_neg (by simpa using h16)]
    cases ref05_Right.l1 l FU 0 with
    | none =>rfl
    | some o =>
      cases o with
      | ret r =>rfl
      | go j =>
        show some (decide ((l.length : Int)≤16)) = some true
        congr 1
        simp; omega
end Go.Proofs.YtkondhigbbgidaaGreat.M
/-
  Plain laws: whether machines, pods and yards are right is told alike by the program and the document. Own text.
-/
namespace Go.Proofs.YtkondhigbbgidaaGreat.M
open Go Go.Proofs Go.Proofs.YtkondhigbbgidaaGreat.V
set_option linter.unusedVariables false
set_option linter.unusedSimpArgs false
def wordB (s : ByteArray) : Bool:=(ref01_Word s).getD false
def mayB (s : ByteArray) : Bool:=decide (s = ⟨#[]⟩) || wordB s
def labB (l : List T_api_Label) : Bool:=(ref05_Right l).getD false
theorem is_getD {o : Option Bool} (h : isS o) : o = some (o.getD false):=by obtain ⟨r,rfl⟩:=h; rfl
theorem word_B {s : ByteArray} (h : s.size≤300) : ref01_Word s = some (wordB s):=is_getD (Word_tot (by omega))
theorem lword_B {s : ByteArray} (h : s.size≤300) : lex_Word s = some (wordB s):=by rw [Word_same h,word_B h]
theorem may6_B {s : ByteArray} (h : s.size≤300) : ref06_maybe s = some (mayB s):=by
  unfold ref06_maybe mayB
  rw [word_B h,seq_eq]
  by_cases e : s = ⟨#[]⟩<;>simp [e]
theorem may7_B {s : ByteArray} (h : s.size≤300) : ref07_maybe s = some (mayB s):=by
  unfold ref07_maybe mayB
  rw [word_B h,seq_eq]
  by_cases e : s = ⟨#[]⟩<;>simp [e]
theorem tmay_B {s : ByteArray} (h : s.size≤300) : taints_maybe s = some (mayB s):=by rw [tmaybe_same h,may6_B h]
theorem smay_B {s : ByteArray} (h : s.size≤300) : spec_maybe s = some (mayB s):=by rw [smaybe_same h,may7_B h]
theorem lab_B {l : List T_api_Label} (h : LL l) : ref05_Right l = some (labB l):=is_getD (Right5_tot h)
theorem llab_B {l : List T_api_Label} (h : LL l) : labels_Right l = some (labB l):=by rw [LabelsRight_same h,lab_B h]
def d0 : T_api_Taint:=⟨⟨#[]⟩,⟨#[]⟩,0⟩
theorem getD_d {α : Type} {l : List α} {k : Nat} {d : α} (h : k < l.length) : l.getD k d = l[k]:=by simp [h]
def effB (n : Int) : Bool:=decide (n≥1) && decide (n≤3)
def tSame (a b : T_api_Taint) : Bool:=decide (a.Key = b.Key) && decide (a.Effect = b.Effect)
def tQ (l : List T_api_Taint) (k : Nat) : Bool:=wordB (l.getD k d0).Key && (mayB (l.getD k d0).Val && (effB (l.getD k d0).Effect && allN k fun j =>!tSame (l.getD j d0) (l.getD k d0)))
def taintsB (l : List T_api_Taint) : Bool:=allN l.length (tQ l) && decide (l.length≤16)
theorem known_eq (n : Int) : taints_known n = some (effB n):=by
  unfold taints_known effB
  by_cases h1 : n = 1
  · subst h1; rfl
  by_cases h2 : n = 2
  · subst h2; rfl
  by_cases h3 : n = 3
  · subst h3; rfl
  have : ¬ (1≤n∧n≤3):=by omega
  have e : (decide (n≥1) && decide (n≤3)) = false:=by
    cases h : (decide (n≥1) && decide (n≤3)) with
    | false =>rfl
    | true =>simp at h; omega
  rw [e]
  simp [h1,h2,h3]
theorem take_drop {α : Type} {l : List α} {k j : Nat} (h : k≤l.length) (hj : j < k) : (l.take k)[j]'(by simp; omega) = l[j]:=by simp
theorem taints_Right_eq {l : List T_api_Taint} (h : LX l) : taints_Right l = some (taintsB l):=by
  obtain ⟨hl,hs⟩:=h
  unfold taints_Right taintsB
  have:=rowAll (G:=fun x k =>taints_Right.l1 l x k) (l:=l) (r0:=false) (tQ l) (fun k hk =>by
      have hsk:=hs k hk
      show taints_Right.l1 l (l[k] :: l.drop (k + 1)) k = _
      rw [taints_Right.l1,lword_B hsk.1,known_eq]
      simp only [Option.bind_some]
      rw [tmay_B hsk.2]
      have hv : V.sl l none (some (k : Int)) = some (l.take k):=by
        unfold V.sl
        rw [if_pos]
        · simp [V.lowN,V.highN]
        · simp [V.lowN,V.highN]; omega
      have hin : taints_Right.l2 l[k] (l.take k) 0 = some (if allN k (fun j =>!tSame (l.getD j d0) (l.getD k d0)) = true then Out.go () else Out.ret (Out.ret false)):=by
        have:=rowAll (G:=fun x j =>taints_Right.l2 l[k] x j) (l:=l.take k) (r0:=Out.ret false) (fun j =>!tSame (l.getD j d0) (l.getD k d0)) (fun j hj =>by
          have hjk : j < k:=by simp at hj; omega
          show taints_Right.l2 l[k] ((l.take k)[j] :: (l.take k).drop (j + 1)) j = _
          rw [taints_Right.l2,take_drop (by omega) hjk,getD_d (show j < l.length by omega),getD_d hk]
          simp only [taints_like,Option.bind_some]
          have hk1 : (l[k].Key == l[j].Key) = decide (l[j].Key = l[k].Key):=by rw [V.bytes_beq,decide_eq_decide]; exact eq_comm
          have hk2 : (l[k].Effect == l[j].Effect) = decide (l[j].Effect = l[k].Effect):=by
            by_cases e : l[j].Effect = l[k].Effect
            · simp [e]
            · have e' : ¬ l[k].Effect = l[j].Effect:=fun q =>e q.symm
              simp [e,e']
          rw [hk1,hk2]
          unfold tSame
          cases decide (l[j].Key = l[k].Key)<;>cases decide (l[j].Effect = l[k].Effect)<;>rfl) (fun j =>rfl)
        rw [show (l.take k).length = k by simp; omega] at this
        exact this
      rw [hv]
      simp only [Option.bind_some,hin]
      unfold tQ
      rw [getD_d hk]
      simp only [getD_d hk] at hin ⊢
      cases wordB l[k].Key<;>cases mayB l[k].Val<;>cases effB l[k].Effect<;>cases allN k (fun j =>!tSame (l.getD j d0) l[k])<;>rfl) (fun k =>rfl)
  rw [show taints_Right.l1 l l 0 = _ from this]
  cases allN l.length (tQ l) with
  | false =>rfl
  | true =>
    show some (decide ((l.length : Int)≤16)) = some (decide (l.length≤16))
    congr 1
    rw [decide_eq_decide]; omega
theorem ref06_Right_eq {l : List T_api_Taint} (h : LX l) : ref06_Right l = some (taintsB l):=by
  obtain ⟨hl,hs⟩:=h
  unfold ref06_Right taintsB
  by_cases h16 : l.length≤16
  · rw [if_neg (by simp; omega)]
    have:=idxAll (F:=fun n i =>ref06_Right.l1 l n i) (len:=l.length) (r0:=false) (tQ l) (by omega) (fun n k hk =>by
      have hsk:=hs k hk
      rw [ref06_Right.l1,if_pos (dlt hk),glk hk,wk1 (by omega)]
      simp only [Option.bind_some,word_B hsk.1,may6_B hsk.2,ref06_effect]
      have hin : ref06_Right.l2 l (k : Int) FU 0 = some (if allN k (fun j =>!tSame (l.getD j d0) (l.getD k d0)) = true then Out.go () else Out.ret (Out.ret false)):=by
        refine idxAll (F:=fun n i =>ref06_Right.l2 l (k : Int) n i) (len:=k) (fun j =>!tSame (l.getD j d0) (l.getD k d0)) (by omega) (fun n j hj =>?_) (fun n =>by rw [ref06_Right.l2,if_neg (by simp)])
        rw [ref06_Right.l2,if_pos (by simp; omega),glk (by omega),glk hk,wk1 (by omega),getD_d (show j < l.length by omega),getD_d hk]
        simp only [Option.bind_some,seq_eq]
        unfold tSame
        by_cases e1 : l[j].Key = l[k].Key<;>by_cases e2 : l[j].Effect = l[k].Effect<;>simp [e1,e2]
      rw [hin]
      unfold tQ
      simp only [getD_d hk]
      show _ = if (wordB l[k].Key && (mayB l[k].Val && (effB l[k].Effect && _))) = true then _ else _
      rw [show (decide (l[k].Effect≥1) && decide (l[k].Effect≤3)) = effB l[k].Effect from rfl]
      cases wordB l[k].Key<;>cases mayB l[k].Val<;>cases effB l[k].Effect<;>cases allN k (fun j =>!tSame (l.getD j d0) l[k])<;>rfl) (fun n =>by rw [ref06_Right.l1,if_neg dnl])
    rw [this]
    have e : decide (l.length≤16) = true:=by simpa using h16
    rw [e]
    cases allN l.length (tQ l)<;>rfl
  · rw [if_pos (by simp; omega)]
    have e : decide (l.length≤16) = false:=by simpa using h16
    rw [e,Bool.and_false]
def e0 : T_api_Toleration:=⟨⟨#[]⟩,⟨#[]⟩,false,0⟩
def machB (m : T_api_Machine) : Bool:=mayB m.Name && (mayB m.Group && (resOK m.Has && (labB m.Labels && taintsB m.Taints)))
theorem ref07_Mach_eq {m : T_api_Machine} (h : LM m) : ref07_RightMachine m = some (machB m):=by
  unfold ref07_RightMachine machB
  rw [may7_B h.name,may7_B h.group,ref04_Right_eq,lab_B h.labels,ref06_Right_eq h.taints]
  cases mayB m.Name<;>cases mayB m.Group<;>cases resOK m.Has<;>cases labB m.Labels<;>cases taintsB m.Taints<;>rfl
theorem spec_Mach_eq {m : T_api_Machine} (h : LM m) : spec_RightMachine m = some (machB m):=by
  unfold spec_RightMachine machB
  rw [smay_B h.name,smay_B h.group,res_Right_eq,llab_B h.labels,taints_Right_eq h.taints]
  cases mayB m.Name<;>cases mayB m.Group<;>cases resOK m.Has<;>cases labB m.Labels<;>cases taintsB m.Taints<;>rfl
def t0 : T_api_Term:=⟨⟨#[]⟩,0,[]⟩
end Go.Proofs.YtkondhigbbgidaaGreat.M
/-
  Plain laws of a machine's form: how the document writes it; the law. Own text.
-/
namespace Go.Proofs.YtkondhigbbgidaaGreat.M
open Go Go.Proofs Go.Proofs.YtkondhigbbgidaaGreat.V
open Go.IntKind (i64)
set_option linter.unusedVariables false
set_option linter.unusedSimpArgs false
set_option maxRecDepth 20000
theorem known07_true : law07_known = some true:=by kernel_rfl
theorem atom_r (v : ByteArray) : ref07_atom v = some (atB v):=by
 unfold ref07_atom atB
 by_cases e : v = ⟨#[]⟩
 ·rw [if_pos ((seq_nil _).2 e),if_pos e]
 ·rw [if_neg (mt (seq_nil _).1 e),if_neg e]
theorem rpairs_l1 (n : ByteArray) (L : List T_api_Label) (hL : L.length≤1000) (hz : ∀ a,a ∈ L→a.Key≠⟨#[]⟩) : ∀ (d k f : Nat) (s : ByteArray),k + d = L.length→d < f→s.size + (itsL ((L.drop k).map fun x =>.li n [x.Key,x.Val])).length≤900000 →
  ∃ t,ref07_pairs.l1 n L f s (k : Int) = some t∧bytesL t = bytesL s++itsL ((L.drop k).map fun x =>.li n [x.Key,x.Val]):=by
 intro d
 induction d with
 | zero =>
  intro k f s h1 h2 h3
  obtain ⟨f,rfl⟩ : ∃ q,f = q + 1:=⟨f - 1,by omega⟩
  have : k = L.length:=by omega
  subst this
  exact ⟨s,by rw [ref07_pairs.l1,if_neg dnl],by simp [itsL]⟩
 | succ d ih =>
  intro k f s h1 h2 h3
  obtain ⟨f,rfl⟩ : ∃ q,f = q + 1:=⟨f - 1,by omega⟩
  have hk : k < L.length:=by omega
  have e : itsL ((L.drop k).map fun x =>It.li n [x.Key,x.Val]) = itL (.li n [L[k].Key,L[k].Val])++itsL ((L.drop (k + 1)).map fun x =>.li n [x.Key,x.Val]):=by unfold itsL; rw [List.drop_eq_getElem_cons hk,List.map_cons,List.flatMap_cons]
  rw [e,List.length_append] at h3
  have hz:=hz L[k] (List.getElem_mem hk)
  have hlen : (itL (.li n [L[k].Key,L[k].Val])).length = n.size + L[k].Key.size + (atB L[k].Val).size + 5:=by
   have : atL L[k].Key = bytesL L[k].Key:=by unfold atL; rw [if_neg hz]
   simp [itL,valsL,this,bytesS,atL_len]; omega
  rw [hlen] at h3
  have s1 : (⟨#[32,40]⟩ : ByteArray).size = 2:=rfl
  have s2 : (⟨#[32]⟩ : ByteArray).size = 1:=rfl
  have s3 : (⟨#[41]⟩ : ByteArray).size = 1:=rfl
  rw [ref07_pairs.l1,if_pos (dlt hk),catB (by omega)]
  simp only [Option.bind_some]
  rw [catB (by simp only [ByteArray.size_append]; omega)]
  simp only [Option.bind_some]
  rw [catB (by simp only [ByteArray.size_append]; omega)]
  simp only [Option.bind_some]
  rw [glk hk]
  simp only [Option.bind_some]
  rw [catB (by simp only [ByteArray.size_append]; omega)]
  simp only [Option.bind_some]
  rw [catB (by simp only [ByteArray.size_append]; omega)]
  simp only [Option.bind_some]
  rw [atom_r]
  simp only [Option.bind_some]
  rw [catB (by simp only [ByteArray.size_append]; omega)]
  simp only [Option.bind_some]
  rw [catB (by simp only [ByteArray.size_append]; omega)]
  simp only [Option.bind_some]
  rw [wk1 (by omega)]
  obtain ⟨t,t1,t2⟩:=ih (k + 1) f (((((((s++(⟨#[32,40]⟩ : ByteArray))++n)++(⟨#[32]⟩ : ByteArray))++L[k].Key)++(⟨#[32]⟩ : ByteArray))++atB L[k].Val)++(⟨#[41]⟩ : ByteArray)) (by omega) (by omega) (by simp only [ByteArray.size_append]; omega)
  refine ⟨t,t1,?_⟩
  rw [t2,e]
  have : atL L[k].Key = bytesL L[k].Key:=by unfold atL; rw [if_neg hz]
  simp only [b_cat,atB_l,itL,valsL,List.flatMap_cons,List.flatMap_nil,List.append_nil,this,List.append_assoc,List.cons_append]
  rfl
theorem rpairs (n : ByteArray) (L : List T_api_Label) (hL : L.length≤1000) (hz : ∀ a,a ∈ L→a.Key≠⟨#[]⟩) (hl : (itsL (L.map fun x =>.li n [x.Key,x.Val])).length≤900000) : ∃ t,ref07_pairs n L = some t∧bytesL t = itsL (L.map fun x =>.li n [x.Key,x.Val]):=by
 obtain ⟨t,t1,t2⟩:=rpairs_l1 n L hL hz L.length 0 FU ⟨#[]⟩ (by omega) (by unfold FU; omega) (by rw [List.drop_zero]; show 0 + _≤_; omega)
 rw [List.drop_zero] at t2
 refine ⟨t,?_,by rw [t2]; rfl⟩
 unfold ref07_pairs
 rw [show (0 : Int) = ((0 : Nat) : Int) from rfl,t1]
 rfl
theorem rrest_l1 (m : T_api_Machine) (hL : m.Taints.length≤1000) (hz : ∀ a,a ∈ m.Taints→a.Key≠⟨#[]⟩∧0≤a.Effect∧a.Effect≤3) : ∀ (d k f : Nat) (s : ByteArray),k + d = m.Taints.length→d < f→s.size + (itsL ((m.Taints.drop k).map taiI)).length≤900000 →
  ∃ t,ref07_rest.l1 m f s (k : Int) = some t∧bytesL t = bytesL s++itsL ((m.Taints.drop k).map taiI):=by
 intro d
 induction d with
 | zero =>
  intro k f s h1 h2 h3
  obtain ⟨f,rfl⟩ : ∃ q,f = q + 1:=⟨f - 1,by omega⟩
  have : k = m.Taints.length:=by omega
  subst this
  exact ⟨s,by rw [ref07_rest.l1,if_neg dnl],by simp [itsL]⟩
 | succ d ih =>
  intro k f s h1 h2 h3
  obtain ⟨f,rfl⟩ : ∃ q,f = q + 1:=⟨f - 1,by omega⟩
  have hk : k < m.Taints.length:=by omega
  have e : itsL ((m.Taints.drop k).map taiI) = itL (taiI m.Taints[k])++itsL ((m.Taints.drop (k + 1)).map taiI):=by unfold itsL; rw [List.drop_eq_getElem_cons hk,List.map_cons,List.flatMap_cons]
  rw [e,List.length_append] at h3
  obtain ⟨hz1,hz2⟩:=hz m.Taints[k] (List.getElem_mem hk)
  have ek : atL m.Taints[k].Key = bytesL m.Taints[k].Key:=by unfold atL; rw [if_neg hz1]
  have ee : atL (effT m.Taints[k].Effect.toNat) = bytesL (effT m.Taints[k].Effect.toNat):=by unfold atL; rw [if_neg (eff_ne _)]
  have hlen : (itL (taiI m.Taints[k])).length = 5 + m.Taints[k].Key.size + (atB m.Taints[k].Val).size + (effT m.Taints[k].Effect.toNat).size + 6:=by
   have : nTaint.size = 5:=rfl
   simp [taiI,itL,valsL,ek,ee,bytesS,atL_len]; omega
  rw [hlen] at h3
  have s1 : (⟨#[32,40,116,97,105,110,116,32]⟩ : ByteArray).size = 8:=rfl
  have s2 : (⟨#[32]⟩ : ByteArray).size = 1:=rfl
  have s3 : (⟨#[41]⟩ : ByteArray).size = 1:=rfl
  rw [ref07_rest.l1,if_pos (dlt hk),glk hk]
  simp only [Option.bind_some]
  rw [catB (by omega)]
  simp only [Option.bind_some]
  rw [catB (by simp only [ByteArray.size_append]; omega)]
  simp only [Option.bind_some]
  rw [catB (by simp only [ByteArray.size_append]; omega)]
  simp only [Option.bind_some]
  rw [atom_r]
  simp only [Option.bind_some]
  rw [catB (by simp only [ByteArray.size_append]; omega)]
  simp only [Option.bind_some]
  rw [catB (by simp only [ByteArray.size_append]; omega)]
  unfold ref07_effects
  simp only [Option.bind_some]
  rw [eff_gl hz2]
  simp only [Option.bind_some]
  rw [catB (by simp only [ByteArray.size_append]; omega)]
  simp only [Option.bind_some]
  rw [catB (by simp only [ByteArray.size_append]; omega)]
  simp only [Option.bind_some]
  rw [wk1 (by omega)]
  obtain ⟨t,t1,t2⟩:=ih (k + 1) f (((((((s++(⟨#[32,40,116,97,105,110,116,32]⟩ : ByteArray))++m.Taints[k].Key)++(⟨#[32]⟩ : ByteArray))++atB m.Taints[k].Val)++(⟨#[32]⟩ : ByteArray))++effT m.Taints[k].Effect.toNat)++(⟨#[41]⟩ : ByteArray)) (by omega) (by omega) (by simp only [ByteArray.size_append]; omega)
  refine ⟨t,t1,?_⟩
  rw [t2,e]
  simp only [b_cat,atB_l,taiI,itL,valsL,List.flatMap_cons,List.flatMap_nil,List.append_nil,ek,ee,List.append_assoc,List.cons_append]
  rfl
theorem rrest {m : T_api_Machine} (hr : RR m.Has) (hL : m.Labels.length≤1000) (hz : ∀ a,a ∈ m.Labels→a.Key≠⟨#[]⟩) (hT : m.Taints.length≤1000) (hta : ∀ a,a ∈ m.Taints→a.Key≠⟨#[]⟩∧0≤a.Effect∧a.Effect≤3) (hl : (itsL (restI m)).length≤800000) : ∃ t,ref07_rest m = some t∧bytesL t = itsL (restI m):=by
 have e : itsL (restI m) = itL (hasI m.Has)++(itsL (m.Labels.map labI)++itsL (m.Taints.map taiI)):=by simp [itsL,restI]
 rw [e,List.length_append,List.length_append] at hl
 have h1:=hr.cpu; have h2:=hr.mem; have h3:=hr.disk; have h4:=hr.pods; have h5:=hr.dev
 have z1:=milli_size (n:=m.Has.Cpu.toNat) (by omega)
 have z2:=mem_size (n:=m.Has.Mem.toNat) (by omega)
 have z3:=mem_size (n:=m.Has.Disk.toNat) (by omega)
 have z4:=numB_size (n:=m.Has.Pods.toNat) (by omega)
 have z5:=numB_size (n:=m.Has.Dev.toNat) (by omega)
 have s1 : (⟨#[32,40,104,97,115,32]⟩ : ByteArray).size = 6:=rfl
 have s2 : (⟨#[32]⟩ : ByteArray).size = 1:=rfl
 have s3 : (⟨#[41]⟩ : ByteArray).size = 1:=rfl
 unfold ref07_rest
 rw [show m.Has.Cpu = (m.Has.Cpu.toNat : Int) by omega,milli_r (by omega)]
 simp only [Option.bind_some]
 rw [catB (by omega)]
 simp only [Option.bind_some]
 rw [catB (by simp only [ByteArray.size_append]; omega)]
 simp only [Option.bind_some]
 rw [show m.Has.Mem = (m.Has.Mem.toNat : Int) by omega,mem_r (by omega)]
 simp only [Option.bind_some]
 rw [catB (by simp only [ByteArray.size_append]; omega)]
 simp only [Option.bind_some]
 rw [catB (by simp only [ByteArray.size_append]; omega)]
 simp only [Option.bind_some]
 rw [show m.Has.Disk = (m.Has.Disk.toNat : Int) by omega,mem_r (by omega)]
 simp only [Option.bind_some]
 rw [catB (by simp only [ByteArray.size_append]; omega)]
 simp only [Option.bind_some]
 rw [catB (by simp only [ByteArray.size_append]; omega)]
 simp only [Option.bind_some]
 rw [show m.Has.Pods = (m.Has.Pods.toNat : Int) by omega,Digits_n (by omega)]
 simp only [Option.bind_some]
 rw [catB (by simp only [ByteArray.size_append]; omega)]
 simp only [Option.bind_some]
 rw [catB (by simp only [ByteArray.size_append]; omega)]
 simp only [Option.bind_some]
 rw [show m.Has.Dev = (m.Has.Dev.toNat : Int) by omega,Digits_n (by omega)]
 simp only [Option.bind_some]
 rw [catB (by simp only [ByteArray.size_append]; omega)]
 simp only [Option.bind_some]
 rw [catB (by simp only [ByteArray.size_append]; omega)]
 simp only [Option.bind_some]
 obtain ⟨t,t1,t2⟩:=rpairs nLabel m.Labels hL hz (by have : itsL (m.Labels.map fun x =>.li nLabel [x.Key,x.Val]) = itsL (m.Labels.map labI):=rfl; rw [this]; omega)
 have t2 : bytesL t = itsL (m.Labels.map labI):=t2
 have hts : t.size = (itsL (m.Labels.map labI)).length:=by rw [← bytesS,t2]
 rw [show (⟨#[108,97,98,101,108]⟩ : ByteArray) = nLabel from rfl,t1]
 simp only [Option.bind_some]
 rw [catB (by simp only [ByteArray.size_append]; omega)]
 simp only [Option.bind_some]
 obtain ⟨v,hv⟩ : ∃ v,v = (((((((((((⟨#[32,40,104,97,115,32]⟩ : ByteArray)++milliB m.Has.Cpu.toNat)++(⟨#[32]⟩ : ByteArray))++memB m.Has.Mem.toNat)++(⟨#[32]⟩ : ByteArray))++memB m.Has.Disk.toNat)++(⟨#[32]⟩ : ByteArray))++numB m.Has.Pods.toNat)++(⟨#[32]⟩ : ByteArray))++numB m.Has.Dev.toNat)++(⟨#[41]⟩ : ByteArray))++t:=⟨_,rfl⟩
 have hvl : bytesL v = itL (hasI m.Has)++itsL (m.Labels.map labI):=by
  rw [hv]
  have a1 : atL (milliB m.Has.Cpu.toNat) = bytesL (milliB m.Has.Cpu.toNat):=by unfold atL; rw [if_neg (milli_ne _)]
  have a2 : atL (memB m.Has.Mem.toNat) = bytesL (memB m.Has.Mem.toNat):=by unfold atL; rw [if_neg (mem_ne _)]
  have a3 : atL (memB m.Has.Disk.toNat) = bytesL (memB m.Has.Disk.toNat):=by unfold atL; rw [if_neg (mem_ne _)]
  have a4 : atL (numB m.Has.Pods.toNat) = bytesL (numB m.Has.Pods.toNat):=by unfold atL; rw [if_neg (num_ne _)]
  have a5 : atL (numB m.Has.Dev.toNat) = bytesL (numB m.Has.Dev.toNat):=by unfold atL; rw [if_neg (num_ne _)]
  simp only [b_cat,t2,hasI,itL,valsL,List.flatMap_cons,List.flatMap_nil,List.append_nil,a1,a2,a3,a4,a5,List.append_assoc,List.cons_append]
  rfl
 rw [← hv]
 obtain ⟨u,u1,u2⟩:=rrest_l1 m hT hta m.Taints.length 0 FU v (by omega) (by unfold FU; omega) (by rw [← bytesS,hvl,List.length_append,List.drop_zero]; omega)
 rw [show (0 : Int) = ((0 : Nat) : Int) from rfl,u1]
 refine ⟨u,rfl,?_⟩
 rw [u2,hvl,List.drop_zero,e,List.append_assoc]
end Go.Proofs.YtkondhigbbgidaaGreat.M
