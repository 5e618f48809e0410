/-
  The logic over plain values: structs compared, rows that have elements, stores into rows of one's own. Own text.
-/
import Derived.Test.YtkondhigbbgidaaGreatVExtra
import Derived.Laws.StructEq
namespace Go.Proofs.YtkondhigbbgidaaGreat.V
open Go Go.Lib
set_option linter.unusedVariables false
 mutual
inductive Shp where
 | int | bool | str
 | st (fs : Shps)
inductive Shps where
 | nil
 | cons (off n : Nat) (agg : Bool) (s : Shp) (r : Shps)
end
 mutual
def eqSh : Shp→VV→VV→Option Bool
 | .int,.int k a,.int k' b =>if k = k' then some (a == b) else none
 | .bool,.bool a,.bool b =>some (a == b)
 | .str,.str a,.str b =>some (a == b)
 | .st fs,.agg xs,.agg ys =>eqShs fs xs ys
 | _,_,_ =>none
def eqShs : Shps→List VV→List VV→Option Bool
 | .nil,_,_ =>some true
 | .cons off n agg s r,xs,ys =>
  if (Nat.ble n (xs.drop off).length && Nat.ble n (ys.drop off).length) = true then
   (eqSh s (whole agg n (xs.drop off)) (whole agg n (ys.drop off))).bind fun a =>(eqShs r xs ys).bind fun b =>some (a && b)
  else none
end
 mutual
def shB (P : Program) : Shp→TypeId→Bool
 | .int,t =>(match P.underlying t with | some (.int _) =>true | _ =>false)
 | .bool,t =>(match P.underlying t with | some .bool =>true | _ =>false)
 | .str,t =>(match P.underlying t with | some .string =>true | _ =>false)
 | .st fs,t =>(match P.underlying t with | some (.struct fields) =>!P.stoodInHeld t && shsB P fs fields.toList | _ =>false)
def shsB (P : Program) : Shps→List Field→Bool
 | .nil,[] =>true
 | .cons off n agg s r,f :: fs =>!(f.name == "_") && f.offset == off && ldB P f.type n agg && shB P s f.type && shsB P r fs
 | _,_ =>false
end
 mutual
def Shp.ht : Shp→Nat
 | .st fs =>fs.ht + 1
 | _ =>0
def Shps.ht : Shps→Nat
 | .nil =>0
 | .cons _ _ _ s r =>max s.ht r.ht
end
section
variable {P : Program} {N : Nat} {env : Env} {H : List HE} {K : VV→List HE→Prop} {D : Cx} {w : World}
variable {dst : Option Tmp} {ty : TypeId} {pos : String} {aft : Array Edge} {g : Option (Nat × Bool)}
theorem run_part {t : TypeId} {n off : Nat} {agg : Bool} {cs : Array Value} {xs : List VV} (hl : ldB P t n agg = true) (hsz : cs.size = xs.length) (hrr : ∀ (j : Nat) (v : Value) (x : VV),cs[j]? = some v→xs[j]? = some x→Rd P D w v x) (hn : n≤(xs.drop off).length) :
  ∃ v,(∀ w1,(part t cs off).run P w1 = .ok v w1)∧Rd P D w v (whole agg n (xs.drop off)):=by
 cases agg with
 | true =>
  refine ⟨.agg (cs.extract off (off + n)),fun w1 =>by simp [part,ldB_agg hl,ldB_size hl],?_⟩
  simp only [whole,if_true]
  refine .agg _ _ ?_ ?_
  ·simp at hn ⊢; omega
  ·intro j v x hj hx'
   rw [Array.getElem?_extract] at hj
   rw [List.getElem?_take] at hx'
   split at hx'
   ·rw [List.getElem?_drop] at hx'
    split at hj
    ·exact hrr _ v x hj hx'
    ·cases hj
   ·cases hx'
 | false =>
  have h1:=ldB_one hl
  subst h1
  have hlt : off < cs.size:=by rw [hsz]; simp at hn; omega
  refine ⟨cs[off],fun w1 =>by simp [part,ldB_agg hl,hlt],?_⟩
  simp only [whole,Bool.false_eq_true,if_false]
  have hlx : off < xs.length:=by omega
  have : (xs.drop off).headD .any = xs[off]:=by
   rw [List.headD_eq_head?_getD,List.head?_drop,List.getElem?_eq_getElem hlx]; rfl
  rw [this]
  exact hrr _ _ _ (Array.getElem?_eq_getElem hlt) (List.getElem?_eq_getElem hlx)
 mutual
theorem eqSh_run : ∀ (s : Shp) (t : TypeId) (d : Nat) (v v' : Value) (x y : VV) (r : Bool),shB P s t = true→s.ht < d→Rd P D w v x→Rd P D w v' y→eqSh s x y = some r→∀ w1,(Op.equalIn d t v v').run P w1 = .ok r w1
 | .int,t,d,v,v',x,y,r,hs,hd,hx,hy,he,w1 =>by
  obtain ⟨d,rfl⟩ : ∃ e,d = e + 1:=⟨d - 1,by omega⟩
  unfold shB at hs
  split at hs
  ·rename_i k hu
   unfold eqSh at he
   split at he<;>try (first | (cases he; done) | contradiction)
   ·rename_i k1 a k2 b _
    split at he
    ·rename_i hk
     subst hk
     simp only [Option.some.injEq] at he
     subst he
     cases hx; cases hy
     unfold Op.equalIn
     simp only [Sem.run_bind,run_underlying hu,Result.andThen_ok]
     simp
    ·cases he
  ·cases hs
 | .bool,t,d,v,v',x,y,r,hs,hd,hx,hy,he,w1 =>by
  obtain ⟨d,rfl⟩ : ∃ e,d = e + 1:=⟨d - 1,by omega⟩
  unfold shB at hs
  split at hs
  ·rename_i hu
   unfold eqSh at he
   split at he<;>try (first | (cases he; done) | contradiction)
   ·simp only [Option.some.injEq] at he
    subst he
    cases hx; cases hy
    unfold Op.equalIn
    simp only [Sem.run_bind,run_underlying hu,Result.andThen_ok]
    simp
  ·cases hs
 | .str,t,d,v,v',x,y,r,hs,hd,hx,hy,he,w1 =>by
  obtain ⟨d,rfl⟩ : ∃ e,d = e + 1:=⟨d - 1,by omega⟩
  unfold shB at hs
  split at hs
  ·rename_i hu
   unfold eqSh at he
   split at he<;>try (first | (cases he; done) | contradiction)
   ·simp only [Option.some.injEq] at he
    subst he
    cases hx; cases hy
    unfold Op.equalIn
    simp only [Sem.run_bind,run_underlying hu,Result.andThen_ok]
    simp
  ·cases hs
 | .st fs,t,d,v,v',x,y,r,hs,hd,hx,hy,he,w1 =>by
  obtain ⟨d,rfl⟩ : ∃ e,d = e + 1:=⟨d - 1,by omega⟩
  unfold shB at hs
  split at hs
  ·rename_i fields hu
   simp only [Bool.and_eq_true,Bool.not_eq_true'] at hs
   unfold eqSh at he
   split at he<;>try (first | (cases he; done) | contradiction)
   ·rename_i xs ys heq
    cases hx with
    | agg cs _ h1 h2 =>
     cases hy with
     | agg cs' _ h3 h4 =>
      have hf : P.fieldsOf t = fields:=by simp [Program.fieldsOf,hu]
      rw [run_equalIn_struct (P:=P) w1 d t cs cs' (by rw [hf]; exact hu) hs.1,hf]
      injection heq with hfs
      subst hfs
      exact eqShs_run _ fields.toList d cs cs' xs ys r hs.2 (by unfold Shp.ht at hd; omega) h1 h2 h3 h4 he w1
  ·cases hs
theorem eqShs_run : ∀ (s : Shps) (fs : List Field) (d : Nat) (cs cs' : Array Value) (xs ys : List VV) (r : Bool),shsB P s fs = true→s.ht < d→cs.size = xs.length→(∀ (j : Nat) (v : Value) (x : VV),cs[j]? = some v→xs[j]? = some x→Rd P D w v x) →
  cs'.size = ys.length→(∀ (j : Nat) (v : Value) (x : VV),cs'[j]? = some v→ys[j]? = some x→Rd P D w v x)→eqShs s xs ys = some r→∀ w1,(Op.eqFields d cs cs' fs).run P w1 = .ok r w1
 | .nil,fs,d,cs,cs',xs,ys,r,hs,hd,h1,h2,h3,h4,he,w1 =>by
  cases fs with
  | nil =>simp only [eqShs,Option.some.injEq] at he; subst he; simp [Op.eqFields]
  | cons f fs =>simp [shsB] at hs
 | .cons off n agg s q,fs,d,cs,cs',xs,ys,r,hs,hd,h1,h2,h3,h4,he,w1 =>by
  cases fs with
  | nil =>simp [shsB] at hs
  | cons f fs =>
   unfold shsB at hs
   simp only [Bool.and_eq_true,Bool.not_eq_true',beq_iff_eq] at hs
   obtain ⟨⟨⟨⟨g1,rfl⟩,g3⟩,g4⟩,g5⟩:=hs
   unfold eqShs at he
   split at he
   ·rename_i hb
    simp only [Bool.and_eq_true] at hb
    obtain ⟨a,ha,he⟩:=bnd he
    obtain ⟨b,hb',he⟩:=bnd he
    simp only [Option.some.injEq] at he
    subst he
    obtain ⟨v,p1,p2⟩:=run_part g3 h1 h2 (Nat.le_of_ble_eq_true hb.1)
    obtain ⟨v',p3,p4⟩:=run_part g3 h3 h4 (Nat.le_of_ble_eq_true hb.2)
    unfold Shps.ht at hd
    have e1:=eqSh_run s f.type d v v' _ _ a g4 (by omega) p2 p4 ha w1
    have e2:=eqShs_run q fs d cs cs' xs ys b g5 (by omega) h1 h2 h3 h4 hb' w1
    have hn' : f.name≠"_":=by simpa using g1
    rw [Op.eqFields]
    simp only [if_pos hn',Sem.run_bind,p1,p3,e1,Result.andThen_ok]
    cases a
    ·simp
    ·simpa using e2
   ·cases he
end
def noif (P : Program) (t : TypeId) : Bool:=!(P.eqGuardType P.depth t)
theorem VP.eqS (s : Shp) {bo : BinOp} {xt yt : TypeId} {x y : Operand} {xs ys : List VV} {r : Bool} {z : VV} (hs : (shB P s xt && noif P xt && Nat.ble s.ht 9998) = true) (hx : ev env x = some (.agg xs)) (hy : ev env y = some (.agg ys)) (he : eqSh s (.agg xs) (.agg ys) = some r)
  (hz : V.boolop bo r true = some z) : VP P N ⟨dst,.binOp bo xt x y yt,ty,pos,aft,g⟩ env H z:=fun D w a hs' hr hi =>by
 simp only [Bool.and_eq_true] at hs
 obtain ⟨⟨h1,h2⟩,h3⟩:=hs
 have h3:=Nat.le_of_ble_eq_true h3
 have hvx:=ev_rd hx hr
 have hvy:=ev_rd hy hr
 have key:=eqSh_run s xt Op.maxDepth (a.eval x) (a.eval y) _ _ r h1 (by unfold Op.maxDepth; omega) hvx hvy he
 have hg : ∀ o w1,(eqGuard o xt x y (a.eval x) (a.eval y)).run P w1 = .ok () w1:=by
  intro o w1
  generalize a.eval x = u at *
  generalize a.eval y = u' at *
  cases hvx with
  | agg cs _ _ _ =>
   cases hvy with
   | agg cs' _ _ _ =>
    unfold noif at h2
    have h2' : P.eqGuardType P.depth xt = false:=by simpa using h2
    unfold eqGuard
    cases o<;>simp [h2']
 have hag : ∃ cs,a.eval x = .agg cs:=by
  generalize a.eval x = u at *
  cases hvx with
  | agg cs _ _ _ =>exact ⟨cs,rfl⟩
 have hag' : ∃ cs,a.eval y = .agg cs:=by
  generalize a.eval y = u at *
  cases hvy with
  | agg cs _ _ _ =>exact ⟨cs,rfl⟩
 obtain ⟨cs,hcs⟩:=hag
 obtain ⟨cs',hcs'⟩:=hag'
 rw [hcs,hcs'] at key
 have hg' : ∀ o w1,(eqGuard o xt x y (.agg cs) (.agg cs')).run P w1 = .ok () w1:=fun o w1 =>by have:=hg o w1; rw [hcs,hcs'] at this; exact this
 cases bo<;>simp only [V.boolop,Option.some.injEq,reduceCtorEq] at hz<;>subst hz
 ·refine ⟨.bool (r == true),fun w1 _ =>?_,.bool _⟩
  simp only [execOp,hcs,hcs',Sem.run_bind,hg',Result.andThen_ok,binOp,Op.equal]
  simp [key]
 ·refine ⟨.bool (!(r == true)),fun w1 _ =>?_,.bool _⟩
  simp only [execOp,hcs,hcs',Sem.run_bind,hg',Result.andThen_ok,binOp,Op.equal]
  simp [key]
theorem some_row {i : Nat} {ob : Option Nat} {e : TypeId} {cap : Nat} {xs : List VV} (hi : Inv P D w H) (hh : H[i]? = some (.row ob e cap xs)) (hx : 0 < xs.length) : ∃ b,ob = some b:=by
 have hrow:=hi.rel _ (List.mem_of_getElem? hh)
 cases ob with
 | none =>obtain ⟨e1,e2⟩:=hrow; subst e1; simp at hx
 | some b =>exact ⟨b,rfl⟩
theorem gl_pos {α : Type} (f : α→VV) {l : List α} {i : Int} {x : α} (h : gl l i = some x) : 0 < (l.map f).length:=by
 have:=(List.getElem?_eq_some_iff.1 (gl_some h).2).1
 simp; omega
theorem VR.someRow {ops : Array Oper} {l : List Oper} {L : Env→List HE→Prop} (i : Nat) {ob : Option Nat} {e : TypeId} {cap : Nat} {xs : List VV} (hh : H[i]? = some (.row ob e cap xs)) (hx : 0 < xs.length) (h : ∀ b,ob = some b→VR P N ops l L env H) : VR P N ops l L env H :=
 fun D w a hs hr hi =>let ⟨b,hb⟩:=some_row hi hh hx; h b hb D w a hs hr hi
theorem VA.someRow {ops : Array Oper} {dn : List Nat} {Hm Hp : List HE} {L : Env→List HE→Prop} (i : Nat) {ob : Option Nat} {e : TypeId} {cap : Nat} {xs : List VV} (hh : (Hm++Hp)[i]? = some (.row ob e cap xs)) (hx : 0 < xs.length) (h : ∀ b,ob = some b→VA P N ops L dn env Hm Hp) : VA P N ops L dn env Hm Hp :=
 fun D w a hs hr hi =>let ⟨b,hb⟩:=some_row hi hh hx; h b hb D w a hs hr hi
end
end Go.Proofs.YtkondhigbbgidaaGreat.V
