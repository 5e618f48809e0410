/-
  The logic over plain values: arrays compared. Own text.
-/
import Derived.Test.YtkondhigbbgidaaGreatVMap
namespace Go.Proofs.YtkondhigbbgidaaGreat.V
open Go Go.Lib
set_option linter.unusedVariables false
theorem R {α : Sort _} {a : α} : a = a:=rfl
section
variable {P : Program} {N : Nat} {env : Env} {H : List HE} {K : VV→List HE→Prop} {D : Cx} {w : World}
variable {dst : Option Tmp} {ty : TypeId} {pos : String} {aft : Array Edge} {g : Option (Nat × Bool)}
theorem VP.convBL {src dt e : TypeId} {x : Operand} {l : List Int} (hs : elB P src e 1 = true) (he : P.underlying e = some (.int .u8)) (ht : P.underlying dt = some .string) (hx : ev env x = some (.list e (l.map (VV.int .u8)))) :
  VP P N ⟨dst,.convert src dt x,ty,pos,aft,g⟩ env H (.str (strOfNums l)):=by
 refine fun D w a hz hr hinv =>?_
 have hrd:=ev_rd hx hr
 have hu:=elB_und hs
 have hc:=elB_cells hs
 generalize hq : a.eval x = v at hrd
 have hmm : ∀ {v : Value} {ys : List VV},ys = l.map (VV.int .u8)→Rd P D w v (.list e ys)→l.length≤maxLen∧∀ w1,Prot D w H w1→(convert src dt v).run P w1 = .ok (.string (strOfNums l)) w1:=by
  intro v ys hys hrd
  cases hrd with
  | listNil _ ad =>
   have : l = []:=by cases l with | nil =>rfl | cons _ _ =>simp at hys
   subst this
   refine ⟨Nat.zero_le _,fun w1 _ =>?_⟩
   cases ad with
   | none =>rw [run_convert_bytes_nil (P:=P) w1 src e hu he 0 0 dt ht]; rfl
   | some ad =>
    rw [run_convert_bytes_string w1 src dt e _ 0 0 hu he ht,run_bytesToString w1 ad 0 0 [] (by simp [loadCells,loadCellsFrom])]
    rfl
  | list _ _ b off c f h1 h2 hD h3 hv hrr =>
   subst hys
   simp only [List.length_map] at h1
   refine ⟨by omega,fun w1 hp1 =>?_⟩
   rw [List.length_map]
   refine run_convert_bytes_arg (P:=P) w1 src e hu he b off l.length c l rfl (fun i hi =>?_) dt ht
   have hg : (l.map (VV.int .u8))[i]? = some (.int .u8 l[i]):=by simp [hi]
   have h4:=hv i _ hg 0 (.int .u8 l[i]) rfl
   have h5:=rd_int (hrr i _ hg 0 (.int .u8 l[i]) rfl)
   rw [hc,Nat.mul_one,Nat.add_zero] at h4
   rw [cell_of_block (hp1 b (.inl ⟨e,hD⟩)),h4,h5]
   simp [List.getD,hi]
 obtain ⟨m1,m2⟩:=hmm rfl hrd
 refine ⟨.string (strOfNums l),fun w1 hp1 =>?_,.str _ (by rw [strOfNums_size]; exact m1)⟩
 have:=m2 w1 hp1
 simp only [execOp,hq,Sem.run_bind,this,Result.andThen_ok]
 rfl
end
end Go.Proofs.YtkondhigbbgidaaGreat.V
