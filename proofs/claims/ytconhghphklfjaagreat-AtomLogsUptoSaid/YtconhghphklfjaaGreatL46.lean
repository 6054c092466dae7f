/- After a crash the log has the records of the groups that are there and no others, with their numbers and data; the conditions are those of the given statement, for arguments that a machine can hold. Part 46 of 54. -/
import Derived.Test.YtconhghphklfjaaGreatL45
import Derived.Test.YtconhghphklfjaaGreatL44
namespace Go.Proofs.YtconhghphklfjaaGreat.Am
open Go
theorem A3 : ∃i,Tryz.prog.info? 9=some i∧i.size=1∧i.bytes=16 :=
 ⟨_,(show Tryz.prog.info? 9=some ((Tryz.prog.info? 9).getD default) by kernel_rfl),by kernel_rfl,by kernel_rfl⟩
section
variable {told:Nat→Option (List V→H→Option (V×H))} {h:H} {S:List ah} {X:ah} {r k q p a g aK N B:Nat} {op v x pv nv wv dv:V} {l data:List Nat} {ε:aM} {ps nx:List (List Nat)} {now:List (Int×List Nat)} {Q:Ex→List (Nat×V)→H→Prop}
end
end Go.Proofs.YtconhghphklfjaaGreat.Am
namespace Go.Proofs.YtconhghphklfjaaGreat.Am
open Go
theorem Es : dQ (List.replicate 512 0)=0:=by rw [dQ,if_pos rfl]
theorem G3 : jk (List.replicate 512 0)=[]:=by rw [jk,if_pos (.inr rfl)]
def fresh (n m f:Nat): aM:=(Pl.fresh f,(Lg.fresh,Dk.fresh n m))
theorem A4 {n m:Nat}(k:Int): (Dk.fresh n m).at k=List.replicate 512 0:=by
 rw [Dk.at,show lookL k (Dk.fresh n m).now=none from rfl]
 simp only [Dk.fresh]
 cases I:(List.replicate n (none:Option (List Nat)))[k.toNat]? with
 | none=>rfl
 | some o =>
  have:=List.eq_of_mem_replicate (List.mem_of_getElem? I)
  subst this
  rfl
theorem G4 {n m f:Nat}(k:Int): pgA (fresh n m f) k=List.replicate 512 0:=by
 rw [jz (by rfl)]
 exact A4 k
theorem A5 {f i:Nat}{x:Fm}(h:(Pl.fresh f).ag[i]?=some x): x=c7:=List.eq_of_mem_replicate (List.mem_of_getElem? h)
theorem EI.fresh {n m f:Nat}(hn:n≤65536)(hm:m≤16777216)(hf:1≤f)(Q2:f≤1024): EI n 1 (fresh n m f):=by
 have J:∀x∈(Pl.fresh f).ag,x=c7:=fun x I=>List.eq_of_mem_replicate I
 have hlen:(Pl.fresh f).ag.length=f:=List.length_replicate
 refine ⟨⟨⟨⟨(show 0<(Pl.fresh f).ag.length by rw [hlen]; omega),(show (Pl.fresh f).ag.length≤1024 by rw [hlen]; exact Q2),fun e he=>(by cases he),fun x I=>by rw [J x I]; decide,fun x I=>by rw [J x I]; decide⟩,Lg.AT,?_⟩,fun x I=>by rw [J x I]; rfl,⟨List.nodup_nil,fun k i U=>(by cases U)⟩⟩,⟨?_,List.nodup_nil,fun k i U=>(by cases U),fun i x I=>.inl (by rw [A5 I]; decide),fun k U=>(by cases U),List.nodup_nil⟩,⟨rfl,Nat.le_refl _,(show (1:Nat)+0≤1*1048600 by decide)⟩,?_⟩
 ·exact ⟨(show (-1:Int)<4294967296 by decide),Nat.zero_le _,hm,fun e he=>(by cases he),fun i b hb=>(by have h1:some b=none:=List.eq_of_mem_replicate (List.mem_of_getElem? hb); cases h1),Nat.le_refl _,(show (List.replicate n (none:Option (List Nat))).length≤65536 by rw [List.length_replicate]; exact hn)⟩
 ·exact ⟨rfl,(show (-1:Int)<0 by decide),List.length_replicate,fun k U=>(by cases U),List.nodup_nil,fun k h0 h1=>by show dQ ((Dk.fresh n m).at k)=0; rw [A4]; exact Es⟩
 ·have e:fe (Pl.fresh f).ag=0:=by
   rw [fe,List.count_eq_zero]
   intro hh
   obtain ⟨x,I,hc⟩:=List.mem_map.1 hh
   rw [J x I] at hc
   cases hc
  show ([]:List Wr).length+fe (Pl.fresh f).ag≤_
  rw [e]; decide
theorem oc.fresh {n m f:Nat}: oc (Am.fresh n m f) (List.replicate n []):=fun k w hw=>by
 rw [G4,G3]
 exact (List.eq_of_mem_replicate (List.mem_of_getElem? hw)).symm
structure W3 (told:Nat→Option (List V→H→Option (V×H))): Prop where
 w:W2 told
 aw:∃g,told 11=some g∧∀h,g [] h=some (.bool true,h)
theorem L0 {h:H}{S:List ah}{cs:List V}{m:List ik}{i:Nat}{x:ik}(s:Sat h (fZ cs m::S))(U:m[i]?=some x):
  ∃w d,(cs.drop (i*4)).take 4=[.int .i64 x.act,.int .i64 x.bX,w,d]∧Sat h (kf w d x::fZ cs m::S):=by
 obtain ⟨a,b,q1,q2,q3⟩:=s.at (k:=0) rfl
 obtain ⟨u,v,e1,e2⟩:=vW q3 U
 refine ⟨u,v,e1,(s.dup (aq.fZ _ _)).dY (B:=kf u v x) fun a b h => ?_⟩
 obtain ⟨u',v',I,J⟩:=vW h U
 rw [e1] at I
 injection I with _ I
 injection I with _ I
 injection I with hu I
 injection I with hv _
 subst hu
 subst hv
 exact J
theorem sn {h:H}{S:List ah}{cs:List V}{m:List ik}{k:Nat}(s:Sat h S)(I:getA S k=some (fZ cs m)): cs.length=m.length*4:=by
 obtain ⟨a,b,U,q2,J⟩:=s.at I
 exact Er J
section
variable {told:Nat→Option (List V→H→Option (V×H))} {h:H} {S:List ah} {X:ah} {r k q p a g aK N B:Nat} {op v x pv nv wv dv lv:V} {l data:List Nat} {ε:aM} {ps nx:List (List Nat)} {L:List ik} {cs:List V}
theorem Jd (I:W3 told)(s:Sat h S): Call ⟨Tryz.prog,told⟩ 11 [] h fun v h'=>v=.bool true∧h'=h:=by
 obtain ⟨g,J,U⟩:=I.aw
 exact ⟨_,_,fb.told J Tryz.func11 rfl (U h),rfl,rfl⟩
end
end Go.Proofs.YtconhghphklfjaaGreat.Am
namespace Go.Proofs.YtconhghphklfjaaGreat.Am
open Go
structure W4 (told:Nat→Option (List V→H→Option (V×H))): Prop where
 w:W3 told
 pr:told 101=some (ju Tryz.prog 101 yT)
theorem W4.wr {told:Nat→Option (List V→H→Option (V×H))}(h:W4 told): WR told:=⟨h.w.w.w,h.pr⟩
section
variable {told:Nat→Option (List V→H→Option (V×H))} {h:H} {S:List ah} {X:ah} {dv:V} {data:List Nat}
end
end Go.Proofs.YtconhghphklfjaaGreat.Am
