/- ChainNeeds: a part of its proof; conditions: its statement's. -/
import Derived.Test.YtefepnnfphdkpaaGreatB33
import Derived.Test.YtefepnnfphdkpaaGreatRows
import Derived.WalkKit
import Derived.ProofKit
import Derived.OpenShut
namespace Go.Proofs.YtefepnnfphdkpaaGreat.Am
open Go
theorem Eo {W:World}{n f:Int}(hn:n<9223372036854775808)(hf:0≤f):
  Calls Tryz.prog 3 #[.int .i64 n,.int .u8 f] W fun e w'=>e=.returned (.bool true)∧W.keptBut w' (fun _=>False):=by
 obtain ⟨c,σ,J⟩:=LR.zero W
 obtain ⟨f,rfl⟩:∃k:Nat,f=k:=⟨f.toNat,by omega⟩
 obtain ⟨v',h',Ii,rfl⟩:=J3 LS (f:=f) hn J.2.2
 have I:=Ii.Wd J.1 (fun x hx=>by
  rcases List.mem_cons.1 hx with rfl | hx
  ·exact aa
  ·rw [List.mem_singleton.1 hx]; exact aa)
 unfold fV at I
 refine Calls.mono I ?_
 rintro e w' ⟨c',rfl,_,_,hs⟩
 obtain ⟨k1,k2,k3⟩:=En J.2.1 hs
 exact ⟨by simp [conc],k1⟩
end Go.Proofs.YtefepnnfphdkpaaGreat.Am
namespace Go.Proofs.YtefepnnfphdkpaaGreat.ChainNeeds
open Go.ChangeShapes Go.WideShapes Go.ChangeAt Go.RowKit
theorem QC {n:Int}(h:(Lit.int .i64 n).wf=true): n<9223372036854775808:=by
 simp only [Lit.wf,Bool.and_eq_true,decide_eq_true_eq] at h
 have I:=h.2
 have e:IntKind.max .i64=9223372036854775807:=by decide
 rw [e] at I
 omega
theorem QD {n:Int}(h:(Lit.int .u8 n).wf=true): 0≤n:=by
 simp only [Lit.wf,Bool.and_eq_true,decide_eq_true_eq] at h
 have I:=h.1
 have e:IntKind.min .u8=0:=by decide
 rw [e] at I
 exact I
theorem own : ownKnob Tryz.prog.godebug=none:=by kernel_rfl
set_option maxRecDepth 100000 in
theorem lifted (os:Os)(started:os.Started)(H:Type)(enc:TypeId×Value→H):
  ReturnsInHanded {} Tryz.checked os 3 .any (Rows.chainNeedsSpec.pre6 enc Tryz.prog Tryz.f3 Rows.chainNeedsRow.domain false) (Rows.chainNeedsSpec.post enc Tryz.prog Tryz.f3 false true false false):=by
 refine returnsInHanded_of_change (C:=Tryz.checked) own started (by kernel_rfl) Tryz.func3
  (ChangeSpec.witness6 (enc:=enc) (C:=Tryz.checked) false ⟨#[], #[.int .i64 0,.int .u8 0],[]⟩ 8 (by kernel_rfl) (by kernel_rfl) (by kernel_rfl) (by kernel_rfl)) ?_
 intro W base args ds gs before I hW WK _
 have J:∀(j:Nat) t v,Tryz.f3.params[j]?=some t→args[j]?=some v→Value.okWide Tryz.prog W .any base t v:=I
 have S1:=hW
 obtain ⟨p,q,S2,hV,rfl,rV,rY⟩:=hW
 have hA:DataW.TrodAll enc Tryz.prog W 0 (fun _=>true) true Tryz.f3.params.toList args.toList ds p:=S2
 rw [Tryz.params3] at hA J
 obtain ⟨v0,Xo,d0,Xp,p0,q0,vT,rfl,rfl,h0,r0⟩:=trodAll_cons hA
 obtain ⟨v1,Xq,d1,Xr,p1,q1,rfl,rfl,rfl,h1,r1⟩:=trodAll_cons r0
 obtain ⟨rfl,rfl,rfl⟩:=trodAll_nil r1
 obtain rfl:args = #[v0,v1]:=by cases args; simp_all
 obtain ⟨rfl,rfl⟩:=trodVars_none hV
 obtain ⟨a0,rfl,rfl,rfl,w0⟩:=open_int Tryz.underlying3 (J 0 3 v0 rfl rfl) h0
 obtain ⟨a1,rfl,rfl,rfl,w1⟩:=open_int Tryz.underlying5 (J 1 5 v1 rfl rfl) h1
 clear S2 I
 simp only [List.append_nil] at S1
 refine (Am.Eo (n:=a0) (f:=a1) (QC w0) (QD w1)).mono fun e W' ⟨he,hg⟩ => ?_
 subst he
 exact ⟨_,rfl,⟨_,[],_,[],[],[],S1,trodAll_cons_mk (shut_bool Tryz.underlying4 _) trodAll_mk0,trodAll_cons_mk (shut_int Tryz.underlying3 w0) (trodAll_cons_mk (shut_int Tryz.underlying5 w1) trodAll_mk0),rfl,World.keptBut_mono (fun _ f=>f.elim) hg,fun h=>by cases h⟩⟩
theorem bI : Rows.chainNeedsRow.holds Tryz.pinned (OpenSpec.ofChange Rows.chainNeedsSpec) :=
 OpenClaim.holds_of_wide 3 Tryz.f3 rfl rfl rfl rfl rfl rfl rfl ⟨rfl,rfl,rfl,rfl,rfl⟩ rfl rfl rfl rfl rfl (by kernel_rfl) Tryz.func3 (by kernel_rfl)
  (of_decide_eq_true (by kernel_rfl)) (by unfold Func.isWrapper; first | (rw [if_pos (by decide +kernel)]; kernel_rfl) | (rw [if_neg (by decide +kernel)]; exact ⟨rfl,rfl⟩))
  (fun os started H enc _=>lifted os started H enc)
theorem proved : Rows.ChainNeedsSaid :=
 bI
#print axioms proved
end Go.Proofs.YtefepnnfphdkpaaGreat.ChainNeeds
