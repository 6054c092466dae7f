/- After a crash the log has the records of the groups that are there and no others, with their numbers and data; the conditions are those of the given statement, for arguments that a machine can hold. Part 54 of 54. -/
import Derived.Test.YtconhghphklfjaaGreatL46
import Derived.Test.YtconhghphklfjaaGreatL53
import Derived.Test.YtconhghphklfjaaGreatL52
import Derived.Test.YtconhghphklfjaaGreatRows
import Derived.WalkKit
import Derived.ProofKit
import Derived.OpenShut
import Derived.JoinedCond
import Derived.ChangeBook
import Derived.ChangeStays
namespace Go.Proofs.YtconhghphklfjaaGreat.Am
open Go Go.ChangeShapes Go.WideShapes Go.ChangeAt Go.RowKit
noncomputable def yV (f:Nat): Option (List V→H→Option (V×H)) :=
 cond (Nat.beq f 101) (some (ju Tryz.prog 101 yT)) (vZ f)
noncomputable abbrev CE : cf:=⟨Tryz.prog,yV⟩
theorem JC : W4 yV:=by
 refine ⟨⟨⟨⟨fun f I => ?_,rfl,rfl⟩,rfl,rfl⟩,toldAw,rfl,fun _=>rfl⟩,rfl⟩
 have J:f≠101:=fun e=>by subst e; revert I; decide
 simp only [yV,bT J,cond_false]
 exact Jw.w.w.free f I
theorem Bj : eM CE:=by
 intro f g I
 simp only [CE,yV] at I ⊢
 by_cases J:f=101
 ·subst J
  rw [eH rfl,cond_true] at I
  simp only [Option.some.injEq] at I
  subst I
  exact rZ ⟨_,Tryz.func101,rfl,by decide⟩
 ·rw [bT J,cond_false] at I
  exact Jx f g I
theorem fb.U8 {f:FuncId}{args:List V}{h h':H}{v:V}(J:fb CE f args h v h'){c:Ctx}{w:World}(I:Rel c h w)(hw:∀x∈args,wf c x): ei Tryz.prog f args c w v h':=by
 obtain ⟨N,U⟩:=J
 exact (pU (C:=CE) (yH gq Bj N).1 Bj U I hw).1
end Go.Proofs.YtconhghphklfjaaGreat.Am
namespace Go.Proofs.YtconhghphklfjaaGreat.Am
open Go Go.ChangeShapes Go.WideShapes Go.ChangeAt Go.RowKit
theorem Hv {H':Type}{enc:TypeId×Value→H'}{W:World}{I J:Nat}{x1 x2:DataW H'×List MemPlace}{v0 v1:Value}(h1:DataW.trod enc Tryz.prog W 0 (fun _=>true) true I 56 [v0]=some x1)(Ow:Rows.uptoBulk x1.1≤1048576)
 (h2:DataW.trod enc Tryz.prog W 0 (fun _=>true) true J 32 [v1]=some x2)(Ox:Rows.uptoBulk x2.1≤1048576):
  Calls Tryz.prog 6 #[v0,v1] W fun e w'=>e=.returned (.bool true)∧W.keptBut w' (fun _=>False)∧W.heap.size≤w'.heap.size∧∀b,b<W.heap.size→w'.heap[b]?=W.heap[b]?:=by
 obtain ⟨c0,VN,h0⟩:=sq.zero W
 obtain ⟨c1,Jy,Rf,L,GZ,_,qL,Su,hL,hD⟩:=JB h1 Ow c0 VN [] h0
 obtain ⟨lv,rfl,U9⟩:=pL qL
 obtain ⟨c,σ,U7,ch,hr,uc,E6,Sv,_⟩:=xg h2 Ox c1 Jy _ GZ
 obtain ⟨cv,rfl,EZ⟩:=pL E6
 have Fb:=bG uc lv (Su lv (by simp)).1
 obtain ⟨U_,s⟩:=eA.1 hr.2.2
 have s0:=s
 obtain ⟨_,_,_,_,hk⟩:=s0.at (k:=0) rfl
 have e:[cv]=[U_]:=hk.1
 injection e with e _
 subst e
 have s:=s.dY (B:=.bp cv ch) fun _ _ k=>k.2
 obtain ⟨Va,s⟩:=eA.1 (s.aa [1])
 obtain ⟨cs,s⟩:=eA.1 s
 have s0:=s
 obtain ⟨_,_,_,_,hk⟩:=s0.at (k:=0) rfl
 have e:[lv]=[Va]:=hk.1
 injection e with e _
 subst e
 have s1:=((s.dY (B:=.an (gd 4 lv cs) (fZ cs L)) fun _ _ k=>k.2).dup (aq.an (aq.gd _ _ _) (aq.fZ _ _))).dY (B:=gd 4 lv cs) (fun _ _ k=>k.1) |>.aa [1] |>.dY (B:=fZ cs L) (fun _ _ k=>k.2) |>.aa [1]
 obtain ⟨v',h',vg,rfl⟩:=L6 JC (c:=ch) (cv:=cv) hD hL (s1.aa [0,0,0])
 have U:=vg.U8 hr.1 (fun x hx=>by
  rcases List.mem_cons.1 hx with rfl | hx
  ·exact Fb.2
  ·rw [List.mem_singleton.1 hx]; exact (Sv cv (by simp)).1)
 unfold ei at U
 have ea:(([lv,cv].map (conc c)).toArray) = #[v0,v1]:=by simp [Fb.1,U9,EZ]
 rw [ea] at U
 refine Calls.mono U ?_
 rintro e w' ⟨c',rfl,_,_,hs⟩
 obtain ⟨k1,k2,k3⟩:=Cg hr.2.1 hs
 exact ⟨by simp [conc],k1,k2,k3⟩
end Go.Proofs.YtconhghphklfjaaGreat.Am
namespace Go.Proofs.YtconhghphklfjaaGreat.AtomLogs
open Go.ChangeShapes Go.WideShapes Go.ChangeAt Go.RowKit
theorem own : ownKnob Tryz.prog.godebug=none:=by kernel_rfl
theorem laid : laidOutB Tryz.prog=true:=by kernel_rfl
theorem Oy : Tryz.prog.readableRec 56=true:=by kernel_rfl
theorem row : (56:TypeId)<Tryz.prog.types.size:=of_decide_eq_true (by kernel_rfl)
theorem KF : Tryz.prog.readableRec 32=true:=by kernel_rfl
theorem Sw : (32:TypeId)<Tryz.prog.types.size:=of_decide_eq_true (by kernel_rfl)
set_option maxRecDepth 100000 in
theorem JD (H:Type)(enc:TypeId×Value→H)(W:World)(base:Nat)(args:Array Value)(ds gs:List (DataW H))(before:List MemPlace)
 (I:∀(j:Nat) t v,Tryz.f6.params[j]?=some t→args[j]?=some v→Value.okWide Tryz.prog W .any base t v)
 (hW:DataW.Whole enc Tryz.prog Tryz.f6.params.toList Rows.atomLogsSpec.vars false W args.toList ds gs before)(hk:Rows.uptoBulkAll (ds++gs)≤1048576):
  Calls Tryz.prog 6 args W fun e W'=>∃v,e=.returned v∧Rows.atomLogsSpec.post enc Tryz.prog Tryz.f6 false true false false W args v W':=by
 have Oz:=hW
 obtain ⟨p,q,Vb,hV,rfl,oY,nH⟩:=hW
 have hA:DataW.TrodAll enc Tryz.prog W 0 (fun _=>true) true Tryz.f6.params.toList args.toList ds p:=Vb
 rw [Tryz.params6] at hA I
 obtain ⟨v0,WE,d0,WG,p0,q0,Kc,rfl,rfl,h0,r0⟩:=trodAll_cons hA
 obtain ⟨v1,Rf,d1,WH,p1,q1,rfl,rfl,rfl,h1,r1⟩:=trodAll_cons r0
 obtain ⟨rfl,rfl,rfl⟩:=trodAll_nil r1
 obtain rfl:args = #[v0,v1]:=by cases args; simp_all
 obtain ⟨rfl,rfl⟩:=trodVars_none hV
 obtain ⟨J,h0⟩:=h0
 obtain ⟨fuel,h1⟩:=h1
 have OA:v0.cells.toList=[v0]:=by
  have:=I 0 56 v0 rfl rfl
  simp only [Value.okWide,Tryz.underlying56,Cell.okWide,Cell.ok] at this
  split at this <;> first | rfl | exact this.elim
 have sC:v1.cells.toList=[v1]:=by
  have:=I 1 32 v1 rfl rfl
  simp only [Value.okWide,Tryz.underlying32,Cell.okWide,Cell.ok] at this
  split at this <;> first | rfl | exact this.elim
 have Vc:=h0
 rw [OA] at h0
 have NZ:=h1
 rw [sC] at h1
 have Ci:Rows.uptoBulk d0≤1048576:=by
  have:=Am.kN (l:=([d0,d1]++([]:List (DataW H)))) (d:=d0) (by simp)
  exact Nat.le_trans this hk
 have hb:Rows.uptoBulk d1≤1048576:=by
  have:=Am.kN (l:=([d0,d1]++([]:List (DataW H)))) (d:=d1) (by simp)
  exact Nat.le_trans this hk
 refine (Am.Hv h0 Ci h1 hb).mono fun e W' ⟨he,hg,hs,U⟩ => ?_
 subst he
 have bB:∀x∈p1,x.block<W.heap.size:=fun x hx=>Oz.lt x (by simp [hx])
 have OB:∀x∈p0,x.block<W.heap.size:=fun x hx=>Oz.lt x (by simp [hx])
 have bX:∀ {p:List MemPlace},(∀x∈p,x.block<W.heap.size)→∀x∈p,match x with | .cell b off=>W'.cell? ⟨b,off,none⟩=W.cell? ⟨b,off,none⟩ | .map b=>W'.heap[b]?=W.heap[b]?:=fun hp x hx=>by
  have hl:=hp x hx
  cases x with
  | cell b off =>
   show W'.cell? ⟨b,off,none⟩=W.cell? ⟨b,off,none⟩
   unfold World.cell?
   rw [U b hl]
  | map b=>exact U b hl
 have OC:DataW.trod enc Tryz.prog W' 0 (fun b=>decide (b<W.heap.size)) true J 56 v0.cells.toList=some (d0,p0) :=
  DataW.trod_stays (kids_book laid Oy) (book_sized Oy) (fun h=>by cases h) ⟨row,book_self _⟩ Vc (bX OB) (fun x hx=>by simpa using OB x hx)
 have PL:DataW.trod enc Tryz.prog W' 0 (fun b=>decide (b<W.heap.size)) true fuel 32 v1.cells.toList=some (d1,p1) :=
  DataW.trod_stays (kids_book laid KF) (book_sized KF) (fun h=>by cases h) ⟨Sw,book_self _⟩ NZ (bX bB) (fun x hx=>by simpa using bB x hx)
 exact ⟨_,rfl,⟨_,[],_,[],_,[],Oz,trodAll_cons_mk (shut_bool Tryz.underlying4 _) trodAll_mk0,trodAll_cons_mk ⟨J,OC⟩ (trodAll_cons_mk ⟨fuel,PL⟩ trodAll_mk0),rfl,World.keptBut_mono (fun _ f=>f.elim) hg,fun h=>by cases h⟩⟩
set_option maxRecDepth 100000 in
theorem lifted (os:Os)(started:os.Started)(H:Type)(enc:TypeId×Value→H)(F:Stop.Interp):
  ReturnsInHanded {} Tryz.checked os 6 .any ((Rows.OpenSpec.upto Rows.atomLogsSpec).pre6 enc Tryz.prog Tryz.f6 Rows.atomLogsUptoRow.domain false) (((Rows.OpenSpec.upto Rows.atomLogsSpec).at F).post enc Tryz.prog Tryz.f6 false true false false):=by
 refine returnsInHanded_of_cond (C:=Tryz.checked) (s:=Rows.OpenSpec.upto Rows.atomLogsSpec) (k:=Rows.uptoSmall) rfl own started (by kernel_rfl) Tryz.func6
  (OpenSpec.witness (enc:=enc) (C:=Tryz.checked) (s:=Rows.OpenSpec.upto Rows.atomLogsSpec) (k:=Rows.uptoSmall) rfl false ⟨#[], #[.slice none 0 0,.slice none 0 0],[]⟩ 8 (by kernel_rfl) (by kernel_rfl) (by kernel_rfl)
   (x:=([.nil,.nil],[],[])) (by kernel_rfl) rfl (by kernel_rfl)) ?_
 intro W base args ds gs before I J _ U _
 exact JD H enc W base args ds gs before I J (of_decide_eq_true U)
theorem bq : Rows.atomLogsUptoRow.holds Tryz.pinned (Rows.OpenSpec.upto Rows.atomLogsSpec) :=
 OpenClaim.holds_of_cond 6 Tryz.f6 rfl rfl rfl rfl rfl rfl rfl ⟨rfl,rfl,rfl,rfl,rfl⟩ rfl rfl rfl rfl rfl (by kernel_rfl) Tryz.func6 (by kernel_rfl)
  (of_decide_eq_true (by kernel_rfl)) (by unfold Func.isWrapper; first | (rw [if_pos (by decide +kernel)]; kernel_rfl) | (rw [if_neg (by decide +kernel)]; exact ⟨rfl,rfl⟩))
  (fun os started H enc _ F=>lifted os started H enc F)
theorem proved : Rows.AtomLogsUptoSaid :=
 bq
#print axioms proved
end Go.Proofs.YtconhghphklfjaaGreat.AtomLogs
