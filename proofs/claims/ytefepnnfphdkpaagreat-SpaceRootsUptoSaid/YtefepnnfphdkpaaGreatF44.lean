/- SpaceRoots: a part of its proof; conditions: its statement's. -/
import Derived.Test.YtefepnnfphdkpaaGreatF34
import Derived.Test.YtefepnnfphdkpaaGreatF43
import Derived.Test.YtefepnnfphdkpaaGreatRows
import Derived.WalkKit
import Derived.ProofKit
import Derived.OpenShut
import Derived.JoinedCond
import Derived.ChangeBook
import Derived.ChangeStays
namespace Go.Proofs.YtefepnnfphdkpaaGreat.Am
open Go Go.ChangeShapes Go.WideShapes Go.ChangeAt Go.RowKit
noncomputable def Qk (P:Program)(t:TypeId): Array Field:=match P.underlying t with
 | some (.struct I)=>I
 | _ => #[]
def Je (I:Array Field)(i:Nat): Option (TypeId×Nat):=(I[i]?).map fun f=>(f.type,f.offset)
theorem Zm : Tryz.prog.underlying 67=some (.struct (Qk Tryz.prog 67)):=by kernel_rfl
theorem TY : Tryz.prog.cellsOf 67=3:=by kernel_rfl
theorem Ng : Tryz.prog.cellsOf 3=1:=by kernel_rfl
theorem Zn : (Qk Tryz.prog 67).size=3:=by kernel_rfl
theorem Zo : Je (Qk Tryz.prog 67) 0=some (3,0):=by kernel_rfl
theorem Zp : Je (Qk Tryz.prog 67) 1=some (3,1):=by kernel_rfl
theorem Zq : Je (Qk Tryz.prog 67) 2=some (3,2):=by kernel_rfl
theorem E_ {J:Array Field}{i:Nat}{t:TypeId}{o:Nat}(h:Je J i=some (t,o)): ∃f,J[i]?=some f∧f.type=t∧f.offset=o:=by
 unfold Je at h
 obtain ⟨f,h1,I⟩:=Option.map_eq_some_iff.1 h
 simp only [aF] at I
 exact ⟨f,h1,I.1,I.2⟩
theorem Ql {α:Type}{l:List α}(h:l.length=3): ∃a b c,l=[a,b,c]:=by
 rcases l with _ | ⟨a,_ | ⟨b,_ | ⟨c,_ | ⟨d,l⟩⟩⟩⟩ <;> simp at h
 exact ⟨a,b,c,rfl⟩
def d3E (vs:List V)(D:Int×Int×Int): au:=.pu (vs=[.int .i64 D.1,.int .i64 D.2.1,.int .i64 D.2.2])
def d3A (l:List V)(m:List (Int×Int×Int)): au:=.pu (l=yw m)
section
variable {H':Type} {enc:TypeId×Value→H'} {W:World} {fuel B:Nat} {cs:List Value} {x:DataW H'×List MemPlace}
theorem Vz (h:DataW.trod enc Tryz.prog W 0 (fun _=>true) true fuel 67 cs=some x): oI W cs d3E (fun _=>True):=by
 obtain ⟨xs,n,rfl,rfl,hl,hx,hf⟩:=DataW.trod_struct Zm h
 rw [TY] at hl
 rw [Zn] at hx
 obtain ⟨f0,a0,b0,c0⟩:=E_ Zo
 obtain ⟨f1,a1,b1,c1⟩:=E_ Zp
 obtain ⟨f2,a2,b2,c2⟩:=E_ Zq
 have h0:=hf 0 f0 a0
 have h1:=hf 1 f1 a1
 have h2:=hf 2 f2 a2
 rw [b0,c0,Ng] at h0
 rw [b1,c1,Ng] at h1
 rw [b2,c2,Ng] at h2
 obtain ⟨v0,v1,v2,rfl⟩:=Ql hl
 obtain ⟨y0,y1,y2,rfl⟩:=Ql hx
 have h0:DataW.trod enc Tryz.prog W 0 (fun _=>true) true n 3 [v0]=some y0:=h0
 have h1:DataW.trod enc Tryz.prog W 0 (fun _=>true) true n 3 [v1]=some y1:=h1
 have h2:DataW.trod enc Tryz.prog W 0 (fun _=>true) true n 3 [v2]=some y2:=h2
 obtain ⟨m0,I,_,_⟩:=DataW.trod_int bD h0
 injection I with I _
 subst I
 obtain ⟨m1,J,_,_⟩:=DataW.trod_int bD h1
 injection J with J _
 subst J
 obtain ⟨m2,rP,_,_⟩:=DataW.trod_int bD h2
 injection rP with rP _
 subst rP
 exact fun c σ S hr=>⟨c,σ,[.int .i64 m0,.int .i64 m1,.int .i64 m2],(m0,m1,m2),hr.sat fun h s=>(s.gA (φ:=True) aa).hO fun a b k=>rfl,Ext.refl c,by simp [conc],fun v hv=>by
  simp only [fq,lP,qT] at hv
  rcases hv with rfl | rfl | rfl <;> exact ⟨aa,rfl⟩,aa⟩
theorem SU (h:DataW.trod enc Tryz.prog W 0 (fun _=>true) true fuel 61 cs=some x)(hB:Rows.uptoBulk x.1≤B): oI W cs (Qi 3 d3A) (fun xs=>xs.length≤B∧∀y∈xs,True) :=
 Qj (E:=d3E) Ao TY (by decide) (fun _ _=>aW.pu _) (fun _ _=>aW.pu _) (fun _ _=>rfl) (fun vs x l m a b I J=>by
  have I:vs=[.int .i64 x.1,.int .i64 x.2.1,.int .i64 x.2.2]:=I
  have J:l=yw m:=J
  subst I
  subst J
  exact (rfl:_=yw (x::m))) (fun n cs y hy _=>Vz hy) h hB
end
end Go.Proofs.YtefepnnfphdkpaaGreat.Am
namespace Go.Proofs.YtefepnnfphdkpaaGreat.Am
open Go Go.ChangeShapes Go.WideShapes Go.ChangeAt Go.RowKit
noncomputable def GQ (f:Nat): Option (List V→H→Option (V×H)) :=
 cond (Nat.beq f 31) (some (kD Tryz.prog 31 (IE 31))) (cond (Nat.beq f 139) (some (kD Tryz.prog 139 EW)) (cond (Nat.beq f 145) (some (kD Tryz.prog 145 O4)) (cond (Nat.beq f 173) (some (kD Tryz.prog 173 GO)) (A_ f))))
noncomputable abbrev C6 : cL:=⟨Tryz.prog,GQ⟩
theorem SV : W6 GQ:=by
 refine ⟨⟨⟨⟨fun f I => ?_,rfl,rfl⟩,rfl,rfl⟩,rfl⟩,rfl⟩
 have J:f≠31:=fun e=>by subst e; revert I; decide
 have h2:f≠139:=fun e=>by subst e; revert I; decide
 have h3:f≠145:=fun e=>by subst e; revert I; decide
 have h4:f≠173:=fun e=>by subst e; revert I; decide
 simp only [GQ,dc J,dc h2,dc h3,dc h4,az]
 exact W.base.free f I
theorem Jf : fy C6:=by
 intro f g I
 simp only [C6,GQ] at I ⊢
 by_cases J:f=31
 ·subst J
  rw [gP rfl,ag] at I
  simp only [aq] at I
  subst I
  exact vc ⟨_,IF,rfl,by decide⟩
 rw [dc J,az] at I
 by_cases h2:f=139
 ·subst h2
  rw [gP rfl,ag] at I
  simp only [aq] at I
  subst I
  exact vc ⟨_,zX,rfl,by decide⟩
 rw [dc h2,az] at I
 by_cases h3:f=145
 ·subst h3
  rw [gP rfl,ag] at I
  simp only [aq] at I
  subst I
  exact vc ⟨_,Tryz.func145,rfl,by decide⟩
 rw [dc h3,az] at I
 by_cases h4:f=173
 ·subst h4
  rw [gP rfl,ag] at I
  simp only [aq] at I
  subst I
  exact vc ⟨_,IW,rfl,by decide⟩
 rw [dc h4,az] at I
 exact ir f g I
theorem hG.ok6 {f:FuncId}{args:List V}{h h':H}{v:V}(J:hG C6 f args h v h'){c:Ctx}{w:World}(I:Rel c h w)(hw:∀x∈args,wf c x): gh Tryz.prog f args c w v h':=by
 obtain ⟨N,hN⟩:=J
 exact (tV (C:=C6) (xk j3 Jf N).1 Jf hN I hw).1
theorem Ke {H':Type}{enc:TypeId×Value→H'}{W:World}{I J:Nat}{x1 x2:DataW H'×List MemPlace}{v0 v1:Value}(h1:DataW.trod enc Tryz.prog W 0 (fun _=>true) true I 61 [v0]=some x1)(hB1:Rows.uptoBulk x1.1≤1048576)
 (h2:DataW.trod enc Tryz.prog W 0 (fun _=>true) true J 28 [v1]=some x2)(hB2:Rows.uptoBulk x2.1≤1048576):
  Calls Tryz.prog 6 #[v0,v1] W fun e w'=>e=.returned (.bool true)∧W.keptBut w' (fun _=>False)∧W.heap.size≤w'.heap.size∧∀b,b<W.heap.size→w'.heap[b]?=W.heap[b]?:=by
 obtain ⟨c0,σ0,h0⟩:=Ap.zero W
 obtain ⟨c1,Yb,vs1,L,lW,_,uo,aby,hL⟩:=SU h1 hB1 c0 σ0 [] h0
 obtain ⟨lv,rfl,hlv⟩:=Ls uo
 obtain ⟨c,σ,vs2,ch,hr,BU,rP,abz,_⟩:=Vy h2 hB2 c1 Yb _ lW
 obtain ⟨cv,rfl,Nv⟩:=Ls rP
 have pY:=cg BU lv (aby lv (by simp)).1
 obtain ⟨cv',s⟩:=gN.1 hr.2.2
 have s0:=s
 obtain ⟨_,_,_,_,hk⟩:=s0.at (k:=0) rfl
 have e:[cv]=[cv']:=hk.1
 injection e with e _
 subst e
 have s:=s.hO (B:=.cx cv ch) fun _ _ k=>k.2
 obtain ⟨lv',s⟩:=gN.1 (s.ae [1])
 obtain ⟨cs,s⟩:=gN.1 s
 have s0:=s
 obtain ⟨_,_,_,_,hk⟩:=s0.at (k:=0) rfl
 have e:[lv]=[lv']:=hk.1
 injection e with e _
 subst e
 have ec:cs=yw L:=hk.2.2
 subst ec
 have s1:=s.hO (B:=xP 3 lv (yw L)) fun _ _ k=>k.2.1
 obtain ⟨v',h',yO,rfl⟩:=Qh SV (c:=ch) (cv:=cv) hL.1 s1
 have me:=yO.ok6 hr.1 (fun x hx=>by
  rcases List.mem_cons.1 hx with rfl | hx
  ·exact pY.2
  ·rw [List.mem_singleton.1 hx]; exact (abz cv (by simp)).1)
 unfold gh at me
 have ea:(([lv,cv].map (conc c)).toArray) = #[v0,v1]:=by simp [pY.1,hlv,Nv]
 rw [ea] at me
 refine Calls.mono me ?_
 rintro e w' ⟨c',rfl,_,_,hs⟩
 obtain ⟨k1,k2,k3⟩:=Kc hr.2.1 hs
 exact ⟨by simp [conc],k1,k2,k3⟩
end Go.Proofs.YtefepnnfphdkpaaGreat.Am
namespace Go.Proofs.YtefepnnfphdkpaaGreat.SpaceRoots
open Go.ChangeShapes Go.WideShapes Go.ChangeAt Go.RowKit
theorem own : ownKnob Tryz.prog.godebug=none:=by kernel_rfl
theorem laid : laidOutB Tryz.prog=true:=by kernel_rfl
theorem Na : Tryz.prog.readableRec 61=true:=by kernel_rfl
theorem row : (61:TypeId)<Tryz.prog.types.size:=of_decide_eq_true (by kernel_rfl)
theorem TZ : Tryz.prog.readableRec 28=true:=by kernel_rfl
theorem abA : (28:TypeId)<Tryz.prog.types.size:=of_decide_eq_true (by kernel_rfl)
set_option maxRecDepth 100000 in
theorem SW (H:Type)(enc:TypeId×Value→H)(W:World)(base:Nat)(args:Array Value)(ds gs:List (DataW H))(before:List MemPlace)
 (I:∀(j:Nat) t v,Tryz.f6.params[j]?=some t→args[j]?=some v→Value.okWide Tryz.prog W .any base t v)
 (hW:DataW.Whole enc Tryz.prog Tryz.f6.params.toList Rows.spaceRootsSpec.vars false W args.toList ds gs before)(hk:Rows.uptoBulkAll (ds++gs)≤1048576):
  Calls Tryz.prog 6 args W fun e W'=>∃v,e=.returned v∧Rows.spaceRootsSpec.post enc Tryz.prog Tryz.f6 false true false false W args v W':=by
 have Yd:=hW
 obtain ⟨p,q,hA0,hV,rfl,wj,ni⟩:=hW
 have hA:DataW.TrodAll enc Tryz.prog W 0 (fun _=>true) true Tryz.f6.params.toList args.toList ds p:=hA0
 rw [Tryz.params6] at hA I
 obtain ⟨v0,vs0,d0,ds0,p0,q0,GL,rfl,rfl,h0,r0⟩:=trodAll_cons hA
 obtain ⟨v1,vs1,d1,ds1,p1,q1,rfl,rfl,rfl,h1,r1⟩:=trodAll_cons r0
 obtain ⟨rfl,rfl,rfl⟩:=trodAll_nil r1
 obtain rfl:args = #[v0,v1]:=by cases args; simp_all
 obtain ⟨rfl,rfl⟩:=trodVars_none hV
 obtain ⟨J,h0⟩:=h0
 obtain ⟨fuel,h1⟩:=h1
 have Ye:v0.cells.toList=[v0]:=by
  have:=I 0 61 v0 rfl rfl
  simp only [Value.okWide,Tryz.underlying61,Cell.okWide,Cell.ok] at this
  split at this <;> first | rfl | exact this.elim
 have uT:v1.cells.toList=[v1]:=by
  have:=I 1 28 v1 rfl rfl
  simp only [Value.okWide,Tryz.underlying28,Cell.okWide,Cell.ok] at this
  split at this <;> first | rfl | exact this.elim
 have h0':=h0
 rw [Ye] at h0
 have XK:=h1
 rw [uT] at h1
 have yg:Rows.uptoBulk d0≤1048576:=by
  have:=Am.Aq (l:=([d0,d1]++([]:List (DataW H)))) (d:=d0) (by simp)
  exact Nat.le_trans this hk
 have hb:Rows.uptoBulk d1≤1048576:=by
  have:=Am.Aq (l:=([d0,d1]++([]:List (DataW H)))) (d:=d1) (by simp)
  exact Nat.le_trans this hk
 refine (Am.Ke h0 yg h1 hb).mono fun e W' ⟨he,hg,hs,T0⟩ => ?_
 subst he
 have bF:∀x∈p1,x.block<W.heap.size:=fun x hx=>Yd.lt x (by simp [hx])
 have Yf:∀x∈p0,x.block<W.heap.size:=fun x hx=>Yd.lt x (by simp [hx])
 have mD:∀ {p:List MemPlace},(∀x∈p,x.block<W.heap.size)→∀x∈p,match x with | .cell b off=>W'.cell? ⟨b,off,none⟩=W.cell? ⟨b,off,none⟩ | .map b=>W'.heap[b]?=W.heap[b]?:=fun hp x hx=>by
  have hl:=hp x hx
  cases x with
  | cell b off =>
   show W'.cell? ⟨b,off,none⟩=W.cell? ⟨b,off,none⟩
   unfold World.cell?
   rw [T0 b hl]
  | map b=>exact T0 b hl
 have Yg:DataW.trod enc Tryz.prog W' 0 (fun b=>decide (b<W.heap.size)) true J 61 v0.cells.toList=some (d0,p0) :=
  DataW.trod_stays (kids_book laid Na) (book_sized Na) (fun h=>by cases h) ⟨row,book_self _⟩ h0' (mD Yf) (fun x hx=>by simpa using Yf x hx)
 have AN:DataW.trod enc Tryz.prog W' 0 (fun b=>decide (b<W.heap.size)) true fuel 28 v1.cells.toList=some (d1,p1) :=
  DataW.trod_stays (kids_book laid TZ) (book_sized TZ) (fun h=>by cases h) ⟨abA,book_self _⟩ XK (mD bF) (fun x hx=>by simpa using bF x hx)
 exact ⟨_,rfl,⟨_,[],_,[],_,[],Yd,trodAll_cons_mk (shut_bool Tryz.underlying4 _) trodAll_mk0,trodAll_cons_mk ⟨J,Yg⟩ (trodAll_cons_mk ⟨fuel,AN⟩ trodAll_mk0),rfl,World.keptBut_mono (fun _ f=>f.elim) hg,fun h=>by cases h⟩⟩
set_option maxRecDepth 100000 in
theorem lifted (os:Os)(started:os.Started)(H:Type)(enc:TypeId×Value→H)(F:Stop.Interp):
  ReturnsInHanded {} Tryz.checked os 6 .any ((Rows.OpenSpec.upto Rows.spaceRootsSpec).pre6 enc Tryz.prog Tryz.f6 Rows.spaceRootsUptoRow.domain false) (((Rows.OpenSpec.upto Rows.spaceRootsSpec).at F).post enc Tryz.prog Tryz.f6 false true false false):=by
 refine returnsInHanded_of_cond (C:=Tryz.checked) (s:=Rows.OpenSpec.upto Rows.spaceRootsSpec) (k:=Rows.uptoSmall) rfl own started (by kernel_rfl) Tryz.func6
  (OpenSpec.witness (enc:=enc) (C:=Tryz.checked) (s:=Rows.OpenSpec.upto Rows.spaceRootsSpec) (k:=Rows.uptoSmall) rfl false ⟨#[], #[.slice none 0 0,.slice none 0 0],[]⟩ 8 (by kernel_rfl) (by kernel_rfl) (by kernel_rfl)
   (x:=([.nil,.nil],[],[])) (by kernel_rfl) rfl (by kernel_rfl)) ?_
 intro W base args ds gs before I J _ hk _
 exact SW H enc W base args ds gs before I J (of_decide_eq_true hk)
theorem b_ : Rows.spaceRootsUptoRow.holds Tryz.pinned (Rows.OpenSpec.upto Rows.spaceRootsSpec) :=
 OpenClaim.holds_of_cond 6 Tryz.f6 rfl rfl rfl rfl rfl rfl rfl ⟨rfl,rfl,rfl,rfl,rfl⟩ rfl rfl rfl rfl rfl (by kernel_rfl) Tryz.func6 (by kernel_rfl)
  (of_decide_eq_true (by kernel_rfl)) (by unfold Func.isWrapper; first | (rw [if_pos (by decide +kernel)]; kernel_rfl) | (rw [if_neg (by decide +kernel)]; exact ⟨rfl,rfl⟩))
  (fun os started H enc _ F=>lifted os started H enc F)
theorem proved : Rows.SpaceRootsUptoSaid :=
 b_
#print axioms proved
end Go.Proofs.YtefepnnfphdkpaaGreat.SpaceRoots
