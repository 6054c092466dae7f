/- SpaceAll: a part of its proof; conditions: its statement's. -/
import Derived.Test.YtefepnnfphdkpaaGreatA11
import Derived.Test.YtefepnnfphdkpaaGreatA12
namespace Go.Proofs.YtefepnnfphdkpaaGreat.Am
open Go
def jB (h:H): Prop:=∀id o,T.get h.tr id=some o→id<h.next
theorem jB.new {h:H}(hw:jB h)(o:Obj): jB (h.new o):=by
 intro id q I
 rw [fJ] at I
 show id<h.next+1
 split at I
 ·omega
 ·exact Nat.lt_succ_of_lt (hw id q I)
theorem jB.put {h:H}(hw:jB h){id:Nat}(J:id<h.next)(o:Option Obj): jB (h.put id o):=by
 intro j q I
 rw [b8] at I
 show j<h.next
 split at I
 ·omega
 ·exact hw j q I
structure cV (k:Nat)(S:List Nat)(h h':H): Prop where
 wf:jB h'
 le:h.next≤h'.next
 bd:h'.next≤h.next+k
 get:∀id,id<h.next→id∉S→T.get h'.tr id=T.get h.tr id
theorem cV.refl {h:H}(hw:jB h)(S:List Nat): cV 0 S h h:=⟨hw,aE _,aE _,fun _ _ _=>rfl⟩
theorem cV.trans {k k':Nat}{S S':List Nat}{h h' I:H}(a:cV k S h h')(b:cV k' S' h' I)(hs:∀i∈S',i∈S∨h.next≤i): cV (k+k') S h I:=by
 refine ⟨b.wf,b5 a.le b.le,by have:=a.bd; have:=b.bd; omega,fun id J hn => ?_⟩
 rw [b.get id (fZ J a.le) (fun hm => ?_),a.get id J hn]
 rcases hs id hm with h1 | h1
 ·exact hn h1
 ·omega
theorem cV.mono {k k':Nat}{S S':List Nat}{h h':H}(a:cV k S h h')(J:k≤k')(hs:∀i∈S,i∈S'): cV k' S' h h' :=
 ⟨a.wf,a.le,b5 a.bd (vf J _),fun id I hn=>a.get id I (fun hm=>hn (hs id hm))⟩
theorem cV.row {k:Nat}{S:List Nat}{h h':H}(a:cV k S h h')(hw:jB h){id:Nat}{o:Obj}(I:T.get h.tr id=some o)(J:id∉S): T.get h'.tr id=some o:=by
 rw [a.get id (hw id o I) J]; exact I
theorem cV.vy {h:H}(hw:jB h)(o:Obj): cV 1 [] h (h.new o) :=
 ⟨hw.new o,o_ _,aE _,fun id I _=>by rw [fJ,ai (by omega)]⟩
theorem cV.LU {h:H}(hw:jB h){id:Nat}(I:id<h.next)(o:Option Obj): cV 0 [id] h (h.put id o) :=
 ⟨hw.put I o,aE _,aE _,fun j _ J=>by rw [b8,ai (fun e=>J (by simp [e]))]⟩
theorem bZ (l:List Nat): (ofBytes l).length=l.length:=by simp [ofBytes]
theorem qR (l m:List Nat): ofBytes (l++m)=ofBytes l++ofBytes m:=by simp [ofBytes]
def View (h:H)(v:V)(l:List Nat): Prop:=(∀b∈l,b<256)∧(((v=.bq∨∃a,v=.sle a)∧l=[]) ∨
 ∃id off cap n cs st,v=.sl id off l.length cap∧T.get h.tr id=some (.cells n cs st)∧cs.length=n∧off+l.length≤n∧(cs.drop off).take l.length=ofBytes l ∧
  (match cap with | .exact c=>l.length≤c | .rest e _=>e=1))
def gZ (h:H)(v:V)(l:List Nat): Prop:=(∀b∈l,b<256)∧((v=.bq∧l=[]) ∨
 (∃id cs c,v=.sl id 0 l.length (.exact c)∧T.get h.tr id=some (.cells c (ofBytes l++cs) false)∧l.length+cs.length=c) ∨
 (∃id,v=.sl id 0 l.length (.rest 1 0)∧T.get h.tr id=some (.cells l.length (ofBytes l) false)∧1≤l.length))
def rowIds : V→List Nat
 | .sl id _ _ _=>[id]
 | _=>[]
theorem gZ.view {h:H}{v:V}{l:List Nat}(I:gZ h v l): View h v l:=by
 obtain ⟨hl,I⟩:=I
 refine ⟨hl,?_⟩
 rcases I with I | ⟨id,cs,c,rfl,J,hc⟩ | ⟨id,rfl,J,h1⟩
 ·exact .inl ⟨.inl I.1,I.2⟩
 ·refine .inr ⟨id,0,.exact c,c,_,false,rfl,J,by simp [bZ,hc],by omega,?_,by show l.length≤c; omega⟩
  rw [ej,nf (bZ l)]
 ·refine .inr ⟨id,0,.rest 1 0,_,_,false,rfl,J,bZ l,by omega,?_,rfl⟩
  rw [ej]
  exact eA (by rw [bZ]; exact aE _)
theorem View.lp {k:Nat}{S:List Nat}{h h':H}{v:V}{l:List Nat}(hv:View h v l)(hw:jB h)(I:cV k S h h')(J:∀i∈rowIds v,i∉S): View h' v l:=by
 obtain ⟨hl,hv⟩:=hv
 refine ⟨hl,?_⟩
 rcases hv with hv | ⟨id,off,cap,n,cs,st,rfl,hg,h1,h2,h3,h4⟩
 ·exact .inl hv
 ·exact .inr ⟨id,off,cap,n,cs,st,rfl,I.row hw hg (J id (by simp [rowIds])),h1,h2,h3,h4⟩
theorem gZ.lp {k:Nat}{S:List Nat}{h h':H}{v:V}{l:List Nat}(hv:gZ h v l)(hw:jB h)(J:cV k S h h')(hn:∀i∈rowIds v,i∉S): gZ h' v l:=by
 obtain ⟨hl,hv⟩:=hv
 refine ⟨hl,?_⟩
 rcases hv with hv | ⟨id,cs,c,rfl,I,hc⟩ | ⟨id,rfl,I,h1⟩
 ·exact .inl hv
 ·exact .inr (.inl ⟨id,cs,c,rfl,J.row hw I (hn id (by simp [rowIds])),hc⟩)
 ·exact .inr (.inr ⟨id,rfl,J.row hw I (hn id (by simp [rowIds])),h1⟩)
theorem View.len {h:H}{v:V}{l:List Nat}(hv:View h v l): lenV Tryz.prog h 28 v=some (.int .i64 l.length):=by
 obtain ⟨_,hv⟩:=hv
 rcases hv with ⟨rfl | ⟨I,rfl⟩,rfl⟩ | ⟨id,off,cap,n,cs,st,rfl,_⟩ <;> simp [lenV,aM]
theorem View.rdN {h:H}{id off len:Nat}{cap:Cap}{l:List Nat}(hv:View h (.sl id off len cap) l): len=l.length∧rdN h id off len=some (ofBytes l):=by
 obtain ⟨_,hv⟩:=hv
 rcases hv with ⟨I,_⟩ | ⟨tX,off',J,n,cs,st,I,hg,h1,h2,h3,h4⟩
 ·rcases I with I | ⟨_,I⟩ <;> cases I
 ·injection I with e1 e2 e3 e4
  subst e1; subst e2; subst e3
  refine ⟨rfl,?_⟩
  unfold Am.rdN
  simp only [hg]
  rw [aB.2 h2,af]
  cases hc:(Nat.beq off 0&&Nat.beq l.length n) with
  | true =>
   simp only [aG,beq_iff] at hc
   obtain ⟨rfl,hn⟩:=hc
   rw [af,←h3,ej,eA (by omega)]
  | false=>rw [ay,h3]
theorem Ab : ∃i,Tryz.prog.info? 5=some i∧i.size=1∧i.bytes=1:=by
 refine ⟨_,(show Tryz.prog.info? 5=some ((Tryz.prog.info? 5).getD default) by kernel_rfl),by kernel_rfl,by kernel_rfl⟩
theorem p9 : zeroT Tryz.prog 5=some (.int .u8 0):=by kernel_rfl
theorem F1 {h:H}{x:V}{m:List Nat}(J:View h x m): srcV h 1 x=some (ofBytes m,m.length):=by
 obtain ⟨hl,I⟩:=J
 rcases I with ⟨rfl | ⟨ea,rfl⟩,rfl⟩ | ⟨id,off,cap,n,cs,st,rfl,hg,h1,h2,h3,h4⟩
 ·rfl
 ·rfl
 ·simp only [srcV,cq]
  rw [(View.rdN (l:=m) ⟨hl,.inr ⟨id,off,cap,n,cs,st,rfl,hg,h1,h2,h3,h4⟩⟩).2]
  rfl
theorem uj {h:H}{s x:V}{l m:List Nat}(hw:jB h)(hs:gZ h s l)(hx:View h x m)(dW:l.length+m.length≤140737488355328):
  ∃v' h',appendV Tryz.prog h #[28,28] s x=some (v',h')∧gZ h' v' (l++m)∧cV 1 (rowIds s) h h'∧(∀i∈rowIds v',i∈rowIds s∨h.next≤i):=by
 obtain ⟨i,hi,i1,i2⟩:=Ab
 have J:∀b∈l++m,b<256:=fun b hb=>by
  rcases List.mem_append.1 hb with hb | hb
  ·exact hs.1 b hb
  ·exact hx.1 b hb
 have O8:iW (l.length+m.length) 1=true:=sC.2 ⟨dW,by omega⟩
 unfold appendV
 simp only [aM,hi,p9,i1,i2,V.cells,bf,bR,F1 hx]
 rw [show (Nat.ble 1 1&&Nat.ble 1 4096&&Nat.beq (0+1) 1)=true from rfl,af]
 cases hm:Nat.beq m.length 0 with
 | true =>
  have xq:m=[]:=js (beq_iff.1 hm)
  subst xq
  rw [af,fH]
  have I:=hs
  obtain ⟨_,I⟩:=I
  rcases I with ⟨rfl,rfl⟩ | ⟨id,cs,c,rfl,hg,hc⟩ | ⟨id,rfl,hg,h1⟩
  ·exact ⟨_,_,rfl,hs,(cV.refl hw _).mono (eO _) (fun _ h=>h),fun i hi=>.inl hi⟩
  ·exact ⟨_,_,rfl,hs,(cV.refl hw _).mono (eO _) (fun _ h=>h),fun i hi=>.inl hi⟩
  ·exact ⟨_,_,rfl,hs,(cV.refl hw _).mono (eO _) (fun _ h=>h),fun i hi=>.inl hi⟩
 | false =>
  have xq:1≤m.length:=by
   rcases rq m.length with h0 | h0
   ·rw [gr h0] at hm; cases hm
   ·exact h0
  rw [ay]
  have sE:∀(σ:H) (old:List Nat),jB σ→1≤(old++m).length→(∀b∈old++m,b<256)→gZ (j7 σ 1 (ofBytes old) (ofBytes m) (old.length+m.length)).2 (j7 σ 1 (ofBytes old) (ofBytes m) (old.length+m.length)).1 (old++m):=by
   intro σ old _ h1 h2
   refine ⟨h2,.inr (.inr ⟨σ.next,?_,?_,h1⟩)⟩
   ·simp only [j7,bK]
   ·simp only [j7]
    rw [fJ,aq rfl,cq,bK,qR]
  have I:=hs
  obtain ⟨_,I⟩:=I
  rcases I with ⟨rfl,rfl⟩ | ⟨id,cs,c,rfl,hg,hc⟩ | ⟨id,rfl,hg,h1⟩
  ·simp only
   have SO:iW m.length 1=true:=by simpa using O8
   rw [SO,af]
   have:=sE h [] hw (by simpa using xq) (by simpa using hx.1)
   simp only [bR,dH,dh] at this
   exact ⟨_,_,rfl,by rw [dh]; exact this,(cV.vy hw _).mono (aE _) (fun i hi=>by simp at hi),fun i hi=>.inr (by simp [rowIds] at hi; omega)⟩
  ·simp only [cq,dH]
   have hv:=gZ.view hs
   cases hq:Nat.ble (l.length+m.length) c with
   | true =>
    have mC:=aB.1 hq
    rw [af]
    unfold wrN
    simp only [hg,bZ]
    rw [hq,af]
    simp only
    have wM:(cond (Nat.beq l.length 0&&Nat.beq m.length c) (ofBytes m) ((ofBytes l++cs).take l.length++(ofBytes m++(ofBytes l++cs).drop (l.length+m.length))))=ofBytes (l++m)++cs.drop m.length:=by
     have e1:(ofBytes l++cs).take l.length=ofBytes l:=nf (bZ l)
     have e2:(ofBytes l++cs).drop (l.length+m.length)=cs.drop m.length:=by
      rw [vh,bZ,show l.length+m.length-l.length=m.length from by omega,fY (by rw [bZ]; omega),dh]
     cases hz:(Nat.beq l.length 0&&Nat.beq m.length c) with
     | true =>
      simp only [aG,beq_iff] at hz
      have BU:l=[]:=js hz.1
      subst BU
      have j8:cs.drop m.length=[]:=fY (by simp at hc; omega)
      simp [j8]
     | false=>rw [ay,e1,e2,qR,eZ]
    rw [wM]
    refine ⟨_,_,rfl,⟨J,.inr (.inl ⟨id,cs.drop m.length,c,by simp,?_,by simp; omega⟩)⟩,(cV.LU hw (hw id _ hg) _).mono (eO _) (fun i hi=>by simpa [rowIds] using hi),fun i hi=>.inl (by simpa [rowIds] using hi)⟩
    rw [b8,aq rfl]
   | false =>
    rw [ay,O8,af,hv.rdN.2]
    simp only
    exact ⟨_,_,rfl,sE h l hw (by simp; omega) J,(cV.vy hw _).mono (aE _) (fun i hi=>by simp at hi),fun i hi=>.inr (by simp [rowIds] at hi; omega)⟩
  ·simp only [dm,af,cq,dH]
   have hv:=gZ.view hs
   have BQ:iV h id 0 1=l.length:=by simp [iV,hg]
   have hf:Nat.ble (l.length+m.length) l.length=false:=by
    cases hq:Nat.ble (l.length+m.length) l.length with
    | true=>have:=aB.1 hq; omega
    | false=>rfl
   rw [BQ,hf,ay,O8,show Nat.ble 2 (l.length+m.length)=true from aB.2 (by omega),eN,af,hv.rdN.2,hg]
   simp only
   have nQ:jB (h.put id none):=hw.put (hw id _ hg) _
   refine ⟨_,_,rfl,sE (h.put id none) l nQ (by simp; omega) J,?_,fun i hi=>.inr (by simp [rowIds,H.put] at hi; omega)⟩
   refine ((cV.LU hw (hw id _ hg) none).trans (S':=[]) (cV.vy nQ _) (fun i hi=>by simp at hi)).mono (aE _) (fun i hi=>by simpa [rowIds] using hi)
section
variable {P:Program} {E:List (Nat×V)} {h h₁:H} {x y a b:Operand} {v u r:V}
theorem bT (I:lookO E x=some v): opE P E h (.move x)=some (v,h):=by simp only [opE,gY,I]
theorem eW (I:lookO E x=some v): opE P E h (.assign x)=some (v,h):=by simp only [opE,gY,I]
theorem nm (I:lookO E x=some (.bool true))(J:lookO E a=some v): opE P E h (.pick x a b)=some (v,h):=by simp only [opE,gY,I,af,J]
theorem iB (I:lookO E x=some (.bool false))(J:lookO E b=some v): opE P E h (.pick x a b)=some (v,h):=by simp only [opE,gY,I,ay,J]
theorem sM {i o:Nat}(I:lookO E x=some (.ptr i o)): opE P E h (.nilCheck x)=some (.ptr i o,h):=by simp only [opE,gY,I]
theorem nq {t i:Nat}(I:lookO E x=some v)(J:fieldAddrV P t v i=some r): opE P E h (.fieldAddr t x i)=some (r,h):=by simp only [opE,gY,I,J,aJ]
theorem bp {t:TypeId}(I:lookO E x=some v)(J:loadV P h t v=some r): opE P E h (.load t x)=some (r,h):=by simp only [opE,gY,I,J,aJ]
theorem ED {t:TypeId}(I:lookO E x=some v)(J:lookO E y=some u)(hf:fR P h t v u=some h₁): opE P E h (.store t x y)=some (bB,h₁):=by simp only [opE,qC,I,J,hf,kP]
theorem ag {op:BinOp}{t t':TypeId}(I:lookO E x=some v)(J:lookO E y=some u)(hf:binV P h op t x y v u=some r): opE P E h (.binOp op t x y t')=some (r,h):=by simp only [opE,qC,I,J,hf,aJ]
theorem eP {op:UnOp}{t:TypeId}(I:lookO E x=some v)(J:unV op v=some r): opE P E h (.unOp op t x)=some (r,h):=by simp only [opE,gY,I,J,aJ]
theorem cM {s d:TypeId}(I:lookO E x=some v)(J:convV P h s d v=some (r,h₁)): opE P E h (.convert s d x)=some (r,h₁):=by simp only [opE,gY,I,J]
theorem cI {t:TypeId}(I:lookO E x=some v)(J:lookO E y=some u)(hf:indexAddrV P t v u=some r): opE P E h (.indexAddr t x y)=some (r,h):=by simp only [opE,qC,I,J,hf,aJ]
theorem B8 {t:TypeId}(I:lookO E x=some v)(J:lookO E y=some u)(hf:indexV P t v u=some r): opE P E h (.index t x y)=some (r,h):=by simp only [opE,qC,I,J,hf,aJ]
theorem qE {i:Nat}{l:List V}(I:lookO E x=some (.aX l))(J:nth l i=some r): opE P E h (.extract x i)=some (r,h):=by simp only [opE,gY,I,J,aJ]
theorem cW {t:TypeId}{ps:Array (Nat×Operand)}{l:List (Nat×V)}(I:lookParts E ps.toList=some l)(J:buildV P t l=some r): opE P E h (.build t ps)=some (r,h):=by simp only [opE,I,J,aJ]
theorem fB {t:TypeId}(I:lookO E x=some v)(hs:v.cells.all storable=true): opE P E h (.box t x)=some (.ptr h.next 0,newRow h v.cells):=by simp only [opE,gY,I,hs,af]
theorem cz {t:TypeId}(I:zeroT P t=some v): opE P E h (.alloc t)=some (.ptr h.next 0,newRow h v.cells):=by simp only [opE,I]
theorem nJ {t:TypeId}(I:lookO E x=some v)(J:makeIfaceV P t v=some r): opE P E h (.makeInterface t x)=some (r,h):=by simp only [opE,gY,I,J,aJ]
theorem LV {f:Fn}{p q:Array Operand}{l m:List V}(I:lookArgs E p.toList=some l)(J:lookArgs E q.toList=some m): opE P E h (.makeFunc f p q)=some (.fn f l m,h):=by simp only [opE,I,J]
theorem aQ {c:Go.Call}{t:TypeId}(I:c.callee=.builtin .len)(J:lookArgs E c.args.toList=some [v])(ht:c.argTypes.toList=[t])(hf:lenV P h t v=some r): opE P E h (.call c)=some (r,h):=by
 simp only [opE,I,J,builtinV,ht,hf,gN]
theorem kS {c:Go.Call}(I:c.callee=.builtin .append)(J:lookArgs E c.args.toList=some [v,u])(hf:appendV P h c.argTypes v u=some (r,h₁)): opE P E h (.call c)=some (r,h₁):=by
 simp only [opE,I,J,builtinV,hf]
theorem sN {t:TypeId}(I:lookO E x=some v)(J:lookO E y=some u)(hf:makeSliceV P h t v u=some (r,h₁)): opE P E h (.makeSlice t x y)=some (r,h₁):=by simp only [opE,qC,I,J,hf]
theorem lP {t n:Nat}{ps:Array (Nat×Operand)}{l:List (Nat×V)}(I:lookParts E ps.toList=some l)(J:buildSliceV P h t n l=some (r,h₁)): opE P E h (.buildSlice t n ps)=some (r,h₁):=by simp only [opE,I,J]
theorem eD {t:TypeId}{lo hi mx:Option Operand}{p q m:Option V}{p' q' m':Option Nat}(I:lookO E x=some v)(J:lookOpt E lo=some p)(h2:lookOpt E hi=some q)(h3:lookOpt E mx=some m)
 (g1:gD p=some p')(g2:gD q=some q')(g3:gD m=some m')(hf:sliceV P h t v p' q' m'=some r): opE P E h (.slice t x lo hi mx)=some (r,h):=by simp only [opE,gY,I,J,h2,h3,g1,g2,g3,hf,aJ]
theorem LW {t:TypeId}{id off n:Nat}{cs:List V}{st:Bool}(I:bS P t=some false)(J:T.get h.tr id=some (.cells n cs st))(hn:nth cs off=some v): loadV P h t (.ptr id off)=some v:=by
 simp only [loadV,I,th,J,hn]
theorem cG {t:TypeId}{id n:Nat}{cs:List V}{st:Bool}(I:bS P t=some true)(hs:bh P t=some n)(J:T.get h.tr id=some (.cells n cs st)): loadV P h t (.ptr id 0)=some (.agg cs):=by
 simp only [loadV,I,hs,rdN,J,dH]
 rw [aB.2 (aE n),af,dm,dm]
 rfl
end
section
variable {C:bY} {ax:Nat} {E:List (Nat×V)} {h:H} {R:List (Nat×V)→H→Prop} {L rest:List Oper} {o:Oper} {d:Nat} {cs:List V}
end
section
variable {C:bY} {ax:Nat} {E:List (Nat×V)} {h:H} {R:List (Nat×V)→H→Prop} {L rest:List Oper} {o:Oper} {d:Nat}
theorem AW {h:H}(hw:jB h){b:Nat}(I:b<256):
  ∃v h₁,buildSliceV Tryz.prog h 28 1 [(0,.int .u8 b)]=some (v,h₁)∧gZ h₁ v [b]∧cV 1 [] h h₁∧∀i∈rowIds v,h.next≤i:=by
 refine ⟨.sl h.next 0 1 (.exact 1),newRow h [.int .u8 b],?_,⟨by simpa using I,.inr (.inl ⟨h.next,[],1,rfl,?_,rfl⟩)⟩,cV.vy hw _,fun i hi=>by simp [rowIds] at hi; omega⟩
 ·simp only [buildSliceV,aM,dK,p9,V.cells]
  rfl
 ·rw [newRow,fJ,aq rfl]; rfl
theorem az.F2 {t:TypeId}{ps:Array (Nat×Operand)}{b:Nat}(J:C.P=Tryz.prog)(hw:jB h)(hg:wantE L E o.guard=some true)(hd:o.dst=some d)(hn:Nat.blt d ax=true)(I:o.op=.buildSlice t 1 ps)(ht:t=28)
 (hx:lookParts E ps.toList=some [(0,.int .u8 (b:Int))])(hb:b<256)
 (hr:∀v h₁,gZ h₁ v [b]→cV 1 [] h h₁→(∀i∈rowIds v,h.next≤i)→az C ax L rest ((d,v)::E) h₁ R): az C ax L (o::rest) E h R:=by
 obtain ⟨v,h₁,e1,e2,e3,e4⟩:=AW hw hb
 refine az.op hg hd hn (v:=v) (h₁:=h₁) ?_ (hr v h₁ e2 e3 e4)
 rw [I,ht,J]
 exact lP hx e1
theorem az.app {c:Go.Call}{s x:V}{l m:List Nat}(hP:C.P=Tryz.prog)(hw:jB h)(hg:wantE L E o.guard=some true)(hd:o.dst=some d)(hn:Nat.blt d ax=true)(I:o.op=.call c)(hc:c.callee=.builtin .append)
 (J:c.argTypes = #[28,28])(ha:lookArgs E c.args.toList=some [s,x])(hs:gZ h s l)(hx:View h x m)(dW:l.length+m.length≤140737488355328)
 (hr:∀v h₁,gZ h₁ v (l++m)→cV 1 (rowIds s) h h₁→(∀i∈rowIds v,i∈rowIds s∨h.next≤i)→az C ax L rest ((d,v)::E) h₁ R): az C ax L (o::rest) E h R:=by
 obtain ⟨v,h₁,e1,e2,e3,e4⟩:=uj hw hs hx dW
 refine az.op hg hd hn (v:=v) (h₁:=h₁) ?_ (hr v h₁ e2 e3 e4)
 rw [I,hP]
 exact kS hc ha (by rw [J]; exact e1)
theorem xX {h:H}(hw:jB h){c:Nat}(J:c<1073741824):
  ∃v h₁,makeSliceV Tryz.prog h 28 (.int .i64 0) (.int .i64 (c:Int))=some (v,h₁)∧gZ h₁ v []∧cV 1 [] h h₁∧∀i∈rowIds v,h.next≤i:=by
 obtain ⟨i,hi,i1,i2⟩:=Ab
 refine ⟨.sl h.next 0 0 (.exact c),h.new (.cells c (repeatL [.int .u8 0] c) false),?_,⟨by simp,.inr (.inl ⟨h.next,repeatL [.int .u8 0] c,c,rfl,?_,?_⟩)⟩,cV.vy hw _,fun i hi=>by simp [rowIds] at hi; omega⟩
 ·simp only [makeSliceV,aM,hi,p9,i1,i2,V.cells,bf,bR,cg,cq]
  rw [show (decide ((0:Int)≤0)&&decide ((0:Int)≤(c:Int))&&decide ((c:Int)<1073741824)&&Nat.ble 1 4096&&Nat.beq (0+1) 1&&Nat.ble 1 1)=true by simp; omega,af]
  rfl
 ·rw [fJ,aq rfl]; rfl
 ·have:∀n,(repeatL [V.int .u8 0] n).length=n:=fun n=>by
   induction n with
   | zero=>rfl
   | succ n I=>simp [repeatL,I]
  simp [this]
end
section
variable {C:bY} {ax:Nat} {L rest:List Oper} {E:List (Nat×V)} {h h₁:H} {R:List (Nat×V)→H→Prop} {o:Oper} {d i:Nat} {v u r:V} {x y a b:Operand} {t t':TypeId}
theorem zm (e:(o.op,wantE L E o.guard,o.dst,Nat.blt d ax,lookO E x)=(Op.move x,some true,some d,true,some v))(hw:az C ax L rest ((d,v)::E) h R): az C ax L (o::rest) E h R:=by
  simp only [aC] at e; exact az.op e.2.1 e.2.2.1 e.2.2.2.1 (by rw [e.1]; exact bT e.2.2.2.2) hw
theorem za (e:(o.op,wantE L E o.guard,o.dst,Nat.blt d ax,lookO E x)=(Op.assign x,some true,some d,true,some v))(hw:az C ax L rest ((d,v)::E) h R): az C ax L (o::rest) E h R:=by
  simp only [aC] at e; exact az.op e.2.1 e.2.2.1 e.2.2.2.1 (by rw [e.1]; exact eW e.2.2.2.2) hw
theorem zn {j k:Nat}(e:(o.op,wantE L E o.guard,o.dst,Nat.blt d ax,lookO E x)=(Op.nilCheck x,some true,some d,true,some (V.ptr j k)))(hw:az C ax L rest ((d,.ptr j k)::E) h R): az C ax L (o::rest) E h R:=by
  simp only [aC] at e; exact az.op e.2.1 e.2.2.1 e.2.2.2.1 (by rw [e.1]; exact sM e.2.2.2.2) hw
theorem zf (e:(o.op,wantE L E o.guard,o.dst,Nat.blt d ax,lookO E x)=(Op.fieldAddr t x i,some true,some d,true,some v))(I:fieldAddrV C.P t v i=some r)(hw:az C ax L rest ((d,r)::E) h R): az C ax L (o::rest) E h R:=by
  simp only [aC] at e; exact az.op e.2.1 e.2.2.1 e.2.2.2.1 (by rw [e.1]; exact nq e.2.2.2.2 I) hw
theorem zl (e:(o.op,wantE L E o.guard,o.dst,Nat.blt d ax,lookO E x)=(Op.load t x,some true,some d,true,some v))(I:loadV C.P h t v=some r)(hw:az C ax L rest ((d,r)::E) h R): az C ax L (o::rest) E h R:=by
  simp only [aC] at e; exact az.op e.2.1 e.2.2.1 e.2.2.2.1 (by rw [e.1]; exact bp e.2.2.2.2 I) hw
theorem ze {l:List V}(e:(o.op,wantE L E o.guard,o.dst,Nat.blt d ax,lookO E x,nth l i)=(Op.extract x i,some true,some d,true,some (V.aX l),some r))(hw:az C ax L rest ((d,r)::E) h R): az C ax L (o::rest) E h R:=by
  simp only [aC] at e; exact az.op e.2.1 e.2.2.1 e.2.2.2.1 (by rw [e.1]; exact qE e.2.2.2.2.1 e.2.2.2.2.2) hw
theorem zp (e:(o.op,wantE L E o.guard,o.dst,Nat.blt d ax,lookO E x,lookO E b)=(Op.pick x a b,some true,some d,true,some (V.bool false),some v))(hw:az C ax L rest ((d,v)::E) h R): az C ax L (o::rest) E h R:=by
  simp only [aC] at e; exact az.op e.2.1 e.2.2.1 e.2.2.2.1 (by rw [e.1]; exact iB e.2.2.2.2.1 e.2.2.2.2.2) hw
theorem zq (e:(o.op,wantE L E o.guard,o.dst,Nat.blt d ax,lookO E x,lookO E a)=(Op.pick x a b,some true,some d,true,some (V.bool true),some v))(hw:az C ax L rest ((d,v)::E) h R): az C ax L (o::rest) E h R:=by
  simp only [aC] at e; exact az.op e.2.1 e.2.2.1 e.2.2.2.1 (by rw [e.1]; exact nm e.2.2.2.2.1 e.2.2.2.2.2) hw
theorem zb {op:BinOp}(e:(o.op,wantE L E o.guard,o.dst,Nat.blt d ax,lookO E x,lookO E y)=(Op.binOp op t x y t',some true,some d,true,some v,some u))(I:binV C.P h op t x y v u=some r)(hw:az C ax L rest ((d,r)::E) h R): az C ax L (o::rest) E h R:=by
  simp only [aC] at e; exact az.op e.2.1 e.2.2.1 e.2.2.2.1 (by rw [e.1]; exact ag e.2.2.2.2.1 e.2.2.2.2.2 I) hw
theorem zx (e:(wantE L E o.guard,o.dst,Nat.blt d ax)=(some false,some d,true))(hw:az C ax L rest ((d,bB)::E) h R): az C ax L (o::rest) E h R:=by
  simp only [aC] at e; exact az.no e.1 e.2.1 e.2.2 hw
theorem zo (e:(wantE L E o.guard,o.dst,Nat.blt d ax)=(some true,some d,true))(ho:opE C.P E h o.op=some (v,h₁))(hw:az C ax L rest ((d,v)::E) h₁ R): az C ax L (o::rest) E h R:=by
  simp only [aC] at e; exact az.op e.1 e.2.1 e.2.2 ho hw
theorem zv (I:R E h): az C ax L [] E h R:=az.nil I
variable {Q:Ex→List (Nat×V)→H→Prop} {c f:Code}
theorem zw (hw:WP C ax c E h fun ex E' h'=>match ex with
    | .normal=>WP C ax f E' h' Q
    | ex=>Q ex E' h'): WP C ax (.seq c f) E h Q:=WP.seq hw
theorem zr {k:Nat}{ops:Array Oper}(I:ops.toList=L)(hw:az C ax L L E h fun E' h'=>Q .normal E' h'): WP C ax (.region k ops false) E h Q:=WP.region I hw
theorem zg {k:Nat}{ops:Array Oper}(I:ops.toList=L)(hw:az C ax L L E h fun E' h'=>WP C ax f E' h' Q): WP C ax (.seq (.region k ops false) f) E h Q:=WP.seq (WP.region I hw)
theorem zi (I:lookO E x=some (.bool true))(hw:WP C ax c E h Q): WP C ax (.cond x c f) E h Q:=WP.cond I hw
theorem zj (I:lookO E x=some (.bool false))(hw:WP C ax f E h Q): WP C ax (.cond x c f) E h Q:=WP.cond I hw
end
inductive Md where
  | c (c:Code)
  | o (L l:List Oper)
def xY (C:bY)(ax:Nat)(Q:Ex→List (Nat×V)→H→Prop): List Code→Ex→List (Nat×V)→H→Prop
  | []=>Q
  | b::K=>fun ex E' h'=>match ex with
    | .normal=>WP C ax b E' h' (xY C ax Q K)
    | ex=>xY C ax Q K ex E' h'
def LX : List (Nat×V)→Nat→Option V
  | [],_=>none
  | (d,v)::E,k=>cond (Nat.beq d k) (some v) (LX E k)
theorem HY : ∀(E:List (Nat×V)) (k:Nat),LX E k=look E k
  | [],_=>rfl
  | (d,v)::E,k=>by simp only [LX,look,HY E k]
def xZ (E:List (Nat×V)): Operand→Option V
  | .tmp t=>LX E t
  | .const c=>ofValue c
  | .global _=>none
  | .func f=>some (.fn (.func f) [] [])
theorem HZ (E:List (Nat×V))(x:Operand): xZ E x=lookO E x:=by cases x <;> first | rfl | exact HY _ _
def O9 (E:List (Nat×V)): Op→Option V
  | .move x=>xZ E x
  | .assign x=>xZ E x
  | .nilCheck x=>match xZ E x with
    | some (.ptr j k)=>some (.ptr j k)
    | _=>none
  | .extract x i=>match xZ E x with
    | some (.aX l)=>nth l i
    | _=>none
  | .pick x a b=>match xZ E x with
    | some (.bool true)=>xZ E a
    | some (.bool false)=>xZ E b
    | _=>none
  | _=>none
def runM (ax:Nat): Nat→Md→List (Nat×V)→List Code→Option (Md×List (Nat×V)×List Code)
  | 0,m,E,K=>some (m,E,K)
  | n+1,.o _ [],E,b::K=>runM ax n (.c b) E K
  | n+1,.o L (o::l),E,K=>match wantE L E o.guard,o.dst with
    | some false,some d=>cond (Nat.blt d ax) (runM ax n (.o L l) ((d,bB)::E) K) none
    | some true,some d=>match O9 E o.op with
      | some v=>cond (Nat.blt d ax) (runM ax n (.o L l) ((d,v)::E) K) none
      | none=>none
    | _,_=>none
  | n+1,.c (.seq a b),E,K=>runM ax n (.c a) E (b::K)
  | n+1,.c (.region _ ops false),E,K=>runM ax n (.o ops.toList ops.toList) E K
  | n+1,.c (.cond x a b),E,K=>match xZ E x with
    | some (.bool true)=>runM ax n (.c a) E K
    | some (.bool false)=>runM ax n (.c b) E K
    | _=>none
  | n+1,.c .skip,E,b::K=>runM ax n (.c b) E K
  | _+1,_,_,_=>none
abbrev Gl (C:bY)(ax:Nat)(h:H)(Q:Ex→List (Nat×V)→H→Prop)(m:Md)(E:List (Nat×V))(K:List Code): Prop:=match m with
  | .c c=>WP C ax c E h (xY C ax Q K)
  | .o L l=>az C ax L l E h fun E' h'=>xY C ax Q K .normal E' h'
class B9 (C:bY)(ax:Nat)(R:List (Nat×V)→H→Prop)(Q:outParam (Ex→List (Nat×V)→H→Prop))where
  K:List Code
  eq:R=fun E' h'=>xY C ax Q K .normal E' h'
class LY (C:bY)(ax:Nat)(R:Ex→List (Nat×V)→H→Prop)(Q:outParam (Ex→List (Nat×V)→H→Prop))where
  K:List Code
  eq:R=xY C ax Q K
instance (priority:=50) (C:bY) (ax:Nat) (R:List (Nat×V)→H→Prop):B9 C ax R (fun _=>R):=⟨[],rfl⟩
instance (priority:=60) (C:bY) (ax:Nat) (Q:Ex→List (Nat×V)→H→Prop):B9 C ax (fun E' h'=>Q .normal E' h') Q:=⟨[],rfl⟩
instance (priority:=70) (C:bY) (ax:Nat) (f:Code) (Q:Ex→List (Nat×V)→H→Prop) (K:List Code):B9 C ax (fun E' h'=>WP C ax f E' h' (xY C ax Q K)) Q:=⟨f::K,rfl⟩
instance (priority:=65) (C:bY) (ax:Nat) (f:Code) (Q:Ex→List (Nat×V)→H→Prop):B9 C ax (fun E' h'=>WP C ax f E' h' Q) Q:=⟨[f],rfl⟩
instance (priority:=80) (C:bY) (ax:Nat) (K:List Code) (Q:Ex→List (Nat×V)→H→Prop):B9 C ax (fun E' h'=>xY C ax Q K .normal E' h') Q:=⟨K,rfl⟩
instance (priority:=50) (C:bY) (ax:Nat) (Q:Ex→List (Nat×V)→H→Prop):LY C ax Q Q:=⟨[],rfl⟩
instance (priority:=80) (C:bY) (ax:Nat) (K:List Code) (Q:Ex→List (Nat×V)→H→Prop):LY C ax (xY C ax Q K) Q:=⟨K,rfl⟩
section
variable {C:bY} {ax:Nat} {L l:List Oper} {E E':List (Nat×V)} {h:H} {R:List (Nat×V)→H→Prop} {Q:Ex→List (Nat×V)→H→Prop} {m m':Md} {K K':List Code} {f:Code}
theorem O_ {o:Op}{v:V}(e:O9 E o=some v): opE C.P E h o=some (v,h):=by
  unfold O9 at e
  simp only [HZ] at e
  split at e
  · exact bT e
  · exact eW e
  · split at e
    · rename_i I
      cases e; exact sM I
    · cases e
  · split at e
    · rename_i I
      exact qE I e
    · cases e
  · split at e
    · rename_i I; exact nm I e
    · rename_i I; exact iB I e
    · cases e
  · cases e
theorem EE : ∀(n:Nat) (m:Md) (E:List (Nat×V)) (K:List Code),runM ax n m E K=some (m',E',K')→Gl C ax h Q m' E' K'→Gl C ax h Q m E K:=by
  intro n
  induction n with
  | zero=>intro m E K e hw; simp only [runM,aj,aC] at e; obtain ⟨rfl,rfl,rfl⟩:=e; exact hw
  | succ n I =>
    intro m E K e hw
    unfold runM at e
    split at e
    · rename_i he; cases he
    · rename_i he; cases he
      exact az.nil (I _ _ _ e hw)
    · rename_i he; cases he
      split at e
      · rename_i d hg hd
        cases J:Nat.blt d ax with
        | false=>rw [J] at e; cases e
        | true=>rw [J] at e; exact az.no hg hd J (I _ _ _ e hw)
      · rename_i d hg hd
        split at e
        · rename_i v hv
          cases J:Nat.blt d ax with
          | false=>rw [J] at e; cases e
          | true=>rw [J] at e; exact az.op hg hd J (O_ hv) (I _ _ _ e hw)
        · cases e
      · cases e
    · rename_i he; cases he
      exact WP.seq (I _ _ _ e hw)
    · rename_i he; cases he
      exact WP.region rfl (I _ _ _ e hw)
    · rename_i he; cases he
      rw [HZ] at e
      split at e
      · rename_i hx; exact WP.cond hx (I _ _ _ e hw)
      · rename_i hx; exact WP.cond hx (I _ _ _ e hw)
      · cases e
    · rename_i he; cases he
      exact WP.skip (I _ _ _ e hw)
    · cases e
theorem zk (n:Nat)[a:B9 C ax R Q](e:runM ax n (.o L l) E (B9.K C ax R)=some (m',E',K'))(hw:Gl C ax h Q m' E' K'): az C ax L l E h R:=by
  rw [a.eq]; exact EE n (.o L l) E _ e hw
theorem zK {I:Ex→List (Nat×V)→H→Prop}(n:Nat)[a:LY C ax I Q](e:runM ax n (.c f) E (LY.K C ax I)=some (m',E',K'))(hw:Gl C ax h Q m' E' K'): WP C ax f E h I:=by
  rw [a.eq]; exact EE n (.c f) E _ e hw
end
section
variable {C:bY} {ax:Nat} {L l rest:List Oper} {o:Oper} {E:List (Nat×V)} {h h₁:H} {d:Nat}
def OpR (C:bY)(E:List (Nat×V))(h:H)(o:Oper)(R:V→H→Prop): Prop:=∃v h₁,R v h₁∧∀env,iG env E→∃N,evOp C (ev C N) env h o=some (v,h₁)
theorem OpR.call {cl:Go.Call}{x:Operand}{k:FuncId}{first cap args:List V}{R:V→H→Prop}(J:o.op=.call cl)(hc:cl.callee=.value x)(hx:lookO E x=some (.fn (.func k) first cap))
 (ha:lookArgs E cl.args.toList=some args)(I:Am.Call C k (first++(args++cap)) h R): OpR C E h o R:=by
 obtain ⟨v,h₁,HP,hr⟩:=I
 exact ⟨v,h₁,hr,fun env hE=>AS hE J hc hx ha HP⟩
theorem OpR.of {v:V}{R:V→H→Prop}(ho:opE C.P E h o.op=some (v,h₁))(I:R v h₁): OpR C E h o R:=⟨v,h₁,I,fun _ J=>⟨0,xS J ho⟩⟩
theorem az.any {R:List (Nat×V)→H→Prop}{sK:V→H→Prop}(hg:wantE L E o.guard=some true)(hd:o.dst=some d)(hn:Nat.blt d ax=true)(ho:OpR C E h o sK)
 (hw:∀v h₁,sK v h₁→az C ax L rest ((d,v)::E) h₁ R): az C ax L (o::rest) E h R:=by
 intro env J
 obtain ⟨v,h₁,hr,jO⟩:=ho
 obtain ⟨N,hN⟩:=jO env J
 obtain ⟨M,I,h',E',h1,h2,h3⟩:=hw v h₁ hr (env.set d (some v)) (J.set d v)
 refine ⟨Nat.max N M,I,h',E',?_,h2,h3⟩
 simp only [evOps,iH J hg,af,jH (fL (nc N M)) hN,St.put,hd,hn]
 exact mG (fL (m9 N M)) _ _ _ h1
def F3 : List (Env×V)→List (List (Nat×V)×V)→Prop
 | [],[]=>True
 | x::l,y::m=>iG x.1 y.1∧x.2=y.2∧F3 l m
 | _,_=>False
def aD (C:bY)(ax:Nat)(L l:List Oper)(E:List (Nat×V))(h:H)(hs:List H)(Q:List (Nat×V)→H→List (List (Nat×V)×V)→List H→Prop): Prop :=
 ∀env,iG env E→∃N I h' E' tr ts J,trace C (ev C N) L l ⟨env,ax,h⟩ hs=some (tr,J,⟨I,ax,h'⟩)∧iG I E'∧F3 tr ts∧Q E' h' ts J
variable {hs:List H} {Q:List (Nat×V)→H→List (List (Nat×V)×V)→List H→Prop}
theorem aD.nil (I:Q E h [] hs): aD C ax L [] E h hs Q:=fun env J=>⟨0,env,h,E,[],[],hs,rfl,J,aa,I⟩
theorem aD.any {sK:V→H→Prop}{e:Bool}(hg:wantE L E o.guard=some true)(hd:o.dst=some d)(hn:Nat.blt d ax=true)(he:isEff C o.op=e)(ho:OpR C E h o sK)
 (hw:∀v h₁,sK v h₁→aD C ax L rest ((d,v)::E) h₁ (cond e (hs++[h₁]) hs) fun E' h' ts I=>Q E' h' ((E,v)::ts) I): aD C ax L (o::rest) E h hs Q:=by
 intro env hE
 obtain ⟨v,h₁,hr,jO⟩:=ho
 obtain ⟨N,hN⟩:=jO env hE
 obtain ⟨M,J,h',E',tr,ts,I,h1,h2,h3,h4⟩:=hw v h₁ hr (env.set d (some v)) (hE.set d v)
 refine ⟨Nat.max N M,J,h',E',(env,v)::tr,(E,v)::ts,I,?_,h2,⟨hE,rfl,h3⟩,h4⟩
 simp only [trace,iH hE hg,af,jH (fL (nc N M)) hN,St.put,hd,hn,he]
 rw [sI (fL (m9 N M)) _ _ _ _ h1]
theorem aD.lQ {sK:V→H→Prop}{e:Bool}(hg:wantE L E o.guard=some true)(hd:o.dst=none)(he:isEff C o.op=e)(ho:OpR C E h o sK)
 (hw:∀v h₁,sK v h₁→aD C ax L rest E h₁ (cond e (hs++[h₁]) hs) fun E' h' ts I=>Q E' h' ((E,v)::ts) I): aD C ax L (o::rest) E h hs Q:=by
 intro env hE
 obtain ⟨v,h₁,hr,jO⟩:=ho
 obtain ⟨N,hN⟩:=jO env hE
 obtain ⟨M,J,h',E',tr,ts,I,h1,h2,h3,h4⟩:=hw v h₁ hr env hE
 refine ⟨Nat.max N M,J,h',E',(env,v)::tr,(E,v)::ts,I,?_,h2,⟨hE,rfl,h3⟩,h4⟩
 simp only [trace,iH hE hg,af,jH (fL (nc N M)) hN,St.put,hd,he]
 rw [sI (fL (m9 N M)) _ _ _ _ h1]
theorem aD.op {v:V}(J:wantE L E o.guard=some true)(hd:o.dst=some d)(hn:Nat.blt d ax=true)(he:isEff C o.op=false)(ho:opE C.P E h o.op=some (v,h))
 (hw:aD C ax L rest ((d,v)::E) h hs fun E' h' ts I=>Q E' h' ((E,v)::ts) I): aD C ax L (o::rest) E h hs Q :=
 aD.any J hd hn he (OpR.of (R:=fun v' h'=>v'=v∧h'=h) ho ⟨rfl,rfl⟩) (fun v' h' hr=>by obtain ⟨rfl,rfl⟩:=hr; exact hw)
theorem aD.no {e:Bool}(hg:wantE L E o.guard=some false)(hd:o.dst=some d)(hn:Nat.blt d ax=true)(he:isEff C o.op=e)
 (hw:aD C ax L rest ((d,bB)::E) h (cond e (hs++[h]) hs) fun E' h' ts I=>Q E' h' ((E,bB)::ts) I): aD C ax L (o::rest) E h hs Q:=by
 intro env hE
 obtain ⟨M,J,h',E',tr,ts,I,h1,h2,h3,h4⟩:=hw (env.set d (some bB)) (hE.set d bB)
 refine ⟨M,J,h',E',(env,bB)::tr,(E,bB)::ts,I,?_,h2,⟨hE,rfl,h3⟩,h4⟩
 simp only [trace,iH hE hg,ay,St.put,hd,hn,af,he]
 rw [h1]
def B_ (C:bY)(L:List Oper)(o:Oper)(x:List (Nat×V)×V)(h:H): Prop :=
 wantE L x.1 o.guard=some false∨(wantE L x.1 o.guard=some true∧(∃h',opE C.P x.1 h o.op=some (x.2,h'))∧x.2.beq x.2=true)
def Bz (C:bY)(L:List Oper)(an es:List Nat)(hs:List H): List Oper→List (List (Nat×V)×V)→Nat→Prop
 | o::l,x::tr,i=>(isEff C o.op=true∨(iY ((nth an i).getD 0) es&&Nat.beq (fE ((nth an i).getD 0) es) (g_ an i es))=true ∨
   (iY ((nth an i).getD 0) es=true∧∀h∈(hs.drop (fE ((nth an i).getD 0) es)).take (g_ an i es+1-fE ((nth an i).getD 0) es),B_ C L o x h))∧Bz C L an es hs l tr (i+1)
 | [],[],_=>True
 | _,_,_=>False
theorem H6 {self:Self}{x:Env×V}{y:List (Nat×V)×V}(J:iG x.1 y.1)(hv:x.2=y.2): ∀(hs:List H),(∀h∈hs,B_ C L o y h)→sameIn C self L o x hs=true:=by
 intro hs
 induction hs with
 | nil=>intro _; rfl
 | cons h hs ih =>
  intro I
  simp only [sameIn]
  rcases I h c9 with hg | ⟨hg,⟨h',ho⟩,hb⟩
  ·rw [iH J hg,ay]
  ·rw [iH J hg,af,xS J ho]
   simp only
   rw [hv,hb,af]
   exact ih (fun h hh=>I h (cJ _ hh))
theorem H7 {self:Self}{an es:List Nat}: ∀(l:List Oper) (tr:List (Env×V)) (J:List (List (Nat×V)×V)) (i:Nat),F3 tr J→Bz C L an es hs l J i→stayOk C self L an es hs l tr i=true:=by
 intro l
 induction l with
 | nil=>intro tr J i hn ku; cases tr <;> cases J <;> first | rfl | (exact ku.elim) | (exact hn.elim)
 | cons o l ih =>
  intro tr J i hn ku
  cases tr with
  | nil=>cases J with
   | nil=>exact ku.elim
   | cons y J=>exact hn.elim
  | cons x tr =>
   cases J with
   | nil=>exact hn.elim
   | cons y J =>
    obtain ⟨n1,n2,n3⟩:=hn
    obtain ⟨s1,s2⟩:=ku
    simp only [stayOk]
    have I:=ih tr J (i+1) n3 s2
    cases he:isEff C o.op with
    | true=>rw [af]; exact I
    | false =>
     rw [ay]
     rcases s1 with s1 | s1 | ⟨s1,s3⟩
     ·rw [he] at s1; cases s1
     ·rw [s1,af]; exact I
     ·cases hq:(iY ((nth an i).getD 0) es&&Nat.beq (fE ((nth an i).getD 0) es) (g_ an i es)) with
      | true=>rw [af]; exact I
      | false=>rw [ay,s1,H6 n1 n2 _ s3,eN,af]; exact I
theorem WP.draw {id:Nat}{ops:Array Oper}{Q:Ex→List (Nat×V)→H→Prop}(hl:ops.toList=L)(J:nj C L=true)
 (hw:aD C ax L L E h [h] fun E' h' ts hs=>Bz C L (ancs L []) (ct C L 0) hs L ts 0∧Q .normal E' h'): WP C ax (.region id ops true) E h Q:=by
 intro env hE
 obtain ⟨N,I,h',E',tr,ts,Rw,h1,h2,h3,h4,h5⟩:=hw env hE
 refine ⟨N+1,.normal,I,h',E',?_,h2,h5⟩
 subst hl
 rw [gu]
 simp only [evStep,af,jy,J,h1,H7 _ _ _ _ h3 h4]
end
def planOk (C:bY)(an es:List Nat): List Oper→List (Option (Nat×Nat))→Nat→Bool
 | [],[],_=>true
 | o::l,p::ps,i=>(match p with
   | none=>isEff C o.op||(iY ((nth an i).getD 0) es&&Nat.beq (fE ((nth an i).getD 0) es) (g_ an i es))
   | some (lo,n)=>iY ((nth an i).getD 0) es&&Nat.beq lo (fE ((nth an i).getD 0) es)&&Nat.beq n (g_ an i es+1-fE ((nth an i).getD 0) es))&&planOk C an es l ps (i+1)
 | _,_,_=>false
def x_ (C:bY)(L:List Oper)(hs:List H): List Oper→List (List (Nat×V)×V)→List (Option (Nat×Nat))→Prop
 | o::l,x::tr,p::ps=>(match p with
   | none=>True
   | some (lo,n)=>∀h∈(hs.drop lo).take n,B_ C L o x h)∧x_ C L hs l tr ps
 | [],[],_=>True
 | _,_,_=>False
theorem x_.stay {C:bY}{L:List Oper}{hs:List H}{an es:List Nat}: ∀(l:List Oper) (I:List (List (Nat×V)×V)) (ps:List (Option (Nat×Nat))) (i:Nat),planOk C an es l ps i=true→x_ C L hs l I ps→Bz C L an es hs l I i:=by
 intro l
 induction l with
 | nil=>intro I ps i h1 h2; cases I with
  | nil=>trivial
  | cons x I=>exact h2.elim
 | cons o l ih =>
  intro I ps i h1 h2
  cases I with
  | nil=>cases ps <;> exact h2.elim
  | cons x I =>
   cases ps with
   | nil=>exact h2.elim
   | cons p ps =>
    simp only [planOk,aG] at h1
    obtain ⟨J,a2⟩:=h1
    obtain ⟨b1,b2⟩:=h2
    refine ⟨?_,ih I ps (i+1) a2 b2⟩
    cases p with
    | none =>
     simp only [kN] at J
     rcases J with J | J
     ·exact .inl J
     ·exact .inr (.inl J)
    | some q =>
     obtain ⟨lo,n⟩:=q
     simp only [aG,beq_iff] at J
     obtain ⟨⟨c1,c2⟩,c3⟩:=J
     refine .inr (.inr ⟨c1,?_⟩)
     subst c2
     subst c3
     exact b1
theorem WP.drawn {C:bY}{ax:Nat}{L:List Oper}{E:List (Nat×V)}{h:H}{id:Nat}{ops:Array Oper}{Q:Ex→List (Nat×V)→H→Prop}(ps:List (Option (Nat×Nat)))(hl:ops.toList=L)(J:nj C L=true)
 (hp:planOk C (ancs L []) (ct C L 0) L ps 0=true)
 (hw:aD C ax L L E h [h] fun E' h' ts hs=>x_ C L hs L ts ps∧Q .normal E' h'): WP C ax (.region id ops true) E h Q:=by
 refine WP.draw hl J ?_
 intro env hE
 obtain ⟨N,I,h',E',tr,ts,Rw,h1,h2,h3,h4,h5⟩:=hw env hE
 exact ⟨N,I,h',E',tr,ts,Rw,h1,h2,h3,x_.stay _ _ _ _ hp h4,h5⟩
theorem fh {a b:H}{l:List H}{p:H→Prop}(J:p a)(hb:p b): ∀x∈((a::b::l).drop 0).take 2,p x:=by
 intro x I
 simp only [ej,oU,jx,gn,kM,rJ] at I
 rcases I with rfl | rfl
 ·exact J
 ·exact hb
theorem Ca {a b c:H}{l:List H}{p:H→Prop}(J:p a)(hb:p b)(hc:p c): ∀x∈((a::b::c::l).drop 0).take 3,p x:=by
 intro x I
 simp only [ej,oU,jx,gn,kM,rJ] at I
 rcases I with rfl | rfl | rfl
 ·exact J
 ·exact hb
 ·exact hc
theorem c6 (k:IntKind): ikBeq k k=true:=by cases k <;> rfl
theorem nK (n:Int): intBeq n n=true:=by cases n <;> simp [intBeq]
theorem wm (c:Cap): c.beq c=true:=by cases c <;> simp [Cap.beq]
theorem ya (a b c:Nat)(d:Cap): (V.sl a b c d).beq (.sl a b c d)=true:=by simp [V.beq,wm]
theorem kT {h:H}{v:V}{l:List Nat}(hv:View h v l): v.beq v=true:=by
 obtain ⟨_,hv⟩:=hv
 rcases hv with ⟨rfl | ⟨I,rfl⟩,_⟩ | ⟨id,off,cap,n,cs,st,rfl,_⟩
 ·simp [V.beq]
 ·simp [V.beq]
 ·exact ya _ _ _ _
section
variable {C:bY} {ax:Nat} {L rest:List Oper} {E:List (Nat×V)} {h:H} {hs:List H} {Q:List (Nat×V)→H→List (List (Nat×V)×V)→List H→Prop} {o:Oper} {d i:Nat} {v u r:V} {x y a b:Operand} {t t':TypeId}
theorem zM (e:(o.op,wantE L E o.guard,o.dst,Nat.blt d ax,isEff C o.op,lookO E x)=(Op.move x,some true,some d,true,false,some v))(hw:aD C ax L rest ((d,v)::E) h hs fun E' h' J I=>Q E' h' ((E,v)::J) I): aD C ax L (o::rest) E h hs Q:=by
  simp only [aC] at e; exact aD.op e.2.1 e.2.2.1 e.2.2.2.1 e.2.2.2.2.1 (by rw [e.1]; exact bT e.2.2.2.2.2) hw
theorem zA (e:(o.op,wantE L E o.guard,o.dst,Nat.blt d ax,isEff C o.op,lookO E x)=(Op.assign x,some true,some d,true,false,some v))(hw:aD C ax L rest ((d,v)::E) h hs fun E' h' J I=>Q E' h' ((E,v)::J) I): aD C ax L (o::rest) E h hs Q:=by
  simp only [aC] at e; exact aD.op e.2.1 e.2.2.1 e.2.2.2.1 e.2.2.2.2.1 (by rw [e.1]; exact eW e.2.2.2.2.2) hw
theorem zN {j k:Nat}(e:(o.op,wantE L E o.guard,o.dst,Nat.blt d ax,isEff C o.op,lookO E x)=(Op.nilCheck x,some true,some d,true,false,some (V.ptr j k)))(hw:aD C ax L rest ((d,.ptr j k)::E) h hs fun E' h' J I=>Q E' h' ((E,.ptr j k)::J) I): aD C ax L (o::rest) E h hs Q:=by
  simp only [aC] at e; exact aD.op e.2.1 e.2.2.1 e.2.2.2.1 e.2.2.2.2.1 (by rw [e.1]; exact sM e.2.2.2.2.2) hw
theorem zF (e:(o.op,wantE L E o.guard,o.dst,Nat.blt d ax,isEff C o.op,lookO E x)=(Op.fieldAddr t x i,some true,some d,true,false,some v))(J:fieldAddrV C.P t v i=some r)(hw:aD C ax L rest ((d,r)::E) h hs fun E' h' ts I=>Q E' h' ((E,r)::ts) I): aD C ax L (o::rest) E h hs Q:=by
  simp only [aC] at e; exact aD.op e.2.1 e.2.2.1 e.2.2.2.1 e.2.2.2.2.1 (by rw [e.1]; exact nq e.2.2.2.2.2 J) hw
theorem zL (e:(o.op,wantE L E o.guard,o.dst,Nat.blt d ax,isEff C o.op,lookO E x)=(Op.load t x,some true,some d,true,false,some v))(J:loadV C.P h t v=some r)(hw:aD C ax L rest ((d,r)::E) h hs fun E' h' ts I=>Q E' h' ((E,r)::ts) I): aD C ax L (o::rest) E h hs Q:=by
  simp only [aC] at e; exact aD.op e.2.1 e.2.2.1 e.2.2.2.1 e.2.2.2.2.1 (by rw [e.1]; exact bp e.2.2.2.2.2 J) hw
theorem zO (e:(wantE L E o.guard,o.dst,Nat.blt d ax,isEff C o.op)=(some true,some d,true,false))(ho:opE C.P E h o.op=some (v,h))(hw:aD C ax L rest ((d,v)::E) h hs fun E' h' J I=>Q E' h' ((E,v)::J) I): aD C ax L (o::rest) E h hs Q:=by
  simp only [aC] at e; exact aD.op e.1 e.2.1 e.2.2.1 e.2.2.2 ho hw
end
end Go.Proofs.YtefepnnfphdkpaaGreat.Am
