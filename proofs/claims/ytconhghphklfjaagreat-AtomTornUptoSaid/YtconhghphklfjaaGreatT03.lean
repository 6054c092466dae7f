/- AtomTorn: a part of its proof; conditions: its statement's. -/
import Derived.Test.YtconhghphklfjaaGreatT02
namespace Go.Proofs.YtconhghphklfjaaGreat.Am
open Go
section
variable {P:Program} {c:Ctx} {σ:H} {w:World}
theorem c_ {t:TypeId}{k:Nat}(h:bJ P t=some k)(w:World): (sizeOf t).run P w=.ok k w:=by
 unfold bJ at h
 cases hi:P.info? t with
 | none=>simp [hi] at h
 | some i=>simp [hi] at h; simp [sizeOf,typeInfo,hi,h]
theorem sW {t:TypeId}{b:Bool}(h:b_ P t=some b)(w:World): (isAgg t).run P w=.ok b w:=by
 unfold b_ at h
 cases hu:P.underlying t with
 | none=>simp [hu] at h
 | some d=>cases d <;> simp [hu] at h <;> subst h <;> simp [isAgg,run_underlying hu]
theorem Bj (s:ByteArray): (⟨((s.data.toList.map (·.toNat)).map UInt8.ofNat).toArray⟩:ByteArray)=s:=by
 have:(s.data.toList.map (·.toNat)).map UInt8.ofNat=s.data.toList:=by
  rw [v8]
  have:(UInt8.ofNat∘fun (x:UInt8)=>x.toNat)=id:=by funext x; simp
  rw [this]; simp
 rw [this]
theorem rU {x:Value}{v:V}(h:ofScalar x=some v)(c:Ctx): conc c v=x∧wf c v∧v.cells=[v]:=by
 unfold ofScalar at h
 split at h <;> simp only [au,reduceCtorEq] at h
 all_goals subst h
 all_goals refine ⟨?_,?_,by simp [V.cells]⟩
 all_goals first
  | (simp only [conc]; done)
  | (simp only [wf]; done)
  | (simp only [conc]; rw [Bj])
  | (simp only [wf,nY]; rintro x ⟨y,_,rfl⟩; exact y.toNat_lt)
theorem IZ {l:List Value}{m:List V}(h:mapO ofScalar l=some m)(c:Ctx): m.map (conc c)=l∧(∀v∈m,wf c v):=by
 induction l generalizing m with
 | nil=>simp [mapO] at h; subst h; simp
 | cons x l ih =>
  simp only [mapO] at h
  cases I:ofScalar x with
  | none=>simp [I] at h
  | some y =>
   cases J:mapO ofScalar l with
   | none=>simp [I,J] at h
   | some m' =>
    simp [I,J] at h
    subst h
    have U:=rU I c
    have h2:=ih J
    exact ⟨by simp [U.1,h2.1],by simpa using ⟨U.2.1,h2.2⟩⟩
theorem sX {x:Value}{v:V}(h:ofValue x=some v)(c:Ctx): conc c v=x∧wf c v:=by
 unfold ofValue at h
 split at h
 ·rename_i cs
  cases hm:mapO ofScalar cs.toList with
  | none=>simp [hm] at h
  | some m =>
   simp [hm] at h
   subst h
   have I:=IZ hm c
   refine ⟨?_,?_⟩
   ·simp only [conc,iy,I.1]
   ·simp only [wf,ja]; exact I.2
 ·rename_i vs
  split at h
  ·rename_i J
   simp at h; subst h
   have:vs = #[]:=by simpa using J
   subst this
   exact ⟨by simp [conc,concL],by simp [wf,fW]⟩
  ·simp at h
 ·exact ⟨(rU h c).1,(rU h c).2.1⟩
theorem ga {t:TypeId}{z:V}(h:zeroT P t=some z)(c:Ctx)(w:World): (zeroValue t).run P w=.ok (conc c z) w∧wf c z:=by
 unfold zeroT at h
 cases hi:P.info? t with
 | none=>simp [hi] at h
 | some i =>
  cases I:i.zero with
  | none=>simp [hi,I] at h
  | some x =>
   simp only [hi,I,cE] at h
   have U:ofValue x=some z:=by
    split at h
    ·simp at h
    ·exact h
   have J:=sX U c
   exact ⟨by simp [zeroValue,typeInfo,hi,I,J.1],J.2⟩
theorem sN {x:Value}{v:V}(h:ofScalar x=some v): storable v=true:=by
 unfold ofScalar at h
 split at h <;> simp only [au,reduceCtorEq] at h
 all_goals subst h; rfl
theorem my {t:TypeId}{z:V}(h:zeroT P t=some z): ∀v∈z.cells,storable v=true:=by
 unfold zeroT at h
 split at h
 ·rename_i x hx
  split at h
  ·simp at h
  ·rename_i hn
   unfold ofValue at h
   split at h
   ·rename_i cs
    cases hm:mapO ofScalar cs.toList with
    | none=>simp [hm] at h
    | some m =>
     simp [hm] at h
     subst h
     have:∀(l:List Value) (m:List V),mapO ofScalar l=some m→∀v∈m,storable v=true:=by
      intro l
      induction l with
      | nil=>intro m h; simp [mapO] at h; subst h; simp
      | cons a l ih =>
       intro m h
       simp only [mapO] at h
       cases J:ofScalar a with
       | none=>simp [J] at h
       | some b =>
        cases U:mapO ofScalar l with
        | none=>simp [J,U] at h
        | some m' =>
         simp [J,U] at h
         subst h
         intro v I
         rcases List.mem_cons.1 I with rfl | I
         ·exact sN J
         ·exact ih m' U v I
     exact this _ _ hm
   ·rename_i vs
    split at h
    ·rename_i U9
     simp only [au] at h
     exact absurd (by simp [ofValue,U9]) (hn [])
    ·simp at h
   ·intro v I
    have J:=(rU h ⟨fun _=>(0,0),fun _=>0,0,fun _=>false⟩).2.2
    rw [J] at I
    simp only [vU] at I
    subst I
    exact sN h
 ·simp at h
theorem wZ (c:Ctx)(v:V): (conc c v).cells.toList=v.cells.map (conc c):=by
 cases v with
 | agg l=>simp [conc,Value.cells,V.cells,iy]
 | sl id off len cap=>cases cap <;> simp [conc,Value.cells,V.cells]
 | _=>simp [conc,Value.cells,V.cells]
theorem fJ (c:Ctx)(v:V): (conc c v).cells=(v.cells.map (conc c)).toArray:=by
 rw [←wZ]
theorem kR {v:V}(h:wf c v): ∀x∈v.cells,wf c x:=by
 cases v with
 | agg l=>simpa [V.cells,wf,ja] using h
 | _=>simpa [V.cells] using h
theorem Gy {env:Env}{n:Nat}{a:Act}(he:fu c env n a){x:Operand}{v:V}(h:evO env x=some v): a.eval x=conc c v∧wf c v:=by
 cases x with
 | tmp t=>simp [evO] at h; subst h; exact ⟨by simpa [Act.eval] using he.val t,he.wo t⟩
 | const k=>have:=sX (show ofValue k=some v from h) c; exact ⟨by simp [Act.eval,this.1],this.2⟩
 | global g=>simp [evO] at h
 | func f=>simp [evO] at h; subst h; exact ⟨by simp [Act.eval,conc,concL],by simp [wf,fW]⟩
def fL (c:Ctx)(id off:Nat): Addr:=⟨(c.ρ id).1,(c.ρ id).2+off,none⟩
theorem tV (id off j:Nat): (fL c id off).add j=fL c id (off+j):=by
 simp only [fL,Addr.add_lit,gK]
theorem cell_of {id n:Nat}{cs:List V}{st:Bool}(h:Rel c σ w)(I:σ.tr.get id=some (.cells n cs st)){j:Nat}{v:V}(J:cs[j]?=some v):
  w.cell? (fL c id j)=some (conc c v):=by
 obtain ⟨_,_,C,e,fz,U,_,hc,_⟩:=h.obj id _ I
 simp [World.cell?,fL,U,hc j v J]
theorem ug {id off k:Nat}{vs:List V}(h:Rel c σ w)(I:rdN σ id off k=some vs):
  vs.length=k∧(∀v∈vs,wf c v∧storable v=true)∧∀j x,(vs.map (conc c))[j]?=some x→w.cell? ((fL c id off).add j)=some x:=by
 unfold rdN at I
 split at I
 ·rename_i n cs st hg
  obtain ⟨hn,U,_⟩:=h.obj id _ hg
  cases hb:Nat.ble (off+k) n with
  | false=>simp [hb] at I
  | true =>
   have hle:=aQ.1 hb
   simp only [hb,ag,au] at I
   have U9:vs=(cs.drop off).take k:=by
    rw [←I]
    cases hq:(Nat.beq off 0&&Nat.beq k n) with
    | false=>rfl
    | true =>
     simp only [aZ] at hq
     have h0:=beq_iff.1 hq.1
     have h1:=beq_iff.1 hq.2
     subst h0; simp [h1,hn]
   subst U9
   refine ⟨by simp; omega,fun v J=>U v (iC (gH J)),fun j x hx => ?_⟩
   rw [tV]
   simp only [pH,Option.map_eq_some_iff] at hx
   obtain ⟨v,J,rfl⟩:=hx
   have uh:cs[off+j]?=some v:=by
    rw [mj] at J
    split at J
    ·rwa [jW] at J
    ·simp at J
   exact cell_of h hg uh
 ·simp at I
theorem Ec {id off k:Nat}{vs:List V}(h:Rel c σ w)(I:rdN σ id off k=some vs):
  (loadCells (fL c id off) k).run P w=.ok (vs.map (conc c)).toArray w:=by
 obtain ⟨J,_,U⟩:=ug h I
 have:=run_loadCells_list (P:=P) (w:=w) (fL c id off) (vs.map (conc c)) U
 rwa [eu,J] at this
theorem U_ {id off:Nat}{v:V}(h:Rel c σ w)(I:yb σ id off=some v): w.cell? (fL c id off)=some (conc c v)∧wf c v:=by
 unfold yb at I
 split at I
 ·rename_i n cs st U
  rw [fV] at I
  obtain ⟨_,J,_⟩:=h.obj id _ U
  exact ⟨cell_of h U I,(J v (bw I)).1⟩
 ·simp at I
theorem Gz {t:TypeId}{a v:V}(h:Rel c σ w)(I:loadV P σ t a=some v):
  (Instr.loadAt t (conc c a)).run P w=.ok (conc c v) w∧wf c v:=by
 unfold loadV at I
 split at I
 ·rename_i id off
  have ha:conc c (.ptr id off)=.pointer (some (fL c id off)):=by simp [conc,fL]
  rw [ha]
  split at I
  ·rename_i hg
   split at I
   ·rename_i k hk
    cases J:rdN σ id off k with
    | none=>simp [J] at I
    | some vs =>
     simp [J] at I
     subst I
     have U:=Ec (P:=P) h J
     have h2:=ug h J
     refine ⟨?_,by simp only [wf,ja]; exact fun v hv=>(h2.2.1 v hv).1⟩
     simp [Instr.loadAt,Instr.sureAddr,loadVar,sW hg,c_ hk,U,conc,iy]
   ·simp at I
  ·rename_i hg
   have U:=U_ h I
   exact ⟨by simp [Instr.loadAt,Instr.sureAddr,loadVar,sW hg,U.1],U.2⟩
  ·simp at I
 ·simp at I
def World.setRow (w:World)(b:Nat)(C:Array Value)(e:TypeId)(I:Nat×Nat): World:={ w with heap:=w.heap.setIfInBounds b (.cells C e I) }
theorem I0 {b:Nat}{C:Array Value}{e:TypeId}{U:Nat×Nat}(hb:w.heap[b]?=some (.cells C e U))(p:Nat)(v:Value):
  w.setCell ⟨b,p,none⟩ v=World.setRow w b (C.setIfInBounds p v) e U:=by
 unfold World.setCell World.setRow
 congr 1
 apply qZ
 intro i
 rw [DR,m5]
 obtain ⟨I,J⟩:=Array.getElem?_eq_some_iff.1 hb
 by_cases hi:b=i
 ·subst hi
  simp [I,J]
 ·simp [hi]
theorem ig {b:Nat}{C:Array Value}{e:TypeId}{I:Nat×Nat}(J:b<w.heap.size)(i:Nat):
  (World.setRow w b C e I).heap[i]?=if b=i then some (.cells C e I) else w.heap[i]?:=by
 unfold World.setRow
 simp only [m5,J,bQ]
theorem setRow_setRow {b:Nat}{C D:Array Value}{e:TypeId}{I:Nat×Nat}:
  World.setRow (World.setRow w b C e I) b D e I=World.setRow w b D e I:=by
 unfold World.setRow
 simp
theorem wq : ∀(vs:List Value) (i:Nat) (w:World) (b p:Nat) (C:Array Value) (e:TypeId) (I:Nat×Nat),
  w.heap[b]?=some (.cells C e I)→(∀j,j<C.size→¬ (I.1≤j∧j<I.2))→p+i+vs.length≤C.size→(∀v∈vs,v.oneCell'=true) →
  ∃C',(storeCells ⟨b,p,none⟩ vs i).run P w=.ok () (World.setRow w b C' e I)∧C'.size=C.size ∧
   ∀j,C'[j]?=if p+i≤j∧j<p+i+vs.length then vs[j-(p+i)]? else C[j]?:=by
 intro vs
 induction vs with
 | nil =>
  intro i w b p C e I hb _ _ _
  refine ⟨C,?_,rfl,fun j=>by simp; omega⟩
  have:World.setRow w b C e I=w:=by
   unfold World.setRow
   congr 1
   apply qZ
   intro k
   rw [m5]
   obtain ⟨J,u9⟩:=Array.getElem?_eq_some_iff.1 hb
   by_cases hk:b=k
   ·subst hk; simp [J,u9]
   ·simp [hk]
  simp [storeCells,this]
 | cons v vs ih =>
  intro i w b p C e I hb hf hl ho
  have J:b<w.heap.size:=(Array.getElem?_eq_some_iff.1 hb).1
  simp only [bl] at hl
  have U:w.cell? ⟨b,p+i,none⟩=some (C[p+i]'(by omega)):=by
   simp [World.cell?,hb]
  have Va:w.frozen? ⟨b,p+i,none⟩=false:=by
   have:=hf (p+i) (by omega)
   simp only [World.frozen?,hb]
   simpa using this
  have rV:(store (Addr.add ⟨b,p,none⟩ i) v).run P w=.ok () (World.setRow w b (C.setIfInBounds (p+i) v) e I):=by
   rw [Addr.add_lit,run_store P w _ v _ (ho v (by simp)),U]
   simp only [Va,eY,bN]
   rw [I0 hb]
  obtain ⟨C',h1,h2,h3⟩:=ih (i+1) (World.setRow w b (C.setIfInBounds (p+i) v) e I) b p (C.setIfInBounds (p+i) v) e I
   (by rw [ig J]; simp) (by simpa using hf) (by simp; omega) (fun x hx=>ho x (by simp [hx]))
  refine ⟨C',?_,by simpa using h2,fun j => ?_⟩
  ·simp only [storeCells,Sem.run_bind,rV,Result.andThen_ok,h1,setRow_setRow]
  ·rw [h3 j]
   by_cases hj:j=p+i
   ·subst hj
    have e1:¬ (p+(i+1)≤p+i∧p+i<p+(i+1)+vs.length):=by omega
    have e2:p+i≤p+i∧p+i<p+i+(v::vs).length:=by simp
    rw [af e1,aj e2]
    have:p+i<C.size:=by omega
    simp [this]
   ·by_cases Vb:p+(i+1)≤j∧j<p+(i+1)+vs.length
    ·have e2:p+i≤j∧j<p+i+(v::vs).length:=by simp; omega
     rw [aj Vb,aj e2]
     have:j-(p+i)=(j-(p+(i+1)))+1:=by omega
     rw [this]; simp
    ·have e2:¬ (p+i≤j∧j<p+i+(v::vs).length):=by simp; omega
     rw [af Vb,af e2]
     simp [jo hj]
theorem Bo {v:V}(h:storable v=true): (conc c v).oneCell'=true:=by
 cases v with
 | sl id off len cap=>cases cap <;> simp [conc,Value.oneCell']
 | agg l=>simp [storable] at h
 | bE l=>simp [storable] at h
 | _=>simp [conc,Value.oneCell']
theorem FzOk.clear {I:Nat×Nat}{n:Nat}(h:FzOk false I n): ∀j,j<n→¬ (I.1≤j∧j<I.2):=by
 intro j J
 simp [FzOk] at h; subst h; simp
theorem b8 (h:H)(id:Nat)(o:Option Obj)(j:Nat): (h.put id o).tr.get j=if j=id then o else h.tr.get j:=by
 simp [H.put,a_]
theorem f_ (h:H)(o:Obj)(j:Nat): (h.new o).tr.get j=if j=h.next then some o else h.tr.get j:=by
 simp [H.new,a_]
theorem n_ {b:Nat}{C C':Array Value}{e:TypeId}{U qR:Nat×Nat}(J:w.heap[b]?=some (.cells C e U))(hs:C'.size=C.size)(i:Nat):
  rowSize (World.setRow w b C' e qR) i=rowSize w i:=by
 have I:b<w.heap.size:=(Array.getElem?_eq_some_iff.1 J).1
 unfold rowSize
 rw [ig I]
 by_cases hi:b=i
 ·subst hi; simp [J,hs]
 ·simp [hi]
theorem Rel.J0 {id n:Nat}{cs cs':List V}{st':Bool}{C C':Array Value}{e:TypeId}{fz qR:Nat×Nat}(h:Rel c σ w)(hg:σ.tr.get id=some (.cells n cs false))
 (hb:w.heap[(c.ρ id).1]?=some (.cells C e fz))(hs:C'.size=C.size)(hl:n=cs'.length)(mV:∀v∈cs',wf c v∧storable v=true)
 (hv:∀j v,cs'[j]?=some v→C'[(c.ρ id).2+j]?=some (conc c v))(La:FzOk st' qR C.size):
  Rel c (σ.put id (some (.cells n cs' st'))) (World.setRow w (c.ρ id).1 C' e qR)∧dL c w c (World.setRow w (c.ρ id).1 C' e qR):=by
 have U:(c.ρ id).1<w.heap.size:=(Array.getElem?_eq_some_iff.1 hb).1
 have hX:=h.yF hg (by intro _ _ he; cases he)
 obtain ⟨hn,hw,ab8,ab9,abF,Vc,hle,hc,_⟩:=h.obj id _ hg
 rw [hb] at Vc
 simp only [au,Go.Obj.cells.injEq] at Vc
 obtain ⟨rfl,rfl,rfl⟩:=Vc
 refine ⟨⟨h.next,fun j o I => ?_,fun j I=>by simpa [World.setRow] using h.kQ j I,fun j I=>by rw [n_ hb hs]; exact h.zz j I,fun i j o o' hi I he => ?_,fun j o I => ?_,fun j sO nu I hx => ?_,fun j o I hx => ?_⟩,
  ⟨Ext.refl c,by simp [World.setRow],fun b _=>n_ hb hs b,fun b _ hn => ?_,fun j h1 h2=>by omega,rfl,rfl⟩⟩
 ·rw [b8] at I
  by_cases J:j=id
  ·subst J; exact h.live j _ hg
  ·simp [J] at I; exact h.live j o I
 ·rw [b8] at hi I
  have qm:∃o,σ.tr.get i=some o:=by
   by_cases MT:i=id
   ·subst MT; exact ⟨_,hg⟩
   ·simp [MT] at hi; exact ⟨_,hi⟩
  have qn:∃o,σ.tr.get j=some o:=by
   by_cases MT:j=id
   ·subst MT; exact ⟨_,hg⟩
   ·simp [MT] at I; exact ⟨_,I⟩
  obtain ⟨_,qm⟩:=qm
  obtain ⟨_,qn⟩:=qn
  exact h.inj i j _ _ qm qn he
 ·rw [b8] at I
  by_cases J:j=id
  ·subst J
   simp at I
   subst I
   exact ⟨hl,mV,C',e,qR,by rw [ig U]; simp,by rw [hs]; exact hle,hv,by rw [hs]; exact La⟩
  ·simp [J] at I
   have gy:(c.ρ id).1≠(c.ρ j).1:=fun he=>J (h.wY I hg he.symm hX)
   have:=h.obj j o I
   cases o with
   | cells n' yG st' =>
    obtain ⟨a1,a2,D,e',qR,a3,a4⟩:=this
    exact ⟨a1,a2,D,e',qR,by rw [ig U]; simpa [gy] using a3,a4⟩
   | map es clock=>exact ⟨this.1,by rw [ig U]; simpa [gy] using this.2⟩
   | loop busy az env ps as bd =>
    obtain ⟨fn,tmps,D,b1,b2⟩:=this
    exact ⟨fn,tmps,D,by rw [ig U]; simpa [gy] using b1,b2⟩
   | iter mid since last seen=>exact ⟨this.1,this.2.1,by rw [ig U]; simpa [gy] using this.2.2⟩
   | kI l pos=>exact ⟨this.1,this.2.1,by rw [ig U]; simpa [gy] using this.2.2⟩
 ·rw [b8] at I
  by_cases J:j=id
  ·subst J
   simp at I
   rw [I.1] at hg
   exact h.one j _ _ hg hx
  ·simp [J] at I
   exact h.one j sO nu I hx
 ·rw [b8] at I
  by_cases J:j=id
  ·rw [J,hX] at hx; cases hx
  ·simp [J] at I; exact h.fx j o I hx
 ·rw [ig U]
  have:(c.ρ id).1≠b:=fun he=>by have:=hn id (h.live id _ hg) he; rw [hX] at this; cases this
  simp [this]
theorem Rel.setRow {id n:Nat}{cs cs':List V}{C C':Array Value}{e:TypeId}{J:Nat×Nat}(h:Rel c σ w)(hg:σ.tr.get id=some (.cells n cs false))
 (hb:w.heap[(c.ρ id).1]?=some (.cells C e J))(hs:C'.size=C.size)(hl:n=cs'.length)(U:∀v∈cs',wf c v∧storable v=true)
 (hv:∀j v,cs'[j]?=some v→C'[(c.ρ id).2+j]?=some (conc c v)):
  Rel c (σ.put id (some (.cells n cs' false))) (World.setRow w (c.ρ id).1 C' e J)∧dL c w c (World.setRow w (c.ρ id).1 C' e J):=by
 refine h.J0 hg hb hs hl U hv ?_
 obtain ⟨_,_,ab8,ab9,abF,I,_,_,wu⟩:=h.obj id _ hg
 rw [hb] at I
 simp only [au,Go.Obj.cells.injEq] at I
 obtain ⟨rfl,rfl,rfl⟩:=I
 exact wu
theorem yH {id off:Nat}{vs:List V}{iJ:H}(h:Rel c σ w)(J:wrN σ id off vs=some iJ)(mV:∀v∈vs,wf c v∧storable v=true):
  ∃w',(storeCells (fL c id off) (vs.map (conc c))).run P w=.ok () w'∧Rel c iJ w'∧dL c w c w':=by
 unfold wrN at J
 split at J
 ·rename_i n cs hg
  obtain ⟨hn,hw,C,e,fz,hb,hle,hc,wu⟩:=h.obj id _ hg
  cases hq:Nat.ble (off+vs.length) n with
  | false=>simp [hq] at J
  | true =>
   have Vd:=aQ.1 hq
   simp only [hq,ag,au] at J
   have qS:(cond (Nat.beq off 0&&Nat.beq vs.length n) vs (cs.take off++(vs++cs.drop (off+vs.length))))=cs.take off++(vs++cs.drop (off+vs.length)):=by
    cases U:(Nat.beq off 0&&Nat.beq vs.length n) with
    | false=>rfl
    | true =>
     simp only [aZ] at U
     have h0:=beq_iff.1 U.1
     have h1:=beq_iff.1 U.2
     subst h0
     simp [h1,hn]
   rw [qS] at J
   subst J
   obtain ⟨C',h1,h2,h3⟩:=wq (P:=P) (vs.map (conc c)) 0 w (c.ρ id).1 ((c.ρ id).2+off) C e fz hb wu.clear (by simp; omega)
    (by simp only [nY]; rintro _ ⟨v,I,rfl⟩; exact Bo (mV v I).2)
   refine ⟨_,h1,?_⟩
   refine h.setRow hg hb h2 (by simp; omega) ?_ ?_
   ·intro v I
    simp only [rj] at I
    rcases I with I | I | I
    ·exact hw v (gH I)
    ·exact mV v I
    ·exact hw v (iC I)
   ·intro j v I
    rw [h3]
    by_cases h4:j<off
    ·rw [kE (by simp; omega),mj,aj h4] at I
     rw [af (by omega)]
     exact hc j v I
    ·rw [nT (by simp; omega)] at I
     have hlen:(cs.take off).length=off:=by simp; omega
     rw [hlen] at I
     by_cases h5:j<off+vs.length
     ·rw [kE (by omega)] at I
      rw [aj (by simp; omega)]
      rw [pH,show (c.ρ id).2+j-((c.ρ id).2+off+0)=j-off from by omega,I]
      rfl
     ·rw [nT (by omega),jW] at I
      rw [af (by simp; omega)]
      refine hc j v ?_
      rw [←I]; congr 1; omega
 ·simp at J
theorem MU {t:TypeId}{a v:V}{J:H}(h:Rel c σ w)(I:g6 P σ t a v=some J)(hv:wf c v):
  ∃w',(Instr.storeAt t (conc c a) (conc c v)).run P w=.ok () w'∧Rel c J w'∧dL c w c w':=by
 unfold g6 at I
 split at I
 ·rename_i id off
  split at I
  ·rename_i k hk
   cases U:(Nat.beq v.cells.length k&&v.cells.all storable) with
   | false=>simp [U] at I
   | true =>
    simp only [U,ag] at I
    simp only [aZ] at U
    have hlen:=beq_iff.1 U.1
    obtain ⟨w',h1,h2,h3⟩:=yH (P:=P) h I (fun x hx=>⟨kR hv x hx,(List.all_eq_true.1 U.2) x hx⟩)
    refine ⟨w',?_,h2,h3⟩
    have ha:conc c (.ptr id off)=.pointer (some (fL c id off)):=by simp [conc,fL]
    rw [ha]
    simp only [Instr.storeAt,Instr.sureAddr,pure_bind,storeVar,Sem.run_bind,c_ hk,Result.andThen_ok]
    have:(conc c v).cells.size=k:=by rw [fJ]; simpa using hlen
    simp [this,wZ,h1]
  ·simp at I
 ·simp at I
def Ctx.grow (c:Ctx)(b base size:Nat): Ctx:=⟨fun i=>if i=c.N then (b,base) else c.ρ i,fun x=>if x=b then size else c.Z x,c.N+1,fun i=>if i=c.N then false else c.X i⟩
theorem lG (c:Ctx)(b base size:Nat): (c.grow b base size).N=c.N+1:=rfl
theorem bD (c:Ctx)(b base size:Nat): (c.grow b base size).ρ c.N=(b,base):=by simp [Ctx.grow]
theorem dz (c:Ctx)(b base size:Nat){i:Nat}(h:i<c.N): (c.grow b base size).ρ i=c.ρ i:=by
 simp [Ctx.grow,jm h]
theorem w5 (c:Ctx)(b base size:Nat): (c.grow b base size).X c.N=false:=by simp [Ctx.grow]
theorem gr (c:Ctx)(b base size:Nat){i:Nat}(h:i<c.N): (c.grow b base size).X i=c.X i:=by
 simp [Ctx.grow,jm h]
theorem iF (w:World)(o:Go.Obj)(i:Nat): (w.alloc o).heap[i]?=if i=w.heap.size then some o else w.heap[i]?:=by
 simp only [World.alloc,DU]
 try rfl
def objSize : Go.Obj→Nat
 | .cells C _ _=>C.size
 | _=>0
theorem mc (w:World)(o:Go.Obj){b:Nat}(h:b<w.heap.size): rowSize (w.alloc o) b=rowSize w b:=by
 unfold rowSize; rw [iF]; simp [jm h]
theorem Bk (w:World)(o:Go.Obj): rowSize (w.alloc o) w.heap.size=objSize o:=by
 unfold rowSize; rw [iF]; simp; cases o <;> rfl
theorem GA (h:Rel c σ w)(base size:Nat): Ext c (c.grow w.heap.size base size) :=
 ⟨by simp [Ctx.grow],fun id hi=>dz c _ _ _ hi,fun id hi=>by
  have:=h.kQ id hi
  simp [Ctx.grow,jm this],fun id hi=>gr c _ _ _ hi⟩
theorem Ck.later {c':Ctx}{w':World}(e:Ext c c'){id:Nat}{o:Obj}(I:id<c.N)(J:w'.heap[(c.ρ id).1]?=w.heap[(c.ρ id).1]?)(h:Ck c w id o): Ck c' w' id o:=by
 cases o with
 | cells n cs st =>
  obtain ⟨a1,a2,C,el,fz,a3,a4,a5,a6⟩:=h
  refine ⟨a1,fun v U=>⟨(cu e v (a2 v U).1).2,(a2 v U).2⟩,C,el,fz,by rw [e.ρ id I,J,a3],by rw [e.ρ id I]; exact a4,fun j v U => ?_,a6⟩
  rw [e.ρ id I,(cu e v (a2 v (bw U)).1).1]
  exact a5 j v U
 | map es clock =>
  refine ⟨fun x hx=>⟨(cu e _ (h.1 x hx).1).2,(cu e _ (h.1 x hx).2).2⟩,?_⟩
  rw [e.ρ id I,J,h.2]
  congr 2
  congr 1
  refine vS fun x hx => ?_
  simp only [cq,(cu e _ (h.1 x hx).1).1,(cu e _ (h.1 x hx).2).1]
 | loop busy az env ps as bd =>
  obtain ⟨fn,tmps,D,b1,b2,b3,b4⟩:=h
  exact ⟨fn,tmps,D,by rw [e.ρ id I,J]; exact b1,b2,fun t=>by rw [b3 t,(cu e _ (b4 t)).1],fun t=>(cu e _ (b4 t)).2⟩
 | iter mid since last seen=>exact ⟨gI h.1 e.le,by rw [e.ρ id I]; exact h.2.1,by rw [e.ρ id I,J,e.ρ mid h.1]; exact h.2.2⟩
 | kI l pos=>exact ⟨h.1,by rw [e.ρ id I]; exact h.2.1,by rw [e.ρ id I,J]; exact h.2.2⟩
theorem Rel.new (h:Rel c σ w)(o:Obj)(O:Go.Obj)(base:Nat)(Bp:base=0)(ho:Ck (c.grow w.heap.size base (objSize O)) (w.alloc O) c.N o):
  Rel (c.grow w.heap.size base (objSize O)) (σ.new o) (w.alloc O)∧dL c w (c.grow w.heap.size base (objSize O)) (w.alloc O):=by
 have e:=GA h base (objSize O)
 have hold:∀id o,σ.tr.get id=some o→id<c.N:=h.live
 refine ⟨⟨by simp [H.new,Ctx.grow,h.next],fun id o' hi => ?_,fun id hi => ?_,fun id hi => ?_,fun i j PL Tr hi hj he => ?_,fun id o' hi => ?_,fun id U nu hi hx => ?_,fun id o' hi hx => ?_⟩,
  ⟨e,by simp,fun b hb=>mc w O hb,fun b hb _=>by rw [iF]; simp [jm hb],fun id h1 h2 => ?_,rfl,rfl⟩⟩
 ·rw [f_] at hi
  by_cases I:id=σ.next
  ·rw [I,h.next]; simp [Ctx.grow]
  ·simp [I] at hi; exact gI (hold id o' hi) (by simp [Ctx.grow])
 ·simp only [lG] at hi
  by_cases I:id=c.N
  ·subst I; rw [bD]; simp
  ·rw [dz c _ _ _ (by omega)]
   have:=h.kQ id (by omega)
   simp; omega
 ·simp only [lG] at hi
  by_cases I:id=c.N
  ·subst I; rw [bD,Bk]; simp [Ctx.grow]
  ·have J:id<c.N:=by omega
   have hb:=h.kQ id J
   rw [dz c _ _ _ J,mc w O hb,←h.zz id J]
   simp [Ctx.grow,jm hb]
 ·rw [f_] at hi hj
  have key:∀i o',(if i=σ.next then some o else σ.tr.get i)=some o'→(i=c.N∧((c.grow w.heap.size base (objSize O)).ρ i).1=w.heap.size)∨(i<c.N∧(∃Ve,σ.tr.get i=some Ve)∧((c.grow w.heap.size base (objSize O)).ρ i).1=(c.ρ i).1∧(c.ρ i).1<w.heap.size):=by
   intro i o' hi
   by_cases I:i=σ.next
   ·left; rw [I,h.next,bD]; simp
   ·simp [I] at hi
    right
    have:=hold i o' hi
    exact ⟨this,⟨o',hi⟩,by rw [dz c _ _ _ this],h.kQ i this⟩
  rcases key i PL hi with ⟨a1,a2⟩ | ⟨a1,⟨_,a2⟩,a3,a4⟩ <;> rcases key j Tr hj with ⟨b1,b2⟩ | ⟨b1,⟨_,b2⟩,b3,b4⟩
  ·exact .inl (by omega)
  ·omega
  ·omega
  ·rw [gr c _ _ _ a1,gr c _ _ _ b1]; exact h.inj i j _ _ a2 b2 (by rw [←a3,←b3,he])
 ·rw [f_] at hi
  by_cases I:id=σ.next
  ·simp [I] at hi
   subst hi
   rw [I,h.next]
   exact ho
  ·simp [I] at hi
   have J:=hold id o' hi
   exact (h.obj id o' hi).later e J (by rw [iF]; simp [jm (h.kQ id J)])
 ·rw [f_] at hi
  by_cases I:id=σ.next
  ·rw [I,h.next,bD]; exact Bp
  ·simp [I] at hi
   rw [gr c _ _ _ (hold id _ hi)] at hx
   rw [dz c _ _ _ (hold id _ hi)]; exact h.one id U nu hi hx
 ·rw [f_] at hi
  by_cases I:id=σ.next
  ·rw [I,h.next,w5] at hx; cases hx
  ·simp [I] at hi
   rw [gr c _ _ _ (hold id _ hi)] at hx
   exact h.fx id o' hi hx
 ·simp only [lG] at h2
  have:id=c.N:=by omega
  subst this
  left; rw [bD]; exact aI _
theorem Rel.newRow {cs:List V}(h:Rel c σ w)(I:∀v∈cs,wf c v∧storable v=true)(e:TypeId)(more:List Value):
  Rel (c.grow w.heap.size 0 (cs.length+more.length)) (σ.new (.cells cs.length cs false)) (w.alloc (.cells (cs.map (conc c)++more).toArray e)) ∧
  dL c w (c.grow w.heap.size 0 (cs.length+more.length)) (w.alloc (.cells (cs.map (conc c)++more).toArray e)):=by
 have J:objSize (.cells (cs.map (conc c)++more).toArray e)=cs.length+more.length:=by simp [objSize]
 have:=h.new (.cells cs.length cs false) (.cells (cs.map (conc c)++more).toArray e) 0 rfl ?_
 ·rw [J] at this; exact this
 ·rw [J]
  have ex:=GA h 0 (cs.length+more.length)
  refine ⟨rfl,fun v U=>⟨(cu ex v (I v U).1).2,(I v U).2⟩,(cs.map (conc c)++more).toArray,e,(0,0),by rw [bD,iF]; simp,by rw [bD]; simp,fun j v U => ?_,rfl⟩
  rw [bD]
  obtain ⟨hj,uh⟩:=List.getElem?_eq_some_iff.1 U
  rw [(cu ex v (I v (bw U)).1).1]
  simp [kE,hj,uh]
theorem Rel.kill (h:Rel c σ w)(id:Nat): Rel c (σ.put id none) w:=by
 refine ⟨h.next,fun j o I => ?_,h.kQ,h.zz,fun i j o o' hi I he => ?_,fun j o I => ?_,fun j U nu I hx => ?_,fun j o I hx => ?_⟩
 ·rw [b8] at I
  by_cases J:j=id
  ·simp [J] at I
  ·simp [J] at I; exact h.live j o I
 ·rw [b8] at hi I
  by_cases h1:i=id
  ·simp [h1] at hi
  ·by_cases h2:j=id
   ·simp [h2] at I
   ·simp [h1] at hi; simp [h2] at I; exact h.inj i j o o' hi I he
 ·rw [b8] at I
  by_cases J:j=id
  ·simp [J] at I
  ·simp [J] at I; exact h.obj j o I
 ·rw [b8] at I
  by_cases J:j=id
  ·simp [J] at I
  ·simp [J] at I; exact h.one j U nu I hx
 ·rw [b8] at I
  by_cases J:j=id
  ·simp [J] at I
  ·simp [J] at I; exact h.fx j o I hx
theorem Rel.uj {id:Nat}{es es':List (V×V×Nat)}{k k':Nat}(h:Rel c σ w)(hg:σ.tr.get id=some (.map es k))(mV:∀x∈es',wf c x.1∧wf c x.2.1):
  Rel c (σ.put id (some (.map es' k'))) { w with heap:=w.heap.setIfInBounds (c.ρ id).1 (.map (es'.map (cq c)).toArray k') } ∧
  dL c w c { w with heap:=w.heap.setIfInBounds (c.ρ id).1 (.map (es'.map (cq c)).toArray k') }:=by
 obtain ⟨hw,hb⟩:=h.obj id _ hg
 have bV:(c.ρ id).1<w.heap.size:=(Array.getElem?_eq_some_iff.1 hb).1
 have hX:=h.yF hg (by intro _ _ he; cases he)
 have get:∀i,({ w with heap:=w.heap.setIfInBounds (c.ρ id).1 (.map (es'.map (cq c)).toArray k') }:World).heap[i]?=if (c.ρ id).1=i then some (.map (es'.map (cq c)).toArray k') else w.heap[i]?:=by
  intro i; simp only [m5,bV,bQ]
 have rows:∀i,rowSize { w with heap:=w.heap.setIfInBounds (c.ρ id).1 (.map (es'.map (cq c)).toArray k') } i=rowSize w i:=by
  intro i
  unfold rowSize
  rw [get]
  by_cases hi:(c.ρ id).1=i
  ·subst hi; simp [hb]
  ·simp [hi]
 refine ⟨⟨h.next,fun j o I => ?_,fun j I=>by simpa using h.kQ j I,fun j I=>by rw [rows]; exact h.zz j I,fun i j o o' hi I he => ?_,fun j o I => ?_,fun j sO nu I hx => ?_,fun j o I hx => ?_⟩,
  ⟨Ext.refl c,by simp,fun b _=>rows b,fun b _ hn => ?_,fun j h1 h2=>by omega,rfl,rfl⟩⟩
 ·rw [b8] at I
  by_cases J:j=id
  ·subst J; exact h.live j _ hg
  ·simp [J] at I; exact h.live j o I
 ·rw [b8] at hi I
  have qm:∃o,σ.tr.get i=some o:=by
   by_cases U:i=id
   ·subst U; exact ⟨_,hg⟩
   ·simp [U] at hi; exact ⟨_,hi⟩
  have qn:∃o,σ.tr.get j=some o:=by
   by_cases U:j=id
   ·subst U; exact ⟨_,hg⟩
   ·simp [U] at I; exact ⟨_,I⟩
  obtain ⟨_,qm⟩:=qm
  obtain ⟨_,qn⟩:=qn
  exact h.inj i j _ _ qm qn he
 ·rw [b8] at I
  by_cases J:j=id
  ·subst J
   simp at I
   subst I
   exact ⟨mV,by rw [get]; simp⟩
  ·simp [J] at I
   have gy:(c.ρ id).1≠(c.ρ j).1:=fun he=>J (h.wY I hg he.symm hX)
   have:=h.obj j o I
   cases o with
   | cells n' yG st' =>
    obtain ⟨a1,a2,D,e',qR,a3,a4⟩:=this
    exact ⟨a1,a2,D,e',qR,by rw [get]; simpa [gy] using a3,a4⟩
   | map es clock=>exact ⟨this.1,by rw [get]; simpa [gy] using this.2⟩
   | loop busy az env ps as bd =>
    obtain ⟨fn,tmps,D,b1,b2⟩:=this
    exact ⟨fn,tmps,D,by rw [get]; simpa [gy] using b1,b2⟩
   | iter mid since last seen=>exact ⟨this.1,this.2.1,by rw [get]; simpa [gy] using this.2.2⟩
   | kI l pos=>exact ⟨this.1,this.2.1,by rw [get]; simpa [gy] using this.2.2⟩
 ·rw [b8] at I
  by_cases J:j=id
  ·simp [J] at I
  ·simp [J] at I; exact h.one j sO nu I hx
 ·rw [b8] at I
  by_cases J:j=id
  ·rw [J,hX] at hx; cases hx
  ·simp [J] at I; exact h.fx j o I hx
 ·rw [get]
  have:(c.ρ id).1≠b:=fun he=>by have:=hn id (h.live id _ hg) he; rw [hX] at this; cases this
  simp [this]
theorem Rel.J1 {id az:Nat}{busy u_:Bool}{env:Env}{ps:List Nat}{as bd:Code}{fn D:Nat}{tmps:Array Value}(h:Rel c σ w)(hg:σ.tr.get id=some (.loop busy az env ps as bd))
 (hb:w.heap[(c.ρ id).1]?=some (.loop ⟨cond busy .busy .ready,none,fn,tmps,ps.toArray,as,bd,D⟩))(mV:tmps.size=az∧(∀t,tmps.getD t undef=conc c (Env.v env t))∧(∀t,wf c (Env.v env t))):
  Rel c (σ.put id (some (.loop u_ az env ps as bd))) { w with heap:=w.heap.setIfInBounds (c.ρ id).1 (.loop ⟨cond u_ .busy .ready,none,fn,tmps,ps.toArray,as,bd,D⟩) } ∧
  dL c w c { w with heap:=w.heap.setIfInBounds (c.ρ id).1 (.loop ⟨cond u_ .busy .ready,none,fn,tmps,ps.toArray,as,bd,D⟩) }:=by
 have bV:(c.ρ id).1<w.heap.size:=(Array.getElem?_eq_some_iff.1 hb).1
 have hX:=h.yF hg (by intro _ _ he; cases he)
 have get:∀i,({ w with heap:=w.heap.setIfInBounds (c.ρ id).1 (.loop ⟨cond u_ .busy .ready,none,fn,tmps,ps.toArray,as,bd,D⟩) }:World).heap[i]?=if (c.ρ id).1=i then some (.loop ⟨cond u_ .busy .ready,none,fn,tmps,ps.toArray,as,bd,D⟩) else w.heap[i]?:=by
  intro i; simp only [m5,bV,bQ]
 have rows:∀i,rowSize { w with heap:=w.heap.setIfInBounds (c.ρ id).1 (.loop ⟨cond u_ .busy .ready,none,fn,tmps,ps.toArray,as,bd,D⟩) } i=rowSize w i:=by
  intro i
  unfold rowSize
  rw [get]
  by_cases hi:(c.ρ id).1=i
  ·subst hi; simp [hb]
  ·simp [hi]
 refine ⟨⟨h.next,fun j o I => ?_,fun j I=>by simpa using h.kQ j I,fun j I=>by rw [rows]; exact h.zz j I,fun i j o o' hi I he => ?_,fun j o I => ?_,fun j sO nu I hx => ?_,fun j o I hx => ?_⟩,
  ⟨Ext.refl c,by simp,fun b _=>rows b,fun b _ hn => ?_,fun j h1 h2=>by omega,rfl,rfl⟩⟩
 ·rw [b8] at I
  by_cases J:j=id
  ·subst J; exact h.live j _ hg
  ·simp [J] at I; exact h.live j o I
 ·rw [b8] at hi I
  have qm:∃o,σ.tr.get i=some o:=by
   by_cases U:i=id
   ·subst U; exact ⟨_,hg⟩
   ·simp [U] at hi; exact ⟨_,hi⟩
  have qn:∃o,σ.tr.get j=some o:=by
   by_cases U:j=id
   ·subst U; exact ⟨_,hg⟩
   ·simp [U] at I; exact ⟨_,I⟩
  obtain ⟨_,qm⟩:=qm
  obtain ⟨_,qn⟩:=qn
  exact h.inj i j _ _ qm qn he
 ·rw [b8] at I
  by_cases J:j=id
  ·subst J
   simp at I
   subst I
   exact ⟨fn,tmps,D,by rw [get]; simp,mV⟩
  ·simp [J] at I
   have gy:(c.ρ id).1≠(c.ρ j).1:=fun he=>J (h.wY I hg he.symm hX)
   have:=h.obj j o I
   cases o with
   | cells n' yG st' =>
    obtain ⟨a1,a2,D,e',qR,a3,a4⟩:=this
    exact ⟨a1,a2,D,e',qR,by rw [get]; simpa [gy] using a3,a4⟩
   | map es clock=>exact ⟨this.1,by rw [get]; simpa [gy] using this.2⟩
   | loop busy az env ps as bd =>
    obtain ⟨fn,tmps,D,b1,b2⟩:=this
    exact ⟨fn,tmps,D,by rw [get]; simpa [gy] using b1,b2⟩
   | iter mid since last seen=>exact ⟨this.1,this.2.1,by rw [get]; simpa [gy] using this.2.2⟩
   | kI l pos=>exact ⟨this.1,this.2.1,by rw [get]; simpa [gy] using this.2.2⟩
 ·rw [b8] at I
  by_cases J:j=id
  ·simp [J] at I
  ·simp [J] at I; exact h.one j sO nu I hx
 ·rw [b8] at I
  by_cases J:j=id
  ·rw [J,hX] at hx; cases hx
  ·simp [J] at I; exact h.fx j o I hx
 ·rw [get]
  have:(c.ρ id).1≠b:=fun he=>by have:=hn id (h.live id _ hg) he; rw [hX] at this; cases this
  simp [this]
theorem Rel.setIter {id mid since last last':Nat}{seen seen':List Nat}(h:Rel c σ w)(hg:σ.tr.get id=some (.iter mid since last seen)):
  Rel c (σ.put id (some (.iter mid since last' seen'))) { w with heap:=w.heap.setIfInBounds (c.ρ id).1 (.mapIter (some (c.ρ mid).1) since seen'.toArray last') } ∧
  dL c w c { w with heap:=w.heap.setIfInBounds (c.ρ id).1 (.mapIter (some (c.ρ mid).1) since seen'.toArray last') }:=by
 obtain ⟨GB,yI,hb⟩:=h.obj id _ hg
 have bV:(c.ρ id).1<w.heap.size:=(Array.getElem?_eq_some_iff.1 hb).1
 have hX:=h.yF hg (by intro _ _ he; cases he)
 have get:∀i,({ w with heap:=w.heap.setIfInBounds (c.ρ id).1 (.mapIter (some (c.ρ mid).1) since seen'.toArray last') }:World).heap[i]?=if (c.ρ id).1=i then some (.mapIter (some (c.ρ mid).1) since seen'.toArray last') else w.heap[i]?:=by
  intro i; simp only [m5,bV,bQ]
 have rows:∀i,rowSize { w with heap:=w.heap.setIfInBounds (c.ρ id).1 (.mapIter (some (c.ρ mid).1) since seen'.toArray last') } i=rowSize w i:=by
  intro i
  unfold rowSize
  rw [get]
  by_cases hi:(c.ρ id).1=i
  ·subst hi; simp [hb]
  ·simp [hi]
 refine ⟨⟨h.next,fun j o I => ?_,fun j I=>by simpa using h.kQ j I,fun j I=>by rw [rows]; exact h.zz j I,fun i j o o' hi I he => ?_,fun j o I => ?_,fun j sO nu I hx => ?_,fun j o I hx => ?_⟩,
  ⟨Ext.refl c,by simp,fun b _=>rows b,fun b _ hn => ?_,fun j h1 h2=>by omega,rfl,rfl⟩⟩
 ·rw [b8] at I
  by_cases J:j=id
  ·subst J; exact h.live j _ hg
  ·simp [J] at I; exact h.live j o I
 ·rw [b8] at hi I
  have qm:∃o,σ.tr.get i=some o:=by
   by_cases U:i=id
   ·subst U; exact ⟨_,hg⟩
   ·simp [U] at hi; exact ⟨_,hi⟩
  have qn:∃o,σ.tr.get j=some o:=by
   by_cases U:j=id
   ·subst U; exact ⟨_,hg⟩
   ·simp [U] at I; exact ⟨_,I⟩
  obtain ⟨_,qm⟩:=qm
  obtain ⟨_,qn⟩:=qn
  exact h.inj i j _ _ qm qn he
 ·rw [b8] at I
  by_cases J:j=id
  ·subst J
   simp at I
   subst I
   exact ⟨GB,yI,by rw [get]; simp⟩
  ·simp [J] at I
   have gy:(c.ρ id).1≠(c.ρ j).1:=fun he=>J (h.wY I hg he.symm hX)
   have:=h.obj j o I
   cases o with
   | cells n' yG st' =>
    obtain ⟨a1,a2,D,e',qR,a3,a4⟩:=this
    exact ⟨a1,a2,D,e',qR,by rw [get]; simpa [gy] using a3,a4⟩
   | map es clock=>exact ⟨this.1,by rw [get]; simpa [gy] using this.2⟩
   | loop busy az env ps as bd =>
    obtain ⟨fn,tmps,D,b1,b2⟩:=this
    exact ⟨fn,tmps,D,by rw [get]; simpa [gy] using b1,b2⟩
   | iter mid since last seen=>exact ⟨this.1,this.2.1,by rw [get]; simpa [gy] using this.2.2⟩
   | kI l pos=>exact ⟨this.1,this.2.1,by rw [get]; simpa [gy] using this.2.2⟩
 ·rw [b8] at I
  by_cases J:j=id
  ·simp [J] at I
  ·simp [J] at I; exact h.one j sO nu I hx
 ·rw [b8] at I
  by_cases J:j=id
  ·rw [J,hX] at hx; cases hx
  ·simp [J] at I; exact h.fx j o I hx
 ·rw [get]
  have:(c.ρ id).1≠b:=fun he=>by have:=hn id (h.live id _ hg) he; rw [hX] at this; cases this
  simp [this]
theorem Rel.Vf {id pos pos':Nat}{l:List Nat}(h:Rel c σ w)(hg:σ.tr.get id=some (.kI l pos)):
  Rel c (σ.put id (some (.kI l pos'))) { w with heap:=w.heap.setIfInBounds (c.ρ id).1 (.stringIter ⟨(l.map UInt8.ofNat).toArray⟩ pos') } ∧
  dL c w c { w with heap:=w.heap.setIfInBounds (c.ρ id).1 (.stringIter ⟨(l.map UInt8.ofNat).toArray⟩ pos') }:=by
 obtain ⟨GB,yI,hb⟩:=h.obj id _ hg
 have bV:(c.ρ id).1<w.heap.size:=(Array.getElem?_eq_some_iff.1 hb).1
 have hX:=h.yF hg (by intro _ _ he; cases he)
 have get:∀i,({ w with heap:=w.heap.setIfInBounds (c.ρ id).1 (.stringIter ⟨(l.map UInt8.ofNat).toArray⟩ pos') }:World).heap[i]?=if (c.ρ id).1=i then some (.stringIter ⟨(l.map UInt8.ofNat).toArray⟩ pos') else w.heap[i]?:=by
  intro i; simp only [m5,bV,bQ]
 have rows:∀i,rowSize { w with heap:=w.heap.setIfInBounds (c.ρ id).1 (.stringIter ⟨(l.map UInt8.ofNat).toArray⟩ pos') } i=rowSize w i:=by
  intro i
  unfold rowSize
  rw [get]
  by_cases hi:(c.ρ id).1=i
  ·subst hi; simp [hb]
  ·simp [hi]
 refine ⟨⟨h.next,fun j o I => ?_,fun j I=>by simpa using h.kQ j I,fun j I=>by rw [rows]; exact h.zz j I,fun i j o o' hi I he => ?_,fun j o I => ?_,fun j sO nu I hx => ?_,fun j o I hx => ?_⟩,
  ⟨Ext.refl c,by simp,fun b _=>rows b,fun b _ hn => ?_,fun j h1 h2=>by omega,rfl,rfl⟩⟩
 ·rw [b8] at I
  by_cases J:j=id
  ·subst J; exact h.live j _ hg
  ·simp [J] at I; exact h.live j o I
 ·rw [b8] at hi I
  have qm:∃o,σ.tr.get i=some o:=by
   by_cases U:i=id
   ·subst U; exact ⟨_,hg⟩
   ·simp [U] at hi; exact ⟨_,hi⟩
  have qn:∃o,σ.tr.get j=some o:=by
   by_cases U:j=id
   ·subst U; exact ⟨_,hg⟩
   ·simp [U] at I; exact ⟨_,I⟩
  obtain ⟨_,qm⟩:=qm
  obtain ⟨_,qn⟩:=qn
  exact h.inj i j _ _ qm qn he
 ·rw [b8] at I
  by_cases J:j=id
  ·subst J
   simp at I
   subst I
   exact ⟨GB,yI,by rw [get]; simp⟩
  ·simp [J] at I
   have gy:(c.ρ id).1≠(c.ρ j).1:=fun he=>J (h.wY I hg he.symm hX)
   have:=h.obj j o I
   cases o with
   | cells n' yG st' =>
    obtain ⟨a1,a2,D,e',qR,a3,a4⟩:=this
    exact ⟨a1,a2,D,e',qR,by rw [get]; simpa [gy] using a3,a4⟩
   | map es clock=>exact ⟨this.1,by rw [get]; simpa [gy] using this.2⟩
   | loop busy az env ps as bd =>
    obtain ⟨fn,tmps,D,b1,b2⟩:=this
    exact ⟨fn,tmps,D,by rw [get]; simpa [gy] using b1,b2⟩
   | iter mid since last seen=>exact ⟨this.1,this.2.1,by rw [get]; simpa [gy] using this.2.2⟩
   | kI l pos=>exact ⟨this.1,this.2.1,by rw [get]; simpa [gy] using this.2.2⟩
 ·rw [b8] at I
  by_cases J:j=id
  ·simp [J] at I
  ·simp [J] at I; exact h.one j sO nu I hx
 ·rw [b8] at I
  by_cases J:j=id
  ·rw [J,hX] at hx; cases hx
  ·simp [J] at I; exact h.fx j o I hx
 ·rw [get]
  have:(c.ρ id).1≠b:=fun he=>by have:=hn id (h.live id _ hg) he; rw [hX] at this; cases this
  simp [this]
theorem ko {b:Nat}{o:Go.Obj}(h:w.heap[b]?=some o)(I:∀C e f,o≠.cells C e f): (getObj b).run P w=.ok o w:=by
 simp only [getObj,Sem.run,h]
theorem lH {b:Nat}{o o':Go.Obj}(h:w.heap[b]?=some o)(I:∀C e f,o≠.cells C e f): (setObj b o').run P w=.ok () { w with heap:=w.heap.setIfInBounds b o' }:=by
 simp only [setObj,Sem.run,h]
end
end Go.Proofs.YtconhghphklfjaaGreat.Am
