/- SpaceAll: a part of its proof; conditions: its statement's. -/
import Derived.Test.YtefepnnfphdkpaaGreatA05
namespace Go.Proofs.YtefepnnfphdkpaaGreat.Am
open Go
section
variable {P:Program} {c:Ctx} {σ:H} {w:World}
def ff (P:Program)(s:Sem Value)(c:Ctx)(w:World)(v:V)(I:H): Prop :=
 ∃w' c',s.run P w=.ok (conc c' v) w'∧wf c' v∧Rel c' I w'∧b6 c w c' w'
def JS (P:Program)(s:Sem Unit)(c:Ctx)(w:World)(I:H): Prop :=
 ∃w' c',s.run P w=.ok () w'∧Rel c' I w'∧b6 c w c' w'
theorem ff.same {s:Sem Value}{v:V}(h:Rel c σ w)(I:s.run P w=.ok (conc c v) w∧wf c v): ff P s c w v σ :=
 ⟨w,c,I.1,I.2,h,b6.refl c w⟩
theorem oH {cs:List V}(h:Rel c σ w)(I:∀v∈cs,wf c v∧storable v=true)(e:TypeId):
  Rel (c.grow w.heap.size 0 cs.length) (newRow σ cs) (w.alloc (.cells (cs.map (conc c)).toArray e))∧b6 c w (c.grow w.heap.size 0 cs.length) (w.alloc (.cells (cs.map (conc c)).toArray e)):=by
 have:=h.newRow I e []
 simpa [newRow] using this
theorem BT (c:Ctx)(b size:Nat): conc (c.grow b 0 size) (.ptr c.N 0)=.pointer (some ⟨b,0,none⟩):=by
 simp [conc,aP]
theorem Hg {t:TypeId}{z:V}(h:Rel c σ w)(I:zeroT P t=some z):
  ff P (Instr.alloc t true (.tuple #[])) c w (.ptr σ.next 0) (newRow σ z.cells):=by
 obtain ⟨J,z2⟩:=ep I c w
 obtain ⟨g1,g2⟩:=oH h (fun v hv=>⟨iD z2 v hv,jA I v hv⟩) t
 refine ⟨_,_,?_,?_,g1,g2⟩
 ·rw [h.next,BT]
  simp [Instr.alloc,J,newVar,Go.newRow,dL]
 ·simp [wf,h.next,i_]
theorem MB {t:TypeId}{v:V}(h:Rel c σ w)(hv:wf c v)(hs:v.cells.all storable=true):
  ff P (Instr.box t (conc c v)) c w (.ptr σ.next 0) (newRow σ v.cells):=by
 obtain ⟨J,g2⟩:=oH h (fun x I=>⟨iD hv x I,(List.all_eq_true.1 hs) x I⟩) t
 refine ⟨_,_,?_,?_,J,g2⟩
 ·rw [h.next,BT]
  simp [Instr.box,newVar,Go.newRow,dL]
 ·simp [wf,h.next,i_]
theorem kR (z:List V)(n:Nat): (repeatL z n).length=n*z.length:=by
 induction n with
 | zero=>simp [repeatL]
 | succ n I=>simp [repeatL,I,Nat.succ_mul,vm]
theorem Dx (z:List V)(n:Nat): ∀i,i<n*z.length→(repeatL z n)[i]?=z[i%z.length]?:=by
 induction n with
 | zero=>intro i hi; simp at hi
 | succ n J =>
  intro i hi
  rw [Nat.succ_mul] at hi
  simp only [repeatL]
  by_cases I:i<z.length
  ·rw [iu I,jv I]
  ·rw [kK (by omega),J _ (by omega)]
   congr 1
   have:=Nat.mod_eq_sub_mod (show i≥z.length by omega)
   rw [this]
theorem jk {z:List V}{n:Nat}{v:V}(h:v∈repeatL z n): v∈z:=by
 induction n with
 | zero=>simp [repeatL] at h
 | succ n I =>
  simp only [repeatL,lV] at h
  rcases h with h | h
  ·exact h
  ·exact I h
theorem mE (c:Ctx)(z:List V)(n:Nat)(hz:1≤z.length):
  ((Array.range (n*z.length)).map fun i=>((z.map (conc c)).toArray)[i%((z.map (conc c)).toArray).size]!)=((repeatL z n).map (conc c)).toArray:=by
 apply m7
 intro i
 by_cases hi:i<n*z.length
 ·have I:i%z.length<z.length:=ni _ hz
  have J:=Dx z n i hi
  rw [aN I] at J
  simp only [Array.getElem?_map,Array.getElem?_range,hi,bu,gN,List.size_toArray,eM,kL,jU,J]
  congr 1
  rw [getElem!_pos _ _ (by simpa using I)]
  simp
 ·have h3:(repeatL z n).length≤i:=by rw [kR]; omega
  simp [hi,h3]
theorem xw {t:TypeId}{n:Nat}{l:List (Nat×V)}{v:V}{J:H}(h:Rel c σ w)(I:buildSliceV P σ t n l=some (v,J))(hl:∀x∈l,wf c x.2):
  ff P (Instr.buildSlice t n (l.map fun x=>(x.1,conc c x.2)).toArray) c w v J:=by
 unfold buildSliceV at I
 generalize ht:P.underlying t=dt at I
 split at I
 ·rename_i e
  cases hk:bh P e with
  | none=>simp [hk] at I
  | some k =>
   cases hz:zeroT P e with
   | none=>simp [hk,hz] at I
   | some z =>
    simp only [hk,hz] at I
    cases hq:(Nat.beq z.cells.length k&&Nat.ble (n*k) 65536&&Nat.ble 1 k) with
    | false=>simp [hq] at I
    | true =>
     simp only [hq,af] at I
     simp only [aG,beq_iff,aB] at hq
     obtain ⟨⟨q1,q2⟩,q3⟩:=hq
     obtain ⟨z1,z2⟩:=ep hz c w
     cases hf:fillV (fun i=>some (i*k,k)) (repeatL z.cells n) l with
     | none=>simp [hf] at I
     | some cs =>
      simp only [hf] at I
      cases hs:cs.all storable with
      | false=>simp [hs] at I
      | true =>
       simp only [hs,af,aj,aC] at I
       obtain ⟨rfl,rfl⟩:=I
       obtain ⟨f1,f2,f3⟩:=zT (c:=c) _ l _ cs hf (fun v hv=>iD z2 v (jk hv)) hl
       obtain ⟨g1,g2⟩:=oH h (fun v hv=>⟨f2 v hv,(List.all_eq_true.1 hs) v hv⟩) e
       refine ⟨_,_,?_,?_,g1,g2⟩
       ·have TB:¬ (n*k>2^24):=by omega
        have v_:((Array.range (n*k)).map fun i=>((z.cells.map (conc c)).toArray)[i%((z.cells.map (conc c)).toArray).size]!)=((repeatL z.cells n).map (conc c)).toArray:=by
         rw [←q1]; exact mE c z.cells n (by omega)
        by_cases h0:n*k=0
        ·have j8:(repeatL z.cells n)=[]:=by
          have:(repeatL z.cells n).length=0:=by rw [kR,q1]; exact h0
          exact List.length_eq_zero_iff.1 this
         rw [j8] at f1
         simp only [List.map_nil] at f1
         simp only [Instr.buildSlice,Sem.run_bind,run_underlying ht,Result.andThen_ok,b7 hk,h0,bu]
         have AN:(Array.map (fun (_:Nat)=>(default:Value)) (Array.range 0)) = #[]:=by simp [Array.range]
         simp [AN,f1,Go.newRow,h.next,conc,aP]
        ·simp only [Instr.buildSlice,Sem.run_bind,run_underlying ht,Result.andThen_ok,b7 hk,TB,bx,h0,Sem.run_pure,z1,dL,v_,f1]
         simp [Go.newRow,h.next,conc,aP]
       ·simp [wf,h.next,i_]
 ·simp at I
theorem tU (c:Ctx){l:List Nat}(I:∀x∈l,x<256): ((⟨(l.map UInt8.ofNat).toArray⟩:ByteArray).data.map fun b=>Value.int .u8 b.toNat)=((ofBytes l).map (conc c)).toArray:=by
 simp only [List.map_toArray,ofBytes,rF]
 congr 1
 refine oS fun x J => ?_
 simp [conc,oV,jv (I x J)]
theorem qN {l:List Nat}{v:V}(h:v∈ofBytes l): ∃n:Nat,v=.int .u8 n:=by
 simp only [ofBytes,jW] at h
 obtain ⟨n,_,rfl⟩:=h
 exact ⟨n,rfl⟩
theorem Hh {s d:TypeId}{x v:V}{dY:H}(h:Rel c σ w)(J:convB P σ s d x=some (v,dY))(hx:wf c x):
  ff P (convert s d (conc c x)) c w v dY:=by
 unfold convB at J
 generalize hs:P.underlying s=ds at J
 generalize hd:P.underlying d=dd at J
 split at J
 ·rename_i e l
  generalize he:P.underlying e=de at J
  split at J
  ·cases hk:bh P e with
   | none=>simp [hk] at J
   | some k =>
    simp only [hk] at J
    cases hq:Nat.beq k 1 with
    | false=>simp [hq] at J
    | true =>
     have:=beq_iff.1 hq
     subst this
     simp only [hq,af,aj,aC] at J
     obtain ⟨rfl,rfl⟩:=J
     have hl:∀y∈l,y<256:=by simpa [wf] using hx
     have dW:(⟨(l.map UInt8.ofNat).toArray⟩:ByteArray).size=l.length:=by simp [ByteArray.size]
     generalize FC:(Question.appendCap l.length 0 e).cut (w.tape w.drawn (.appendCap l.length 0 e))=cap
     have VO:l.length≤cap:=by rw [←FC]; simp [Question.cut]
     obtain ⟨C,Oj⟩:∃C:Array Value,C=((ofBytes l).map (conc c)).toArray++Array.replicate (cap-l.length) (.int .u8 0):=⟨_,rfl⟩
     have hC:C.size=cap:=by simp [Oj,ofBytes]; omega
     have zV:(convert s d (conc c (.str l))).run P w=.ok (.slice (some ⟨w.heap.size,0,none⟩) l.length cap) (w.drew.alloc (.cells C e (cap,cap+1))):=by
      simp only [conc,convert,Sem.run_bind,run_underlying hs,run_underlying hd,run_underlying he,Result.andThen_ok]
      simp only [Conv.stringToBytes,Sem.run_bind,run_choose,dW,Question.forced,dG,bx,Result.andThen_ok,FC,tU c hl,←Oj]
      simp only [Go.newRow,Sem.run_bind,run_newObj,Result.andThen_ok,Sem.run_pure,markStringish,run_shape]
      have I:World.shape? { w.drew with heap:=w.drew.heap.push (.cells C e) } w.drew.heap.size=some (e,cap):=by
       simp only [World.shape?,yY,bu,hC]
      simp only [World.drew] at I ⊢
      rw [I]
      simp only [run_freeze,Result.andThen_ok]
      congr 1
      simp only [World.freeze,World.alloc]
      simp only [Nat.one_ne_zero,bx]
      congr 1
      apply m7
      intro i
      rw [yV]
      simp only [yY]
      by_cases hi:w.heap.size=i
      ·subst hi; simp
      ·simp [hi,iT hi]
     have hex:=h.drew
     have g:=hex.new (.cells l.length (ofBytes l) true) (.cells C e (cap,cap+1)) 0 rfl ?_
     ·obtain ⟨g1,g2⟩:=g
      have AO:objSize (.cells C e (cap,cap+1))=cap:=by simp [objSize,hC]
      rw [AO] at g1 g2
      refine ⟨_,_,?_,?_,g1,(b6.drew c w).trans g2⟩
      ·rw [zV]
       simp [conc,h.next,Ctx.room,Ctx.grow]
      ·simp [wf,h.next,Ctx.room,Ctx.grow]; omega
     ·have AO:objSize (.cells C e (cap,cap+1))=cap:=by simp [objSize,hC]
      rw [AO]
      refine ⟨by simp [ofBytes],fun v hv => ?_,C,e,(cap,cap+1),by rw [aP,fK]; simp,by rw [aP]; simp only; omega,fun j v hv => ?_,by simp [FzOk,hC]⟩
      ·obtain ⟨n,rfl⟩:=qN hv
       exact ⟨by simp [wf],rfl⟩
      ·rw [aP]
       obtain ⟨hj,ot⟩:=List.getElem?_eq_some_iff.1 hv
       obtain ⟨n,rfl⟩:=qN (aU hv)
       rw [Oj,Array.getElem?_append_left (by simpa using hj)]
       simp [hv,conc]
  ·simp at J
 ·rename_i e' e id off len cap
  generalize he:P.underlying e=de at J
  split at J
  ·rename_i tV n cs hg
   cases hq:Nat.beq s d with
   | false=>simp [hq] at J
   | true =>
    have TC:=beq_iff.1 hq
    subst TC
    simp only [hq,af,aj,aC] at J
    obtain ⟨rfl,rfl⟩:=J
    have TD:e'=e:=by rw [hs] at hd; simpa using hd
    subst TD
    obtain ⟨hn,Hi,C,el,fz,hb,hle,hc,rO⟩:=h.obj id _ hg
    simp only [FzOk] at rO
    subst rO
    have g:=h.Ee (st':=true) (mX:=(C.size,C.size+1)) (C':=C) (cs':=cs) hg hb rfl hn Hi hc (by simp [FzOk])
    refine ⟨_,c,?_,hx,g.1,g.2⟩
    have br:(c.ρ id).1<w.heap.size:=(Array.getElem?_eq_some_iff.1 hb).1
    have Ol:∃a n m,conc c (.sl id off len cap)=.slice (some a) n m∧a.block=(c.ρ id).1:=by
     cases cap with
     | exact k=>exact ⟨⟨(c.ρ id).1,(c.ρ id).2+off,none⟩,len,k,by simp only [conc],rfl⟩
     | rest fI alt=>exact ⟨⟨(c.ρ id).1,(c.ρ id).2+(if c.room id off fI=0 then alt else off),none⟩,len,c.room id off fI,by simp only [conc],rfl⟩
    obtain ⟨a,n',m',Ol,l8⟩:=Ol
    have I:World.shape? w a.block=some (el,C.size):=by simp [World.shape?,l8,hb]
    rw [Ol]
    simp only [convert,Sem.run_bind,run_underlying hs,run_underlying he,Result.andThen_ok,beq_self_eq_true,markStringish,run_shape,I,run_freeze,Sem.run_pure]
    congr 1
    simp only [World.freeze,World.setRow,Nat.one_ne_zero,bx,l8]
    congr 1
    apply m7
    intro i
    rw [yV,jR]
    by_cases hi:(c.ρ id).1=i
    ·subst hi
     rw [aq rfl,aq rfl,hb]
     simp [br]
    ·simp [hi]
  ·simp at J
 ·simp at J
theorem qx {x:Int}(I:0≤x)(h1:x<9223372036854775808): IntKind.i64.wrap x=x:=by
 have J:x%(2^IntKind.i64.bits:Int)=x:=Int.emod_eq_of_lt I (by simp [IntKind.bits]; omega)
 have h4:¬ (x≥(2^(IntKind.i64.bits-1):Int)):=by simp [IntKind.bits]; omega
 simp only [IntKind.wrap,J]
 simp [h4]
theorem zW {t:TypeId}{a b v:V}{dY:H}(h:Rel c σ w)(I:makeSliceV P σ t a b=some (v,dY)):
  ff P (Instr.makeSlice t (conc c a) (conc c b)) c w v dY:=by
 unfold makeSliceV at I
 generalize ht:P.underlying t=dt at I
 split at I
 ·rename_i e
  split at I
  ·rename_i i z k1 l k2 n hi hz
   cases hq:(decide (0≤l)&&decide (l≤n)&&decide (n<1073741824)&&Nat.ble i.bytes 4096&&Nat.beq z.cells.length i.size&&Nat.ble 1 i.size) with
   | false=>simp [hq] at I
   | true =>
    simp only [hq,af,aj,aC] at I
    obtain ⟨rfl,rfl⟩:=I
    simp only [aG,dR,beq_iff,aB] at hq
    obtain ⟨⟨⟨⟨⟨q1,q2⟩,q3⟩,q4⟩,q5⟩,q6⟩:=hq
    obtain ⟨z1,z2⟩:=ep hz c w
    have hlen:(repeatL z.cells n.toNat).length=n.toNat*i.size:=by rw [kR,q5]
    have g:=oH (cs:=repeatL z.cells n.toNat) h (fun v hv=>⟨iD z2 v (jk hv),jA hz v (jk hv)⟩) e
    obtain ⟨g1,g2⟩:=g
    have TE:newRow σ (repeatL z.cells n.toNat)=σ.new (.cells (n.toNat*i.size) (repeatL z.cells n.toNat) false):=by simp [newRow,hlen]
    rw [TE] at g1
    refine ⟨_,_,?_,?_,g1,g2⟩
    ·have w1:=qx q1 (by omega)
     have w2:=qx (x:=n) (by omega) (by omega)
     have hb:¬ ((i.bytes:Int)*n>2^48):=by
      have:(i.bytes:Int)*n≤4096*1073741824:=Int.mul_le_mul (by omega) (by omega) (by omega) (by omega)
      omega
     have Eg:¬ (n<0):=by omega
     have BU:¬ (l<0):=by omega
     have Om:¬ (l>n):=by omega
     have dW:(sizeOf e).run P w=.ok i.size w:=by simp [sizeOf,typeInfo,hi]
     have Hj:(typeInfo e).run P w=.ok i w:=by simp [typeInfo,hi]
     simp only [Instr.makeSlice,Sem.run_bind,run_underlying ht,Result.andThen_ok,conc,asInt,asIntOf,Sem.run_pure,Hj,w1,w2]
     have J:(((decide (n<0)||decide ((i.bytes:Int)*n>2^48))||decide (l<0))||decide (l>n))=false:=by
      simp only [Eg,hb,BU,Om,nh,Bool.or_self]
     rw [J]
     simp only [dG,bx]
     by_cases h0:n.toNat*i.size=0
     ·have hn:n.toNat=0:=by
       rcases Nat.mul_eq_zero.1 h0 with e1 | e1
       ·exact e1
       ·omega
      rw [hn]
      have AN:(Array.map (fun (_:Nat)=>(default:Value)) (Array.range 0)) = #[]:=by simp [Array.range]
      simp [Go.newRow,h.next,aP,repeatL,dW,AN]
     ·have v_:((Array.range (n.toNat*i.size)).map fun j=>((z.cells.map (conc c)).toArray)[j%((z.cells.map (conc c)).toArray).size]!)=((repeatL z.cells n.toNat).map (conc c)).toArray:=by
       rw [←q5]; exact mE c z.cells n.toNat (by omega)
      have xx:(conc c z).cells=(z.cells.map (conc c)).toArray:=dL c z
      simp only [Sem.run_bind,Sem.run_pure,run_askRoom,Result.andThen_ok,dW,h0,bx,z1,xx,v_,Go.newRow,run_newObj]
      simp [h.next,aP]
    ·simp [wf,h.next,i_]; omega
  ·simp at I
 ·simp at I
theorem Dy (h:Rel c σ w)(t:TypeId): ff P (Instr.makeMap t none) c w (.map σ.next) (σ.new (.map [] 0)):=by
 have g:=h.new (.map [] 0) (.map #[] 0) 0 rfl ⟨by simp,by rw [aP,fK]; simp⟩
 refine ⟨_,_,?_,?_,g.1,g.2⟩
 ·simp [Instr.makeMap,conc,h.next,aP]
 ·simp [wf,h.next,i_]
theorem xy {α β:Type}(g:α→β)(f:α→α)(f':β→β)(I:∀x,g (f x)=f' (g x)): ∀(l:List α) (k:Nat),(setNth l k f).map g=(l.map g).modify k f':=by
 intro l
 induction l with
 | nil=>intro k; simp [setNth]
 | cons x l J =>
  intro k
  cases k with
  | zero=>simp [setNth,I]
  | succ k=>simp only [setNth,cE (rB k),ay,ri,bX,J,List.modify_succ_cons]
theorem xz {α:Type}{f:α→α}: ∀ {l:List α} {k:Nat} {x:α},x∈setNth l k f→x∈l∨∃y∈l,x=f y:=by
 intro l
 induction l with
 | nil=>intro k x h; simp [setNth] at h
 | cons y l I =>
  intro k x h
  cases k with
  | zero =>
   simp only [setNth,dm,af,gn] at h
   rcases h with rfl | h
   ·exact .inr ⟨y,by simp,rfl⟩
   ·exact .inl (by simp [h])
  | succ k =>
   simp only [setNth,cE (rB k),ay,gn] at h
   rcases h with rfl | h
   ·exact .inl (by simp)
   ·rcases I h with h | ⟨z,J,rfl⟩
    ·exact .inl (by simp [h])
    ·exact .inr ⟨z,by simp [J],rfl⟩
theorem FD {α:Type}: ∀(l:List α) (k:Nat),iA l k=l.eraseIdx k:=by
 intro l
 induction l with
 | nil=>intro k; simp [iA]
 | cons x l I =>
  intro k
  cases k with
  | zero=>simp [iA]
  | succ k=>simp only [iA,cE (rB k),ay,ri,I,List.eraseIdx_cons_succ]
theorem Dz {α β:Type}(g:α→β): ∀(l:List α) (k:Nat),(iA l k).map g=(l.map g).eraseIdx k:=by
 intro l
 induction l with
 | nil=>intro k; simp [iA]
 | cons x l I =>
  intro k
  cases k with
  | zero=>simp [iA]
  | succ k=>simp only [iA,cE (rB k),ay,ri,bX,I,List.eraseIdx_cons_succ]
theorem we {d:TypeDesc}{a b:V}(h:keyBeq d a b=some true)(J:wf c a)(hb:wf c b): conc c a=conc c b∧∀n,Instr.sameBits n (conc c b) (conc c a)=true:=by
 unfold keyBeq at h
 split at h
 ·rename_i j x k y
  cases I:ikBeq j k with
  | false=>simp [I] at h
  | true =>
   have:=lM I
   subst this
   simp only [I,af,aj,kj,beq_iff_eq] at h
   subst h
   exact ⟨rfl,fun n=>by cases n <;> simp [conc,Instr.sameBits]⟩
 ·rename_i x y
  simp only [aj,oF,beq_iff_eq] at h
  subst h
  refine ⟨rfl,fun n => ?_⟩
  have:((⟨(x.map UInt8.ofNat).toArray⟩:ByteArray) == ⟨(x.map UInt8.ofNat).toArray⟩)=true:=by
   rw [tT (by simpa [wf] using J) (by simpa [wf] using J),oF]; simp
  cases n <;> simp [conc,Instr.sameBits,this]
 ·simp at h
theorem rP {t:TypeId}{x k v:V}{dY:H}(h:Rel c σ w)(I:mapUpdateV P σ t x k v=some dY)(hk:wf c k)(hv:wf c v):
  JS P (Instr.mapUpdate t (conc c x) (conc c k) (conc c v)) c w dY:=by
 unfold mapUpdateV at I
 generalize ht:P.underlying t=dt at I
 split at I
 ·rename_i kt et
  generalize hd:P.underlying kt=dk at I
  split at I
  ·rename_i d id
   split at I
   ·rename_i es clock hg
    obtain ⟨hw,hb⟩:=h.obj id _ hg
    have mD:=hG (P:=P) hb (by simp)
    split at I
    ·rename_i b i u pP hf
     simp only [aj] at I
     subst I
     have pT:=jc (P:=P) hd hk hf hw w
     obtain ⟨e,g1,_,g3,g4⟩:=(sB hk es 0 _ hf hw).2 (i,u) rfl
     simp only [iy] at g1
     have LF:=hw e (aU g1)
     obtain ⟨s1,s2⟩:=we g4 hk LF.1
     have hm:=h.pR (es':=setNth es i fun e=>(e.1,v,e.2.2)) (k':=clock) hg (by
      intro y J
      rcases xz J with J | ⟨z,hz,rfl⟩
      ·exact hw y J
      ·exact ⟨(hw z hz).1,hv⟩)
     refine ⟨_,_,?_,hm.1,hm.2⟩
     simp only [Instr.mapUpdate,Sem.run_bind,run_underlying ht,Result.andThen_ok,conc,mD]
     rw [gz hd pP]
     simp only [Result.andThen_ok,pT,gN,Sem.run_bind]
     have tS:((es.map (bC c)).toArray[i]?.map (·.key)).getD (conc c k)=conc c e.1:=by simp [g1,bC]
     rw [tS]
     simp only [Instr.keyThatStays,s2,bu,Sem.run_pure,Result.andThen_ok]
     rw [ja hb (by simp)]
     congr 3
     rw [xy (bC c) _ (fun e=>{ e with val:=conc c v }) (by intro y; simp [bC])]
     rw [yZ]
     congr 2
     -- the key that stays is the elder one
     apply oW
     intro j
     simp only [List.getElem?_modify]
     by_cases hj:i=j
     ·subst hj
      simp [g1,bC,s1]
     ·simp [hj]
    ·rename_i b pP hf
     simp only [aj] at I
     subst I
     have pT:=jc (P:=P) hd hk hf hw w
     have hm:=h.pR (es':=es++[(k,v,clock)]) (k':=clock+1) hg (by
      intro y J
      simp only [lV,rj] at J
      rcases J with J | rfl
      ·exact hw y J
      ·exact ⟨hk,hv⟩)
     refine ⟨_,_,?_,hm.1,hm.2⟩
     simp only [Instr.mapUpdate,Sem.run_bind,run_underlying ht,Result.andThen_ok,conc,mD]
     rw [gz hd pP]
     simp only [Result.andThen_ok,pT,f_]
     rw [ja hb (by simp)]
     congr 3
     simp [bC]
    ·simp at I
   ·simp at I
  ·simp at I
 ·simp at I
theorem Bn {t:TypeId}{x k v:V}{dY:H}(h:Rel c σ w)(I:mapEntryV P σ t x k=some (v,dY))(hk:wf c k):
  ff P (Instr.mapEntry t (conc c x) (conc c k)) c w v dY:=by
 unfold mapEntryV at I
 generalize ht:P.underlying t=dt at I
 split at I
 ·rename_i kt et
  generalize hd:P.underlying kt=dk at I
  split at I
  ·rename_i d z id hz
   obtain ⟨z1,z2⟩:=ep hz c w
   split at I
   ·rename_i es clock hg
    obtain ⟨hw,hb⟩:=h.obj id _ hg
    have mD:=hG (P:=P) hb (by simp)
    split at I
    ·rename_i b i u J hf
     rw [eE] at I
     have pT:=jc (P:=P) hd hk hf hw w
     obtain ⟨e,g1,_,g3,g4⟩:=(sB hk es 0 _ hf hw).2 (i,u) rfl
     simp only [iy] at g1
     simp only [g1,aj,aC] at I
     obtain ⟨rfl,rfl⟩:=I
     have LF:=hw e (aU g1)
     obtain ⟨s1,s2⟩:=we g4 hk LF.1
     have hu:wf c u:=by simp only at g3; rw [g3]; exact LF.2
     refine ff.same h ⟨?_,by simp [wf,dX,hu]⟩
     simp only [Instr.mapEntry,Sem.run_bind,run_underlying ht,Result.andThen_ok,conc,mD]
     rw [gz hd J]
     simp only [Result.andThen_ok,pT,gN,Sem.run_bind]
     have tS:((es.map (bC c)).toArray[i]?.map (·.key)).getD (conc c k)=conc c e.1:=by simp [g1,bC]
     rw [tS]
     simp only [Instr.keyThatStays,s2,bu,Sem.run_pure,Result.andThen_ok]
     rw [ja hb (by simp)]
     have FE:({ w with heap:=w.heap.setIfInBounds (c.ρ id).1 (.map ((es.map (bC c)).toArray.modify i fun e=>{ e with key:=conc c k }) clock) }:World)=w:=by
      have:(es.map (bC c)).toArray.modify i (fun e=>{ e with key:=conc c k })=(es.map (bC c)).toArray:=by
       rw [yZ]
       congr 1
       apply oW
       intro j
       simp only [List.getElem?_modify]
       by_cases hj:i=j
       ·subst hj; simp [g1,bC,s1]
       ·simp [hj]
      rw [this]
      obtain ⟨br,mW⟩:=Array.getElem?_eq_some_iff.1 hb
      have:w.heap.setIfInBounds (c.ρ id).1 (.map (es.map (bC c)).toArray clock)=w.heap:=by
       apply m7
       intro j
       rw [jR]
       by_cases hj:(c.ρ id).1=j
       ·subst hj; simp [br,mW]
       ·simp [hj]
      rw [this]
     rw [FE]
     simp [g1,bC,conc,concL,goInt]
    ·rename_i b J hf
     simp only [aj,aC] at I
     obtain ⟨rfl,rfl⟩:=I
     have pT:=jc (P:=P) hd hk hf hw w
     have hm:=h.pR (es':=es++[(k,z,clock)]) (k':=clock+1) hg (by
      intro y hy
      simp only [lV,rj] at hy
      rcases hy with hy | rfl
      ·exact hw y hy
      ·exact ⟨hk,z2⟩)
     refine ⟨_,_,?_,by simp [wf,dX,z2],hm.1,hm.2⟩
     simp only [Instr.mapEntry,Sem.run_bind,run_underlying ht,Result.andThen_ok,conc,mD]
     rw [gz hd J]
     simp only [Result.andThen_ok,pT,f_,Sem.run_bind,z1]
     rw [ja hb (by simp)]
     simp [bC,concL,conc,goInt]
    ·simp at I
   ·simp at I
  ·simp at I
 ·simp at I
theorem DB (c:Ctx)(b:Int): ∀(es:List (V×V×Nat)) (i j:Nat),findBorn es b i=some j →
  (es.map (bC c)).findIdx? (fun e=>(e.born:Int) == b)=some (j-i)∧i≤j:=by
 intro es
 induction es with
 | nil=>intro i j h; simp [findBorn] at h
 | cons e es ih =>
  intro i j h
  simp only [findBorn,kj] at h
  by_cases I:(e.2.2:Int)=b
  ·have:((e.2.2:Int) == b)=true:=by simpa using I
   rw [this,af,aj] at h
   subst h
   simp [List.findIdx?_cons,bC,I]
  ·have:((e.2.2:Int) == b)=false:=by simpa using I
   rw [this,ay] at h
   obtain ⟨h1,h2⟩:=ih (i+1) j h
   refine ⟨?_,by omega⟩
   rw [bX,List.findIdx?_cons,h1]
   have J:(((bC c e).born:Int) == b)=false:=by simpa [bC] using I
   rw [J]
   simp
   omega
theorem xA {t:TypeId}{x s v:V}{J:H}(h:Rel c σ w)(I:entryStoreV σ x s v=some J)(hv:wf c v):
  JS P (Instr.entryStore t (conc c x) (conc c s) (conc c v)) c w J:=by
 unfold entryStoreV at I
 split at I
 ·rename_i id k b
  split at I
  ·rename_i es clock hg
   obtain ⟨hw,hb⟩:=h.obj id _ hg
   have mD:=hG (P:=P) hb (by simp)
   cases hf:findBorn es b 0 with
   | none=>simp [hf] at I
   | some i =>
    simp only [hf,aj] at I
    subst I
    have Rg:=(DB c b es 0 i hf).1
    have hm:=h.pR (es':=setNth es i fun e=>(e.1,v,e.2.2)) (k':=clock) hg (by
     intro y hy
     rcases xz hy with hy | ⟨z,hz,rfl⟩
     ·exact hw y hy
     ·exact ⟨(hw z hz).1,hv⟩)
    refine ⟨_,_,?_,hm.1,hm.2⟩
    simp only [Instr.entryStore,conc,Sem.run_bind,mD,Result.andThen_ok,asInt,asIntOf,Sem.run_pure]
    have TF:(es.map (bC c)).toArray.findIdx? (fun e=>(e.born:Int) == b)=some i:=by
     simpa using Rg
    rw [TF]
    simp only
    rw [ja hb (by simp)]
    congr 3
    rw [xy (bC c) _ (fun e=>{ e with val:=conc c v }) (by intro y; simp [bC])]
    rw [yZ]
  ·simp at I
 ·simp at I
theorem DC {t ty:TypeId}{x k:V}{dY:H}(h:Rel c σ w)(I:lZ P σ t x k=some dY)(hk:wf c k)(ts:Array TypeId)(kn:ts[0]?=some t):
  ∃w' c',(Builtin.delete_ ts ty #[conc c x,conc c k]).run P w=.ok (.tuple #[]) w'∧Rel c' dY w'∧b6 c w c' w':=by
 unfold lZ at I
 generalize ht:P.underlying t=dt at I
 split at I
 ·rename_i kt et
  generalize hd:P.underlying kt=dk at I
  split at I
  ·rename_i d id
   split at I
   ·rename_i es clock hg
    obtain ⟨hw,hb⟩:=h.obj id _ hg
    have mD:=hG (P:=P) hb (by simp)
    split at I
    ·rename_i b i u J hf
     simp only [aj] at I
     subst I
     have pT:=jc (P:=P) hd hk hf hw w
     have hm:=h.pR (es':=iA es i) (k':=clock) hg (by
      intro y hy
      rw [FD] at hy
      exact hw y (List.mem_of_mem_eraseIdx hy))
     refine ⟨_,_,?_,hm.1,hm.2⟩
     simp only [Builtin.delete_,kn,kL,lU,jT,Sem.run_bind,run_underlying ht,Result.andThen_ok,conc,mD]
     rw [gz hd J]
     simp only [Result.andThen_ok,pT,gN,Sem.run_bind]
     rw [ja hb (by simp)]
     simp [Dz]
    ·rename_i b J hf
     simp only [aj] at I
     subst I
     have pT:=jc (P:=P) hd hk hf hw w
     have hm:=h.pR (es':=es) (k':=clock) hg hw
     refine ⟨w,c,?_,h,b6.refl c w⟩
     simp only [Builtin.delete_,kn,kL,lU,jT,Sem.run_bind,run_underlying ht,Result.andThen_ok,conc,mD]
     rw [gz hd J]
     simp only [Result.andThen_ok,pT,f_,Sem.run_bind]
     rw [ja hb (by simp)]
     obtain ⟨br,mW⟩:=Array.getElem?_eq_some_iff.1 hb
     have:w.heap.setIfInBounds (c.ρ id).1 (.map (es.map (bC c)).toArray clock)=w.heap:=by
      apply m7
      intro j
      rw [jR]
      by_cases hj:(c.ρ id).1=j
      ·subst hj; simp [br,mW]
      ·simp [hj]
     simp [this]
    ·simp at I
   ·simp at I
  ·simp at I
 ·simp at I
end
end Go.Proofs.YtefepnnfphdkpaaGreat.Am
